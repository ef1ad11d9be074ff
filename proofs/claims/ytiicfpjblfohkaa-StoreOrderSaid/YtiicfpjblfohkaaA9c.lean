/- AsOf: what it answers. -/
import Derived.Test.YtiicfpjblfohkaaA9
import Derived.Test.YtiicfpjblfohkaaA9b
namespace Go.Proofs.Ytiicfpjblfohkaa
open Go.RowKit Go.Flow Go.Shelf
attribute [local go_sem] Oper.semAt_some
attribute [local irreducible] wpQuiet

theorem covered_eq (m0 m1 m2 : Int) (e : Ent) (w : World) (hd : e.dc = 0 ∨ e.dc = 1 ∨ e.dc = 2) (b : Bool) (h : coveredB m0 m1 m2 e = b) :
    Calls Try.prog 35 #[.agg #[.int .i64 m0, .int .i64 m1, .int .i64 m2], encE e] w fun r w' => r = .returned (.bool b) ∧ Grow w w' := by subst h; exact covered_at m0 m1 m2 e w hd

/-- The greatest that a column covers. -/
def asofE (c0 c1 c2 : Int) (d : List Ent) : Option Ent := d.reverse.find? (coveredB c0 c1 c2)

/-- The boxes of AsOf: the column; the three results. -/
structure AsW (w W : World) (s : Nat) (c0 c1 c2 : Int) : Prop where
  grow : Below w.heap.size w W
  box : W.heap[s]? = some (.cells #[.int .i64 c0, .int .i64 c1, .int .i64 c2] 26 (0, 0))
  ent : ∃ e, EntAt W (s + 1) e
  one : ∃ v, Boxed W (s + 2) 4 v
  two : ∃ v, Boxed W (s + 3) 48 v

theorem cellsD {W : World} {b : Nat} {v : Value} {t : TypeId} (h : Boxed W b t v) : W.cell? ⟨b, 0, none⟩ = some v ∧ W.frozen? ⟨b, 0, none⟩ = false := ⟨h.cell, h.frozen⟩

theorem results_as {fn : Func} {p q r : Tmp} (h : fn.results = #[.cell p 40, .cell q 4, .cell r 48]) (tmps : Array Value) {w : World} {g g2 g3 : Nat} {e : Ent} {b : Bool} {k : Int} (hp : tmps.getD p undef = .pointer (some ⟨g, 0, none⟩))
    (hq : tmps.getD q undef = .pointer (some ⟨g2, 0, none⟩)) (hr : tmps.getD r undef = .pointer (some ⟨g3, 0, none⟩)) (hg : EntAt w g e) (h2 : Boxed w g2 4 (.bool b)) (h3 : Boxed w g3 48 (.int .i64 k)) :
    (results fn tmps).run Try.prog w = .ok (.tuple #[encE e, .bool b, .int .i64 k]) w := by
  have l2 : (loadVar 4 ⟨g2, 0, none⟩).run Try.prog w = .ok (.bool b) w := by
    have := h2.cell
    simp [go_sem, this]
  have l3 : (loadVar 48 ⟨g3, 0, none⟩).run Try.prog w = .ok (.int .i64 k) w := by
    have := h3.cell
    simp [go_sem, this]
  have hp' : tmps[p]?.getD undef = .pointer (some ⟨g, 0, none⟩) := by simpa using hp
  have hq' : tmps[q]?.getD undef = .pointer (some ⟨g2, 0, none⟩) := by simpa using hq
  have hr' : tmps[r]?.getD undef = .pointer (some ⟨g3, 0, none⟩) := by simpa using hr
  simp [results, h, hp', hq', hr', asAddr, run_load_entAt hg, l2, l3, Result.andThen]

/-- The four boxes, laid. -/
abbrev w4 (w : World) (c0 c1 c2 : Int) : World := (((w.alloc (.cells #[.int .i64 c0, .int .i64 c1, .int .i64 c2] 26)).alloc (.cells (encL entZ).toArray 40)).alloc (.cells #[.bool false] 4)).alloc (.cells #[.int .i64 0] 48)
theorem w4_facts (w : World) (c0 c1 c2 : Int) : Grow w (w4 w c0 c1 c2) ∧ (w4 w c0 c1 c2).heap.size = w.heap.size + 4 ∧ (w4 w c0 c1 c2).heap[w.heap.size]? = some (.cells #[.int .i64 c0, .int .i64 c1, .int .i64 c2] 26 (0, 0)) ∧
    EntAt (w4 w c0 c1 c2) (w.heap.size + 1) entZ ∧ Boxed (w4 w c0 c1 c2) (w.heap.size + 2) 4 (.bool false) ∧ Boxed (w4 w c0 c1 c2) (w.heap.size + 3) 48 (.int .i64 0) := by
  have h1 := heap_alloc_new w (.cells #[.int .i64 c0, .int .i64 c1, .int .i64 c2] 26)
  have h2 := heap_alloc_new (w.alloc (.cells #[.int .i64 c0, .int .i64 c1, .int .i64 c2] 26)) (.cells (encL entZ).toArray 40)
  have h3 := heap_alloc_new ((w.alloc (.cells #[.int .i64 c0, .int .i64 c1, .int .i64 c2] 26)).alloc (.cells (encL entZ).toArray 40)) (.cells #[.bool false] 4)
  have h4 := heap_alloc_new (((w.alloc (.cells #[.int .i64 c0, .int .i64 c1, .int .i64 c2] 26)).alloc (.cells (encL entZ).toArray 40)).alloc (.cells #[.bool false] 4)) (.cells #[.int .i64 0] 48)
  simp only [World.size_alloc] at h2 h3 h4
  refine ⟨(((Grow.refl _).alloc _).alloc _).alloc _ |>.alloc _, by simp, ?_, ?_, ?_, h4⟩
  · exact (Below.heap_alloc _ _ _ (by simp; omega)).trans ((Below.heap_alloc _ _ _ (by simp; omega)).trans ((Below.heap_alloc _ _ _ (by simp)).trans h1))
  · exact (Below.heap_alloc _ _ _ (by first | (simp; done) | (simp; omega))).trans ((Below.heap_alloc _ _ _ (by first | (simp; done) | (simp; omega))).trans h2)
  · exact (Below.heap_alloc _ _ _ (by simp)).trans h3

theorem cells3 {W : World} {b : Nat} {x y z : Value} {t : TypeId} (h : W.heap[b]? = some (.cells #[x, y, z] t (0, 0))) : W.cell? ⟨b, 0, none⟩ = some x ∧ W.cell? ⟨b, 1, none⟩ = some y ∧ W.cell? ⟨b, 2, none⟩ = some z := by
  refine ⟨?_, ?_, ?_⟩ <;> simp [World.cell?, h]

/-- Behind the stores of the three results. -/
theorem stores3 {W W1 : World} {s : Nat} {e : Ent} (hs : Stored W W1 (s + 1) e) {v1 v2 u1 u2 : Value} (h1 : Boxed W (s + 2) 4 v1) (h2 : Boxed W (s + 3) 48 v2) :
    EntAt ((W1.setCell ⟨s + 2, 0, none⟩ u1).setCell ⟨s + 3, 0, none⟩ u2) (s + 1) e ∧ Boxed ((W1.setCell ⟨s + 2, 0, none⟩ u1).setCell ⟨s + 3, 0, none⟩ u2) (s + 2) 4 u1 ∧ Boxed ((W1.setCell ⟨s + 2, 0, none⟩ u1).setCell ⟨s + 3, 0, none⟩ u2) (s + 3) 48 u2 := by
  have k1 : Boxed W1 (s + 2) 4 v1 := (hs.other _ (by omega)).trans h1
  have k2 : Boxed W1 (s + 3) 48 v2 := (hs.other _ (by omega)).trans h2
  refine ⟨?_, (k1.set u1).other (by omega) u2, (k2.other (by omega) u1).set u2⟩
  exact (Below.heap_setCell _ _ _ _ (by simp)).trans ((Below.heap_setCell _ _ _ _ (by simp)).trans hs.at_)

set_option maxRecDepth 100000 in
set_option maxHeartbeats 2000000 in
theorem asof_gone (w : World) (base bs bm : Nat) (rng m0 m1 m2 : Int) (T : List Slot) (hS : StoreAt w base bs bm rng m0 m1 m2 T) (s : ByteArray) (c0 c1 c2 : Int) (hcv : covB c0 c1 c2 m0 m1 m2 = false) :
    Calls Try.prog 24 #[.pointer (some ⟨bs, 0, none⟩), .string s, .agg #[.int .i64 c0, .int .i64 c1, .int .i64 c2]] w fun e w' => e = .returned (.tuple #[encE entZ, .bool false, .int .i64 60]) ∧ Grow w w' := by
  have hbs := hS.bs_lt
  obtain ⟨f1, f2, f3, f4, f5, f6⟩ := w4_facts w c0 c1 c2
  have hst := hS.grow f1
  go_enter Try.func24, Try.ntmps24
  go_wp2
  change Code.wp _ _ _ _ (w4 w c0 c1 c2)
  generalize w4 w c0 c1 c2 = W at *
  obtain ⟨k0, k1, k2, k3, k4⟩ := hst.cells
  obtain ⟨b0, b1, b2⟩ := cells3 f3
  have FF := Lib.hid (And.intro f1 (And.intro f3 (And.intro f4 (And.intro f5 f6))))
  have hbW := hst.bs_lt
  have f2' : w.heap.size + 4 ≤ W.heap.size := by omega
  have f2'' : w.heap.size < W.heap.size := by omega
  clear hS hst f1 f2 f3 f4 f5 f6 k0 k1
  refine wp_region_growAll (by kernel_rfl) (by kernel_rfl) ?_
  repeat (first
      | (refine quiet_skip rfl ?_; simp only [Act.put, List.setIfInBounds_toArray, List.set_cons_zero, List.set_cons_succ])
      | (apply quiet_op rfl
         focus
           intro w' hw'
           have hc := gcell (W.heap.size) hw' (by first | with_reducible assumption | (simp; done) | (simp; omega) | omega)
           go_simp
           first
             | (done)
             | (exact rfl)
             | (go_at_call 46; refine (coversCol_is _ _ _ _ _ _ _ _ hcv).mono ?_; rintro e w2 ⟨rfl, hg2⟩; exact ⟨rfl, hw'.trans hg2⟩)
         simp only [Act.put, List.setIfInBounds_toArray, List.set_cons_zero, List.set_cons_succ]))
  refine wpQuiet_nil ?_
  intro w1 hw1
  have hNw1 : W.heap.size ≤ w1.heap.size := Nat.le_trans (by first | with_reducible assumption | (simp; done) | (simp; omega)) hw1.size
  have hcw1 := gcell (W.heap.size) hw1 (by first | with_reducible assumption | (simp; done) | (simp; omega))
  have g4 := FF.out.2.2.1.grow hw1
  have g5 : Boxed w1 (w.heap.size + 2) 4 (.bool false) := (hw1.below.block _ (by omega)).trans FF.out.2.2.2.1
  have g6 : Boxed w1 (w.heap.size + 3) 48 (.int .i64 0) := (hw1.below.block _ (by omega)).trans FF.out.2.2.2.2
  obtain ⟨q1, q2⟩ := cellsD g5
  obtain ⟨q3, q4⟩ := cellsD g6
  have GG := Lib.hid (And.intro (FF.out.1.trans hw1) (And.intro g4 (And.intro g5 g6)))
  clear hw1 hcw1 g4 g5 g6 k2 k3 k4 b0 b1 b2
  go_wp2_with (refine wpList_store_entAt rfl _ _ rfl GG.out.2.1 rfl entZ rfl rfl ?_; intro w2 hs2; have r1 := (hs2.cell (w.heap.size + 2) 0 (by omega)).trans q1; have r2 := (hs2.frozen (w.heap.size + 2) 0 (by omega)).trans q2; have r3 := (hs2.cell (w.heap.size + 3) 0 (by omega)).trans q3; have r4 := (hs2.frozen (w.heap.size + 3) 0 (by omega)).trans q4; have HS2 := Lib.hid hs2; clear q1 q2 q3 q4 hs2)
  obtain ⟨z1, z2, z3⟩ := stores3 (u1 := .bool false) (u2 := .int .i64 60) HS2.out GG.out.2.2.1 GG.out.2.2.2
  refine bodyPost_ret (results_as rfl _ rfl rfl rfl z1 z2 z3) rfl ⟨rfl, ?_⟩
  exact ((HS2.out.grow (by omega) GG.out.1).setCell (by simp; omega) _).setCell (by simp; omega) _

end Go.Proofs.Ytiicfpjblfohkaa
