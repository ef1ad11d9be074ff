/- AsOf: what it answers where the column covers the mark. -/
import Derived.Test.YtiicfpjblfohkaaA9c
namespace Go.Proofs.Ytiicfpjblfohkaa
set_option linter.unusedSimpArgs false
set_option linter.unusedVariables false
open Go.RowKit Go.Flow Go.Shelf
attribute [local go_sem] Oper.semAt_some
attribute [local irreducible] wpQuiet

theorem back_snd (d : List Ent) (k : Nat) (hk : k ≤ d.length) : (back d k).map (·.2) = d.reverse.take k := by
  apply List.ext_getElem
  · simp [back]; omega
  · intro i h1 h2
    simp only [back, List.map_map, List.length_map, List.length_range] at h1
    simp only [back, List.map_map, List.getElem_map, List.getElem_range, Function.comp, List.getElem_take, List.getElem_reverse]
    rw [List.getD_eq_getElem?_getD, List.getElem?_eq_getElem (by omega)]
    rfl
theorem find_prefix {l ini : List Ent} {x : Ent} {q : Ent → Bool} {k : Nat} (h : l.take k = ini ++ [x]) (hi : ∀ y ∈ ini, q y = false) (hx : q x = true) : l.find? q = some x := by
  rw [← List.take_append_drop k l, h, List.append_assoc, List.find?_append]
  rw [List.find?_eq_none.2 (fun y hy => by rw [hi y hy]; simp)]
  simp [hx]

def AllNot (c0 c1 c2 : Int) {p : Ent → Prop} (pre : List (Seen2 p)) : Prop := ∀ x ∈ pre, coveredB c0 c1 c2 x.1.2 = false
/-- Between two rounds. -/
def AsI (w W : World) (c0 c1 c2 : Int) (e : Ent) (b : Bool) : Prop := Below w.heap.size w W ∧ W.heap[w.heap.size]? = some (.cells #[.int .i64 c0, .int .i64 c1, .int .i64 c2] 26 (0, 0)) ∧
  EntAt W (w.heap.size + 1) e ∧ Boxed W (w.heap.size + 2) 4 (.bool b) ∧ Boxed W (w.heap.size + 3) 48 (.int .i64 0)
theorem AsI.own {w : World} {c0 c1 c2 : Int} {e : Ent} {b : Bool} {B : Nat} (hB : w.heap.size ≤ B) {W W' : World} {row : Option Nat} (h : AsI w W c0 c1 c2 e b) (hg : W.grownBy W' row) (hr : ∀ r, row = some r → B ≤ r ∧ ∃ o : Obj, W.heap[r]? = some o ∧ o.isCells = false) :
    AsI w W' c0 c1 c2 e b :=
  ⟨h.1.grown hg h.1.size (fun k e => Nat.le_trans hB (hr k e).1), (grownBy_keeps_cells hg (fun r e => (hr r e).2) h.2.1 rfl).trans h.2.1, (grownBy_keeps_cells hg (fun r e => (hr r e).2) h.2.2.1 rfl).trans h.2.2.1,
   (grownBy_keeps_cells hg (fun r e => (hr r e).2) h.2.2.2.1 rfl).trans h.2.2.2.1, (grownBy_keeps_cells hg (fun r e => (hr r e).2) h.2.2.2.2 rfl).trans h.2.2.2.2⟩
theorem AsI.grow {w W W' : World} {c0 c1 c2 : Int} {e : Ent} {b : Bool} (h : AsI w W c0 c1 c2 e b) (hg : Grow W W') : AsI w W' c0 c1 c2 e b :=
  ⟨h.1.trans (hg.below.mono h.1.size), (hg.below.block _ (Array.getElem?_eq_some_iff.1 h.2.1).1).trans h.2.1, h.2.2.1.grow hg, (hg.below.block _ h.2.2.2.1.lt).trans h.2.2.2.1, (hg.below.block _ h.2.2.2.2.lt).trans h.2.2.2.2⟩
theorem keepsFrom_grow {W W' : World} (hg : Grow W W') (B : Nat) : KeepsFrom B W W' := ⟨hg.size, fun k o _ hk _ => (hg.below.block k (Array.getElem?_eq_some_iff.1 hk).1).trans hk⟩
theorem keepB_grow {n₀ Bs : Nat} {W W' : World} (hg : Grow W W') (hn : n₀ ≤ W.heap.size) (hB : Bs < W.heap.size) : KeepB n₀ Bs W W' := ⟨hg.below.mono hn, hg.below.block _ hB⟩
theorem Stored.keeps {W W' : World} {g : Nat} {e e0 : Ent} (h : Stored W W' g e) (h0 : EntAt W g e0) (B : Nat) : KeepsFrom B W W' := ⟨Nat.le_of_eq h.size.symm, fun k o _ hk ho => (h.other k (fun e => by subst e; rw [show W.heap[k]? = _ from h0] at hk; cases hk; cases ho)).trans hk⟩

theorem asof_none {c0 c1 c2 : Int} {d : List Ent} {p : Ent → Prop} {ys : List (Seen2 p)} (h : ys.map (·.1) = back d d.length) (hn : AllNot c0 c1 c2 ys) : asofE c0 c1 c2 d = none := by
  unfold asofE
  rw [List.find?_eq_none]
  intro e he
  have h2 := back_snd d d.length (Nat.le_refl _)
  rw [List.take_of_length_le (by simp), ← h, List.map_map] at h2
  rw [← h2] at he
  obtain ⟨y, hy, rfl⟩ := List.mem_map.1 he
  simp only [Function.comp]
  rw [hn y hy]
  simp
theorem asof_found {c0 c1 c2 : Int} {d : List Ent} {p : Ent → Prop} {pre ini : List (Seen2 p)} {x : Seen2 p} {k : Nat} (hk : k ≤ d.length) (h : pre.map (·.1) = back d k) (hp : pre = ini ++ [x]) (hn : AllNot c0 c1 c2 ini) (hx : coveredB c0 c1 c2 x.1.2 = true) : asofE c0 c1 c2 d = some x.1.2 := by
  have h2 := back_snd d k hk
  rw [← h, hp, List.map_map, List.map_append] at h2
  refine find_prefix h2.symm (fun y hy => ?_) hx
  obtain ⟨z, hz, rfl⟩ := List.mem_map.1 hy
  exact hn z hz
theorem grow_put {w W : World} {D : Nat} (o : Obj) (h : Below w.heap.size w W) (hD : w.heap.size ≤ D) : Grow w (W.putObj D o) :=
  ⟨h.os, h.tape, h.output, by rw [World.putObj_size]; exact h.size, fun k hk => (World.putObj_heap_other (by omega)).trans (h.block k hk)⟩

/-- A round has left with its write. -/
def AsX (w W' : World) (c0 c1 c2 : Int) (c : Code) {p : Ent → Prop} (pre : List (Seen2 p)) : Prop := c = .ret ∧ ∃ ini x, pre = ini ++ [x] ∧ AllNot c0 c1 c2 ini ∧ coveredB c0 c1 c2 x.1.2 = true ∧ AsI w W' c0 c1 c2 x.1.2 true
theorem Stored.below {W W' : World} {g : Nat} {e : Ent} (h : Stored W W' g e) {n : Nat} (hn : n ≤ g) : Below n W W' := ⟨h.os, h.tape, h.output, by rw [h.size]; exact Nat.le_refl _, fun k hk => h.other k (by omega)⟩

set_option maxRecDepth 100000 in
set_option maxHeartbeats 2000000 in
theorem asof_some (w : World) (base bs bm : Nat) (rng m0 m1 m2 : Int) (T : List Slot) (hS : StoreAt w base bs bm rng m0 m1 m2 T) (s : ByteArray) (hs : s.size ≤ maxLen) (c0 c1 c2 : Int) (hcv : covB c0 c1 c2 m0 m1 m2 = true)
    (hdc : ∀ e ∈ getA (absT T) s, e.dc = 0 ∨ e.dc = 1 ∨ e.dc = 2) :
    Calls Try.prog 24 #[.pointer (some ⟨bs, 0, none⟩), .string s, .agg #[.int .i64 c0, .int .i64 c1, .int .i64 c2]] w fun e w' =>
      e = .returned (.tuple #[encE ((asofE c0 c1 c2 (getA (absT T) s)).getD entZ), .bool (asofE c0 c1 c2 (getA (absT T) s)).isSome, .int .i64 0]) ∧ Grow w w' := by
  have hbs := hS.bs_lt
  have hrow := (hS.slice s).1
  have hfew := Nat.le_trans (hS.slice s).2 hS.few
  generalize hd : getA (absT T) s = d at *
  clear hd
  obtain ⟨f1, f2, f3, f4, f5, f6⟩ := w4_facts w c0 c1 c2
  have hst := hS.grow f1
  have hrow4 := ownsRow_grow hrow f1
  obtain ⟨V, hV⟩ : ∃ V, V = valOf (T.map fun t => (t.1, t.2.1)) s := ⟨_, rfl⟩
  rw [← hV] at hrow hrow4
  have HV := Lib.hid hV
  have hvb : ∀ g, V.ownBlock = some g → g < w.heap.size := fun g hg => by
    obtain ⟨_, cur, h2⟩ := ownsRow_block hrow hg
    exact (Array.getElem?_eq_some_iff.1 h2).1
  have hsl : ∃ p len cap, V = .slice p len cap := by
    rcases hrow.2 with ⟨h1, _⟩ | ⟨g, cap, cur, h1, _⟩
    · exact ⟨_, _, _, h1⟩
    · exact ⟨_, _, _, h1⟩
  refine (callsIn_wide (n := 3)).1 (callsIn_of_wp_marks Try.func24 rfl trivial ?_)
  refine wpIn_wide.2 ?_
  simp only [Try.ntmps24, List.size_toArray, List.length_cons, List.length_nil, Nat.reduceAdd, Nat.reduceSub, Array.replicate_succ, Array.replicate_zero, List.push_toArray, List.append_toArray, List.nil_append, List.cons_append]
  go_wp2
  change Code.wp _ _ _ _ (w4 w c0 c1 c2)
  generalize w4 w c0 c1 c2 = W at *
  obtain ⟨k0, k1, k2, k3, k4⟩ := hst.cells
  obtain ⟨b0, b1, b2⟩ := cells3 f3
  have FF := Lib.hid (And.intro f1 (And.intro f3 (And.intro f4 (And.intro f5 f6))))
  have hbW := hst.bs_lt
  have f2' : w.heap.size + 4 ≤ W.heap.size := by omega
  have f2'' : w.heap.size < W.heap.size := by omega
  have HST := Lib.hid (And.intro hst (And.intro hrow4 (And.intro hvb (And.intro hsl hdc))))
  clear hS hst f1 f2 f3 f4 f5 f6 k0 hrow hrow4 hvb hsl hdc hV
  refine wp_region_growAll (by kernel_rfl) (by kernel_rfl) ?_
  repeat (first
      | (refine quiet_skip rfl ?_; simp only [Act.put, List.setIfInBounds_toArray, List.set_cons_zero, List.set_cons_succ])
      | (apply quiet_op rfl
         focus
           intro w' hw'
           have hc := gcell (W.heap.size) hw' (by first | with_reducible assumption | (simp; done) | (simp; omega) | omega)
           go_simp
           first
             | (done)
             | (exact rfl)
             | (go_at_call 46; refine (coversCol_is _ _ _ _ _ _ _ _ hcv).mono ?_; rintro e w2 ⟨rfl, hg2⟩; exact ⟨rfl, hw'.trans hg2⟩)
         simp only [Act.put, List.setIfInBounds_toArray, List.set_cons_zero, List.set_cons_succ]))
  refine wpQuiet_nil ?_
  intro w1 hw1
  have hNw1 : W.heap.size ≤ w1.heap.size := Nat.le_trans (by first | with_reducible assumption | (simp; done) | (simp; omega)) hw1.size
  have hcw1 := gcell (W.heap.size) hw1 (by first | with_reducible assumption | (simp; done) | (simp; omega))
  have HW1 := Lib.hid hw1
  clear hw1 b0 b1 b2 k2 k3 k4
  go_wp2_with (first | (refine wpList_look rfl _ _ rfl (HST.out.1.grow HW1.out) hs rfl rfl ?_; rw [← HV.out]) | (go_at_call 47; refine ((callsIn_wide (n := 3)).1 (backward_in Fence.wide 3 trivial rfl _ _ HST.out.2.2.2.1)).mono ?_; rintro e w2 ⟨rfl, rfl⟩))
  have hg2 : Grow W (w1.alloc (.cells #[V] 22)) := HW1.out.alloc _
  have hcB := (Boxed.new w1 22 V).cell
  have hz2 : w1.heap.size < (w1.alloc (.cells #[V] 22)).heap.size := by simp
  have hz3 : (w1.alloc (.cells #[V] 22)).heap.size = w1.heap.size + 1 := by simp
  have HZ := Lib.hid hz3
  clear hz3
  generalize w1.alloc (.cells #[V] 22) = W2 at *
  have hA0 : AsI w W2 c0 c1 c2 entZ false := ⟨FF.out.1.below.trans (hg2.below.mono FF.out.1.size), (hg2.below.block _ f2'').trans FF.out.2.1, FF.out.2.2.1.grow hg2, (hg2.below.block _ FF.out.2.2.2.1.lt).trans FF.out.2.2.2.1, (hg2.below.block _ FF.out.2.2.2.2.lt).trans FF.out.2.2.2.2⟩
  refine (wpIn_wide (n := 3)).1 ?_
  refine wpIn_rangeFunc_ownH rfl (by omega) (gf := 65) (lb := #[.pointer (some ⟨w1.heap.size, 0, none⟩)]) rfl trivial (enters_of Try.func65 (by kernel_rfl) rfl)
    (backward_stops Fence.wide (3 - 1) trivial rfl (by omega) w1.heap.size w.heap.size base V d hfew (fun e => e.dc = 0 ∨ e.dc = 1 ∨ e.dc = 2) HST.out.2.2.2.2 W2 hz2 hcB (ownsRow_grow HST.out.2.1 hg2) HST.out.2.2.1)
    keepB_t (keepB_b (by omega) hz2) (Below.refl _ _) (fun _ => rfl)
    (fun pre W' => AsI w W' c0 c1 c2 entZ false ∧ AllNot c0 c1 c2 pre ∧ w1.heap.size < W'.heap.size)
    (fun c pre W' => AsX w W' c0 c1 c2 c pre)
    (fun s A B row hs hg hr => ⟨hs.1.own (by omega) hg hr, hs.2.1, Nat.lt_of_lt_of_le hs.2.2 hg.size⟩)
    (fun c s A B row hs hg hr => by obtain ⟨h1, ini, x, h2, h3, h4, h5⟩ := hs; exact ⟨h1, ini, x, h2, h3, h4, h5.own (by omega) hg hr⟩)
    ⟨hA0, (fun x hx => by cases hx), hz2⟩
    (fun x a' W' => ∃ Bx, W2.heap.size ≤ Bx ∧ EntAt W' Bx x.1.2 ∧ a' = { tmps := #[.pointer (some ⟨bs, 0, none⟩), .string s, .agg #[.int .i64 c0, .int .i64 c1, .int .i64 c2], undef, undef, .pointer (some ⟨w.heap.size, 0, none⟩), .pointer (some ⟨w.heap.size + 1, 0, none⟩), .pointer (some ⟨w.heap.size + 1 + 1, 0, none⟩), .pointer (some ⟨w.heap.size + 1 + 1 + 1, 0, none⟩), undef, .pointer (some ⟨Bx, 0, none⟩),
        .agg #[.int .i64 c0, .int .i64 c1, .int .i64 c2], .pointer (some ⟨bs, 0, none⟩), .pointer (some ⟨bs, 0, none⟩), .pointer (some ⟨bs, 2, none⟩), .agg #[.int .i64 m0, .int .i64 m1, .int .i64 m2], .bool true, .bool false, undef, .pointer (some ⟨bs, 0, none⟩), .pointer (some ⟨bs, 0, none⟩), .pointer (some ⟨bs, 1, none⟩), .map (some bm), .string s, V,
        .func (.func 65) #[] #[.pointer (some ⟨w1.heap.size, 0, none⟩)], .int .i64 (x.1.1 : Int), encE x.1.2, undef, undef, undef, undef, undef], defers := [] })
    (fun x a' _ X Y row hs hg hr => by obtain ⟨Bx, h1, h2, h3⟩ := hs; exact ⟨Bx, h1, (grownBy_keeps_cells hg (fun r e => (hr r e).2) h2 rfl).trans h2, h3⟩)
    ?assign ?body ?done ?stop
  case assign =>
    rintro l pre x W' K ⟨hI, hp, hzz⟩ hK
    have HI := Lib.hid hI
    have HK := Lib.hid hK
    clear hI hK
    unfold encs2
    gi_wp2_with (refine wpListIn_store_entAt rfl _ _ rfl (heap_alloc_new _ _) rfl x.1.2 rfl rfl ?_; intro w3 hs3)
    have hgr : Grow W' w3 := hs3.grow (Nat.le_refl _) ((Grow.refl _).alloc _)
    refine HK.out _ _ (keepsFrom_grow hgr _) (keepB_grow hgr HI.out.1.size hzz) ⟨HI.out.grow hgr, hp, Nat.lt_of_lt_of_le hzz hgr.size⟩ ⟨W'.heap.size, ?_, hs3.at_, rfl⟩
    have := HZ.out
    omega
  case body =>
    rintro l pre x a' W' hl ⟨r, hr⟩ ⟨hI, hp, hzz⟩ ⟨Bx, hBx, hEx, rfl⟩ hlt
    obtain ⟨b0, b1, b2⟩ := cells3 hI.2.1
    have hsz := hI.1.size
    have HI := Lib.hid hI
    have HE := Lib.hid hEx
    have HX := Lib.hid x.2
    have HP := Lib.hid hp
    clear hI hEx hp
    cases hcb : coveredB c0 c1 c2 x.1.2
    · gi_wp2_with (first | (refine wpListIn_load_entAt rfl _ rfl HE.out rfl ?_) | (refine ⟨trivial, ?_⟩; gi_at_call 35; refine (CallsIn.inRound l ((callsIn_wide (n := 0)).2 (covered_eq c0 c1 c2 x.1.2 _ HX.out _ hcb))).mono ?_; rintro e w3 ⟨rfl, hg3⟩))
      refine ⟨keepsFrom_grow hg3 _, keepB_grow hg3 hsz hzz, HI.out.grow hg3, fun y hy => ?_, Nat.lt_of_lt_of_le hzz hg3.size⟩
      rcases List.mem_append.1 hy with hy | hy
      · exact HP.out y hy
      · rw [List.mem_singleton.1 hy]; exact hcb
    · gi_wp2_with (first | (refine ⟨trivial, ?_⟩; gi_at_call 35; refine (CallsIn.inRound l ((callsIn_wide (n := 0)).2 (covered_eq c0 c1 c2 x.1.2 _ HX.out _ hcb))).mono ?_; rintro e w3 ⟨rfl, hg3⟩; have HG3 := Lib.hid hg3; have HE3 := Lib.hid (HE.out.grow hg3); have HI3 := Lib.hid (HI.out.grow hg3); clear hg3) | (refine wpListIn_load_entAt rfl _ rfl HE.out rfl ?_) | (refine wpListIn_load_entAt rfl _ rfl HE3.out rfl ?_) | (refine wpListIn_store_entAt rfl _ _ rfl HI3.out.2.2.1 rfl x.1.2 rfl rfl ?_; intro w4 hs4; have q1 := (hs4.cell (w.heap.size + 2) 0 (by omega)).trans HI3.out.2.2.2.1.cell; have q2 := (hs4.frozen (w.heap.size + 2) 0 (by omega)).trans HI3.out.2.2.2.1.frozen; have q3 := (hs4.cell (w.heap.size + 3) 0 (by omega)).trans HI3.out.2.2.2.2.cell; have q4 := (hs4.frozen (w.heap.size + 3) 0 (by omega)).trans HI3.out.2.2.2.2.frozen; have HS4 := Lib.hid hs4; clear hs4))
      obtain ⟨z1, z2, z3⟩ := stores3 (u1 := .bool true) (u2 := .int .i64 0) HS4.out HI3.out.2.2.2.1 HI3.out.2.2.2.2
      have hk : KeepsFrom W2.heap.size W' ((w4.setCell ⟨w.heap.size + 2, 0, none⟩ (.bool true)).setCell ⟨w.heap.size + 3, 0, none⟩ (.int .i64 0)) :=
        (((keepsFrom_grow HG3.out _).trans (HS4.out.keeps HI3.out.2.2.1 _)).trans ((KeepsOthers.setCell _ _ _).from _)).trans ((KeepsOthers.setCell _ _ _).from _)
      have hbl : Below w.heap.size w ((w4.setCell ⟨w.heap.size + 2, 0, none⟩ (.bool true)).setCell ⟨w.heap.size + 3, 0, none⟩ (.int .i64 0)) :=
        ((HI3.out.1.trans (HS4.out.below (by omega))).setCell (p := ⟨w.heap.size + 2, 0, none⟩) (by simp) _).setCell (p := ⟨w.heap.size + 3, 0, none⟩) (by simp) _
      refine ⟨hk, rfl, pre, x, rfl, HP.out, hcb, hbl, ?_, z1, z2, z3⟩
      exact (Below.heap_setCell _ _ _ _ (by show w.heap.size ≠ w.heap.size + 3; omega)).trans ((Below.heap_setCell _ _ _ _ (by show w.heap.size ≠ w.heap.size + 2; omega)).trans ((HS4.out.other _ (by omega)).trans HI3.out.2.1))
  case done =>
    rintro D ys W' hD hys ⟨hI, hp, hzz⟩ hK
    have HI := Lib.hid hI
    have HY := Lib.hid (And.intro hys hp)
    have HK := Lib.hid hK
    clear hI hys hp hK
    go_wp2_with (refine wpList_store_entAt rfl _ _ rfl HI.out.2.2.1 rfl entZ rfl rfl ?_; intro w4 hs4; have q1 := (hs4.cell (w.heap.size + 2) 0 (by omega)).trans HI.out.2.2.2.1.cell; have q2 := (hs4.frozen (w.heap.size + 2) 0 (by omega)).trans HI.out.2.2.2.1.frozen; have q3 := (hs4.cell (w.heap.size + 3) 0 (by omega)).trans HI.out.2.2.2.2.cell; have q4 := (hs4.frozen (w.heap.size + 3) 0 (by omega)).trans HI.out.2.2.2.2.frozen; have HS4 := Lib.hid hs4; clear hs4)
    obtain ⟨z1, z2, z3⟩ := stores3 (u1 := .bool false) (u2 := .int .i64 0) HS4.out HI.out.2.2.2.1 HI.out.2.2.2.2
    have hDs : w.heap.size + 4 ≤ D := by omega
    have hK4 : ((w4.setCell ⟨w.heap.size + 2, 0, none⟩ (.bool false)).setCell ⟨w.heap.size + 3, 0, none⟩ (.int .i64 0)).heap[D]? = some (.deferred (some [])) :=
      (Below.heap_setCell _ _ _ _ (by show D ≠ w.heap.size + 3; omega)).trans ((Below.heap_setCell _ _ _ _ (by show D ≠ w.heap.size + 2; omega)).trans ((HS4.out.other _ (by omega)).trans HK.out))
    have hbl : Below w.heap.size w ((w4.setCell ⟨w.heap.size + 2, 0, none⟩ (.bool false)).setCell ⟨w.heap.size + 3, 0, none⟩ (.int .i64 0)) :=
      ((HI.out.1.trans (HS4.out.below (by omega))).setCell (p := ⟨w.heap.size + 2, 0, none⟩) (by simp) _).setCell (p := ⟨w.heap.size + 3, 0, none⟩) (by simp) _
    refine ⟨by simp, .inl ⟨_, _, rfl, run_takeDeferred hK4, ?_⟩⟩
    refine ⟨_, results_as rfl _ rfl rfl rfl ((World.putObj_heap_other (by omega)).trans z1) ((World.putObj_heap_other (by omega)).trans z2) ((World.putObj_heap_other (by omega)).trans z3), ?_, grow_put _ hbl (by omega)⟩
    rw [asof_none HY.out.1 HY.out.2]
    rfl
  case stop =>
    rintro D c pre W' hD ⟨k, hk, hpre⟩ ⟨rfl, ini, x, hx1, hx2, hx3, hI⟩ hK
    have hA := asof_found hk hpre hx1 hx2 hx3
    have HI := Lib.hid (And.intro hI (And.intro hA hK))
    clear hI hA hpre hx1 hx2 hx3 hK
    refine wpIn_wide.2 ?_
    go_wp2
    refine ⟨by simp, .inl ⟨_, _, rfl, run_takeDeferred HI.out.2.2, ?_⟩⟩
    refine ⟨_, results_as rfl _ rfl rfl rfl ((World.putObj_heap_other (by omega)).trans HI.out.1.2.2.1) ((World.putObj_heap_other (by omega)).trans HI.out.1.2.2.2.1) ((World.putObj_heap_other (by omega)).trans HI.out.1.2.2.2.2), ?_, grow_put _ HI.out.1.1 (by omega)⟩
    rw [HI.out.2.1]
    rfl

end Go.Proofs.Ytiicfpjblfohkaa
