/- Put: what it makes of the store. -/
import Derived.Test.YtiicfpjblfohkaaA6c
import Derived.Test.YtiicfpjblfohkaaA6d
import Derived.Test.YtiicfpjblfohkaaA3
import Derived.Test.YtiicfpjblfohkaaLoose
import Derived.Maps.AppendAt
import Derived.Shelf.SlSortCmp.WholeK
namespace Go.Proofs.Ytiicfpjblfohkaa
set_option linter.unusedSimpArgs false
set_option linter.unusedVariables false
open Go.RowKit Go.Flow
open Go.ChangeMaps (setBlock)
attribute [local irreducible] wpQuiet wpLoose

def hasA (A : Abs) (e : Ent) : Bool := A.any fun p => p.2.any (sameDot e.dc e.rng e.seq)
def skips (rng m0 m1 m2 : Int) (A : Abs) (e : Ent) : Bool := !entB e || e.rng != rng || coveredB m0 m1 m2 e || hasA A e
def putOne (rng m0 m1 m2 : Int) (A : Abs) (e : Ent) : Abs := if skips rng m0 m1 m2 A e then A else updA A e.key (sortE (getA A e.key ++ [e]))
def putAll (rng m0 m1 m2 : Int) (A : Abs) (es : List Ent) : Abs := es.foldl (putOne rng m0 m1 m2) A
/-- How many were laid in. -/
def putCount (rng m0 m1 m2 : Int) : Abs → List Ent → Nat
  | _, [] => 0
  | A, e :: es => (if skips rng m0 m1 m2 A e then 0 else 1) + putCount rng m0 m1 m2 (putOne rng m0 m1 m2 A e) es

theorem rightEntry_is (e : Ent) (w : World) (b : Bool) (h : entB e = b) : Calls Try.prog 14 #[encE e] w fun r w' => r = .returned (.bool b) ∧ Grow w w' := by subst h; exact rightEntry_any e w
theorem covered_is (m0 m1 m2 : Int) (e : Ent) (w : World) (hd : e.dc = 0 ∨ e.dc = 1 ∨ e.dc = 2) (b : Bool) (h : coveredB m0 m1 m2 e = b) :
    Calls Try.prog 35 #[.agg #[.int .i64 m0, .int .i64 m1, .int .i64 m2], encE e] w fun r w' => r = .returned (.bool b) ∧ Grow w w' := by subst h; exact covered_at m0 m1 m2 e w hd
theorem has_is (w : World) (base bs bm : Nat) (rng m0 m1 m2 : Int) (T : List Slot) (hS : StoreAt w base bs bm rng m0 m1 m2 T) (e : Ent) (b : Bool) (h : hasA (absT T) e = b) :
    Calls Try.prog 36 #[.pointer (some ⟨bs, 0, none⟩), .agg #[.int .i64 e.dc, .int .i64 e.rng, .int .i64 e.seq]] w fun r w' => r = .returned (.bool b) ∧ Grow w w' := by
  subst h
  refine (has_any w base bs bm rng m0 m1 m2 T hS e.dc e.rng e.seq).mono ?_
  rintro r w' ⟨rfl, hg⟩
  refine ⟨ret_bool ?_, hg⟩
  simp [hasA, absT, List.any_map, Function.comp_def]
theorem dc_of_ent {e : Ent} (h : entB e = true) : e.dc = 0 ∨ e.dc = 1 ∨ e.dc = 2 := by
  simp only [entB, Bool.and_eq_true] at h
  exact (three_of_chain h.1.1.1.1.1.1.1.1.1).1

theorem RowsAt.upd {F : Nat → Prop} {w w' : World} {b off : Nat} {d : List Ent} (h : RowsAt w b off d) (hg : Upd F w w') (hb : ¬ F b) (hbl : b < w.heap.size) : RowsAt w' b off d := by
  intro i e hi j v hj
  rw [World.cell?_of_block (w := w) (a := ⟨b, off + i * 20 + j, none⟩) (hg.block b hbl hb)]
  exact h i e hi j v hj
theorem putAll_snoc (rng m0 m1 m2 : Int) (A : Abs) (l : List Ent) (e : Ent) : putAll rng m0 m1 m2 A (l ++ [e]) = putOne rng m0 m1 m2 (putAll rng m0 m1 m2 A l) e := by simp [putAll]
theorem putCount_snoc (rng m0 m1 m2 : Int) (l : List Ent) (e : Ent) : ∀ A : Abs, putCount rng m0 m1 m2 A (l ++ [e]) = putCount rng m0 m1 m2 A l + (if skips rng m0 m1 m2 (putAll rng m0 m1 m2 A l) e then 0 else 1) := by
  induction l with
  | nil => intro A; simp only [List.nil_append, putCount, putAll, List.foldl_nil, Nat.add_zero, Nat.zero_add]; rfl
  | cons x l ih =>
    intro A
    simp only [List.cons_append, putCount, ih, putAll, List.foldl_cons]
    rw [Nat.add_assoc]; rfl
theorem putCount_le (rng m0 m1 m2 : Int) (l : List Ent) : ∀ A : Abs, putCount rng m0 m1 m2 A l ≤ l.length := by
  induction l with
  | nil => intro A; simp [putCount]
  | cons x l ih => intro A; have := ih (putOne rng m0 m1 m2 A x); simp only [putCount, List.length_cons]; split <;> omega

/-- What holds of the world behind some of the writes. -/
structure PutInv (w : World) (base bs bm : Nat) (rng m0 m1 m2 : Int) (T : List Slot) (es : List Ent) (wr : World) (T' : List Slot) : Prop where
  store : StoreAt wr base bs bm rng m0 m1 m2 T'
  abs : absT T' = putAll rng m0 m1 m2 (absT T) es
  upd : Upd (Foot bs bm T) w wr
  foot : ∀ k, Foot bs bm T' k → Foot bs bm T k ∨ w.heap.size ≤ k
  sum : (T'.map fun t => t.2.2.length).sum ≤ (T.map fun t => t.2.2.length).sum + es.length

/-- A slice of one write in a block of its own, made behind w0. -/
def OneV (e : Ent) (w0 : World) (v : Value) (w' : World) : Prop := ∃ g, v = .slice (some ⟨g, 0, none⟩) 1 1 ∧ w'.heap[g]? = some (.cells (encL e).toArray 40 (0, 0)) ∧ w0.heap.size ≤ g
theorem OneV.stable {e : Ent} {w0 : World} (v : Value) (w w' : World) (h : OneV e w0 v w) (hg : Grow w w') : OneV e w0 v w' := by
  obtain ⟨g, h1, h2, h3⟩ := h
  exact ⟨g, h1, (hg.below.block g (Array.getElem?_eq_some_iff.1 h2).1).trans h2, h3⟩
theorem OneV.made {e : Ent} {w0 w' : World} (hg : Grow w0 w') : OneV e w0 (.slice (some ⟨w'.heap.size, 0, none⟩) 1 1) (w'.alloc (.cells (encL e).toArray 40)) :=
  ⟨_, rfl, heap_alloc_new _ _, hg.size⟩
theorem StoreAt.look {w : World} {base bs bm : Nat} {rng m0 m1 m2 : Int} {T : List Slot} (h : StoreAt w base bs bm rng m0 m1 m2 T) {s : ByteArray} (hs : s.size ≤ maxLen) :
    (Instr.lookup 78 (.map (some bm)) (.string s) false).run Try.prog w = .ok (valOf (T.map fun t => (t.1, t.2.1)) s) w := by
  obtain ⟨es, clock, h1, h2⟩ := h.map
  exact run_look h2 h1 hs
theorem key_of_ent {e : Ent} (h : entB e = true) : e.key.size ≤ maxLen := by
  simp only [entB, Bool.and_eq_true, keyOk, decide_eq_true_eq] at h
  have := h.1.1.1.1.1.2.2
  unfold maxLen
  omega

theorem PutInv.skip {w : World} {base bs bm : Nat} {rng m0 m1 m2 : Int} {T : List Slot} {es : List Ent} {wr w1 : World} {T' : List Slot} {n : Nat} (h : PutInv w base bs bm rng m0 m1 m2 T (es.take n) wr T') (hg : Grow wr w1) (hn : n < es.length)
    (hs : skips rng m0 m1 m2 (absT T') es[n] = true) : PutInv w base bs bm rng m0 m1 m2 T (es.take (n + 1)) w1 T' ∧ putCount rng m0 m1 m2 (absT T) (es.take (n + 1)) = putCount rng m0 m1 m2 (absT T) (es.take n) := by
  have h1 := h.abs
  rw [h1] at hs
  rw [List.take_succ_eq_append_getElem hn]
  refine ⟨⟨h.store.grow hg, ?_, h.upd.grow hg, h.foot, ?_⟩, ?_⟩
  · rw [putAll_snoc, h1]
    simp [putOne, hs]
  · have := h.sum
    simp only [List.length_append, List.length_cons, List.length_nil]
    omega
  · rw [putCount_snoc, if_pos hs, Nat.add_zero]

theorem PutInv.lay {w : World} {base bs bm : Nat} {rng m0 m1 m2 : Int} {T : List Slot} {es : List Ent} {wr w2 w6 : World} {T' : List Slot} {n : Nat} {e : Ent} {v3 : Value} {d : List Ent}
    (h : PutInv w base bs bm rng m0 m1 m2 T (es.take n) wr T') (hg : Grow wr w2) (hn : n < es.length) (he : e = es[n]) (hs : skips rng m0 m1 m2 (absT T') e = false) (hd : d = sortE (getA (absT T') e.key ++ [e]))
    (hst : StoreAt w6 base bs bm rng m0 m1 m2 (updT T' e.key v3 d)) (hu : Upd (Foot bs bm T') w2 w6) (hf : ∀ k, Foot bs bm (updT T' e.key v3 d) k → Foot bs bm T' k ∨ w2.heap.size ≤ k)
    (hsum : ((updT T' e.key v3 d).map fun t => t.2.2.length).sum ≤ (T'.map fun t => t.2.2.length).sum + 1) :
    PutInv w base bs bm rng m0 m1 m2 T (es.take (n + 1)) w6 (updT T' e.key v3 d) ∧ putCount rng m0 m1 m2 (absT T) (es.take (n + 1)) = putCount rng m0 m1 m2 (absT T) (es.take n) + 1 := by
  have h1 := h.abs
  have h2 := h.upd.size
  have h3 := hg.size
  subst hd
  rw [List.take_succ_eq_append_getElem hn, ← he]
  refine ⟨⟨hst, ?_, (h.upd.grow hg).trans hu h.foot, fun k hk => ?_, ?_⟩, ?_⟩
  · rw [updT_abs, putAll_snoc, ← h1]
    simp [putOne, hs]
  · rcases hf k hk with h4 | h4
    · exact h.foot k h4
    · exact .inr (by omega)
  · have := h.sum
    simp only [List.length_append, List.length_cons, List.length_nil]
    omega
  · rw [putCount_snoc, ← h1, hs]
    rfl

set_option maxRecDepth 100000 in
set_option maxHeartbeats 4000000 in
theorem put_any (w : World) (base bs bm : Nat) (rng m0 m1 m2 : Int) (T : List Slot) (hS : StoreAt w base bs bm rng m0 m1 m2 T) (b off cap : Nat) (es : List Ent) (hes : RowsAt w b off es) (hb : ¬ Foot bs bm T b) (hbl : b < w.heap.size)
    (hfew : (T.map fun t => t.2.2.length).sum + es.length ≤ 1000000) (hbase : base ≤ w.heap.size) :
    Calls Try.prog 13 #[.pointer (some ⟨bs, 0, none⟩), .slice (some ⟨b, off, none⟩) es.length cap] w fun r w' => r = .returned (.int .i64 (putCount rng m0 m1 m2 (absT T) es)) ∧
      ∃ T', PutInv w base bs bm rng m0 m1 m2 T es w' T' := by
  have HS := Lib.hid hS
  have HE := Lib.hid hes
  have HF := Lib.hid hfew
  have hlen : es.length ≤ 1000000 := by omega
  clear hS hes hfew
  go_enter Try.func13, Try.ntmps13
  go_wp2
  go_loopw [5, 11] (fun c k wr => ∃ n : Nat, n ≤ es.length ∧ k = .int .i64 n ∧ c = .int .i64 (putCount rng m0 m1 m2 (absT T) (es.take n)) ∧ ∃ T', PutInv w base bs bm rng m0 m1 m2 T (es.take n) wr T') (fun _ k _ => es.length - (intOf k).toNat)
  case atStart => exact ⟨0, Nat.zero_le _, rfl, rfl, T, ⟨HS.out, rfl, Upd.refl _ _, fun k hk => .inl hk, by simp⟩⟩
  case round =>
    obtain ⟨n, hn, rfl, rfl, T', hI⟩ := hrel
    have HI := Lib.hid hI
    clear hI
    have hcn := putCount_le rng m0 m1 m2 (es.take n) (absT T)
    have hcl : (es.take n).length ≤ n := List.length_take_le _ _
    by_cases hlt : n < es.length
    · obtain ⟨e, he⟩ : ∃ e, e = es[n] := ⟨_, rfl⟩
      have HEN := Lib.hid he
      clear he
      obtain ⟨c0, c1, c2, c3, c4⟩ := HI.out.store.cells
      have hbs := HI.out.store.bs_lt
      have HC := Lib.hid c1
      cases hen : entB e
      · go_wp2_with (first | (refine wpList_load_ent rfl _ rfl b off n es e (HE.out.upd HI.out.upd hb hbl) (by rw [HEN.out]; exact List.getElem?_eq_getElem hlt) rfl ?_) | (refine wpList_store_ent rfl _ _ rfl e rfl rfl rfl ?_))
        refine wp_region_loose 26 none (fun _ _ => True) (by kernel_rfl) (by kernel_rfl) (fun _ _ _ _ _ => trivial) ?_
        simp only [List.take_succ_cons, List.take_zero, List.drop_succ_cons, List.drop_zero]
        repeat (first
            | (refine loose_skip (by decide) rfl ?_; simp only [Act.put, List.setIfInBounds_toArray, List.set_cons_zero, List.set_cons_succ])
            | (apply loose_op (by decide) rfl
               focus
                 intro w' hw'
                 have hc := gcell (wr.heap.size + 1) hw' (by first | with_reducible assumption | (simp; done) | (simp; omega) | omega)
                 first
                  | (exact quiet_load_ent rfl rfl ((hw'.below.block _ (by simp)).trans (heap_alloc_new _ _)))
                  | (go_simp
                     first
                       | (done)
                       | (exact rfl)
                       | (go_at_call 14; refine (rightEntry_is _ _ _ hen).mono ?_; rintro e w2 ⟨rfl, hg2⟩; exact ⟨rfl, hg2⟩))
               simp only [Act.put, List.setIfInBounds_toArray, List.set_cons_zero, List.set_cons_succ]))
        refine loose_nil ?_
        intro nu w1 hw1 hVw1
        simp only [finish, Act.put, List.getElem?_toArray, List.getElem?_cons_succ, List.getElem?_cons_zero, Option.bind_some, List.setIfInBounds_toArray, List.set_cons_zero, List.set_cons_succ]
        have hNw1 : wr.heap.size + 1 ≤ w1.heap.size := Nat.le_trans (by first | with_reducible assumption | (simp; done) | (simp; omega)) hw1.size
        have hcw1 := gcell (wr.heap.size + 1) hw1 (by first | with_reducible assumption | (simp; done) | (simp; omega))
        go_wp2
        have hgr : Grow wr w1 := ((Grow.refl _).alloc _).trans hw1
        obtain ⟨hI2, hc2⟩ := HI.out.skip hgr hlt (by rw [← HEN.out]; simp [skips, hen])
        exact ⟨⟨n + 1, by omega, by go_num, by rw [hc2], T', hI2⟩, by simp [intOf]; omega⟩
      have hdc := dc_of_ent hen
      have HD := Lib.hid hdc
      clear hdc
      cases hrg : (e.rng != rng)
      case true =>
        go_wp2_with (first | (refine wpList_load_ent rfl _ rfl b off n es e (HE.out.upd HI.out.upd hb hbl) (by rw [HEN.out]; exact List.getElem?_eq_getElem hlt) rfl ?_) | (refine wpList_store_ent rfl _ _ rfl e rfl rfl rfl ?_))
        refine wp_region_loose 26 none (fun _ _ => True) (by kernel_rfl) (by kernel_rfl) (fun _ _ _ _ _ => trivial) ?_
        simp only [List.take_succ_cons, List.take_zero, List.drop_succ_cons, List.drop_zero]
        repeat (first
            | (refine loose_skip (by decide) rfl ?_; simp only [Act.put, List.setIfInBounds_toArray, List.set_cons_zero, List.set_cons_succ])
            | (apply loose_op (by decide) rfl
               focus
                 intro w' hw'
                 have hc := gcell (wr.heap.size + 1) hw' (by first | with_reducible assumption | (simp; done) | (simp; omega) | omega)
                 first
                  | (exact quiet_load_ent rfl rfl ((hw'.below.block _ (by simp)).trans (heap_alloc_new _ _)))
                  | (go_simp
                     first
                       | (done)
                       | (exact rfl)
                       | (go_at_call 14; refine (rightEntry_is _ _ _ hen).mono ?_; rintro e w2 ⟨rfl, hg2⟩; exact ⟨rfl, hg2⟩))
               simp only [Act.put, List.setIfInBounds_toArray, List.set_cons_zero, List.set_cons_succ]))
        refine loose_nil ?_
        intro nu w1 hw1 hVw1
        simp only [finish, Act.put, List.getElem?_toArray, List.getElem?_cons_succ, List.getElem?_cons_zero, Option.bind_some, List.setIfInBounds_toArray, List.set_cons_zero, List.set_cons_succ]
        have hNw1 : wr.heap.size + 1 ≤ w1.heap.size := Nat.le_trans (by first | with_reducible assumption | (simp; done) | (simp; omega)) hw1.size
        have hcw1 := gcell (wr.heap.size + 1) hw1 (by first | with_reducible assumption | (simp; done) | (simp; omega))
        go_wp2
        have hgr : Grow wr w1 := ((Grow.refl _).alloc _).trans hw1
        obtain ⟨hI2, hc2⟩ := HI.out.skip hgr hlt (by rw [← HEN.out]; simp only [skips, hrg, Bool.or_true, Bool.true_or])
        exact ⟨⟨n + 1, by omega, by go_num, by rw [hc2], T', hI2⟩, by simp [intOf]; omega⟩
      case false =>
      cases hcv : coveredB m0 m1 m2 e
      case true =>
        go_wp2_with (first | (refine wpList_load_ent rfl _ rfl b off n es e (HE.out.upd HI.out.upd hb hbl) (by rw [HEN.out]; exact List.getElem?_eq_getElem hlt) rfl ?_) | (refine wpList_store_ent rfl _ _ rfl e rfl rfl rfl ?_))
        refine wp_region_loose 26 none (fun _ _ => True) (by kernel_rfl) (by kernel_rfl) (fun _ _ _ _ _ => trivial) ?_
        simp only [List.take_succ_cons, List.take_zero, List.drop_succ_cons, List.drop_zero]
        repeat (first
            | (refine loose_skip (by decide) rfl ?_; simp only [Act.put, List.setIfInBounds_toArray, List.set_cons_zero, List.set_cons_succ])
            | (apply loose_op (by decide) rfl
               focus
                 intro w' hw'
                 have hc := gcell (wr.heap.size + 1) hw' (by first | with_reducible assumption | (simp; done) | (simp; omega) | omega)
                 first
                  | (exact quiet_load_ent rfl rfl ((hw'.below.block _ (by simp)).trans (heap_alloc_new _ _)))
                  | (go_simp
                     first
                       | (done)
                       | (exact rfl)
                       | (go_at_call 14; refine (rightEntry_is _ _ _ hen).mono ?_; rintro e w2 ⟨rfl, hg2⟩; exact ⟨rfl, hg2⟩)
                       | (go_at_call 35; refine (covered_is m0 m1 m2 e _ HD.out _ hcv).mono ?_; rintro e w2 ⟨rfl, hg2⟩; exact ⟨rfl, hg2⟩))
               simp only [Act.put, List.setIfInBounds_toArray, List.set_cons_zero, List.set_cons_succ]))
        refine loose_nil ?_
        intro nu w1 hw1 hVw1
        simp only [finish, Act.put, List.getElem?_toArray, List.getElem?_cons_succ, List.getElem?_cons_zero, Option.bind_some, List.setIfInBounds_toArray, List.set_cons_zero, List.set_cons_succ]
        have hNw1 : wr.heap.size + 1 ≤ w1.heap.size := Nat.le_trans (by first | with_reducible assumption | (simp; done) | (simp; omega)) hw1.size
        have hcw1 := gcell (wr.heap.size + 1) hw1 (by first | with_reducible assumption | (simp; done) | (simp; omega))
        go_wp2
        have hgr : Grow wr w1 := ((Grow.refl _).alloc _).trans hw1
        obtain ⟨hI2, hc2⟩ := HI.out.skip hgr hlt (by rw [← HEN.out]; simp only [skips, hcv, Bool.or_true, Bool.true_or])
        exact ⟨⟨n + 1, by omega, by go_num, by rw [hc2], T', hI2⟩, by simp [intOf]; omega⟩
      case false =>
      cases hha : hasA (absT T') e
      case true =>
        go_wp2_with (first | (refine wpList_load_ent rfl _ rfl b off n es e (HE.out.upd HI.out.upd hb hbl) (by rw [HEN.out]; exact List.getElem?_eq_getElem hlt) rfl ?_) | (refine wpList_store_ent rfl _ _ rfl e rfl rfl rfl ?_))
        refine wp_region_loose 26 none (fun _ _ => True) (by kernel_rfl) (by kernel_rfl) (fun _ _ _ _ _ => trivial) ?_
        simp only [List.take_succ_cons, List.take_zero, List.drop_succ_cons, List.drop_zero]
        repeat (first
            | (refine loose_skip (by decide) rfl ?_; simp only [Act.put, List.setIfInBounds_toArray, List.set_cons_zero, List.set_cons_succ])
            | (apply loose_op (by decide) rfl
               focus
                 intro w' hw'
                 have hc := gcell (wr.heap.size + 1) hw' (by first | with_reducible assumption | (simp; done) | (simp; omega) | omega)
                 first
                  | (exact quiet_load_ent rfl rfl ((hw'.below.block _ (by simp)).trans (heap_alloc_new _ _)))
                  | (go_simp
                     first
                       | (done)
                       | (exact rfl)
                       | (go_at_call 14; refine (rightEntry_is _ _ _ hen).mono ?_; rintro e w2 ⟨rfl, hg2⟩; exact ⟨rfl, hg2⟩)
                       | (go_at_call 35; refine (covered_is m0 m1 m2 e _ HD.out _ hcv).mono ?_; rintro e w2 ⟨rfl, hg2⟩; exact ⟨rfl, hg2⟩)
                       | (go_at_call 36; refine (has_is _ base bs bm rng m0 m1 m2 T' (HI.out.store.grow (((Grow.refl _).alloc _).trans hw')) e _ hha).mono ?_; rintro e w2 ⟨rfl, hg2⟩; exact ⟨rfl, hg2⟩))
               simp only [Act.put, List.setIfInBounds_toArray, List.set_cons_zero, List.set_cons_succ]))
        refine loose_nil ?_
        intro nu w1 hw1 hVw1
        simp only [finish, Act.put, List.getElem?_toArray, List.getElem?_cons_succ, List.getElem?_cons_zero, Option.bind_some, List.setIfInBounds_toArray, List.set_cons_zero, List.set_cons_succ]
        have hNw1 : wr.heap.size + 1 ≤ w1.heap.size := Nat.le_trans (by first | with_reducible assumption | (simp; done) | (simp; omega)) hw1.size
        have hcw1 := gcell (wr.heap.size + 1) hw1 (by first | with_reducible assumption | (simp; done) | (simp; omega))
        go_wp2
        have hgr : Grow wr w1 := ((Grow.refl _).alloc _).trans hw1
        obtain ⟨hI2, hc2⟩ := HI.out.skip hgr hlt (by rw [← HEN.out]; simp only [skips, hha, Bool.or_true, Bool.true_or])
        exact ⟨⟨n + 1, by omega, by go_num, by rw [hc2], T', hI2⟩, by simp [intOf]; omega⟩
      case false =>
        go_wp2_with (first | (refine wpList_load_ent rfl _ rfl b off n es e (HE.out.upd HI.out.upd hb hbl) (by rw [HEN.out]; exact List.getElem?_eq_getElem hlt) rfl ?_) | (refine wpList_store_ent rfl _ _ rfl e rfl rfl rfl ?_))
        refine wp_region_loose 26 none (fun _ _ => True) (by kernel_rfl) (by kernel_rfl) (fun _ _ _ _ _ => trivial) ?_
        simp only [List.take_succ_cons, List.take_zero, List.drop_succ_cons, List.drop_zero]
        repeat (first
            | (refine loose_skip (by decide) rfl ?_; simp only [Act.put, List.setIfInBounds_toArray, List.set_cons_zero, List.set_cons_succ])
            | (apply loose_op (by decide) rfl
               focus
                 intro w' hw'
                 have hc := gcell (wr.heap.size + 1) hw' (by first | with_reducible assumption | (simp; done) | (simp; omega) | omega)
                 first
                  | (exact quiet_load_ent rfl rfl ((hw'.below.block _ (by simp)).trans (heap_alloc_new _ _)))
                  | (go_simp
                     first
                       | (done)
                       | (exact rfl)
                       | (go_at_call 14; refine (rightEntry_is _ _ _ hen).mono ?_; rintro e w2 ⟨rfl, hg2⟩; exact ⟨rfl, hg2⟩)
                       | (go_at_call 35; refine (covered_is m0 m1 m2 e _ HD.out _ hcv).mono ?_; rintro e w2 ⟨rfl, hg2⟩; exact ⟨rfl, hg2⟩)
                       | (go_at_call 36; refine (has_is _ base bs bm rng m0 m1 m2 T' (HI.out.store.grow (((Grow.refl _).alloc _).trans hw')) e _ hha).mono ?_; rintro e w2 ⟨rfl, hg2⟩; exact ⟨rfl, hg2⟩))
               simp only [Act.put, List.setIfInBounds_toArray, List.set_cons_zero, List.set_cons_succ]))
        refine loose_nil ?_
        intro nu w1 hw1 hVw1
        simp only [finish, Act.put, List.getElem?_toArray, List.getElem?_cons_succ, List.getElem?_cons_zero, Option.bind_some, List.setIfInBounds_toArray, List.set_cons_zero, List.set_cons_succ]
        have hNw1 : wr.heap.size + 1 ≤ w1.heap.size := Nat.le_trans (by first | with_reducible assumption | (simp; done) | (simp; omega)) hw1.size
        have hcw1 := gcell (wr.heap.size + 1) hw1 (by first | with_reducible assumption | (simp; done) | (simp; omega))
        have hgr : Grow wr w1 := ((Grow.refl _).alloc _).trans hw1
        have hb1 : w1.heap[wr.heap.size]? = some (.cells (encL e).toArray 40 (0, 0)) := (hw1.below.block _ (by simp)).trans (heap_alloc_new _ _)
        have HGR := Lib.hid hgr
        have HB1 := Lib.hid hb1
        have hst := HI.out.store.grow hgr
        obtain ⟨k0, k1, k2, k3, k4⟩ := hst.cells
        have hkey : w1.cell? ⟨wr.heap.size, 6, none⟩ = some (.string e.key) := by simp [World.cell?, hb1]
        have HST := Lib.hid hst
        clear hst hgr hb1 hw1 hcw1 c0 c1 c2 c3 c4 k0 k2 k3 k4
        have hbs1 : bs < w1.heap.size := HST.out.bs_lt
        have hbx : wr.heap.size < w1.heap.size := by omega
        go_wp2
        have hlk : ∀ w', Grow w1 w' → (Instr.lookup 78 (.map (some bm)) (.string e.key) false).run Try.prog w' = .ok (valOf (T'.map fun t => (t.1, t.2.1)) e.key) w' := fun w' hw' => (HST.out.grow hw').look (key_of_ent hen)
        have HLK := Lib.hid hlk
        clear hlk
        refine wp_region_loose 9 (some 8) (OneV e w1) (by kernel_rfl) (by kernel_rfl) (OneV.stable) ?_
        simp only [List.take_succ_cons, List.take_zero, List.drop_succ_cons, List.drop_zero]
        repeat (first
            | (refine loose_make rfl rfl ?_ ?_
               focus
                 intro w' hw'
                 have hc := gcell (w1.heap.size) hw' (by first | with_reducible assumption | (simp; done) | (simp; omega) | omega)
                 exact ⟨_, _, makes_build1 rfl rfl, (Grow.refl _).alloc _, OneV.made hw'⟩)
            | (refine loose_skip (by decide) rfl ?_; simp only [Act.put, List.setIfInBounds_toArray, List.set_cons_zero, List.set_cons_succ])
            | (apply loose_op (by decide) rfl
               focus
                 intro w' hw'
                 have hc := gcell (w1.heap.size) hw' (by first | with_reducible assumption | (simp; done) | (simp; omega) | omega)
                 first
                  | (first | exact quiet_load_ent rfl rfl ((hw'.below.block _ (by assumption)).trans HB1.out) | (have hl := HLK.out w' hw'; go_simp; exact rfl))
                  | (go_simp
                     first
                       | (done)
                       | (exact rfl))
               simp only [Act.put, List.setIfInBounds_toArray, List.set_cons_zero, List.set_cons_succ]))
        refine loose_nil ?_
        intro nu w2 hw2 hVw2
        simp only [finish, Act.put, List.getElem?_toArray, List.getElem?_cons_succ, List.getElem?_cons_zero, Option.bind_some, List.setIfInBounds_toArray, List.set_cons_zero, List.set_cons_succ]
        have hNw2 : w1.heap.size ≤ w2.heap.size := Nat.le_trans (by first | with_reducible assumption | (simp; done) | (simp; omega)) hw2.size
        have hcw2 := gcell (w1.heap.size) hw2 (by first | with_reducible assumption | (simp; done) | (simp; omega))
        obtain ⟨g, rfl, hgc, hgs⟩ := hVw2 (by decide)
        have hst2 := HST.out.grow hw2
        obtain ⟨hown, hsum⟩ := hst2.slice e.key
        have HOW := Lib.hid hown
        have HGC := Lib.hid hgc
        have HSM := Lib.hid hsum
        have HS2 := Lib.hid hst2
        have HB2 := Lib.hid ((hw2.below.block _ hbx).trans HB1.out)
        have HGW := Lib.hid (HGR.out.trans hw2)
        have hbz : base ≤ w2.heap.size := by have := HI.out.upd.size; have := (HGR.out.trans hw2).size; omega
        have hfin : (getA (absT T') e.key).length + 1 ≤ 1000000 := by
          have h1 := HI.out.sum
          have h2 := HF.out
          have h3 := HSM.out
          omega
        obtain ⟨i40, hi40, hz0, hz1, hz2⟩ := info_parts Try.info40b
        clear hown hgc hsum hst2 hcw2 hw2
        go_wp2_with (refine wpList_append_own_at _ rfl _ _ 22 rfl base 40 i40 _ 20 176 und22 hi40 hz0 hz1 hz2 rfl (by decide) _ _ _ rfl HOW.out ⟨g, 0, none⟩ 1 1 (encL e) rfl rfl ?c1 ?c2 ?c3 ?c4 hbz ?_)
        case c1 =>
          intro j u hj
          have hadd : (⟨g, 0, none⟩ : Addr).add j = ⟨g, j, none⟩ := by unfold Addr.add; split <;> simp_all
          rw [hadd, cell_of_row w2 g j _ 40 (0, 0) HGC.out]
          simpa using hj
        case c2 => exact encL_one e
        case c3 => unfold maxLen; omega
        case c4 => omega
        intro v3 w3 hown3 hgr3 hne3 hblk3
        have HO3 := Lib.hid hown3
        have HG3 := Lib.hid hgr3
        have HN3 := Lib.hid hne3
        have HB3 := Lib.hid hblk3
        clear hown3 hgr3 hne3 hblk3
        have hO : w3.ownsRow base 40 20 v3 (getA (absT T') e.key ++ [e]).length (flat (getA (absT T') e.key ++ [e])) := by
          have := HO3.out
          simpa [flat_append, flat] using this
        have HO := Lib.hid hO
        clear hO
        go_wp2_with (go_at_call 37; refine (sort_owned HO.out (by simp) (by simp; omega)).mono ?_; rintro r w4 ⟨rfl, ho4⟩)
        have hlen4 : (sortE (getA (absT T') e.key ++ [e])).length ≤ (getA (absT T') e.key).length + 1 := by
          have := ho4.2.2
          simp only [List.length_append, List.length_cons, List.length_nil] at this
          omega
        have hfew4 : (T'.map fun t => t.2.2.length).sum + 1 ≤ 1000000 := by
          have h1 := HI.out.sum
          have h2 := HF.out
          omega
        have hL := fun (w5 : World) (h5 : Grow w4 w5) => store_lay HS2.out (key_of_ent hen) HG3.out HB3.out ho4.2.1 ho4.1 h5 hlen4 hfew4
        obtain ⟨L1, L2, L3, _⟩ := hL w4 (Grow.refl _)
        have hbw : wr.heap.size < w2.heap.size := by omega
        have hno : ∀ t ∈ T', t.2.1.ownBlock ≠ some wr.heap.size := fun t ht h => by
          obtain ⟨_, cur, h2⟩ := ownsRow_block (HI.out.store.rows t ht) h
          have := (Array.getElem?_eq_some_iff.1 h2).1
          omega
        have hb4 : w4.heap[wr.heap.size]? = some (.cells (encL e).toArray 40 (0, 0)) := (L1 _ hbw hno).trans HB2.out
        have k4 : w4.cell? ⟨wr.heap.size, 6, none⟩ = some (.string e.key) := by simp [World.cell?, hb4]
        have k5 : w4.cell? ⟨bs, 1, none⟩ = some (.map (some bm)) := by
          have h1 := HS2.out.head
          rw [← L2] at h1
          simp [World.cell?, h1]
        have hbs4 : bs < w4.heap.size := by
          have h1 := HS2.out.head
          rw [← L2] at h1
          exact (Array.getElem?_eq_some_iff.1 h1).1
        have hbx4 : wr.heap.size < w4.heap.size := (Array.getElem?_eq_some_iff.1 hb4).1
        have HL := Lib.hid hL
        clear hL L1 L2 L3 hno hb4 ho4
        refine wp_region_loose 7 none (fun _ _ => True) (by kernel_rfl) (by kernel_rfl) (fun _ _ _ _ _ => trivial) ?_
        simp only [List.take_succ_cons, List.take_zero, List.drop_succ_cons, List.drop_zero]
        repeat (first
            | (refine loose_skip (by decide) rfl ?_; simp only [Act.put, List.setIfInBounds_toArray, List.set_cons_zero, List.set_cons_succ])
            | (apply loose_op (by decide) rfl
               focus
                 intro w' hw'
                 have hc := gcell (w4.heap.size) hw' (by first | with_reducible assumption | (simp; done) | (simp; omega) | omega)
                 first
                  | (fail)
                  | (go_simp
                     first
                       | (done)
                       | (exact rfl))
               simp only [Act.put, List.setIfInBounds_toArray, List.set_cons_zero, List.set_cons_succ]))
        refine loose_nil ?_
        intro nu w5 hw5 hVw5
        simp only [finish, Act.put, List.getElem?_toArray, List.getElem?_cons_succ, List.getElem?_cons_zero, Option.bind_some, List.setIfInBounds_toArray, List.set_cons_zero, List.set_cons_succ]
        have hNw5 : w4.heap.size ≤ w5.heap.size := Nat.le_trans (by first | with_reducible assumption | (simp; done) | (simp; omega)) hw5.size
        have hcw5 := gcell (w4.heap.size) hw5 (by first | with_reducible assumption | (simp; done) | (simp; omega))
        obtain ⟨_, _, _, w6, hup, hst6, hu6, hf6, hs6⟩ := HL.out w5 hw5
        have HUP := Lib.hid hup
        have HS6 := Lib.hid (And.intro hst6 (And.intro hu6 (And.intro hf6 hs6)))
        clear hup hst6 hu6 hf6 hs6 hw5 hcw5
        refine wpList_mapUpdate_at rfl _ _ _ rfl HUP.out ?_
        go_wp2
        obtain ⟨hI2, hc2⟩ := HI.out.lay HGW.out hlt HEN.out (by simp [skips, hen, hrg, hcv, hha]) rfl HS6.out.1 HS6.out.2.1 HS6.out.2.2.1 HS6.out.2.2.2
        exact ⟨⟨n + 1, by omega, by go_num, by rw [hc2]; go_num, _, hI2⟩, by simp [intOf]; omega⟩
    · have hne : n = es.length := by omega
      have HNE := Lib.hid hne
      clear hne
      go_wp2
      go_ret
      have h1 := HI.out
      rw [List.take_of_length_le (by have := HNE.out; omega)] at h1
      exact ⟨ret_int (by rw [List.take_of_length_le (by have := HNE.out; omega)]), T', h1⟩

end Go.Proofs.Ytiicfpjblfohkaa
