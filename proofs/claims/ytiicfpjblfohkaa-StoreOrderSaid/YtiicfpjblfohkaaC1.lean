/- able: true. -/
import Derived.Test.YtiicfpjblfohkaaA7b
import Derived.Test.YtiicfpjblfohkaaA8b
import Derived.Test.YtiicfpjblfohkaaA9d
import Derived.Test.YtiicfpjblfohkaaA4g
import Derived.Test.YtiicfpjblfohkaaB1
namespace Go.Proofs.Ytiicfpjblfohkaa
set_option linter.unusedSimpArgs false
set_option linter.unusedVariables false
open Go.RowKit Go.Flow
attribute [local irreducible] wpQuiet wpLoose

def keyA : ByteArray := ⟨#[97]⟩
def ablA : Ent := ⟨0, 0, 1, 1, 0, 0, ⟨#[97]⟩, ⟨#[120]⟩, false, 0, 0, 0, 0, 0, 0, 0, 0, 0, 0, 1⟩
def ablB : Ent := ⟨1, 0, 1, 3, 1, 0, ⟨#[97]⟩, ⟨#[121]⟩, false, 0, 0, 0, 0, 0, 0, 0, 0, 0, 0, 2⟩

theorem ltE_irrefl (a : Ent) : ¬ ltE a a := by unfold ltE; omega
theorem ltE_total {a b : Ent} (h1 : ¬ ltE a b) (h2 : ¬ ltE b a) : a.cnt = b.cnt ∧ a.sdc = b.sdc ∧ a.srng = b.srng ∧ a.seq = b.seq := by unfold ltE at *; omega

theorem sortE_one (a : Ent) : sortE ([] ++ [a]) = [a] := List.perm_singleton.1 (sortE_perm [a])
theorem ablBA : ltE ablA ablB := by unfold ltE ablA ablB; simp
theorem sortE_two {a b : Ent} (h : ltE a b) : sortE ([b] ++ [a]) = [a, b] := by
  have h1 := sortE_perm ([b] ++ [a])
  have h2 := (sortE_spec ([b] ++ [a])).2
  have h3 := sortE_length ([b] ++ [a])
  have hne : a ≠ b := fun e => ltE_irrefl a (by rw [← e] at h; exact h)
  generalize sortE ([b] ++ [a]) = l at *
  obtain ⟨x, y, rfl⟩ : ∃ x y, l = [x, y] := by
    cases l with
    | nil => simp at h3
    | cons x l => cases l with
      | nil => simp at h3
      | cons y l => cases l with
        | nil => exact ⟨x, y, rfl⟩
        | cons z l => simp at h3
  · simp only [List.pairwise_cons, List.mem_singleton, forall_eq] at h2
    have hx : x ∈ [b] ++ [a] := h1.mem_iff.1 (by simp)
    have hy : y ∈ [b] ++ [a] := h1.mem_iff.1 (by simp)
    simp at hx hy
    rcases hx with rfl | rfl <;> rcases hy with rfl | rfl
    · have := h1.mem_iff.2 (show a ∈ [y] ++ [a] by simp)
      simp [hne] at this
    · exact absurd h h2.1
    · rfl
    · have := h1.mem_iff.2 (show b ∈ [b] ++ [y] by simp)
      simp [Ne.symm hne] at this

theorem entB_A : entB ablA = true := by kernel_rfl
theorem entB_B : entB ablB = true := by kernel_rfl
/-- What the store holds behind able's Put. -/
theorem able_put : putAll 0 0 0 0 [] [ablB, ablA, ablA] = [(keyA, [ablA, ablB])] ∧ putCount 0 0 0 0 [] [ablB, ablA, ablA] = 2 := by
  have s1 : skips 0 0 0 0 [] ablB = false := skips_false.2 ⟨entB_B, rfl, by kernel_rfl, rfl⟩
  have p1 : putOne 0 0 0 0 [] ablB = [(keyA, [ablB])] := by
    rw [putOne_lay s1]
    show updA [] keyA (sortE ([] ++ [ablB])) = _
    rw [sortE_one]
    rfl
  have s2 : skips 0 0 0 0 [(keyA, [ablB])] ablA = false := skips_false.2 ⟨entB_A, rfl, by kernel_rfl, by kernel_rfl⟩
  have p2 : putOne 0 0 0 0 [(keyA, [ablB])] ablA = [(keyA, [ablA, ablB])] := by
    rw [putOne_lay s2]
    show updA _ keyA (sortE ([ablB] ++ [ablA])) = _
    rw [sortE_two ablBA]
    rfl
  have s3 : skips 0 0 0 0 [(keyA, [ablA, ablB])] ablA = true := by kernel_rfl
  have p3 : putOne 0 0 0 0 [(keyA, [ablA, ablB])] ablA = [(keyA, [ablA, ablB])] := putOne_skip s3
  constructor
  · simp only [putAll, List.foldl_cons, List.foldl_nil, p1, p2, p3]
  · simp only [putCount, s1, s2, s3, p1, p2, p3, if_true, Bool.false_eq_true, if_false]

theorem two_ents (w : World) (a b : Ent) : EntAt ((w.alloc (.cells (encL a).toArray 40)).alloc (.cells (encL b).toArray 40)) w.heap.size a ∧ EntAt ((w.alloc (.cells (encL a).toArray 40)).alloc (.cells (encL b).toArray 40)) (w.heap.size + 1) b ∧
    Grow w ((w.alloc (.cells (encL a).toArray 40)).alloc (.cells (encL b).toArray 40)) := by
  refine ⟨EntAt.new.alloc _, ?_, ((Grow.refl _).alloc _).alloc _⟩
  have := EntAt.new (w := w.alloc (.cells (encL a).toArray 40)) (e := b)
  rwa [World.size_alloc] at this
theorem latest_of {w : World} {base bs bm : Nat} {rng m0 m1 m2 : Int} {T : List Slot} (hS : StoreAt w base bs bm rng m0 m1 m2 T) {s : ByteArray} (hs : s.size ≤ maxLen) {l : List Ent} {e : Ent} (h : getA (absT T) s = l ++ [e]) :
    Calls Try.prog 22 #[.pointer (some ⟨bs, 0, none⟩), .string s] w fun r w' => r = .returned (.tuple #[encE e, .bool true]) ∧ Grow w w' := by
  have hne : getA (absT T) s ≠ [] := by rw [h]; simp
  refine (latest_some w base bs bm rng m0 m1 m2 T hS s hs hne).mono ?_
  rintro r w' ⟨rfl, hg⟩
  refine ⟨?_, hg⟩
  have : (getA (absT T) s).getLast hne = e := by simp [h]
  rw [this]
theorem one_ent (w : World) (a : Ent) : EntAt (w.alloc (.cells (encL a).toArray 40)) w.heap.size a ∧ Grow w (w.alloc (.cells (encL a).toArray 40)) := ⟨EntAt.new, (Grow.refl _).alloc _⟩
theorem exec_eql_refl {o : Oper} {a : Act} {w : World} {x y : Operand} {t : TypeId} (ho : o.op = .binOp .eql 40 x y t) {e : Ent} (hx : a.eval x = encE e) (hy : a.eval y = encE e) : (execOp a.eval o).run Try.prog w = .ok (.value (.bool true)) w := by
  rw [exec_eql_ent ho hx hy, (eqE_iff e e).2 rfl]
theorem asof_able {w : World} {base bs bm : Nat} {T : List Slot} (hS : StoreAt w base bs bm 0 0 0 0 T) (hT : absT T = [(keyA, [ablA, ablB])]) :
    Calls Try.prog 24 #[.pointer (some ⟨bs, 0, none⟩), .string ⟨#[97]⟩, .agg #[.int .i64 1, .int .i64 0, .int .i64 0]] w fun r w' => r = .returned (.tuple #[encE ablA, .bool true, .int .i64 0]) ∧ Grow w w' := by
  have hg : getA (absT T) keyA = [ablA, ablB] := by rw [hT]; rfl
  refine (asof_some w base bs bm 0 0 0 0 T hS keyA (by decide) 1 0 0 (by kernel_rfl) (fun e he => by rw [hg] at he; simp at he; rcases he with rfl | rfl <;> simp [ablA, ablB])).mono ?_
  rintro r w' ⟨rfl, h⟩
  refine ⟨?_, h⟩
  rw [hg]
  rfl
theorem len_is {w : World} {base bs bm : Nat} {rng m0 m1 m2 : Int} {T : List Slot} (hS : StoreAt w base bs bm rng m0 m1 m2 T) {n : Nat} (h : lenA (absT T) = n) :
    Calls Try.prog 15 #[.pointer (some ⟨bs, 0, none⟩)] w fun r w' => r = .returned (.int .i64 n) ∧ Grow w w' := by subst h; exact len_any w base bs bm rng m0 m1 m2 T hS
theorem ptr_alloc (w : World) (o : Obj) : Value.pointer (some ⟨w.heap.size + 1, 0, none⟩) = .pointer (some ⟨(w.alloc o).heap.size, 0, none⟩) := by rw [World.size_alloc]

set_option maxRecDepth 100000 in
set_option maxHeartbeats 4000000 in
theorem able_any (w : World) : Calls Try.prog 10 #[] w fun e w' => e = .returned (.bool true) ∧ Grow w w' := by
  go_enter Try.func10, Try.ntmps10
  go_wp2_with (first | (go_at_call 12; refine (new_any 0 _ w.heap.size (Nat.le_refl _)).mono ?_; rintro e w1 ⟨bs, bm, rfl, hS, hg1, hbs, hbm⟩; have HS := Lib.hid hS; have HG := Lib.hid hg1; clear hS hg1) | (refine wpList_store_ent rfl _ _ rfl ablA rfl rfl rfl ?_) | (refine wpList_store_ent rfl _ _ rfl ablB rfl (ptr_alloc _ _) rfl ?_; have hT := two_ents w1 ablA ablB; generalize (w1.alloc (.cells (encL ablA).toArray 40)).alloc (.cells (encL ablB).toArray 40) = W2 at hT ⊢; have HT := Lib.hid hT; clear hT) | (refine wpList_value rfl (exec_load_at rfl HT.out.1 rfl) ?_) | (refine wpList_value rfl (exec_load_at rfl HT.out.2.1 rfl) ?_) | (refine wpList_value rfl (exec_build3 rfl rfl rfl rfl) ?_))
  have hsz := HS.out.bs_lt
  have hsz2 := HS.out.bm_lt
  have HR := Lib.hid (rows_of_flat (heap_alloc_new W2 (.cells (flat [ablB, ablA, ablA]).toArray 40)))
  have HG3 : Hid (Grow w1 (W2.alloc (.cells (flat [ablB, ablA, ablA]).toArray 40))) := HT.out.2.2.alloc _
  have HT3 : Hid (EntAt (W2.alloc (.cells (flat [ablB, ablA, ablA]).toArray 40)) w1.heap.size ablA ∧ EntAt (W2.alloc (.cells (flat [ablB, ablA, ablA]).toArray 40)) (w1.heap.size + 1) ablB) := ⟨HT.out.1.alloc _, HT.out.2.1.alloc _⟩
  have hz3 : W2.heap.size < (W2.alloc (.cells (flat [ablB, ablA, ablA]).toArray 40)).heap.size := by simp
  have hW2 : w1.heap.size ≤ W2.heap.size := HT.out.2.2.size
  generalize W2.alloc (.cells (flat [ablB, ablA, ablA]).toArray 40) = W3 at *
  have hfoot : ∀ k, w1.heap.size ≤ k → ¬ Foot bs bm [] k := fun k hk h => by
    rcases h with h | h | ⟨t, ht, _⟩
    · omega
    · omega
    · cases ht
  refine (put_ents W3 w.heap.size bs bm 0 0 0 0 [] (HS.out.grow HG3.out) _ [ablB, ablA, ablA] (Ents.of_rows HR.out hz3 (Nat.le_refl _) (by decide)) (fun b hb _ => hfoot b (by cases hb; omega)) (by simp) (by have := HG.out.size; have := HG3.out.size; omega)).mono ?_
  rintro e w4 ⟨rfl, T', hI⟩
  have hab := hI.abs
  rw [show absT [] = [] from rfl, able_put.1] at hab
  rw [show absT [] = [] from rfl, able_put.2]
  have hA4 : EntAt w4 w1.heap.size ablA := (hI.upd.block _ HT3.out.1.lt (hfoot _ (Nat.le_refl _))).trans HT3.out.1
  have hB4 : EntAt w4 (w1.heap.size + 1) ablB := (hI.upd.block _ HT3.out.2.lt (hfoot _ (by omega))).trans HT3.out.2
  have hget : getA (absT T') keyA = [ablA] ++ [ablB] := by rw [hab]; rfl
  have HI := Lib.hid (And.intro hI.store (And.intro hab (And.intro hget (And.intro hA4 hB4))))
  have HU := Lib.hid hI.upd
  clear hI hab hA4 hB4 hget hfoot
  go_wp2_with (first | (go_at_call 15; refine (len_is (HI.out.1.grow HG8.out) (n := 2) (by rw [HI.out.2.1]; rfl)).mono ?_; rintro e w9 ⟨rfl, hg9⟩) | (go_at_call 22; refine (latest_of HI.out.1 (by decide) HI.out.2.2.1).mono ?_; rintro e w5 ⟨rfl, hg5⟩; have HG5 := Lib.hid hg5; clear hg5) | (refine wl_store_new rfl (e := ablB) rfl rfl rfl rfl ?_; intro W6 e6 g6; have HT6 := Lib.hid (And.intro e6 g6); clear e6 g6) | (go_at_call 24; refine (asof_able (HI.out.1.grow (HG5.out.trans HT6.out.2)) HI.out.2.1).mono ?_; rintro e w7 ⟨rfl, hg7⟩; have HG7 := Lib.hid hg7; clear hg7) | (refine wl_store_new rfl (e := ablA) rfl rfl rfl rfl ?_; intro W8 e8 g8; have HT8 := Lib.hid (And.intro e8 (g8)); have HT9 := Lib.hid (HT6.out.1.grow (HG7.out.trans g8)); have HG8 := Lib.hid ((HG5.out.trans HT6.out.2).trans (HG7.out.trans g8)); clear e8 g8) | (refine wl_load_at rfl HT9.out rfl rfl ?_) | (refine wl_load_at rfl HT8.out.1 rfl rfl ?_) | (refine wl_load_at rfl (HI.out.2.2.2.1.grow HG8.out) rfl rfl ?_) | (refine wl_load_at rfl (HI.out.2.2.2.2.grow HG8.out) rfl rfl ?_) | (refine wl_eql rfl rfl rfl ((eqE_iff _ _).2 rfl) rfl ?_))
  go_ret
  refine ⟨rfl, (Upd.growFrom (HG.out.trans HG3.out) HU.out (fun k hk => ?_)).trans (HG8.out.trans hg9)⟩
  rcases hk with rfl | rfl | ⟨t, ht, _⟩
  · exact hbs
  · exact hbm
  · cases ht

end Go.Proofs.Ytiicfpjblfohkaa
