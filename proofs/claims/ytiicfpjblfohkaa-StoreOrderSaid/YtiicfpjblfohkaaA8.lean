/- New, Latest, Mark, Len: what they answer. -/
import Derived.Test.YtiicfpjblfohkaaA6b
import Derived.Test.YtiicfpjblfohkaaA4b
namespace Go.Proofs.Ytiicfpjblfohkaa
open Go.RowKit Go.Flow
open Go.ChangeMaps (setBlock)
attribute [local irreducible] wpQuiet

theorem KMap.empty (n : Nat) : KMap #[] n [] := ⟨rfl, by simp, by simp, by simp, by simp⟩

set_option maxRecDepth 100000 in
set_option maxHeartbeats 1000000 in
theorem new_any (rng : Int) (w : World) (base : Nat) (hb : base ≤ w.heap.size) :
    Calls Try.prog 12 #[.int .i64 rng] w fun e w' => ∃ bs bm, e = .returned (.pointer (some ⟨bs, 0, none⟩)) ∧ StoreAt w' base bs bm rng 0 0 0 [] ∧ Grow w w' ∧ w.heap.size ≤ bs ∧ w.heap.size ≤ bm := by
  have hmm := @run_makeMap Try.prog
  go_enter Try.func12, Try.ntmps12
  go_wp2
  go_ret
  refine ⟨_, w.heap.size, rfl, ⟨?_, ⟨#[], 0, ?_, KMap.empty 0⟩, by simp, by simp, by simp, by omega, by omega⟩, ((Grow.refl _).alloc _).alloc _, by omega, by omega⟩
  · exact (congrArg (fun n => ((w.alloc (.map #[] 0)).alloc _).heap[n]?) (World.size_alloc w (.map #[] 0)).symm).trans (heap_alloc_new _ _)
  · rw [Below.heap_alloc _ _ _ (by simp)]
    exact heap_alloc_new _ _

theorem wpList_look {ops : Array Oper} {rest : List Oper} {o : Oper} {a : Act} {w : World} {Q : Exit → Act → World → Prop} (hgd : o.guard = none) (x k : Operand) (ho : o.op = .lookup 78 x k false)
    {base bs bm : Nat} {rng m0 m1 m2 : Int} {T : List Slot} (hS : StoreAt w base bs bm rng m0 m1 m2 T) {s : ByteArray} (hs : s.size ≤ maxLen) (hx : a.eval x = .map (some bm)) (hy : a.eval k = .string s)
    (hk : wpList Try.prog ops Q rest (a.put o.dst (valOf (T.map fun t => (t.1, t.2.1)) s)) w) : wpList Try.prog ops Q (o :: rest) a w :=
  wpList_plain hgd fun K hK => by
    obtain ⟨es, clock, h1, h2⟩ := hS.map
    unfold Oper.wp execOp
    simp only [ho, hx, hy, Sem.run_bind, Sem.run_pure, run_look h2 h1 hs, Result.andThen_ok]
    exact hK _ _ hk

set_option maxRecDepth 100000 in
set_option maxHeartbeats 1000000 in
theorem latest_nil (w : World) (base bs bm : Nat) (rng m0 m1 m2 : Int) (T : List Slot) (hS : StoreAt w base bs bm rng m0 m1 m2 T) (s : ByteArray) (hs : s.size ≤ maxLen) (h : getA (absT T) s = []) :
    Calls Try.prog 22 #[.pointer (some ⟨bs, 0, none⟩), .string s] w fun e w' => e = .returned (.tuple #[encE entZ, .bool false]) ∧ Grow w w' := by
  obtain ⟨c0, c1, c2, c3, c4⟩ := hS.cells
  have hbs := hS.bs_lt
  have hrow := (hS.slice s).1
  rw [h] at hrow
  have HS := Lib.hid hS
  clear hS
  obtain ⟨v, hv⟩ : ∃ v, v = valOf (T.map fun t => (t.1, t.2.1)) s := ⟨_, rfl⟩
  rw [← hv] at hrow
  have HV := Lib.hid hv
  clear hv h
  rcases rows_of_owns hrow with ⟨rfl, _⟩ | ⟨g, cap, rfl, _, _, _, _, _⟩
  all_goals
    have HR := Lib.hid hrow
    clear hrow
    go_enter Try.func22, Try.ntmps22
    go_wp2_with (first | (refine wpList_look rfl _ _ rfl (HS.out.grow ((Grow.refl _).alloc _)) hs rfl rfl ?_; rw [← HV.out]) | (refine wpList_store_ent rfl _ _ rfl entZ rfl rfl rfl ?_))
    exact bodyPost_ret (results_ent_tmp rfl _ rfl EntAt.new) rfl ⟨rfl, (Grow.refl _).alloc _⟩

theorem getLast_of {d : List Ent} (h : d ≠ []) : d[d.length - 1]? = some (d.getLast h) := by
  rw [List.getLast_eq_getElem, List.getElem?_eq_getElem]

set_option maxRecDepth 100000 in
set_option maxHeartbeats 1000000 in
theorem latest_some (w : World) (base bs bm : Nat) (rng m0 m1 m2 : Int) (T : List Slot) (hS : StoreAt w base bs bm rng m0 m1 m2 T) (s : ByteArray) (hs : s.size ≤ maxLen) (h : getA (absT T) s ≠ []) :
    Calls Try.prog 22 #[.pointer (some ⟨bs, 0, none⟩), .string s] w fun e w' => e = .returned (.tuple #[encE ((getA (absT T) s).getLast h), .bool true]) ∧ Grow w w' := by
  obtain ⟨c0, c1, c2, c3, c4⟩ := hS.cells
  have hbs := hS.bs_lt
  have hrow := (hS.slice s).1
  have hfew := Nat.le_trans (hS.slice s).2 hS.few
  have hlast := getLast_of h
  generalize (getA (absT T) s).getLast h = e at *
  generalize getA (absT T) s = d at *
  have HS := Lib.hid hS
  clear hS
  obtain ⟨v, hv⟩ : ∃ v, v = valOf (T.map fun t => (t.1, t.2.1)) s := ⟨_, rfl⟩
  rw [← hv] at hrow
  have HV := Lib.hid hv
  clear hv
  have hpos : 0 < d.length := List.length_pos_iff.2 h
  rcases rows_of_owns hrow with ⟨_, h0⟩ | ⟨g, cap, rfl, _, hg, hr, hc1, hc2⟩
  · exact absurd h0 h
  have HR := Lib.hid (And.intro hr hlast)
  clear hrow h hr hlast
  have hw1 : IntKind.i64.wrap (↑d.length - 1) = ((d.length - 1 : Nat) : Int) := by rw [IntWalk.i64_in _ (by omega)]; omega
  go_enter Try.func22, Try.ntmps22
  go_wp2_with (first | (refine wpList_look rfl _ _ rfl (HS.out.grow ((Grow.refl _).alloc _)) hs rfl rfl ?_; rw [← HV.out]) | (refine wpList_load_ent0 rfl _ rfl g (d.length - 1) d e (HR.out.1.keep ((Grow.refl _).alloc _)) HR.out.2 rfl ?_) | (refine wpList_store_ent rfl _ _ rfl e rfl rfl rfl ?_))
  exact bodyPost_ret (results_ent_tmp rfl _ rfl EntAt.new) rfl ⟨rfl, (Grow.refl _).alloc _⟩

set_option maxHeartbeats 1000000 in
theorem mark_any (w : World) (base bs bm : Nat) (rng m0 m1 m2 : Int) (T : List Slot) (hS : StoreAt w base bs bm rng m0 m1 m2 T) :
    Calls Try.prog 23 #[.pointer (some ⟨bs, 0, none⟩)] w fun e w' => e = .returned (.agg #[.int .i64 m0, .int .i64 m1, .int .i64 m2]) ∧ Grow w w' := by
  obtain ⟨c0, c1, c2, c3, c4⟩ := hS.cells
  have hbs := hS.bs_lt
  clear hS
  go_enter Try.func23, Try.ntmps23
  go_wp2
  exact bodyPost_ret (v := .agg #[.int .i64 m0, .int .i64 m1, .int .i64 m2]) (by simp [results, Try.results23, go_sem]) rfl ⟨rfl, (Grow.refl _).alloc _⟩

end Go.Proofs.Ytiicfpjblfohkaa
