/- The slice that the store holds at a key. -/
import Derived.Test.YtiicfpjblfohkaaA6
import Derived.OwnWalk
namespace Go.Proofs.Ytiicfpjblfohkaa
open Go.RowKit Go.Flow

/-- What the store holds, by key. -/
abbrev Abs := List (ByteArray × List Ent)
def absT (T : List Slot) : Abs := T.map fun t => (t.1, t.2.2)
def getA (A : Abs) (s : ByteArray) : List Ent := match A.find? (fun p => decide (p.1 = s)) with | some p => p.2 | none => []
def updA (A : Abs) (s : ByteArray) (d : List Ent) : Abs := if A.any (fun p => decide (p.1 = s)) then A.map (fun p => if p.1 = s then (p.1, d) else p) else A ++ [(s, d)]

theorem StoreAt.slice {w : World} {base bs bm : Nat} {rng m0 m1 m2 : Int} {T : List Slot} (h : StoreAt w base bs bm rng m0 m1 m2 T) (s : ByteArray) :
    w.ownsRow base 40 20 (valOf (T.map fun t => (t.1, t.2.1)) s) (getA (absT T) s).length (flat (getA (absT T) s)) ∧ (getA (absT T) s).length ≤ (T.map fun t => t.2.2.length).sum := by
  have e1 : (T.map fun t => (t.1, t.2.1)).find? (fun p => decide (p.1 = s)) = (T.find? fun t => decide (t.1 = s)).map fun t => (t.1, t.2.1) := by
    rw [List.find?_map]; rfl
  have e2 : (absT T).find? (fun p => decide (p.1 = s)) = (T.find? fun t => decide (t.1 = s)).map fun t => (t.1, t.2.2) := by
    unfold absT
    rw [List.find?_map]; rfl
  unfold valOf getA
  rw [e1, e2]
  cases hf : T.find? fun t => decide (t.1 = s) with
  | none => exact ⟨World.ownsRow_nil _ _ _ _, by simp⟩
  | some t =>
    have ht := List.mem_of_find?_eq_some hf
    refine ⟨h.rows t ht, ?_⟩
    simp only [Option.map_some]
    clear hf e1 e2 h
    induction T with
    | nil => cases ht
    | cons x T ih =>
      simp only [List.map_cons, List.sum_cons]
      rcases List.mem_cons.1 ht with rfl | ht
      · omega
      · have := ih ht; omega

theorem Try.info40b : (Try.prog.info? 40).map (fun i => (i.zero, i.size, i.bytes)) = some (some (.agg (encL ⟨0, 0, 0, 0, 0, 0, ⟨#[]⟩, ⟨#[]⟩, false, 0, 0, 0, 0, 0, 0, 0, 0, 0, 0, 0⟩).toArray), 20, 176) := by kernel_rfl
theorem und22 : Try.prog.underlying 22 = some (.slice 40) := by kernel_rfl

end Go.Proofs.Ytiicfpjblfohkaa
