/- The order of stamps and of writes: what the comparing functions answer. -/
import Derived.Test.YtiicfpjblfohkaaRows
import Derived.Test.YtiicfpjblfohkaaFlow
import Derived.WalkKit
import Derived.WalkSpells
import Derived.WalkLawsBesides
import Derived.BigQuiet
import Derived.LoopN
import Derived.Deep.Light
namespace Go.Proofs.Ytiicfpjblfohkaa
open Go.RowKit Go.Flow
attribute [local irreducible] wpQuiet

theorem ret_int {k : IntKind} {a b : Int} (h : a = b) : Ending.returned (.int k a) = .returned (.int k b) := by rw [h]
theorem ret_bool {a b : Bool} (h : a = b) : Ending.returned (.bool a) = .returned (.bool b) := by rw [h]
def cmpI (a b : Int) : Int := if a < b then -1 else if b < a then 1 else 0

set_option maxHeartbeats 400000 in
theorem isNaN_any (a : Int) (w : World) :
    Calls Try.prog 64 #[.int .i64 a] w fun e w' => e = .returned (.bool false) ∧ w = w' := by
  go_enter Try.func64, Try.ntmps64
  go_wp2
  go_ret
  exact ⟨by simp, rfl⟩

set_option maxHeartbeats 400000 in
theorem compare_any (a b : Int) (w : World) :
    Calls Try.prog 41 #[.int .i64 a, .int .i64 b] w fun e w' => e = .returned (.int .i64 (cmpI a b)) ∧ w = w' := by
  go_enter Try.func41, Try.ntmps41
  go_wp2_with (go_at_call 64; refine (isNaN_any _ _).mono ?_; rintro e w' ⟨rfl, rfl⟩)
  all_goals
    go_ret
    exact ⟨by unfold cmpI; simp [*]; try omega, rfl⟩

def or2I (x y : Int) : Int := if x ≠ 0 then x else y
def or3I (x y z : Int) : Int := if x ≠ 0 then x else if y ≠ 0 then y else z
def cmpSt (c a b c' a' b' : Int) : Int := or3I (cmpI c c') (cmpI a a') (cmpI b b')

set_option maxHeartbeats 400000 in
theorem or2_any (blk : Nat) (x y : Int) (w : World) (h0 : w.cell? ⟨blk, 0, none⟩ = some (.int .i64 x)) (h1 : w.cell? ⟨blk, 1, none⟩ = some (.int .i64 y)) :
    Calls Try.prog 39 #[.slice (some ⟨blk, 0, none⟩) 2 2] w fun e w' => e = .returned (.int .i64 (or2I x y)) ∧ w = w' := by
  go_enter Try.func39, Try.ntmps39
  go_wp2
  refine wp_loop_rounds 3 ?_
  repeat any_goals (rw [rounds_succ]; go_wp2)
  all_goals
    go_ret
    refine ⟨ret_int ?_, rfl⟩
    clear h0 h1
    go_light
    simp_all [or2I]

set_option maxHeartbeats 400000 in
theorem or3_any (blk : Nat) (x y z : Int) (w : World) (h0 : w.cell? ⟨blk, 0, none⟩ = some (.int .i64 x)) (h1 : w.cell? ⟨blk, 1, none⟩ = some (.int .i64 y)) (h2 : w.cell? ⟨blk, 2, none⟩ = some (.int .i64 z)) :
    Calls Try.prog 39 #[.slice (some ⟨blk, 0, none⟩) 3 3] w fun e w' => e = .returned (.int .i64 (or3I x y z)) ∧ w = w' := by
  go_enter Try.func39, Try.ntmps39
  go_wp2
  refine wp_loop_rounds 4 ?_
  repeat any_goals (rw [rounds_succ]; go_wp2)
  all_goals
    go_ret
    refine ⟨ret_int ?_, rfl⟩
    clear h0 h1
    go_light
    simp_all [or3I]

set_option maxHeartbeats 400000 in
theorem stampCmp_any (c a b c' a' b' : Int) (w : World) :
    Calls Try.prog 40 #[.agg #[.int .i64 c, .int .i64 a, .int .i64 b], .agg #[.int .i64 c', .int .i64 a', .int .i64 b']] w fun e w' => e = .returned (.int .i64 (cmpSt c a b c' a' b')) ∧ GrowD w w' := by
  go_enter Try.func40, Try.ntmps40
  go_wp2
  refine wp_region_growD 15 (by kernel_rfl) (by kernel_rfl) ?_
  simp only [List.take_succ_cons, List.take_zero, List.drop_succ_cons, List.drop_zero]
  repeat (first
      | (refine quiet_skip rfl ?_; simp only [Act.put, List.setIfInBounds_toArray, List.set_cons_zero, List.set_cons_succ])
      | (apply quiet_op rfl
         focus
           intro w' hw'
           have hc := gcellD (w.heap.size + 2) hw' (by first | with_reducible assumption | (simp; done) | (simp; omega) | omega)
           go_simp
           first
             | (done)
             | (exact rfl)
             | (go_at_call 41; refine (compare_any _ _ _).mono ?_; rintro e w2 ⟨rfl, rfl⟩; exact ⟨rfl, hw'⟩)
         simp only [Act.put, List.setIfInBounds_toArray, List.set_cons_zero, List.set_cons_succ]))
  refine wpQuiet_nil ?_
  intro w1 hw1
  have hNw1 : w.heap.size + 2 ≤ w1.heap.size := Nat.le_trans (by first | with_reducible assumption | (simp; done) | (simp; omega)) hw1.size
  have hcw1 := gcellD (w.heap.size + 2) hw1 (by first | with_reducible assumption | (simp; done) | (simp; omega))
  go_wp2_with (go_at_call 39; refine (or3_any _ (cmpI c c') (cmpI a a') (cmpI b b') _ (by go_simp) (by go_simp) (by go_simp)).mono ?_; rintro e w2 ⟨rfl, rfl⟩)
  go_ret
  exact ⟨rfl, ((GrowD.refl _).alloc _ |>.alloc _).trans (hw1.alloc _)⟩

/-- A write, by its twenty cells. -/
structure Ent where
  dc : Int
  rng : Int
  seq : Int
  cnt : Int
  sdc : Int
  srng : Int
  key : ByteArray
  value : ByteArray
  dead : Bool
  d00 : Int
  d01 : Int
  d02 : Int
  d10 : Int
  d11 : Int
  d12 : Int
  d20 : Int
  d21 : Int
  d22 : Int
  client : Int
  op : Int
instance : Inhabited Ent := ⟨⟨0, 0, 0, 0, 0, 0, ByteArray.empty, ByteArray.empty, false, 0, 0, 0, 0, 0, 0, 0, 0, 0, 0, 0⟩⟩
@[reducible] def encL (e : Ent) : List Value := [.int .i64 e.dc, .int .i64 e.rng, .int .i64 e.seq, .int .i64 e.cnt, .int .i64 e.sdc, .int .i64 e.srng, .string e.key, .string e.value, .bool e.dead,
  .int .i64 e.d00, .int .i64 e.d01, .int .i64 e.d02, .int .i64 e.d10, .int .i64 e.d11, .int .i64 e.d12, .int .i64 e.d20, .int .i64 e.d21, .int .i64 e.d22, .int .i64 e.client, .int .i64 e.op]
@[reducible] def encE (e : Ent) : Value := .agg (encL e).toArray

/-- The order of versions: by stamp, then by number. -/
def cmpE (a b : Ent) : Int := or2I (cmpSt a.cnt a.sdc a.srng b.cnt b.sdc b.srng) (cmpI a.seq b.seq)

set_option maxHeartbeats 1000000 in
theorem putCmp_any (a b : Ent) (w : World) :
    Calls Try.prog 38 #[encE a, encE b] w fun e w' => e = .returned (.int .i64 (cmpE a b)) ∧ GrowD w w' := by
  go_enter Try.func38, Try.ntmps38
  go_wp2
  refine wp_region_growD 12 (by kernel_rfl) (by kernel_rfl) ?_
  simp only [List.take_succ_cons, List.take_zero, List.drop_succ_cons, List.drop_zero]
  repeat (first
      | (refine quiet_skip rfl ?_; simp only [Act.put, List.setIfInBounds_toArray, List.set_cons_zero, List.set_cons_succ])
      | (apply quiet_op rfl
         focus
           intro w' hw'
           have hc := gcellD (w.heap.size + 2) hw' (by first | with_reducible assumption | (simp; done) | (simp; omega) | omega)
           go_simp
           first
             | (done)
             | (exact rfl)
             | (go_at_call 41; refine (compare_any _ _ _).mono ?_; rintro e w2 ⟨rfl, rfl⟩; exact ⟨rfl, hw'⟩)
             | (go_at_call 40; refine (stampCmp_any _ _ _ _ _ _ _).mono ?_; rintro e w2 ⟨rfl, hg2⟩; exact ⟨rfl, hw'.trans hg2⟩)
         simp only [Act.put, List.setIfInBounds_toArray, List.set_cons_zero, List.set_cons_succ]))
  refine wpQuiet_nil ?_
  intro w1 hw1
  have hNw1 : w.heap.size + 2 ≤ w1.heap.size := Nat.le_trans (by first | with_reducible assumption | (simp; done) | (simp; omega)) hw1.size
  have hcw1 := gcellD (w.heap.size + 2) hw1 (by first | with_reducible assumption | (simp; done) | (simp; omega))
  go_wp2_with (go_at_call 39; refine (or2_any _ (cmpSt a.cnt a.sdc a.srng b.cnt b.sdc b.srng) (cmpI a.seq b.seq) _ (by go_simp) (by go_simp)).mono ?_; rintro e w2 ⟨rfl, rfl⟩)
  go_ret
  exact ⟨rfl, ((GrowD.refl _).alloc _ |>.alloc _).trans (hw1.alloc _)⟩

end Go.Proofs.Ytiicfpjblfohkaa
