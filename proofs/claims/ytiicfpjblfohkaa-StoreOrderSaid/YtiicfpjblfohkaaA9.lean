/- CoversCol: what it answers. -/
import Derived.Test.YtiicfpjblfohkaaA3
namespace Go.Proofs.Ytiicfpjblfohkaa
open Go.RowKit Go.Flow
attribute [local irreducible] wpQuiet

def covB (a0 a1 a2 b0 b1 b2 : Int) : Bool := decide (b0 ≤ a0) && decide (b1 ≤ a1) && decide (b2 ≤ a2)

set_option maxRecDepth 100000 in
set_option maxHeartbeats 2000000 in
theorem coversCol_any (a0 a1 a2 b0 b1 b2 : Int) (w : World) :
    Calls Try.prog 46 #[.agg #[.int .i64 a0, .int .i64 a1, .int .i64 a2], .agg #[.int .i64 b0, .int .i64 b1, .int .i64 b2]] w fun e w' => e = .returned (.bool (covB a0 a1 a2 b0 b1 b2)) ∧ Grow w w' := by
  go_enter Try.func46, Try.ntmps46
  go_wp2
  refine wp_loop_rounds 4 ?_
  rw [rounds_succ]
  go_wp2
  refine wp_region_growAll (by kernel_rfl) (by kernel_rfl) ?_
  repeat (first
      | (refine quiet_skip rfl ?_; simp only [Act.put, List.setIfInBounds_toArray, List.set_cons_zero, List.set_cons_succ])
      | (apply quiet_op rfl
         focus
           intro w' hw'
           have hc := gcell (w.heap.size + 2) hw' (by first | with_reducible assumption | (simp; done) | (simp; omega) | omega)
           go_simp
           first
             | (done)
             | (exact rfl)
         simp only [Act.put, List.setIfInBounds_toArray, List.set_cons_zero, List.set_cons_succ]))
  refine wpQuiet_nil ?_
  intro w1 hw1
  have hNw1 : w.heap.size + 2 ≤ w1.heap.size := Nat.le_trans (by first | with_reducible assumption | (simp; done) | (simp; omega)) hw1.size
  have hcw1 := gcell (w.heap.size + 2) hw1 (by first | with_reducible assumption | (simp; done) | (simp; omega))
  go_wp2
  · go_ret
    exact ⟨ret_bool (by simp [covB]; omega), (((Grow.refl _).alloc _).alloc _).trans hw1⟩
  rw [rounds_succ]
  go_wp2
  refine wp_region_growAll (by kernel_rfl) (by kernel_rfl) ?_
  repeat (first
      | (refine quiet_skip rfl ?_; simp only [Act.put, List.setIfInBounds_toArray, List.set_cons_zero, List.set_cons_succ])
      | (apply quiet_op rfl
         focus
           intro w' hw'
           have hc := gcell (w.heap.size + 2) hw' (by first | with_reducible assumption | (simp; done) | (simp; omega) | omega)
           go_simp
           first
             | (done)
             | (exact rfl)
         simp only [Act.put, List.setIfInBounds_toArray, List.set_cons_zero, List.set_cons_succ]))
  refine wpQuiet_nil ?_
  intro w2 hw2
  have hNw2 : w.heap.size + 2 ≤ w2.heap.size := Nat.le_trans (by first | with_reducible assumption | (simp; done) | (simp; omega)) hw2.size
  have hcw2 := gcell (w.heap.size + 2) hw2 (by first | with_reducible assumption | (simp; done) | (simp; omega))
  go_wp2
  · go_ret
    exact ⟨ret_bool (by simp [covB]; omega), ((((Grow.refl _).alloc _).alloc _).trans hw1).trans hw2⟩
  rw [rounds_succ]
  go_wp2
  refine wp_region_growAll (by kernel_rfl) (by kernel_rfl) ?_
  repeat (first
      | (refine quiet_skip rfl ?_; simp only [Act.put, List.setIfInBounds_toArray, List.set_cons_zero, List.set_cons_succ])
      | (apply quiet_op rfl
         focus
           intro w' hw'
           have hc := gcell (w.heap.size + 2) hw' (by first | with_reducible assumption | (simp; done) | (simp; omega) | omega)
           go_simp
           first
             | (done)
             | (exact rfl)
         simp only [Act.put, List.setIfInBounds_toArray, List.set_cons_zero, List.set_cons_succ]))
  refine wpQuiet_nil ?_
  intro w3 hw3
  have hNw3 : w.heap.size + 2 ≤ w3.heap.size := Nat.le_trans (by first | with_reducible assumption | (simp; done) | (simp; omega)) hw3.size
  have hcw3 := gcell (w.heap.size + 2) hw3 (by first | with_reducible assumption | (simp; done) | (simp; omega))
  go_wp2
  · go_ret
    exact ⟨ret_bool (by simp [covB]; omega), (((((Grow.refl _).alloc _).alloc _).trans hw1).trans hw2).trans hw3⟩
  rw [rounds_succ]
  go_wp2
  go_ret
  exact ⟨ret_bool (by simp [covB]; omega), (((((Grow.refl _).alloc _).alloc _).trans hw1).trans hw2).trans hw3⟩

theorem coversCol_is (a0 a1 a2 b0 b1 b2 : Int) (w : World) (b : Bool) (h : covB a0 a1 a2 b0 b1 b2 = b) :
    Calls Try.prog 46 #[.agg #[.int .i64 a0, .int .i64 a1, .int .i64 a2], .agg #[.int .i64 b0, .int .i64 b1, .int .i64 b2]] w fun e w' => e = .returned (.bool b) ∧ Grow w w' := by subst h; exact coversCol_any _ _ _ _ _ _ w

end Go.Proofs.Ytiicfpjblfohkaa
