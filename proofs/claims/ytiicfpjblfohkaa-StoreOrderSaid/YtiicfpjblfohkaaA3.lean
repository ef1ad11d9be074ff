/- Whether a write is right, and whether a column covers it: what the testing functions answer. -/
import Derived.Test.YtiicfpjblfohkaaA2

namespace Go.Proofs.Ytiicfpjblfohkaa
open Go.RowKit Go.Flow
attribute [local irreducible] wpQuiet

def chainB (a b : Int) : Bool := decide (0 ≤ a ∧ a < 3 ∧ 0 ≤ b ∧ b < 3)
def stampB (c a b : Int) : Bool := decide (1 ≤ c ∧ c ≤ 1099511627776 ∧ 0 ≤ a ∧ a < 3 ∧ 0 ≤ b ∧ b < 3)
def okN (n : Int) : Bool := decide (0 ≤ n ∧ n ≤ 1099511627776)
def vecB (d00 d01 d02 d10 d11 d12 d20 d21 d22 : Int) : Bool := okN d00 && okN d01 && okN d02 && okN d10 && okN d11 && okN d12 && okN d20 && okN d21 && okN d22
/-- A number of the nine, by place. -/
def nine (d00 d01 d02 d10 d11 d12 d20 d21 d22 : Int) (i j : Int) : Int :=
  if i = 0 then (if j = 0 then d00 else if j = 1 then d01 else d02) else if i = 1 then (if j = 0 then d10 else if j = 1 then d11 else d12) else (if j = 0 then d20 else if j = 1 then d21 else d22)

set_option maxHeartbeats 400000 in
theorem chain_any (a b : Int) (w : World) :
    Calls Try.prog 42 #[.int .i64 a, .int .i64 b] w fun e w' => e = .returned (.bool (chainB a b)) ∧ w = w' := by
  go_enter Try.func42, Try.ntmps42
  go_wp2
  all_goals
    go_ret
    refine ⟨ret_bool ?_, rfl⟩
    go_light
    simp [chainB, *]
    try omega

set_option maxHeartbeats 400000 in
theorem stampRight_any (c a b : Int) (w : World) :
    Calls Try.prog 43 #[.agg #[.int .i64 c, .int .i64 a, .int .i64 b]] w fun e w' => e = .returned (.bool (stampB c a b)) ∧ Grow w w' := by
  go_enter Try.func43, Try.ntmps43
  go_wp2
  all_goals
    go_ret
    refine ⟨ret_bool ?_, (Grow.refl _).alloc _⟩
    go_light
    simp [stampB, *]
    try omega

set_option maxRecDepth 100000 in
set_option maxHeartbeats 4000000 in
theorem vecRight_any (d00 d01 d02 d10 d11 d12 d20 d21 d22 : Int) (w : World) :
    Calls Try.prog 44 #[.agg #[.int .i64 d00, .int .i64 d01, .int .i64 d02, .int .i64 d10, .int .i64 d11, .int .i64 d12, .int .i64 d20, .int .i64 d21, .int .i64 d22]] w fun e w' =>
      e = .returned (.bool (vecB d00 d01 d02 d10 d11 d12 d20 d21 d22)) ∧ Grow w w' := by
  have i0 : ∀ w, (Instr.index 38 (.agg #[.int .i64 d00, .int .i64 d01, .int .i64 d02, .int .i64 d10, .int .i64 d11, .int .i64 d12, .int .i64 d20, .int .i64 d21, .int .i64 d22]) (.int .i64 0)).run Try.prog w = .ok (.agg #[.int .i64 d00, .int .i64 d01, .int .i64 d02]) w := fun _ => by kernel_rfl
  have i1 : ∀ w, (Instr.index 38 (.agg #[.int .i64 d00, .int .i64 d01, .int .i64 d02, .int .i64 d10, .int .i64 d11, .int .i64 d12, .int .i64 d20, .int .i64 d21, .int .i64 d22]) (.int .i64 1)).run Try.prog w = .ok (.agg #[.int .i64 d10, .int .i64 d11, .int .i64 d12]) w := fun _ => by kernel_rfl
  have i2 : ∀ w, (Instr.index 38 (.agg #[.int .i64 d00, .int .i64 d01, .int .i64 d02, .int .i64 d10, .int .i64 d11, .int .i64 d12, .int .i64 d20, .int .i64 d21, .int .i64 d22]) (.int .i64 2)).run Try.prog w = .ok (.agg #[.int .i64 d20, .int .i64 d21, .int .i64 d22]) w := fun _ => by kernel_rfl
  have j0 : ∀ x0 x1 x2 w, (Instr.index 25 (.agg #[x0, x1, x2]) (.int .i64 0)).run Try.prog w = .ok x0 w := fun _ _ _ _ => by kernel_rfl
  have j1 : ∀ x0 x1 x2 w, (Instr.index 25 (.agg #[x0, x1, x2]) (.int .i64 1)).run Try.prog w = .ok x1 w := fun _ _ _ _ => by kernel_rfl
  have j2 : ∀ x0 x1 x2 w, (Instr.index 25 (.agg #[x0, x1, x2]) (.int .i64 2)).run Try.prog w = .ok x2 w := fun _ _ _ _ => by kernel_rfl
  go_enter Try.func44, Try.ntmps44
  go_wp2
  repeat any_goals (first | (refine wp_loop_rounds 4 ?_; rw [rounds_succ]; go_wp2) | (rw [rounds_succ]; go_wp2))
  all_goals
    clear i0 i1 i2 j0 j1 j2
    go_ret
    refine ⟨ret_bool ?_, ?_⟩
    focus
      go_light
      simp [vecB, okN, *]
      try omega
    (repeat' (first | exact Grow.refl _ | with_reducible assumption | (apply Grow.trans; rotate_left; focus with_reducible assumption) | refine Grow.alloc ?_ _ | refine Grow.drew ?_ | (refine Grow.setCell ?_ (by first | (simp; done) | (simp; omega)) _)))

/-- A column's number of a datacenter. -/
def colAt (m0 m1 m2 : Int) (dc : Int) : Int := if dc = 0 then m0 else if dc = 1 then m1 else m2
def coveredB (m0 m1 m2 : Int) (e : Ent) : Bool := decide (e.seq ≤ colAt m0 m1 m2 e.dc)

set_option maxHeartbeats 1000000 in
theorem covered_at (m0 m1 m2 : Int) (e : Ent) (w : World) (h : e.dc = 0 ∨ e.dc = 1 ∨ e.dc = 2) :
    Calls Try.prog 35 #[.agg #[.int .i64 m0, .int .i64 m1, .int .i64 m2], encE e] w fun r w' => r = .returned (.bool (coveredB m0 m1 m2 e)) ∧ Grow w w' := by
  obtain ⟨dc, rng, seq, cnt, sdc, srng, key, value, dead, d00, d01, d02, d10, d11, d12, d20, d21, d22, client, op⟩ := e
  simp only at h
  rcases h with rfl | rfl | rfl
  all_goals
    go_enter Try.func35, Try.ntmps35
    go_wp2
    refine wp_region_growAll (by kernel_rfl) (by kernel_rfl) ?_
    repeat (first
        | (refine quiet_skip rfl ?_; simp only [Act.put, List.setIfInBounds_toArray, List.set_cons_zero, List.set_cons_succ])
        | (apply quiet_op rfl
           focus
             intro w' hw'
             have hc := gcell (w.heap.size + 2) hw' (by first | with_reducible assumption | (simp; done) | (simp; omega) | omega)
             go_simp
             first
               | (done)
               | (exact rfl)
           simp only [Act.put, List.setIfInBounds_toArray, List.set_cons_zero, List.set_cons_succ]))
    refine wpQuiet_nil ?_
    intro w1 hw1
    have hNw1 : w.heap.size + 2 ≤ w1.heap.size := Nat.le_trans (by first | with_reducible assumption | (simp; done) | (simp; omega)) hw1.size
    have hcw1 := gcell (w.heap.size + 2) hw1 (by first | with_reducible assumption | (simp; done) | (simp; omega))
    go_wp2
    go_ret
    exact ⟨ret_bool (by simp [coveredB, colAt]), ((Grow.refl _).alloc _ |>.alloc _).trans hw1⟩

def keyOk (k : ByteArray) : Bool := decide (1 ≤ (k.size : Int)) && decide ((k.size : Int) ≤ 16)
def entB (e : Ent) : Bool :=
  chainB e.dc e.rng && decide (1 ≤ e.seq ∧ e.seq ≤ 1099511627776) && stampB e.cnt e.sdc e.srng && decide (e.sdc = e.dc ∧ e.srng = e.rng) && keyOk e.key && decide ((e.value.size : Int) ≤ 32) && (!e.dead || e.value.toList.isEmpty) &&
  vecB e.d00 e.d01 e.d02 e.d10 e.d11 e.d12 e.d20 e.d21 e.d22 && decide (nine e.d00 e.d01 e.d02 e.d10 e.d11 e.d12 e.d20 e.d21 e.d22 e.dc e.rng = e.seq - 1) && decide (0 ≤ e.client ∧ e.client < 4 ∧ 1 ≤ e.op ∧ e.op ≤ 1099511627776)

theorem vecRight_is (d00 d01 d02 d10 d11 d12 d20 d21 d22 : Int) (w : World) (b : Bool) (h : vecB d00 d01 d02 d10 d11 d12 d20 d21 d22 = b) :
    Calls Try.prog 44 #[.agg #[.int .i64 d00, .int .i64 d01, .int .i64 d02, .int .i64 d10, .int .i64 d11, .int .i64 d12, .int .i64 d20, .int .i64 d21, .int .i64 d22]] w fun e w' =>
      e = .returned (.bool b) ∧ Grow w w' := by subst h; exact vecRight_any _ _ _ _ _ _ _ _ _ _
theorem chain_is (x y : Int) (w : World) (b : Bool) (h : chainB x y = b) : Calls Try.prog 42 #[.int .i64 x, .int .i64 y] w fun e w' => e = .returned (.bool b) ∧ w = w' := by subst h; exact chain_any _ _ _
theorem stampRight_is (x y z : Int) (w : World) (b : Bool) (h : stampB x y z = b) : Calls Try.prog 43 #[.agg #[.int .i64 x, .int .i64 y, .int .i64 z]] w fun e w' => e = .returned (.bool b) ∧ Grow w w' := by subst h; exact stampRight_any _ _ _ _
theorem three_of_chain {a b : Int} (h : chainB a b = true) : (a = 0 ∨ a = 1 ∨ a = 2) ∧ (b = 0 ∨ b = 1 ∨ b = 2) := by
  simp [chainB] at h; omega

set_option maxHeartbeats 2000000 in
theorem rightEntry_a (e : Ent) (w : World) (hch : chainB e.dc e.rng = false) :
    Calls Try.prog 14 #[encE e] w fun r w' => r = .returned (.bool (entB e)) ∧ Grow w w' := by
  go_enter Try.func14, Try.ntmps14
  go_wp2_with (first | (go_at_call 42; refine (chain_is _ _ _ _ hch).mono ?_; rintro e w2 ⟨rfl, rfl⟩))
  go_ret
  exact ⟨ret_bool (by simp [entB, hch]), (Grow.refl _).alloc _ |>.alloc _⟩

set_option maxHeartbeats 4000000 in
theorem rightEntry_b (e : Ent) (w : World) (hch : chainB e.dc e.rng = true) (hst : stampB e.cnt e.sdc e.srng = false) :
    Calls Try.prog 14 #[encE e] w fun r w' => r = .returned (.bool (entB e)) ∧ Grow w w' := by
  obtain ⟨dc, rng, seq, cnt, sdc, srng, key, value, dead, d00, d01, d02, d10, d11, d12, d20, d21, d22, client, op⟩ := e
  simp only at hch hst
  go_enter Try.func14, Try.ntmps14
  go_wp2_with (first | (go_at_call 42; refine (chain_is _ _ _ _ hch).mono ?_; rintro e w2 ⟨rfl, rfl⟩) | (go_at_call 43; refine (stampRight_is _ _ _ _ _ hst).mono ?_; rintro e w2 ⟨rfl, hw2⟩; have hN2 : w.heap.size + 2 ≤ w2.heap.size := Nat.le_trans (by first | with_reducible assumption | (simp; done) | (simp; omega)) hw2.size; have hc2 := gcell (w.heap.size + 2) hw2 (by first | with_reducible assumption | (simp; done) | (simp; omega))))
  all_goals
      go_ret
      refine ⟨ret_bool ?_, ?_⟩
      focus
        go_light
        simp [entB, hch, hst]
        try omega
      (repeat' (first | exact Grow.refl _ | with_reducible assumption | (apply Grow.trans; rotate_left; focus with_reducible assumption) | refine Grow.alloc ?_ _ | refine Grow.drew ?_ | (refine Grow.setCell ?_ (by first | (simp; done) | (simp; omega)) _)))

set_option maxHeartbeats 20000000 in
theorem rightEntry_c (e : Ent) (w : World) (hch : chainB e.dc e.rng = true) (hst : stampB e.cnt e.sdc e.srng = true)
    (hve : vecB e.d00 e.d01 e.d02 e.d10 e.d11 e.d12 e.d20 e.d21 e.d22 = false) :
    Calls Try.prog 14 #[encE e] w fun r w' => r = .returned (.bool (entB e)) ∧ Grow w w' := by
  obtain ⟨dc, rng, seq, cnt, sdc, srng, key, value, dead, d00, d01, d02, d10, d11, d12, d20, d21, d22, client, op⟩ := e
  simp only at hch hst hve
  go_enter Try.func14, Try.ntmps14
  go_wp2_with (first | (go_at_call 42; refine (chain_is _ _ _ _ hch).mono ?_; rintro e w2 ⟨rfl, rfl⟩) | (go_at_call 43; refine (stampRight_is _ _ _ _ _ hst).mono ?_; rintro e w2 ⟨rfl, hw2⟩; have hN2 : w.heap.size + 2 ≤ w2.heap.size := Nat.le_trans (by first | with_reducible assumption | (simp; done) | (simp; omega)) hw2.size; have hc2 := gcell (w.heap.size + 2) hw2 (by first | with_reducible assumption | (simp; done) | (simp; omega))))
  all_goals try (
         go_ret
         refine ⟨ret_bool ?_, ?_⟩
         focus
           go_light
           first | (simp [entB, keyOk, *]; done) | (simp [entB, keyOk, *]; omega) | (simp_all [entB, keyOk]; done) | (simp_all [entB, keyOk]; omega)
         (repeat' (first | exact Grow.refl _ | with_reducible assumption | (apply Grow.trans; rotate_left; focus with_reducible assumption) | refine Grow.alloc ?_ _ | refine Grow.drew ?_ | (refine Grow.setCell ?_ (by first | (simp; done) | (simp; omega)) _))))
  all_goals
      refine wp_region_growAll (by kernel_rfl) (by kernel_rfl) ?_
      repeat (first
          | (refine quiet_skip rfl ?_; simp only [Act.put, List.setIfInBounds_toArray, List.set_cons_zero, List.set_cons_succ])
          | (apply quiet_op rfl
             focus
               intro w' hw'
               have hc := gcell (w.heap.size + 2) hw' (by first | with_reducible assumption | (simp; done) | (simp; omega) | omega)
               go_simp
               first
                 | (done)
                 | (exact rfl)
                 | (go_at_call 44; refine (vecRight_is _ _ _ _ _ _ _ _ _ _ _ hve).mono ?_; rintro e w2 ⟨rfl, hg2⟩; exact ⟨rfl, hw'.trans hg2⟩)
             simp only [Act.put, List.setIfInBounds_toArray, List.set_cons_zero, List.set_cons_succ]))
      refine wpQuiet_nil ?_
      intro w1 hw1
      have hNw1 : w.heap.size + 2 ≤ w1.heap.size := Nat.le_trans (by first | with_reducible assumption | (simp; done) | (simp; omega)) hw1.size
      have hcw1 := gcell (w.heap.size + 2) hw1 (by first | with_reducible assumption | (simp; done) | (simp; omega))
      go_wp2
      go_ret
      refine ⟨ret_bool (by simp [entB, hve]), ?_⟩
      (repeat' (first | exact Grow.refl _ | with_reducible assumption | (apply Grow.trans; rotate_left; focus with_reducible assumption) | refine Grow.alloc ?_ _ | refine Grow.drew ?_ | (refine Grow.setCell ?_ (by first | (simp; done) | (simp; omega)) _)))

set_option maxHeartbeats 20000000 in
theorem rightEntry_d (e : Ent) (w : World) (hch : chainB e.dc e.rng = true) (hst : stampB e.cnt e.sdc e.srng = true)
    (hve : vecB e.d00 e.d01 e.d02 e.d10 e.d11 e.d12 e.d20 e.d21 e.d22 = true) :
    Calls Try.prog 14 #[encE e] w fun r w' => r = .returned (.bool (entB e)) ∧ Grow w w' := by
  obtain ⟨dc, rng, seq, cnt, sdc, srng, key, value, dead, d00, d01, d02, d10, d11, d12, d20, d21, d22, client, op⟩ := e
  simp only at hch hst hve
  obtain ⟨h3, h4⟩ := three_of_chain hch
  go_enter Try.func14, Try.ntmps14
  go_wp2_with (first | (go_at_call 42; refine (chain_is _ _ _ _ hch).mono ?_; rintro e w2 ⟨rfl, rfl⟩) | (go_at_call 43; refine (stampRight_is _ _ _ _ _ hst).mono ?_; rintro e w2 ⟨rfl, hw2⟩; have hN2 : w.heap.size + 2 ≤ w2.heap.size := Nat.le_trans (by first | with_reducible assumption | (simp; done) | (simp; omega)) hw2.size; have hc2 := gcell (w.heap.size + 2) hw2 (by first | with_reducible assumption | (simp; done) | (simp; omega))))
  all_goals try (
         go_ret
         refine ⟨ret_bool ?_, ?_⟩
         focus
           go_light
           first | (simp [entB, keyOk, *]; done) | (simp [entB, keyOk, *]; omega) | (simp_all [entB, keyOk]; done) | (simp_all [entB, keyOk]; omega)
         (repeat' (first | exact Grow.refl _ | with_reducible assumption | (apply Grow.trans; rotate_left; focus with_reducible assumption) | refine Grow.alloc ?_ _ | refine Grow.drew ?_ | (refine Grow.setCell ?_ (by first | (simp; done) | (simp; omega)) _))))
  all_goals try (
         go_ret
         refine ⟨ret_bool ?_, ?_⟩
         focus
           go_light
           clear hch hst hve h3 h4
           rename_i h
           rcases h with ((h | h) | h) | h
           all_goals first | (simp_all [entB, keyOk]; done) | (simp_all [entB, keyOk]; omega) | grind [entB, keyOk]
         (repeat' (first | exact Grow.refl _ | with_reducible assumption | (apply Grow.trans; rotate_left; focus with_reducible assumption) | refine Grow.alloc ?_ _ | refine Grow.drew ?_ | (refine Grow.setCell ?_ (by first | (simp; done) | (simp; omega)) _))))
  all_goals
    have hwr : IntKind.i64.wrap (seq - 1) = seq - 1 := IntWalk.i64_in _ (by omega)
    rcases h3 with rfl | rfl | rfl <;> rcases h4 with rfl | rfl | rfl
  all_goals
      refine wp_region_growAll (by kernel_rfl) (by kernel_rfl) ?_
      repeat (first
          | (refine quiet_skip rfl ?_; simp only [Act.put, List.setIfInBounds_toArray, List.set_cons_zero, List.set_cons_succ])
          | (apply quiet_op rfl
             focus
               intro w' hw'
               have hc := gcell (w.heap.size + 2) hw' (by first | with_reducible assumption | (simp; done) | (simp; omega) | omega)
               go_simp
               first
                 | (done)
                 | (exact rfl)
                 | (go_at_call 44; refine (vecRight_is _ _ _ _ _ _ _ _ _ _ _ hve).mono ?_; rintro e w2 ⟨rfl, hg2⟩; exact ⟨rfl, hw'.trans hg2⟩)
             simp only [Act.put, List.setIfInBounds_toArray, List.set_cons_zero, List.set_cons_succ]))
      refine wpQuiet_nil ?_
      intro w1 hw1
      have hNw1 : w.heap.size + 2 ≤ w1.heap.size := Nat.le_trans (by first | with_reducible assumption | (simp; done) | (simp; omega)) hw1.size
      have hcw1 := gcell (w.heap.size + 2) hw1 (by first | with_reducible assumption | (simp; done) | (simp; omega))
      go_wp2
  all_goals
    clear hwr
    go_ret
    refine ⟨ret_bool ?_, ?_⟩
    focus
      clear hw2 hc2 hN2 hw1 hNw1 hcw1
      go_light
      first | (simp_all [entB, keyOk, nine]; done) | (simp_all [entB, keyOk, nine]; omega) | grind [entB, keyOk, nine]
    (repeat' (first | exact Grow.refl _ | with_reducible assumption | (apply Grow.trans; rotate_left; focus with_reducible assumption) | refine Grow.alloc ?_ _ | refine Grow.drew ?_ | (refine Grow.setCell ?_ (by first | (simp; done) | (simp; omega)) _)))

theorem rightEntry_any (e : Ent) (w : World) :
    Calls Try.prog 14 #[encE e] w fun r w' => r = .returned (.bool (entB e)) ∧ Grow w w' := by
  cases hch : chainB e.dc e.rng
  · exact rightEntry_a e w hch
  cases hst : stampB e.cnt e.sdc e.srng
  · exact rightEntry_b e w hch hst
  cases hve : vecB e.d00 e.d01 e.d02 e.d10 e.d11 e.d12 e.d20 e.d21 e.d22
  · exact rightEntry_c e w hch hst hve
  · exact rightEntry_d e w hch hst hve

end Go.Proofs.Ytiicfpjblfohkaa
