/- Two writes compared by '=='. -/
import Derived.Test.YtiicfpjblfohkaaA4b
import Derived.Laws.StructEq
import Derived.ChangeKeysEq
namespace Go.Proofs.Ytiicfpjblfohkaa
open Go.RowKit Go.Flow

section
variable {w : World} (d : Nat)
theorem eq34 (a b c a' b' c' : Int) : (Op.equalIn (d + 2) 34 (.agg #[.int .i64 a, .int .i64 b, .int .i64 c]) (.agg #[.int .i64 a', .int .i64 b', .int .i64 c'])).run Try.prog w = .ok (a == a' && (b == b' && c == c')) w := by
  go_simp
  repeat' split
  all_goals simp_all
theorem eq36 (a b c a' b' c' : Int) : (Op.equalIn (d + 2) 36 (.agg #[.int .i64 a, .int .i64 b, .int .i64 c]) (.agg #[.int .i64 a', .int .i64 b', .int .i64 c'])).run Try.prog w = .ok (a == a' && (b == b' && c == c')) w := by
  go_simp
  repeat' split
  all_goals simp_all
theorem eqT {t : TypeId} {i : TypeInfo} (hu : Try.prog.underlying t = some (.array 3 3)) (hi : Try.prog.info? 3 = some i) (hc : Try.prog.cellsOf 3 = 1) (a b c a' b' c' : Int) :
    (Op.equalIn (d + 2) t (.agg #[.int .i64 a, .int .i64 b, .int .i64 c]) (.agg #[.int .i64 a', .int .i64 b', .int .i64 c'])).run Try.prog w = .ok (a == a' && (b == b' && c == c')) w := by
  rw [run_equalIn_array w (d + 1) _ _ hu hi, hc]
  simp only [List.range_succ, List.range_zero, List.nil_append, List.cons_append]
  have st : ∀ i is (xs ys : Array Value) w, (Op.eqItems (d + 1) 3 1 xs ys (i :: is)).run Try.prog w = ((part 3 xs (i * 1)).run Try.prog w).andThen fun a w => ((part 3 ys (i * 1)).run Try.prog w).andThen fun b w => ((Op.equalIn (d + 1) 3 a b).run Try.prog w).andThen fun r w => (if (!r) = true then pure false else Op.eqItems (d + 1) 3 1 xs ys is).run Try.prog w := fun _ _ _ _ _ => by
    simp [Op.eqItems, Sem.run_bind]
  have st0 : ∀ (xs ys : Array Value) w, (Op.eqItems (d + 1) 3 1 xs ys []).run Try.prog w = .ok true w := fun _ _ _ => rfl
  rw [st]
  go_simp
  repeat' split
  all_goals simp_all
theorem info3' : ∃ i, Try.prog.info? 3 = some i := Option.isSome_iff_exists.1 (by kernel_rfl)
theorem info25' : ∃ i, Try.prog.info? 25 = some i := Option.isSome_iff_exists.1 (by kernel_rfl)
theorem cells25' : Try.prog.cellsOf 25 = 3 := by kernel_rfl
theorem cells3' : Try.prog.cellsOf 3 = 1 := by kernel_rfl
theorem eq26 (a b c a' b' c' : Int) : (Op.equalIn (d + 2) 26 (.agg #[.int .i64 a, .int .i64 b, .int .i64 c]) (.agg #[.int .i64 a', .int .i64 b', .int .i64 c'])).run Try.prog w = .ok (a == a' && (b == b' && c == c')) w := by
  obtain ⟨i, hi⟩ := info3'
  exact eqT d (by kernel_rfl) hi cells3' a b c a' b' c'
theorem eq25 (a b c a' b' c' : Int) : (Op.equalIn (d + 2) 25 (.agg #[.int .i64 a, .int .i64 b, .int .i64 c]) (.agg #[.int .i64 a', .int .i64 b', .int .i64 c'])).run Try.prog w = .ok (a == a' && (b == b' && c == c')) w := by
  obtain ⟨i, hi⟩ := info3'
  exact eqT d (by kernel_rfl) hi cells3' a b c a' b' c'
theorem eq38 (a0 a1 a2 a3 a4 a5 a6 a7 a8 b0 b1 b2 b3 b4 b5 b6 b7 b8 : Int) : (Op.equalIn (d + 3) 38 (.agg #[.int .i64 a0, .int .i64 a1, .int .i64 a2, .int .i64 a3, .int .i64 a4, .int .i64 a5, .int .i64 a6, .int .i64 a7, .int .i64 a8])
    (.agg #[.int .i64 b0, .int .i64 b1, .int .i64 b2, .int .i64 b3, .int .i64 b4, .int .i64 b5, .int .i64 b6, .int .i64 b7, .int .i64 b8])).run Try.prog w = .ok ((a0 == b0 && (a1 == b1 && a2 == b2)) && ((a3 == b3 && (a4 == b4 && a5 == b5)) && (a6 == b6 && (a7 == b7 && a8 == b8)))) w := by
  obtain ⟨i, hi⟩ := info25'
  rw [run_equalIn_array w (d + 2) _ _ (by kernel_rfl : Try.prog.underlying 38 = some (.array 3 25)) hi, cells25']
  simp only [List.range_succ, List.range_zero, List.nil_append, List.cons_append]
  have st : ∀ i is (xs ys : Array Value) w, (Op.eqItems (d + 2) 25 3 xs ys (i :: is)).run Try.prog w = ((part 25 xs (i * 3)).run Try.prog w).andThen fun a w => ((part 25 ys (i * 3)).run Try.prog w).andThen fun b w => ((Op.equalIn (d + 2) 25 a b).run Try.prog w).andThen fun r w => (if (!r) = true then pure false else Op.eqItems (d + 2) 25 3 xs ys is).run Try.prog w := fun _ _ _ _ _ => by
    simp [Op.eqItems, Sem.run_bind]
  have st0 : ∀ (xs ys : Array Value) w, (Op.eqItems (d + 2) 25 3 xs ys []).run Try.prog w = .ok true w := fun _ _ _ => rfl
  have h25 := @eq25
  rw [st]
  go_simp
  repeat' split
  all_goals first | (simp_all; done) | grind

def eqE (a b : Ent) : Bool :=
  (a.dc == b.dc && (a.rng == b.rng && a.seq == b.seq)) && ((a.cnt == b.cnt && (a.sdc == b.sdc && a.srng == b.srng)) && ((a.key.toList == b.key.toList) && ((a.value.toList == b.value.toList) && ((a.dead == b.dead) &&
    (((a.d00 == b.d00 && (a.d01 == b.d01 && a.d02 == b.d02)) && ((a.d10 == b.d10 && (a.d11 == b.d11 && a.d12 == b.d12)) && (a.d20 == b.d20 && (a.d21 == b.d21 && a.d22 == b.d22)))) && (a.client == b.client && a.op == b.op))))))

theorem run_eql_ent (a b : Ent) : (binOp .eql 40 (encE a) (encE b)).run Try.prog w = .ok (.bool (eqE a b)) w := by
  have h34 := @eq34
  have h36 := @eq36
  have h38 := @eq38
  go_simp
  unfold eqE
  repeat' split
  all_goals first | (simp_all; done) | grind
end

theorem toList_inj {a b : ByteArray} (h : a.toList = b.toList) : a = b := by
  rw [ByteArray.toList_eq, ByteArray.toList_eq] at h
  obtain ⟨⟨x⟩⟩ := a
  obtain ⟨⟨y⟩⟩ := b
  simp at h
  rw [h]
theorem eqE_iff (a b : Ent) : eqE a b = true ↔ a = b := by
  constructor
  · intro h
    unfold eqE at h
    simp only [Bool.and_eq_true, beq_iff_eq] at h
    obtain ⟨⟨h1, h2, h3⟩, ⟨h4, h5, h6⟩, h7, h8, h9, ⟨⟨h10, h11, h12⟩, ⟨h13, h14, h15⟩, h16, h17, h18⟩, h19, h20⟩ := h
    obtain ⟨⟩ := a
    obtain ⟨⟩ := b
    simp only at *
    have := toList_inj h7
    have := toList_inj h8
    simp_all
  · rintro rfl
    simp [eqE]
instance : DecidableEq Ent := fun a b => decidable_of_iff _ (eqE_iff a b)
theorem eqE_decide (a b : Ent) : eqE a b = decide (a = b) := by
  rw [Bool.eq_iff_iff, eqE_iff]; simp
theorem run_neq_ent (w : World) (a b : Ent) : (binOp .neq 40 (encE a) (encE b)).run Try.prog w = .ok (.bool (!eqE a b)) w := by
  have h := run_eql_ent (w := w) a b
  rw [run_eql_struct] at h
  rw [run_neq_struct]
  generalize (Op.equalIn 10000 40 (encE a) (encE b)).run Try.prog w = r at *
  cases r with
  | ok x w' => simp only [Result.andThen] at h ⊢; cases h; rfl
  | halt x w' => simp only [Result.andThen] at h; cases h
end Go.Proofs.Ytiicfpjblfohkaa
