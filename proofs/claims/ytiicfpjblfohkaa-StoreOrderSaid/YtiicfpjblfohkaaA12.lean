/- words, entries: true of two slices that read alike. -/
import Derived.Test.YtiicfpjblfohkaaA10
import Derived.Test.YtiicfpjblfohkaaA4g
import Derived.Test.YtiicfpjblfohkaaLoose
namespace Go.Proofs.Ytiicfpjblfohkaa
open Go.RowKit Go.Flow
attribute [local irreducible] wpQuiet wpLoose

theorem quiet_exec {P : Program} {C : World → Prop} {w : World} {v : Value} {a : Act} {o : Oper} (h : (execOp a.eval o).run P w = .ok (.value v) w) : Oper.quietUpon P C w v ((execOp a.eval o).run P w) := by
  rw [h]; exact ⟨rfl, rfl⟩

theorem neq_refl (e : Ent) : (!eqE e e) = false := by rw [(eqE_iff e e).2 rfl]; rfl

/-- The value reads as these texts. -/
structure Strs (w : World) (v : Value) (L : List ByteArray) : Prop where
  is : ∃ p cap, v = .slice p L.length cap ∧ (L = [] ∨ ∃ b off, p = some ⟨b, off, none⟩ ∧ (∀ (i : Nat) s, L[i]? = some s → w.cell? ⟨b, off + i, none⟩ = some (.string s)) ∧ b < w.heap.size)
theorem Strs.grow {w w' : World} {v : Value} {L : List ByteArray} (h : Strs w v L) (hg : Grow w w') : Strs w' v L := by
  obtain ⟨p, cap, h1, h2⟩ := h.is
  refine ⟨p, cap, h1, ?_⟩
  rcases h2 with h2 | ⟨b, off, h3, h4, h5⟩
  · exact .inl h2
  · exact .inr ⟨b, off, h3, fun i s hi => (hg.below.cell (p := ⟨b, off + i, none⟩) h5).trans (h4 i s hi), Nat.lt_of_lt_of_le h5 hg.size⟩
theorem Strs.of_row {w : World} {base : Nat} {v : Value} {L : List ByteArray} (h : w.ownsRow base 9 1 v L.length (L.map Value.string)) : Strs w v L := by
  rcases h.2 with ⟨h1, h2⟩ | ⟨g, cap, cur, h1, h2, h3, h4, h5, h6, h7⟩
  · exact ⟨none, 0, by rw [h1, h2], .inl (List.length_eq_zero_iff.1 h2)⟩
  · refine ⟨_, cap, h1, .inr ⟨g, 0, rfl, fun i s hi => ?_, (Array.getElem?_eq_some_iff.1 h3).1⟩⟩
    rw [cell_of_row w g _ cur 9 (0, 0) h3, Nat.zero_add]
    have hil := (List.getElem?_eq_some_iff.1 hi).1
    have h8 : (cur.toList.take (L.length * 1))[i]? = (L.map Value.string)[i]? := by rw [h7]
    rw [List.getElem?_take, if_pos (by omega), List.getElem?_map, hi] at h8
    simpa using h8

set_option maxRecDepth 100000 in
set_option maxHeartbeats 2000000 in
theorem words_same (w : World) (v1 v2 : Value) (L : List ByteArray) (h1 : Strs w v1 L) (h2 : Strs w v2 L) (hl : L.length ≤ 1000000) :
    Calls Try.prog 27 #[v1, v2] w fun r w' => r = .returned (.bool true) ∧ Grow w w' := by
  obtain ⟨p1, c1, rfl, q1⟩ := h1.is
  obtain ⟨p2, c2, rfl, q2⟩ := h2.is
  by_cases h0 : L = []
  · subst h0
    clear h1 h2 q1 q2
    go_enter Try.func27, Try.ntmps27
    go_wp2
    refine wp_loop_rounds 1 ?_
    rw [rounds_succ]
    go_wp2
    go_ret
    exact ⟨rfl, Grow.refl _⟩
  · obtain ⟨b1, o1, rfl, r1, s1⟩ := q1.resolve_left h0
    obtain ⟨b2, o2, rfl, r2, s2⟩ := q2.resolve_left h0
    have HR := Lib.hid (And.intro r1 r2)
    clear h1 h2 q1 q2 r1 r2 h0
    go_enter Try.func27, Try.ntmps27
    go_wp2
    go_loopw [5] (fun i wr => ∃ k : Nat, k ≤ L.length ∧ i = .int .i64 k ∧ Grow w wr) (fun i _ => L.length - (intOf i).toNat)
    case atStart => exact ⟨0, Nat.zero_le _, rfl, Grow.refl _⟩
    case round =>
      obtain ⟨k, hk, rfl, hg⟩ := hrel
      by_cases hlt : k < L.length
      · obtain ⟨s, hs⟩ : ∃ s, L[k]? = some s := ⟨_, List.getElem?_eq_getElem hlt⟩
        have e1 := (hg.below.cell (p := ⟨b1, o1 + k, none⟩) s1).trans (HR.out.1 k s hs)
        have e2 := (hg.below.cell (p := ⟨b2, o2 + k, none⟩) s2).trans (HR.out.2 k s hs)
        have t1 : b1 < wr.heap.size := Nat.lt_of_lt_of_le s1 hg.size
        have t2 : b2 < wr.heap.size := Nat.lt_of_lt_of_le s2 hg.size
        have HG := Lib.hid hg
        clear hg hs
        go_wp2
        refine wp_region_growAll (by kernel_rfl) (by kernel_rfl) ?_
        repeat (first
            | (refine quiet_skip rfl ?_; simp only [Act.put, List.setIfInBounds_toArray, List.set_cons_zero, List.set_cons_succ])
            | (apply quiet_op rfl
               focus
                 intro w' hw'
                 have hc := gcell (wr.heap.size) hw' (by first | with_reducible assumption | (simp; done) | (simp; omega) | omega)
                 go_simp
                 first
                   | (done)
                   | (exact rfl)
               simp only [Act.put, List.setIfInBounds_toArray, List.set_cons_zero, List.set_cons_succ]))
        refine wpQuiet_nil ?_
        intro w1 hw1
        have hNw1 : wr.heap.size ≤ w1.heap.size := Nat.le_trans (by first | with_reducible assumption | (simp; done) | (simp; omega)) hw1.size
        have hcw1 := gcell (wr.heap.size) hw1 (by first | with_reducible assumption | (simp; done) | (simp; omega))
        go_wp2
        exact ⟨⟨k + 1, by omega, by go_num, HG.out.trans hw1⟩, by simp [intOf]; omega⟩
      · go_wp2
        go_ret
        exact ⟨rfl, hg⟩

set_option maxRecDepth 100000 in
set_option maxHeartbeats 2000000 in
theorem entries_same (w : World) (v1 v2 : Value) (d : List Ent) (h1 : Ents w v1 d) (h2 : Ents w v2 d) (hl : d.length ≤ 1000000) :
    Calls Try.prog 28 #[v1, v2] w fun r w' => r = .returned (.bool true) ∧ Grow w w' := by
  obtain ⟨p1, c1, rfl, _, _, _, q1⟩ := h1.is
  obtain ⟨p2, c2, rfl, _, _, _, q2⟩ := h2.is
  by_cases h0 : d = []
  · subst h0
    clear h1 h2 q1 q2
    go_enter Try.func28, Try.ntmps28
    go_wp2
    refine wp_loop_rounds 1 ?_
    rw [rounds_succ]
    go_wp2
    go_ret
    exact ⟨rfl, Grow.refl _⟩
  · obtain ⟨b1, o1, rfl, r1, s1⟩ := q1.resolve_left h0
    obtain ⟨b2, o2, rfl, r2, s2⟩ := q2.resolve_left h0
    have HR := Lib.hid (And.intro r1 r2)
    clear h1 h2 q1 q2 r1 r2 h0
    go_enter Try.func28, Try.ntmps28
    go_wp2
    go_loopw [5] (fun i wr => ∃ k : Nat, k ≤ d.length ∧ i = .int .i64 k ∧ Grow w wr) (fun i _ => d.length - (intOf i).toNat)
    case atStart => exact ⟨0, Nat.zero_le _, rfl, Grow.refl _⟩
    case round =>
      obtain ⟨k, hk, rfl, hg⟩ := hrel
      by_cases hlt : k < d.length
      · obtain ⟨e, he⟩ : ∃ e, d[k]? = some e := ⟨_, List.getElem?_eq_getElem hlt⟩
        have HE := Lib.hid he
        have HG := Lib.hid hg
        clear hg he
        go_wp2
        refine wp_region_loose 8 none (fun _ _ => True) (by kernel_rfl) (by kernel_rfl) (fun _ _ _ _ _ => trivial) ?_
        simp only [List.take_succ_cons, List.take_zero, List.drop_succ_cons, List.drop_zero]
        repeat (first
            | (refine loose_skip (by decide) rfl ?_; simp only [Act.put, List.setIfInBounds_toArray, List.set_cons_zero, List.set_cons_succ])
            | (apply loose_op (by decide) rfl
               focus
                 intro w' hw'
                 have hc := gcell (wr.heap.size) hw' (by first | with_reducible assumption | (simp; done) | (simp; omega) | omega)
                 first
                  | (first | exact quiet_exec (exec_load_rows rfl (HR.out.1.keep (HG.out.trans hw')) HE.out rfl) | exact quiet_exec (exec_load_rows rfl (HR.out.2.keep (HG.out.trans hw')) HE.out rfl) | exact quiet_exec (exec_neq_ent rfl rfl rfl))
                  | (go_simp
                     first
                       | (done)
                       | (exact rfl))
               simp only [Act.put, List.setIfInBounds_toArray, List.set_cons_zero, List.set_cons_succ]))
        refine loose_nil ?_
        intro nu w1 hw1 hVw1
        simp only [finish, Act.put, List.getElem?_toArray, List.getElem?_cons_succ, List.getElem?_cons_zero, Option.bind_some, List.setIfInBounds_toArray, List.set_cons_zero, List.set_cons_succ]
        have hNw1 : wr.heap.size ≤ w1.heap.size := Nat.le_trans (by first | with_reducible assumption | (simp; done) | (simp; omega)) hw1.size
        have hcw1 := gcell (wr.heap.size) hw1 (by first | with_reducible assumption | (simp; done) | (simp; omega))
        go_wp2_with (refine wl_neq rfl rfl rfl (neq_refl e) rfl ?_)
        exact ⟨⟨k + 1, by omega, by go_num, HG.out.trans hw1⟩, by simp [intOf]; omega⟩
      · go_wp2
        go_ret
        exact ⟨rfl, hg⟩

end Go.Proofs.Ytiicfpjblfohkaa
