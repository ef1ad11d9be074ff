/- much: whether a script is much. -/
import Derived.Test.YtiicfpjblfohkaaA4d
namespace Go.Proofs.Ytiicfpjblfohkaa
open Go.RowKit Go.Flow
attribute [local irreducible] wpQuiet

/-- A step of a script: its kind, its slice, the writes that it holds, its column. -/
structure ActE where
  kind : Int
  v : Value
  ents : List Ent
  c0 : Int
  c1 : Int
  c2 : Int

/-- The strings are no longer than memory bears. -/
def SmallE (e : Ent) : Prop := e.key.size ≤ 140737488351232 ∧ e.value.size ≤ 140737488351232

structure ActsAt (w : World) (b off : Nat) (acts : List ActE) : Prop where
  cells : ∀ i a, acts[i]? = some a → w.cell? ⟨b, off + i * 5, none⟩ = some (.int .i64 a.kind) ∧ w.cell? ⟨b, off + i * 5 + 1, none⟩ = some a.v ∧ w.cell? ⟨b, off + i * 5 + 2, none⟩ = some (.int .i64 a.c0) ∧ w.cell? ⟨b, off + i * 5 + 2 + 1, none⟩ = some (.int .i64 a.c1) ∧ w.cell? ⟨b, off + i * 5 + 2 + 2, none⟩ = some (.int .i64 a.c2)
  ents : ∀ a ∈ acts, Ents w a.v a.ents
  lt : b < w.heap.size
theorem ActsAt.grow {w w' : World} {b off : Nat} {acts : List ActE} (h : ActsAt w b off acts) (hg : Grow w w') : ActsAt w' b off acts := by
  have hc : ∀ o, w'.cell? ⟨b, o, none⟩ = w.cell? ⟨b, o, none⟩ := fun o => hg.below.cell (p := ⟨b, o, none⟩) h.lt
  refine ⟨fun i a hi => ?_, fun a ha => (h.ents a ha).grow hg, Nat.lt_of_lt_of_le h.lt hg.size⟩
  simp only [hc]
  exact h.cells i a hi

def wgtE (e : Ent) : Nat := (e.key.size + e.value.size) / 60
def wgtL (d : List Ent) : Nat := (d.map wgtE).sum
def wgtA (acts : List ActE) : Nat := (acts.map fun a => a.ents.length + wgtL a.ents).sum
theorem wgtL_snoc (d : List Ent) (k : Nat) (h : k < d.length) : wgtL (d.take (k + 1)) = wgtL (d.take k) + wgtE d[k] := by
  unfold wgtL; rw [List.take_succ_eq_append_getElem h, List.map_append, List.sum_append]; simp
theorem wgtA_snoc (d : List ActE) (k : Nat) (h : k < d.length) : wgtA (d.take (k + 1)) = wgtA (d.take k) + (d[k].ents.length + wgtL d[k].ents) := by
  unfold wgtA; rw [List.take_succ_eq_append_getElem h, List.map_append, List.sum_append]; simp

theorem wrap_sum (m k v : Nat) (hm : m ≤ 300) (hk : k ≤ 140737488351232) (hv : v ≤ 140737488351232) :
    IntKind.i64.wrap ((m : Int) + IntKind.i64.wrap ((IntKind.i64.wrap ((k : Int) + (v : Int))).tdiv 60)) = ((m + (k + v) / 60 : Nat) : Int) := by
  rw [IntWalk.i64_in ((k : Int) + (v : Int)) (by omega)]
  have e : ((k : Int) + (v : Int)).tdiv 60 = (((k + v) / 60 : Nat) : Int) := by
    rw [Int.tdiv_eq_ediv_of_nonneg (by omega)]; omega
  rw [e, IntWalk.i64_in (((k + v) / 60 : Nat) : Int) (by omega), IntWalk.i64_in _ (by omega)]
  omega

/-- Its number is known, or it is over. -/
def Num (n : Nat) (m : Nat) : Prop := n < 1125899906842624 ∧ (n = m ∨ 300 < n)

set_option maxRecDepth 100000 in
set_option maxHeartbeats 4000000 in
theorem much_any (w : World) (b off cap : Nat) (acts : List ActE) (hA : ActsAt w b off acts) (hlen : acts.length ≤ 140737488351232) (hel : ∀ a ∈ acts, a.ents.length ≤ 140737488351232 ∧ ∀ e ∈ a.ents, SmallE e) :
    Calls Try.prog 11 #[.slice (some ⟨b, off, none⟩) acts.length cap] w fun r w' => ∃ x : Bool, r = .returned (.bool x) ∧ (x = false → acts.length + wgtA acts ≤ 300) ∧ Grow w w' := by
  have HA := Lib.hid (And.intro hA hel)
  clear hA hel
  go_enter Try.func11, Try.ntmps11
  go_wp2
  go_loopw [3, 4, 5] (fun n i _ wr => ∃ j m : Nat, j ≤ acts.length ∧ i = .int .i64 j ∧ n = .int .i64 m ∧ Num m (acts.length + wgtA (acts.take j)) ∧ Grow w wr) (fun _ i _ _ => acts.length - (intOf i).toNat)
  case atStart => exact ⟨0, acts.length, Nat.zero_le _, rfl, rfl, ⟨by omega, .inl rfl⟩, Grow.refl _⟩
  case round =>
    obtain ⟨j, m, hj, rfl, rfl, hN, hg⟩ := hrel
    have hm := hN.1
    have HN := Lib.hid (And.intro hN hg)
    clear hN hg
    by_cases hlt : j < acts.length
    · by_cases h300 : m ≤ 300
      · obtain ⟨a, ha⟩ : ∃ a, a = acts[j] := ⟨_, rfl⟩
        have hcell := ((HA.out.1.grow HN.out.2).cells j a (by rw [ha]; exact List.getElem?_eq_getElem hlt)).2.1
        have hE := HA.out.1.ents a (by rw [ha]; exact List.getElem_mem hlt)
        have hel := HA.out.2 a (by rw [ha]; exact List.getElem_mem hlt)
        obtain ⟨p, cp, hv, hc1, hc2, hc3, hc4⟩ := hE.is
        rw [hv] at hcell
        have hln := hel.1
        have HE := Lib.hid (And.intro ha (And.intro hc4 (And.intro hel.2 hc3)))
        have hbw : b < wr.heap.size := (HA.out.1.grow HN.out.2).lt
        have HJ := Lib.hid (And.intro ha (wgtA_snoc acts j hlt))
        clear hE hel hv hc3 hc4 ha
        go_wp2
        obtain ⟨wo, hwo⟩ : ∃ wo : World, wo = wr := ⟨_, rfl⟩
        rw [← hwo] at hcell HN hbw ⊢
        clear hwo
        go_loopw [3, 5] (fun n k wr2 => ∃ q m2 : Nat, q ≤ a.ents.length ∧ k = .int .i64 q ∧ n = .int .i64 m2 ∧ Num m2 (acts.length + wgtA (acts.take j) + a.ents.length + wgtL (a.ents.take q)) ∧ Grow wo wr2) (fun _ k _ => a.ents.length - (intOf k).toNat)
        case atStart => exact ⟨0, m + a.ents.length, Nat.zero_le _, rfl, by go_num, ⟨by omega, by have := HN.out.1.2; simp [wgtL]; omega⟩, Grow.refl _⟩
        case round =>
          obtain ⟨q, m2, hq, rfl, rfl, hN2, hg2⟩ := hrel
          have hm2 := hN2.1
          have HN2 := Lib.hid (And.intro hN2 hg2)
          have hcell2 := (hg2.below.cell (p := ⟨b, off + j * 5 + 1, none⟩) hbw).trans hcell
          have hbw2 : b < wr.heap.size := Nat.lt_of_lt_of_le hbw hg2.size
          clear hN2 hg2 hcell
          by_cases hlq : q < a.ents.length
          · by_cases h302 : m2 ≤ 300
            · rcases HE.out.2.1 with h0 | ⟨b2, off2, rfl, hrow, hb2⟩
              · rw [h0] at hlq; simp at hlq
              have hk6 := (hrow.keep (HN.out.2.trans HN2.out.2)) q a.ents[q] (List.getElem?_eq_getElem hlq) 6 _ rfl
              have hk7 := (hrow.keep (HN.out.2.trans HN2.out.2)) q a.ents[q] (List.getElem?_eq_getElem hlq) 7 _ rfl
              have hb22 : b2 < wr.heap.size := Nat.lt_of_lt_of_le hb2 (HN.out.2.trans HN2.out.2).size
              have hsm := HE.out.2.2.1 a.ents[q] (List.getElem_mem hlq)
              unfold SmallE at hsm
              obtain ⟨s1, s2⟩ := hsm
              obtain ⟨ey, hey⟩ : ∃ ey, ey = a.ents[q] := ⟨_, rfl⟩
              rw [← hey] at hk6 hk7 s1 s2
              have HY := Lib.hid hey
              clear hey hrow
              go_wp2
              refine wp_region_growAll (by kernel_rfl) (by kernel_rfl) ?_
              repeat (first
                  | (refine quiet_skip rfl ?_; simp only [Act.put, List.setIfInBounds_toArray, List.set_cons_zero, List.set_cons_succ])
                  | (apply quiet_op rfl
                     focus
                       intro w' hw'
                       have hc := gcell (wr.heap.size) hw' (by first | with_reducible assumption | (simp; done) | (simp; omega) | omega)
                       go_simp
                       first
                         | (done)
                         | (exact rfl)
                     simp only [Act.put, List.setIfInBounds_toArray, List.set_cons_zero, List.set_cons_succ]))
              refine wpQuiet_nil ?_
              intro w1 hw1
              have hNw1 : wr.heap.size ≤ w1.heap.size := Nat.le_trans (by first | with_reducible assumption | (simp; done) | (simp; omega)) hw1.size
              have hcw1 := gcell (wr.heap.size) hw1 (by first | with_reducible assumption | (simp; done) | (simp; omega))
              go_wp2
              have hws := wrap_sum m2 ey.key.size ey.value.size h302 s1 s2
              rw [hws]
              refine ⟨⟨q + 1, m2 + (ey.key.size + ey.value.size) / 60, by omega, by go_num, rfl, ⟨by omega, ?_⟩, HN2.out.2.trans hw1⟩, by simp [intOf]; omega⟩
              rcases HN2.out.1.2 with h | h
              · refine .inl ?_
                rw [wgtL_snoc a.ents q hlq, ← HY.out, h]
                show _ = _ + (_ + wgtE ey)
                unfold wgtE
                omega
              · exact .inr (by omega)
            · go_wp2
              exact ⟨⟨j + 1, m2, by omega, by go_num, rfl, ⟨hm2, .inr (by omega)⟩, HN.out.2.trans HN2.out.2⟩, by simp [intOf]; omega⟩
          · go_wp2
            refine ⟨⟨j + 1, m2, by omega, by go_num, rfl, ⟨hm2, ?_⟩, HN.out.2.trans HN2.out.2⟩, by simp [intOf]; omega⟩
            rcases HN2.out.1.2 with h | h
            · rw [List.take_of_length_le (l := a.ents) (by omega)] at h
              refine .inl ?_
              rw [HJ.out.2, ← HJ.out.1]
              omega
            · exact .inr h
      · go_wp2
        go_ret
        exact ⟨true, ret_bool (by simp <;> omega), by simp, HN.out.2⟩
    · go_wp2
      all_goals
        go_ret
        refine ⟨decide (300 < m), ret_bool (by first | (simp; done) | (simp; omega) | (rw [Bool.eq_iff_iff]; simp; omega)), fun h => ?_, HN.out.2⟩
        have h2 := HN.out.1.2
        rw [List.take_of_length_le (by omega)] at h2
        simp at h
        omega

end Go.Proofs.Ytiicfpjblfohkaa
