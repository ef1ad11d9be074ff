/- StoreOrder: true, whatever the writes. -/
import Derived.Test.YtiicfpjblfohkaaD1
import Derived.Test.YtiicfpjblfohkaaD2a
import Derived.Test.YtiicfpjblfohkaaEff
namespace Go.Proofs.Ytiicfpjblfohkaa
set_option linter.unusedSimpArgs false
set_option linter.unusedVariables false
open Go.RowKit Go.Flow
attribute [local irreducible] wpQuiet wpLoose wpEff

set_option maxRecDepth 100000 in
set_option maxHeartbeats 8000000 in
theorem order_any (w : World) (rng : Int) (p0 : Option Addr) (cap : Nat) (es : List Ent) (hE : Ents w (.slice p0 es.length cap) es) (hlen : es.length ≤ 140737488351232) (hel : ∀ e ∈ es, SmallE e) :
    Calls Try.prog 5 #[.int .i64 rng, .slice p0 es.length cap] w fun r w' => r = .returned (.bool true) ∧ Grow w w' := by
  have HE := Lib.hid hE
  have HL := Lib.hid (And.intro hel trivial)
  clear hE hel
  go_enter Try.func5, Try.ntmps5
  go_wp2_with (first | (go_at_call 10; refine (able_any _).mono ?_; rintro _ w1 ⟨rfl, hg1⟩; have HG1 := Lib.hid hg1; clear hg1) | (go_at_call 11; refine (much_any _ _ 0 1 [oneAct _ es] (acts_one (HE.out.grow HG1.out)) (by simp) (fun a ha => by rw [List.mem_singleton.1 ha]; exact ⟨hlen, HL.out.1⟩)).mono ?_; rintro _ w2 ⟨x, rfl, hx, hg2⟩; have HG2 := Lib.hid ((HG1.out.alloc _).trans hg2); have HX := Lib.hid hx; clear hg2 hx; cases x) | (go_at_call 12; refine (new_st w w2 HG2.out rng).mono ?_; rintro _ w3 ⟨bs, bm, rfl, hst, hn3⟩; have HST := Lib.hid hst; clear hst hn3) | (go_at_call 12; refine (new_st w3 w3 (Grow.refl _) rng).mono ?_; rintro _ w4 ⟨bs2, bm2, rfl, hst, hn4⟩; have H0 := Lib.hid (Ord1.start HST.out hst); clear hst hn4))
  rotate_left
  · go_ret
    exact ⟨rfl, HG2.out⟩
  have hfew : es.length ≤ 299 := by
    have := HX.out trivial
    simp [wgtA, oneAct] at this
    omega
  go_loopw [7, 8] (fun once i wr => ∃ j : Nat, j ≤ es.length ∧ i = .int .i64 j ∧ Ord1 w bs bm bs2 bm2 rng once (onceL (es.take j)) wr) (fun _ i _ => es.length - (intOf i).toNat)
  case atStart => exact ⟨0, Nat.zero_le _, rfl, H0.out⟩
  case round =>
    obtain ⟨j, hj, rfl, hO⟩ := hrel
    by_cases hlt : j < es.length
    · obtain ⟨p1, cap1, heq, _, _, _, hp1⟩ := HE.out.is
      cases heq
      obtain ⟨b, off, rfl, hrow, _⟩ := hp1.resolve_left (by intro h; rw [h] at hlt; simp at hlt)
      have HR := Lib.hid hrow
      clear hrow hp1
      obtain ⟨e, he⟩ : ∃ e, e = es[j] := ⟨_, rfl⟩
      have hget : es[j]? = some e := by rw [he]; exact List.getElem?_eq_getElem hlt
      have hstep : onceL (es.take (j + 1)) = if (onceL (es.take j)).any (fun x => sameDot e.dc e.rng e.seq x) then onceL (es.take j) else onceL (es.take j) ++ [e] := by
        rw [List.take_succ_eq_append_getElem hlt, ← he]
        exact onceL_snoc _ _
      have hlenO : (onceL (es.take j)).length ≤ 299 := by
        have := onceL_len (es.take j)
        rw [List.length_take] at this
        omega
      have HEJ := Lib.hid (And.intro hget hstep)
      clear hget hstep he
      generalize onceL (es.take j) = O at *
      obtain ⟨p, cp, rfl, _, _, _, hp⟩ := (Ents.of_owns hO.own).is
      have HO := Lib.hid (And.intro hO hp)
      clear hO hp
      go_wp2
      go_loopw [9, 10] (fun fnd k wr2 => ∃ m : Nat, m ≤ O.length ∧ k = .int .i64 m ∧ fnd = .bool ((O.take m).any fun x => sameDot e.dc e.rng e.seq x) ∧ Grow wr wr2) (fun _ k _ => O.length - (intOf k).toNat)
      case atStart => exact ⟨0, Nat.zero_le _, rfl, by simp, Grow.refl _⟩
      case round =>
        obtain ⟨m, hm, rfl, rfl, hg9⟩ := hrel
        have HG9 := Lib.hid hg9
        clear hg9
        by_cases hlm : m < O.length
        · have hgm : O[m]? = some O[m] := List.getElem?_eq_getElem hlm
          obtain ⟨b2, off2, rfl, hrO, hbO⟩ := HO.out.2.resolve_left (by intro h; rw [h] at hlm; simp at hlm)
          have HD := Lib.hid (And.intro hgm (And.intro (any_take (q := fun x => sameDot e.dc e.rng e.seq x) hlm) hrO))
          clear hgm hrO
          cases hfd : (O.take m).any fun x => sameDot e.dc e.rng e.seq x
          case true =>
            have HFD := Lib.hid hfd
            clear hfd
            go_wp2
            refine wp_region_loose 14 none (fun _ _ => True) (by kernel_rfl) (by kernel_rfl) (fun _ _ _ _ _ => trivial) ?_
            simp only [List.take_succ_cons, List.take_zero, List.drop_succ_cons, List.drop_zero]
            repeat (first
                | (refine loose_skip (by decide) rfl ?_; simp only [Act.put, List.setIfInBounds_toArray, List.set_cons_zero, List.set_cons_succ])
                | (apply loose_op (by decide) rfl
                   focus
                     intro w' hw'
                     have hc := gcell (wr.heap.size) hw' (by first | with_reducible assumption | (simp; done) | (simp; omega) | omega)
                     first
                      
                      | (go_simp
                         first
                           | (done)
                           | (exact rfl))
                   simp only [Act.put, List.setIfInBounds_toArray, List.set_cons_zero, List.set_cons_succ]))
            refine loose_nil ?_
            intro nu w10 hw10 hVw10
            simp only [finish, Act.put, List.getElem?_toArray, List.getElem?_cons_succ, List.getElem?_cons_zero, Option.bind_some, List.setIfInBounds_toArray, List.set_cons_zero, List.set_cons_succ]
            have hNw10 : wr.heap.size ≤ w10.heap.size := Nat.le_trans (by first | with_reducible assumption | (simp; done) | (simp; omega)) hw10.size
            have hcw10 := gcell (wr.heap.size) hw10 (by first | with_reducible assumption | (simp; done) | (simp; omega))
            go_wp2
            exact ⟨⟨m + 1, by omega, by go_num, by rw [HD.out.2.1, HFD.out, Bool.true_or], HG9.out.trans hw10⟩, by simp [intOf]; omega⟩
          case false =>
            have HFD := Lib.hid hfd
            clear hfd
            go_wp2
            refine wp_region_loose 14 none (fun _ _ => True) (by kernel_rfl) (by kernel_rfl) (fun _ _ _ _ _ => trivial) ?_
            simp only [List.take_succ_cons, List.take_zero, List.drop_succ_cons, List.drop_zero]
            repeat (first
                | (refine loose_skip (by decide) rfl ?_; simp only [Act.put, List.setIfInBounds_toArray, List.set_cons_zero, List.set_cons_succ])
                | (apply loose_op (by decide) rfl
                   focus
                     intro w' hw'
                     have hc := gcell (wr.heap.size) hw' (by first | with_reducible assumption | (simp; done) | (simp; omega) | omega)
                     first
                      | (first | exact quiet_of_exec (exec_load_dot rfl (HD.out.2.2.keep (HG9.out.trans hw')) HD.out.1 rfl) | exact quiet_of_exec (exec_load_dot rfl (HR.out.keep (HO.out.1.a.grow.trans (HG9.out.trans hw'))) HEJ.out.1 rfl) | exact quiet_of_exec (exec_eql_dot rfl rfl rfl))
                      | (go_simp
                         first
                           | (done)
                           | (exact rfl))
                   simp only [Act.put, List.setIfInBounds_toArray, List.set_cons_zero, List.set_cons_succ]))
            refine loose_nil ?_
            intro nu w10 hw10 hVw10
            simp only [finish, Act.put, List.getElem?_toArray, List.getElem?_cons_succ, List.getElem?_cons_zero, Option.bind_some, List.setIfInBounds_toArray, List.set_cons_zero, List.set_cons_succ]
            have hNw10 : wr.heap.size ≤ w10.heap.size := Nat.le_trans (by first | with_reducible assumption | (simp; done) | (simp; omega)) hw10.size
            have hcw10 := gcell (wr.heap.size) hw10 (by first | with_reducible assumption | (simp; done) | (simp; omega))
            go_wp2
            exact ⟨⟨m + 1, by omega, by go_num, by rw [HD.out.2.1, HFD.out, Bool.false_or], HG9.out.trans hw10⟩, by simp [intOf]; omega⟩
        · have hfull : O.take m = O := List.take_of_length_le (by omega)
          rw [hfull]
          cases hfd : O.any fun x => sameDot e.dc e.rng e.seq x
          case true =>
            have HFD := Lib.hid hfd
            clear hfd
            go_wp2
            have h8 := HO.out.1.step HG9.out
            exact ⟨⟨j + 1, by omega, by go_num, by rw [HEJ.out.2, HFD.out, if_pos rfl]; exact h8⟩, by simp [intOf]; omega⟩
          case false =>
            have HFD := Lib.hid hfd
            clear hfd
            go_wp2_with (first | (refine wl_load_rows rfl (HR.out.keep (HO.out.1.a.grow.trans HG9.out)) HEJ.out.1 rfl rfl ?_) | (refine wl_build1 rfl rfl rfl ?_) | (at_builtin; refine wl_append rfl w.heap.size rfl ((HO.out.1.step HG9.out).step ((Grow.refl _).alloc _)).own rfl (ents_one _ e) (by have := hlenO; simp; omega) (((HO.out.1.step HG9.out).step ((Grow.refl _).alloc _)).a.grow.size) rfl ?_; intro v' w11 hA; have HA := Lib.hid (((HO.out.1.step HG9.out).step ((Grow.refl _).alloc _)).app hA); clear hA))
            exact ⟨⟨j + 1, by omega, by go_num, by rw [HEJ.out.2, HFD.out, if_neg (by simp)]; exact HA.out⟩, by simp [intOf]; omega⟩
    · have hje : es.take j = es := List.take_of_length_le (by omega)
      rw [hje] at hO
      have hlenO : (onceL es).length ≤ 299 := by have := onceL_len es; omega
      have HH := Lib.hid (And.intro (order_held (rng := rng) es) (And.intro (held_once (rng := rng) es).few (And.intro (rev_few (rng := rng) es) (fun s => once_key (rng := rng) (l := es) (s := s)))))
      clear hje
      generalize onceL es = O at *
      obtain ⟨p, cp, rfl, _, _, _, hp⟩ := (Ents.of_owns hO.own).is
      have HO := Lib.hid hO
      clear hO hp
      have hb0 := run_build0
      go_wp2_with (first | (at_builtin; refine wl_append (d0 := []) rfl wr.heap.size rfl (owns_empty wr wr.heap.size (Nat.le_refl _)) rfl ((Ents.of_owns HO.out.own).grow ((Grow.refl _).alloc _)) (by simp; omega) (by simp) rfl ?_; intro v' w5 hA; have HA := Lib.hid (And.intro hA (hA.grow ((Grow.refl wr).alloc _) (fun k hk => by cases hk; exact Nat.le_refl _))); clear hA) | (go_at_call 13; refine (put_sf (HO.out.a.step HA.out.2) _ O (Ents.of_owns HA.out.1.owns) (fun b hb _ => fun hk => by have h1 := (ownsRow_block HA.out.1.owns hb).1; have h2 := (HO.out.a.store.foot_base hk).2; omega) (by simp [absT, lenA]; omega)).mono ?_; rintro _ w6 ⟨rfl, T1, hP, hf⟩; have HP := Lib.hid (And.intro ((HO.out.step HA.out.2).put hP hf) (And.intro hP.abs hP.few)); clear hP hf))
      clear hb0
      go_loopw [11] (fun i wr1 => ∃ (n : Nat) (T2 : List Slot), n ≤ O.length ∧ i = .int .i64 ((n : Int) - 1) ∧ Ord2 w bs bm bs2 bm2 rng (.slice p O.length cp) O (O.drop n).reverse T1 T2 wr1) (fun i _ => (intOf i + 1).toNat)
      case atStart => exact ⟨O.length, [], Nat.le_refl _, by go_num, by rw [List.drop_length]; exact HP.out.1⟩
      case round =>
        obtain ⟨n, T2, hn, rfl, hB⟩ := hrel
        cases n with
        | succ k =>
          have e1 : ((k + 1 : Nat) : Int) - 1 = (k : Int) := by omega
          rw [e1]
          have hget : O[k]? = some O[k] := List.getElem?_eq_getElem (by omega)
          have hdrop : (O.drop k).reverse = (O.drop (k + 1)).reverse ++ [O[k]] := by rw [List.drop_eq_getElem_cons (by omega), List.reverse_cons]
          obtain ⟨p', cp', heq, _, _, _, hp⟩ := (Ents.of_owns hB.own).is
          cases heq
          obtain ⟨b2, off2, rfl, hrO, hbO⟩ := hp.resolve_left (by intro h; rw [h] at hn; simp at hn)
          have HB := Lib.hid (And.intro hB (And.intro hget (And.intro hdrop hrO)))
          clear hB hget hdrop hrO hp e1
          go_wp2_with (first | (refine wl_load_rows rfl HB.out.2.2.2 HB.out.2.1 rfl rfl ?_) | (refine wl_build1 rfl rfl rfl ?_) | (go_at_call 13; refine (put_sf (HB.out.1.b.step ((Grow.refl _).alloc _)) _ [O[k]] (ents_one _ _) (fun b hb _ => by cases hb; exact HB.out.1.b.new (Nat.le_refl _)) (by have := HB.out.1.few; simp at *; omega)).mono ?_; rintro _ w8 ⟨rfl, T3, hP, hf⟩; have HP3 := Lib.hid ((HB.out.1.step ((Grow.refl _).alloc _)).put hP hf); clear hP hf))
          exact ⟨⟨k, T3, by omega, by go_num, by rw [HB.out.2.2.1]; exact HP3.out⟩, by simp [intOf]⟩
        | zero =>
          rw [List.drop_zero] at hB
          have eA : absT T1 = putAll rng 0 0 0 [] O := HP.out.2.1
          have eL : sortK ((absT T2).map (·.1)) = sortK ((absT T1).map (·.1)) := by rw [hB.abs, eA]; exact HH.out.1.2.1.symm
          have eN : lenA (absT T2) = lenA (absT T1) := by rw [hB.abs, eA]; exact HH.out.1.2.2.symm
          have eG : ∀ s, getA (absT T2) s = getA (absT T1) s := fun s => by rw [hB.abs, eA]; exact (HH.out.1.1 s).symm
          have f1 : T1.length ≤ 1000000 := by have h1 := HH.out.2.1; rw [← eA] at h1; simp only [absT, List.length_map] at h1; omega
          have f2 : T2.length ≤ 1000000 := by have h1 := HH.out.2.2.1; rw [← hB.abs] at h1; simp only [absT, List.length_map] at h1; omega
          have hk : ∀ s, s ∈ sortK ((absT T1).map (·.1)) → s.size ≤ maxLen := by rw [eA]; exact HH.out.2.2.2
          have hLl : (sortK ((absT T1).map (·.1))).length ≤ 1000000 := by rw [sortK_length, List.length_map]; simpa [absT] using f1
          obtain ⟨L, hL⟩ : ∃ L, L = sortK ((absT T1).map (·.1)) := ⟨_, rfl⟩
          rw [← hL] at eL hk hLl
          obtain ⟨q, hq⟩ : ∃ q, q = lenA (absT T1) := ⟨_, rfl⟩
          rw [← hq] at eN
          have HB := Lib.hid hB
          have M1 := Lib.hid hB.a
          have M2 := Lib.hid hB.a
          have HL2 := Lib.hid (And.intro eL (And.intro hk (And.intro hL (And.intro hq.symm (And.intro eN eG)))))
          clear hB eL hk hL hq eN eG eA
          go_wp2_with (first | (go_at_call 26; refine (keys_st M1.out f1).mono ?_; clear M1; rintro _ w8 ⟨v1, rfl, ht1⟩; rw [← HL2.out.2.2.1] at ht1; obtain ⟨q1, cq1, rfl, hs1⟩ := (Strs.of_row ht1.1).is; have HT1 := Lib.hid (And.intro ht1 hs1); clear ht1 hs1) | (go_at_call 26; refine (keys_st (HB.out.b.step HT1.out.1.2) f2).mono ?_; rintro _ w9 ⟨v2, rfl, ht2⟩; rw [HL2.out.1] at ht2; have HT2 := Lib.hid ht2; clear ht2) | (go_at_call 27; refine (words_same _ _ _ L ((Strs.of_row HT1.out.1.1).grow HT2.out.2) (Strs.of_row HT2.out.1) hLl).mono ?_; rintro _ w10 ⟨rfl, hg⟩; have HG := Lib.hid (HT1.out.1.2.trans (HT2.out.2.trans hg)); have HG1' := Lib.hid (HT2.out.2.trans hg); clear hg) | (go_at_call 15; refine (len_st (M2.out.step HG.out) (n := q) HL2.out.2.2.2.1).mono ?_; clear M2; rintro _ w11 ⟨rfl, hg⟩; have HG2' := Lib.hid hg; clear hg) | (go_at_call 15; refine (len_st (HB.out.b.step (HG.out.trans HG2'.out)) (n := q) HL2.out.2.2.2.2.1).mono ?_; rintro _ w12 ⟨rfl, hg⟩; have HG3 := Lib.hid (HG.out.trans (HG2'.out.trans hg)); have HG4 := Lib.hid (HG1'.out.trans (HG2'.out.trans hg)); clear hg))
          go_loopw [13] (fun i wr2 => ∃ k : Nat, k ≤ L.length ∧ i = .int .i64 k ∧ Grow w12 wr2) (fun i _ => L.length - (intOf i).toNat)
          case atStart => exact ⟨0, Nat.zero_le _, rfl, Grow.refl _⟩
          case round =>
            obtain ⟨k, hk, rfl, hg13⟩ := hrel
            have HG13 := Lib.hid hg13
            clear hg13
            by_cases hlk : k < L.length
            · obtain ⟨b3, off3, rfl, hcs, hb3⟩ := HT1.out.2.resolve_left (by intro h; rw [h] at hlk; simp at hlk)
              obtain ⟨s, hs⟩ : ∃ s, s = L[k] := ⟨_, rfl⟩
              have hget : L[k]? = some s := by rw [hs]; exact List.getElem?_eq_getElem hlk
              have hsk : s.size ≤ maxLen := HL2.out.2.1 s (by rw [hs]; exact List.getElem_mem hlk)
              have hcell : ∀ w', Grow wr w' → w'.cell? ⟨b3, off3 + k, none⟩ = some (.string s) := fun w' hw' =>
                ((HG4.out.trans (HG13.out.trans hw')).below.cell (p := ⟨b3, off3 + k, none⟩) hb3).trans (hcs k s hget)
              clear hcs
              have HC := Lib.hid hcell
              clear hcell hs hget
              have HA2 := Lib.hid (HB.out.a.step (HG3.out.trans HG13.out))
              have HB2 := Lib.hid (HB.out.b.step (HG3.out.trans HG13.out))
              obtain ⟨d, hd⟩ : ∃ d, d = getA (absT T1) s := ⟨_, rfl⟩
              have hd2 : getA (absT T2) s = d := by rw [hd]; exact HL2.out.2.2.2.2.2 s
              have hdl : d.length ≤ 1000000 := by rw [hd]; exact getA_few HB.out.a s
              have HD := Lib.hid (And.intro hd.symm (And.intro hd2 hdl))
              clear hd hd2 hdl
              go_wp2
              refine wp_region_eff 12 [5, 11] [5, 11] (fun w' => Grow wr w') (fun _ _ => True) (by kernel_rfl) (by kernel_rfl) (fun _ _ h g => h.trans g) (fun _ _ _ h g => trivial) (Grow.refl _) (fun _ => trivial) ?_
              simp only [List.take_succ_cons, List.take_zero, List.drop_succ_cons, List.drop_zero]
              repeat (first
                  | ((refine eff_loose (i := 5) (fun nu w' => Ents w' (nu 5) d) (fun _ _ _ h g => h.grow g) (by decide) (by decide) rfl ?_ ?_; focus (intro nu w2 hC2 hS2; go_simp; simp only [effUpon]; go_at_call 16; refine (versions_st (HA2.out.step hC2) s hsk).mono ?_; rintro _ w3 ⟨v, rfl, hf⟩; rw [HD.out.1] at hf; exact ⟨v, rfl, hC2.trans hf.2, by simp only [upd, if_true]; exact Ents.of_owns hf.1⟩))
                     try simp only [Act.put, List.setIfInBounds_toArray, List.set_cons_zero, List.set_cons_succ])
                  | ((refine eff_loose (i := 11) (fun nu w' => Ents w' (nu 5) d ∧ Ents w' (nu 11) d) (fun _ _ _ h g => ⟨h.1.grow g, h.2.grow g⟩) (by decide) (by decide) rfl ?_ ?_; focus (intro nu w2 hC2 hS2; go_simp; simp only [effUpon]; go_at_call 16; refine (versions_st (HB2.out.step hC2) s hsk).mono ?_; rintro _ w3 ⟨v, rfl, hf⟩; rw [HD.out.2.1] at hf; exact ⟨v, rfl, hC2.trans hf.2, by simp only [upd]; exact hS2.grow hf.2, by simp only [upd, if_true]; exact Ents.of_owns hf.1⟩))
                     try simp only [Act.put, List.setIfInBounds_toArray, List.set_cons_zero, List.set_cons_succ])
                  | (refine eff_skip (by first | exact fun _ _ _ h g => trivial | exact fun _ _ _ h g => h.grow g | exact fun _ _ _ h g => ⟨h.1.grow g, h.2.grow g⟩ | assumption) (by decide) rfl ?_; simp only [Act.put, List.setIfInBounds_toArray, List.set_cons_zero, List.set_cons_succ])
                  | (apply eff_quiet (by first | exact fun _ _ _ h g => trivial | exact fun _ _ _ h g => h.grow g | exact fun _ _ _ h g => ⟨h.1.grow g, h.2.grow g⟩ | assumption) (by decide) (by decide) rfl
                     focus
                       intro w' hw'
                       have hc := HC.out w' hw'
                       first
                        
                        | (go_simp
                           first
                             | (done)
                             | (exact rfl))
                     simp only [Act.put, List.setIfInBounds_toArray, List.set_cons_zero, List.set_cons_succ]))
              refine eff_nil ?_
              intro nu w14 hCw14 hSw14
              simp only [finish2, Act.put, List.getElem?_toArray, List.getElem?_cons_succ, List.getElem?_cons_zero, Option.bind_some, List.setIfInBounds_toArray, List.set_cons_zero, List.set_cons_succ]
              have HS := Lib.hid hSw14
              clear hSw14
              generalize nu 5 = x5 at *
              generalize nu 11 = x11 at *
              go_wp2_with (first | (go_at_call 28; refine (entries_same _ _ _ d HS.out.1 HS.out.2 HD.out.2.2).mono ?_; rintro _ w15 ⟨rfl, hg⟩; have HG5 := Lib.hid (HG13.out.trans (hCw14.trans hg)); clear hg))
              exact ⟨⟨k + 1, by omega, by go_num, HG5.out⟩, by simp [intOf]; omega⟩
            · go_wp2
              go_ret
              exact ⟨rfl, (HB.out.a.grow.trans HG3.out).trans HG13.out⟩

end Go.Proofs.Ytiicfpjblfohkaa
