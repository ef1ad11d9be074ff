/- StoreTwice: true, whatever the writes. -/
import Derived.Test.YtiicfpjblfohkaaC1
import Derived.Test.YtiicfpjblfohkaaC2
import Derived.Test.YtiicfpjblfohkaaA7c
namespace Go.Proofs.Ytiicfpjblfohkaa
set_option linter.unusedSimpArgs false
set_option linter.unusedVariables false
open Go.RowKit Go.Flow
attribute [local irreducible] wpQuiet wpLoose

theorem quiet_of_exec {P : Program} {C : World → Prop} {w : World} {v : Value} {a : Act} {o : Oper} (h : (execOp a.eval o).run P w = .ok (.value v) w) : Oper.quietUpon P C w v ((execOp a.eval o).run P w) := by
  rw [h]; exact ⟨rfl, rfl⟩

/-- One step whose slice is v. -/
def oneAct (v : Value) (es : List Ent) : ActE := ⟨0, v, es, 0, 0, 0⟩
theorem acts_one {w : World} {v : Value} {es : List Ent} (hE : Ents w v es) : ActsAt (w.alloc (.cells #[.int .i64 0, v, .int .i64 0, .int .i64 0, .int .i64 0] 28)) w.heap.size 0 [oneAct v es] := by
  have hb := heap_alloc_new w (.cells #[.int .i64 0, v, .int .i64 0, .int .i64 0, .int .i64 0] 28)
  refine ⟨fun i a hi => ?_, fun a ha => ?_, by simp⟩
  · cases i with
    | zero =>
      simp at hi
      subst hi
      refine ⟨?_, ?_, ?_, ?_, ?_⟩ <;> rw [cell_of_row _ _ _ _ _ _ hb] <;> rfl
    | succ i => simp at hi
  · rw [List.mem_singleton.1 ha]
    exact hE.grow ((Grow.refl _).alloc _)

/-- What stands behind some of the writes. -/
structure Twi (w : World) (bs bm : Nat) (rng : Int) (es : List Ent) (j : Nat) (T : List Slot) (wr : World) : Prop where
  st : St w bs bm rng 0 0 0 T wr
  abs : absT T = putAll rng 0 0 0 [] (es.take j)
  few : lenA (absT T) ≤ j
theorem Twi.step {w : World} {bs bm : Nat} {rng : Int} {es : List Ent} {j : Nat} {T : List Slot} {wr w' : World} (h : Twi w bs bm rng es j T wr) (hg : Grow wr w') : Twi w bs bm rng es j T w' := ⟨h.st.step hg, h.abs, h.few⟩
theorem Twi.good {w : World} {bs bm : Nat} {rng : Int} {es : List Ent} {j : Nat} {T : List Slot} {wr : World} (h : Twi w bs bm rng es j T wr) : GoodA rng (absT T) := by
  rw [h.abs]; exact putAll_good _ _ (GoodA.nil _)

theorem fresh_row {w w' : World} {v : Value} {d : List Ent} (h : Fresh w w' v d) {e : Ent} (he : e ∈ d) : ∃ g cp, v = .slice (some ⟨g, 0, none⟩) d.length cp ∧ RowsAt w' g 0 d ∧ g < w'.heap.size ∧ Grow w w' ∧ d.length ≤ 9223372036854775807 ∧ e ∈ d := by
  rcases rows_of_owns h.1 with ⟨rfl, rfl⟩ | ⟨g, cp, rfl, _, h2, h3, h4, h5⟩
  · cases he
  · exact ⟨g, cp, rfl, h3, h2, h.2, by unfold maxLen at h5; omega, he⟩

theorem putCount_one {rng m0 m1 m2 : Int} {A : Abs} {e : Ent} {b : Bool} (h : skips rng m0 m1 m2 A e = b) : putCount rng m0 m1 m2 A [e] = if b then 0 else 1 := by
  show (if skips rng m0 m1 m2 A e = true then 0 else 1) + 0 = _
  rw [h]
  cases b <;> rfl
theorem putAll_one (rng m0 m1 m2 : Int) (A : Abs) (e : Ent) : putAll rng m0 m1 m2 A [e] = putOne rng m0 m1 m2 A e := by simp only [putAll, List.foldl_cons, List.foldl_nil]

theorem any_take {d : List Ent} {m : Nat} (h : m < d.length) {q : Ent → Bool} : (d.take (m + 1)).any q = ((d.take m).any q || q d[m]) := by
  rw [List.take_succ_eq_append_getElem h, List.any_append, List.any_cons, List.any_nil, Bool.or_false]

/-- Behind two Puts of one write. -/
theorem Twi.next {w wr w4 w4' w5 : World} {bs bm : Nat} {rng : Int} {es : List Ent} {j : Nat} {T T1 T2 : List Slot} (h : Twi w bs bm rng es j T wr) (hj : j < es.length) {e : Ent} (he : e = es[j])
    (h1 : PutSt w w4' w4 bs bm rng 0 0 0 T T1 [e]) (h2 : absT T2 = putAll rng 0 0 0 (absT T1) [e]) (h3 : St w bs bm rng 0 0 0 T2 w5) :
    absT T2 = absT T1 ∧ Twi w bs bm rng es (j + 1) T2 w5 := by
  have hg := h.good
  have hs : skips rng 0 0 0 (absT T1) e = true := by rw [h1.abs, putAll_one]; exact skips_again hg
  have h4 : absT T2 = absT T1 := by rw [h2, putAll_one, putOne_skip hs]
  refine ⟨h4, h3, ?_, ?_⟩
  · rw [h4, h1.abs, putAll_one, h.abs, List.take_succ_eq_append_getElem hj, putAll_snoc, ← he]
  · rw [h4]
    have := h1.few
    have := h.few
    simp only [List.length_cons, List.length_nil] at *
    omega

set_option maxRecDepth 100000 in
set_option maxHeartbeats 8000000 in
theorem twice_rows (w : World) (rng : Int) (b off cap : Nat) (es : List Ent) (hrow : RowsAt w b off es) (hbw : b < w.heap.size) (hcap : es.length ≤ cap) (hcm : cap ≤ maxLen) (hlen : es.length ≤ 140737488351232) (hel : ∀ e ∈ es, SmallE e) :
    Calls Try.prog 3 #[.int .i64 rng, .slice (some ⟨b, off, none⟩) es.length cap] w fun r w' => r = .returned (.bool true) ∧ Grow w w' := by
  have HE := Lib.hid (Ents.of_rows hrow hbw hcap hcm)
  have HR := Lib.hid hrow
  have HL := Lib.hid (And.intro hel (And.intro hcap hcm))
  clear hrow hel hcap hcm
  go_enter Try.func3, Try.ntmps3
  go_wp2_with (first | (go_at_call 10; refine (able_any _).mono ?_; rintro _ w1 ⟨rfl, hg1⟩; have HG1 := Lib.hid hg1; clear hg1) | (go_at_call 11; refine (much_any _ _ 0 1 [oneAct _ es] (acts_one (HE.out.grow HG1.out)) (by simp) (fun a ha => by rw [List.mem_singleton.1 ha]; exact ⟨hlen, HL.out.1⟩)).mono ?_; rintro _ w2 ⟨x, rfl, hx, hg2⟩; have HG2 := Lib.hid ((HG1.out.alloc _).trans hg2); have HX := Lib.hid hx; clear hg2 hx; cases x) | (go_at_call 12; refine (new_st w w2 HG2.out rng).mono ?_; rintro _ w3 ⟨bs, bm, rfl, hst, _⟩; have HST := Lib.hid hst; clear hst))
  rotate_left
  · go_ret
    exact ⟨rfl, HG2.out⟩
  have hfew : es.length ≤ 299 := by
    have := HX.out trivial
    simp [wgtA, oneAct] at this
    omega
  go_loopw [6, 7] (fun laid i wr => ∃ (j q : Nat) (T : List Slot), j ≤ es.length ∧ i = .int .i64 j ∧ laid = .int .i64 q ∧ q = lenA (absT T) ∧ Twi w bs bm rng es j T wr) (fun _ i _ => es.length - (intOf i).toNat)
  case atStart => exact ⟨0, 0, [], Nat.zero_le _, rfl, rfl, rfl, ⟨HST.out, rfl, Nat.le_refl _⟩⟩
  case round =>
    obtain ⟨j, q, T, hj, rfl, rfl, hq, hT⟩ := hrel
    have hqj : q ≤ j := by have := hT.few; omega
    have HT := Lib.hid (And.intro hT hq)
    clear hT hq
    by_cases hlt : j < es.length
    · obtain ⟨e, he⟩ : ∃ e, e = es[j] := ⟨_, rfl⟩
      have hget : es[j]? = some e := by rw [he]; exact List.getElem?_eq_getElem hlt
      have HEJ := Lib.hid (And.intro he hget)
      clear he hget
      cases hsk : skips rng 0 0 0 (absT T) e
      case true =>
        have HSK := Lib.hid hsk
        clear hsk
        go_wp2_with (first | (refine wl_load_rows rfl (HR.out.keep HT.out.1.st.grow) HEJ.out.2 rfl rfl ?_) | (refine wl_build1 rfl rfl rfl ?_) | (go_at_call 13; refine (put_st (HT.out.1.st.step ((Grow.refl _).alloc _)) _ [e] (ents_one _ e) (fun b hb _ => by cases hb; exact HT.out.1.st.new (Nat.le_refl _)) (by have := HT.out.1.few; simp; omega) (putCount_one HSK.out)).mono ?_; rintro _ w4 ⟨rfl, T1, hP1⟩; have HP1 := Lib.hid hP1; clear hP1; have HT0 := HT; clear HT) | (refine wl_load_rows rfl (HR.out.keep HP1.out.st.grow) HEJ.out.2 rfl rfl ?_) | (go_at_call 13; refine (put_st (HP1.out.st.step ((Grow.refl _).alloc _)) _ [e] (ents_one _ e) (fun b hb _ => by cases hb; exact HP1.out.st.new (Nat.le_refl _)) (by have := HP1.out.few; have := HT0.out.1.few; simp at *; omega) (n := 0) (putCount_one (b := true) (by rw [HP1.out.abs, putAll_one]; exact skips_again HT0.out.1.good))).mono ?_; rintro _ w5 ⟨rfl, T2, hP2⟩; have HP2 := Lib.hid hP2; clear hP2; have HN := Lib.hid (HT0.out.1.next hlt HEJ.out.1 HP1.out HP2.out.abs HP2.out.st)) | (go_at_call 15; refine (len_st HP2.out.st (n := q) (by rw [HN.out.1, HP1.out.abs, putAll_one, putOne_skip HSK.out, ← HT0.out.2])).mono ?_; rintro _ w6 ⟨rfl, hg6⟩; have HG6 := Lib.hid hg6; clear hg6))
        have h6 := HN.out.2.step HG6.out
        have h7 : q = lenA (absT T2) := by rw [HN.out.1, HP1.out.abs, putAll_one, putOne_skip HSK.out]; exact HT0.out.2
        exact ⟨⟨j + 1, q, T2, by omega, by go_num, rfl, h7, h6⟩, by simp [intOf]; omega⟩
      case false =>
        obtain ⟨hent, hrng, _, _⟩ := skips_false.1 hsk
        have hrg : (e.rng != rng) = false := by rw [hrng]; simp
        have HSK := Lib.hid (And.intro hsk hent)
        have HEN := Lib.hid hent
        clear hsk hent hrng
        go_wp2_with (first | (refine wl_load_rows rfl (HR.out.keep HT.out.1.st.grow) HEJ.out.2 rfl rfl ?_) | (refine wl_build1 rfl rfl rfl ?_) | (go_at_call 13; refine (put_st (HT.out.1.st.step ((Grow.refl _).alloc _)) _ [e] (ents_one _ e) (fun b hb _ => by cases hb; exact HT.out.1.st.new (Nat.le_refl _)) (by have := HT.out.1.few; simp; omega) (n := 1) (putCount_one (b := false) HSK.out.1)).mono ?_; rintro _ w4 ⟨rfl, T1, hP1⟩; have HP1 := Lib.hid hP1; clear hP1; have HT0 := HT; clear HT) | (refine wl_load_rows rfl (HR.out.keep HP1.out.st.grow) HEJ.out.2 rfl rfl ?_) | (go_at_call 14; refine (rightEntry_is e _ true HEN.out).mono ?_; rintro _ w5 ⟨rfl, hg5⟩; have HG5 := Lib.hid hg5; clear hg5; have hk1 := (HR.out.keep (HP1.out.st.grow.trans HG5.out)) j e HEJ.out.2 1 _ rfl) | (refine wl_load_rows rfl (HR.out.keep (HP1.out.st.grow.trans HG5.out)) HEJ.out.2 rfl rfl ?_) | (go_at_call 13; refine (put_st ((HP1.out.st.step HG5.out).step ((Grow.refl _).alloc _)) _ [e] (ents_one _ e) (fun b hb _ => by cases hb; exact (HP1.out.st.step HG5.out).new (Nat.le_refl _)) (by have := HP1.out.few; have := HT0.out.1.few; simp at *; omega) (n := 0) (putCount_one (b := true) (by rw [HP1.out.abs, putAll_one]; exact skips_again HT0.out.1.good))).mono ?_; rintro _ w6 ⟨rfl, T2, hP2⟩; have HP2 := Lib.hid hP2; clear hP2; have HN := Lib.hid (HT0.out.1.next hlt HEJ.out.1 HP1.out HP2.out.abs HP2.out.st); clear hk1) | (go_at_call 15; refine (len_st HP2.out.st (n := q + 1) (by rw [HN.out.1, HP1.out.abs, putAll_one, putOne_len HT0.out.1.good, HSK.out.1, ← HT0.out.2]; rfl)).mono ?_; rintro _ w7 ⟨rfl, hg7⟩; have HN7 := Lib.hid (HN.out.2.step hg7); clear hg7; have hk6 := (HR.out.keep HN7.out.st.grow) j e HEJ.out.2 6 _ rfl) | (go_at_call 16; refine (versions_st HN7.out.st e.key (key_of_ent HEN.out)).mono ?_; rintro _ w8 ⟨v, rfl, hf⟩; obtain ⟨g, cp, rfl, hF⟩ := fresh_row hf (e := e) (by rw [HN.out.1, HP1.out.abs, putAll_one]; exact (putOne_mem e e.key).2 (.inr ⟨HSK.out.1, rfl, rfl⟩)); have hdl := hF.2.2.2.1; have HF := Lib.hid hF; clear hF hf hk6))
        generalize getA (absT T2) e.key = d at *
        go_loopw [9, 11] (fun fnd k wr2 => ∃ m : Nat, m ≤ d.length ∧ k = .int .i64 m ∧ fnd = .bool ((d.take m).any fun x => eqE x e) ∧ Grow w8 wr2) (fun _ k _ => d.length - (intOf k).toNat)
        case atStart => exact ⟨0, Nat.zero_le _, rfl, by simp, Grow.refl _⟩
        case round =>
          obtain ⟨m, hm, rfl, rfl, hg9⟩ := hrel
          have HG9 := Lib.hid hg9
          clear hg9
          by_cases hlm : m < d.length
          · have hgm : d[m]? = some d[m] := List.getElem?_eq_getElem hlm
            have HD := Lib.hid (And.intro hgm (any_take (q := fun x => eqE x e) hlm))
            clear hgm
            cases hfd : (d.take m).any fun x => eqE x e
            case true =>
              have HFD := Lib.hid hfd
              clear hfd
              go_wp2
              refine wp_region_loose 12 none (fun _ _ => True) (by kernel_rfl) (by kernel_rfl) (fun _ _ _ _ _ => trivial) ?_
              simp only [List.take_succ_cons, List.take_zero, List.drop_succ_cons, List.drop_zero]
              repeat (first
                  | (refine loose_skip (by decide) rfl ?_; simp only [Act.put, List.setIfInBounds_toArray, List.set_cons_zero, List.set_cons_succ])
                  | (apply loose_op (by decide) rfl
                     focus
                       intro w' hw'
                       have hc := gcell (wr.heap.size) hw' (by first | with_reducible assumption | (simp; done) | (simp; omega) | omega)
                       first
                        
                        | (go_simp
                           first
                             | (done)
                             | (exact rfl))
                     simp only [Act.put, List.setIfInBounds_toArray, List.set_cons_zero, List.set_cons_succ]))
              refine loose_nil ?_
              intro nu w10 hw10 hVw10
              simp only [finish, Act.put, List.getElem?_toArray, List.getElem?_cons_succ, List.getElem?_cons_zero, Option.bind_some, List.setIfInBounds_toArray, List.set_cons_zero, List.set_cons_succ]
              have hNw10 : wr.heap.size ≤ w10.heap.size := Nat.le_trans (by first | with_reducible assumption | (simp; done) | (simp; omega)) hw10.size
              have hcw10 := gcell (wr.heap.size) hw10 (by first | with_reducible assumption | (simp; done) | (simp; omega))
              go_wp2
              exact ⟨⟨m + 1, by omega, by go_num, by rw [HD.out.2, HFD.out, Bool.true_or], HG9.out.trans hw10⟩, by simp [intOf]; omega⟩
            case false =>
              have HFD := Lib.hid hfd
              clear hfd
              go_wp2
              refine wp_region_loose 12 none (fun _ _ => True) (by kernel_rfl) (by kernel_rfl) (fun _ _ _ _ _ => trivial) ?_
              simp only [List.take_succ_cons, List.take_zero, List.drop_succ_cons, List.drop_zero]
              repeat (first
                  | (refine loose_skip (by decide) rfl ?_; simp only [Act.put, List.setIfInBounds_toArray, List.set_cons_zero, List.set_cons_succ])
                  | (apply loose_op (by decide) rfl
                     focus
                       intro w' hw'
                       have hc := gcell (wr.heap.size) hw' (by first | with_reducible assumption | (simp; done) | (simp; omega) | omega)
                       first
                        | (first | exact quiet_of_exec (exec_load_rows0 rfl (HF.out.1.keep (HG9.out.trans hw')) HD.out.1 rfl) | exact quiet_of_exec (exec_load_rows rfl (HR.out.keep (HN7.out.st.grow.trans (HF.out.2.2.1.trans (HG9.out.trans hw')))) HEJ.out.2 rfl) | exact quiet_of_exec (exec_eql_ent rfl rfl rfl))
                        | (go_simp
                           first
                             | (done)
                             | (exact rfl))
                     simp only [Act.put, List.setIfInBounds_toArray, List.set_cons_zero, List.set_cons_succ]))
              refine loose_nil ?_
              intro nu w10 hw10 hVw10
              simp only [finish, Act.put, List.getElem?_toArray, List.getElem?_cons_succ, List.getElem?_cons_zero, Option.bind_some, List.setIfInBounds_toArray, List.set_cons_zero, List.set_cons_succ]
              have hNw10 : wr.heap.size ≤ w10.heap.size := Nat.le_trans (by first | with_reducible assumption | (simp; done) | (simp; omega)) hw10.size
              have hcw10 := gcell (wr.heap.size) hw10 (by first | with_reducible assumption | (simp; done) | (simp; omega))
              go_wp2
              exact ⟨⟨m + 1, by omega, by go_num, by rw [HD.out.2, HFD.out, Bool.false_or], HG9.out.trans hw10⟩, by simp [intOf]; omega⟩
          · have hany : ((d.take m).any fun x => eqE x e) = true := by
              rw [List.take_of_length_le (by omega), List.any_eq_true]
              exact ⟨e, HF.out.2.2.2.2, (eqE_iff e e).2 rfl⟩
            go_wp2
            have h8 := HN7.out.step (HF.out.2.2.1.trans HG9.out)
            have h9 : q + 1 = lenA (absT T2) := by rw [HN.out.1, HP1.out.abs, putAll_one, putOne_len HT0.out.1.good, HSK.out.1, ← HT0.out.2]; rfl
            exact ⟨⟨j + 1, q + 1, T2, by omega, by go_num, by go_num, h9, h8⟩, by simp [intOf]; omega⟩
    · have hb0 := run_build0
      have hje : j = es.length := by omega
      have HJE := Lib.hid hje
      clear hje
      go_wp2_with (first | (at_builtin; refine wl_append (d0 := []) rfl wr.heap.size rfl (owns_empty wr wr.heap.size (Nat.le_refl _)) rfl (HE.out.grow (HT.out.1.st.grow.trans ((Grow.refl _).alloc _))) ?c1 ?c2 rfl ?_; rotate_left; rotate_left; intro v' w4 hA; have HA := Lib.hid (And.intro hA (hA.grow ((Grow.refl wr).alloc _) (fun k hk => by cases hk; exact Nat.le_refl _))); clear hA) | (go_at_call 13; refine (put_st (HT.out.1.st.step HA.out.2) _ es (Ents.of_owns HA.out.1.owns) (fun b hb _ => fun hk => by have h1 := (ownsRow_block HA.out.1.owns hb).1; have h2 := (HT.out.1.st.store.foot_base hk).2; omega) (by have := HT.out.1.few; omega) (n := 0) (by have h1 := HT.out.1.abs; rw [List.take_of_length_le (by have := HJE.out; omega)] at h1; rw [h1]; exact (putAll_none es _ (fun e he => putAll_skips_mem es _ (GoodA.nil _) he)).2)).mono ?_; rintro _ w5 ⟨rfl, T3, hP3⟩; have HP3 := Lib.hid hP3; clear hP3))
      · go_ret
        exact ⟨rfl, HP3.out.st.grow⟩
      · simp; omega
      · simp

set_option maxRecDepth 100000 in
set_option maxHeartbeats 8000000 in
theorem twice_none (w : World) (rng : Int) (p : Option Addr) (cap : Nat) (hE : Ents w (.slice p 0 cap) []) :
    Calls Try.prog 3 #[.int .i64 rng, .slice p 0 cap] w fun r w' => r = .returned (.bool true) ∧ Grow w w' := by
  have HE := Lib.hid hE
  have hb0 := run_build0
  clear hE
  go_enter Try.func3, Try.ntmps3
  go_wp2_with (first | (go_at_call 10; refine (able_any _).mono ?_; rintro _ w1 ⟨rfl, hg1⟩; have HG1 := Lib.hid hg1; clear hg1) | (go_at_call 11; refine (much_any _ _ 0 1 [oneAct _ []] (acts_one (HE.out.grow HG1.out)) (by simp) (fun a ha => by rw [List.mem_singleton.1 ha]; exact ⟨by simp [oneAct], by simp [oneAct]⟩)).mono ?_; rintro _ w2 ⟨x, rfl, hx, hg2⟩; have HG2 := Lib.hid ((HG1.out.alloc _).trans hg2); clear hg2 hx; cases x) | (go_at_call 12; refine (new_st w w2 HG2.out rng).mono ?_; rintro _ w3 ⟨bs, bm, rfl, hst, _⟩; have HST := Lib.hid hst; clear hst))
  rotate_left
  · go_ret
    exact ⟨rfl, HG2.out⟩
  refine wp_loop_rounds 1 ?_
  rw [rounds_succ]
  go_wp2_with (first | (at_builtin; refine wl_append (d0 := []) rfl w3.heap.size rfl (owns_empty w3 w3.heap.size (Nat.le_refl _)) rfl (HE.out.grow (HST.out.grow.trans ((Grow.refl _).alloc _))) ?c1 ?c2 rfl ?_; rotate_left; rotate_left; intro v' w4 hA; have HA := Lib.hid (And.intro hA (hA.grow ((Grow.refl w3).alloc _) (fun k hk => by cases hk; exact Nat.le_refl _))); clear hA) | (go_at_call 13; refine (put_st (HST.out.step HA.out.2) _ [] (Ents.of_owns HA.out.1.owns) (fun b hb h0 => absurd rfl h0) (by simp [absT, lenA]) (n := 0) rfl).mono ?_; rintro _ w5 ⟨rfl, T3, hP3⟩; have HP3 := Lib.hid hP3; clear hP3))
  · go_ret
    exact ⟨rfl, HP3.out.st.grow⟩
  · simp
  · simp

theorem twice_any (w : World) (rng : Int) (p : Option Addr) (cap : Nat) (es : List Ent) (hE : Ents w (.slice p es.length cap) es) (hlen : es.length ≤ 140737488351232) (hel : ∀ e ∈ es, SmallE e) :
    Calls Try.prog 3 #[.int .i64 rng, .slice p es.length cap] w fun r w' => r = .returned (.bool true) ∧ Grow w w' := by
  by_cases h0 : es = []
  · subst h0
    exact twice_none w rng p cap hE
  · obtain ⟨p', cap', h1, h2, h3, _, h5⟩ := hE.is
    simp only [Value.slice.injEq] at h1
    obtain ⟨rfl, _, rfl⟩ := h1
    rcases h5 with h5 | ⟨b, off, rfl, hr, hb⟩
    · exact absurd h5 h0
    · exact twice_rows w rng b off cap es hr hb h2 h3 hlen hel

end Go.Proofs.Ytiicfpjblfohkaa
