/- The store's plain part: what laying a write in turns. -/
import Derived.Test.YtiicfpjblfohkaaA7
import Derived.Test.YtiicfpjblfohkaaA8b
namespace Go.Proofs.Ytiicfpjblfohkaa
set_option linter.unusedSimpArgs false
set_option linter.unusedVariables false
open Go.Sort Go.Shelf

noncomputable instance memDec (s : ByteArray) (l : List ByteArray) : Decidable (s ∈ l) := Classical.propDecidable _

theorem sortE_spec (d : List Ent) : (sortE d).Perm d ∧ (sortE d).Pairwise fun a b => ¬ ltE b a := by
  have hp := pdq_sorts (ltOf cmpE) swoE d.toArray 0 d.toArray.size (Lib.bitLen d.toArray.size) true true (Nat.zero_le _) (Nat.le_refl _) (Or.inl rfl)
  obtain ⟨⟨h1, h2, h3⟩, h4⟩ := hp
  have he : sortE d = (pdq (ltOf cmpE) d.toArray 0 d.toArray.size (Lib.bitLen d.toArray.size) true true).toList := rfl
  rw [he]
  generalize pdq (ltOf cmpE) d.toArray 0 d.toArray.size (Lib.bitLen d.toArray.size) true true = q at *
  constructor
  · rw [← h1] at h3
    have e1 : q.extract 0 q.size = q := by simp
    have e2 : d.toArray.extract 0 q.size = d.toArray := by rw [h1]; simp
    rw [e1, e2] at h3
    simpa using h3
  · rw [List.pairwise_iff_getElem]
    intro i j hi hj hij
    have hj' : j < q.size := by simpa using hj
    have hi' : i < q.size := by simpa using hi
    have := h4 i j (Nat.zero_le _) hij (by rw [← h1]; exact hj')
    rw [getElem!_pos q j hj', getElem!_pos q i hi'] at this
    unfold ltOf at this
    rw [decide_eq_false_iff_not, cmpE_lt] at this
    simpa using this

theorem sortE_perm (d : List Ent) : (sortE d).Perm d := (sortE_spec d).1
theorem sortE_mem {d : List Ent} {e : Ent} : e ∈ sortE d ↔ e ∈ d := (sortE_perm d).mem_iff
theorem sortE_length (d : List Ent) : (sortE d).length = d.length := (sortE_perm d).length_eq

theorem getA_cons' (p : ByteArray × List Ent) (A : Abs) (s : ByteArray) : getA (p :: A) s = if p.1 = s then p.2 else getA A s := by
  unfold getA
  simp only [List.find?_cons]
  by_cases h : p.1 = s <;> simp [h]
theorem getA_nil (s : ByteArray) : getA [] s = [] := rfl
theorem getA_append (A B : Abs) (s : ByteArray) : getA (A ++ B) s = if s ∈ A.map (·.1) then getA A s else getA B s := by
  induction A with
  | nil => simp
  | cons p A ih =>
    simp only [List.cons_append, getA_cons', List.map_cons, List.mem_cons, ih]
    by_cases h : p.1 = s
    · simp [h]
    · have h' : ¬ s = p.1 := fun e => h e.symm
      by_cases hs : s ∈ A.map (·.1) <;> simp [h, h', hs]
theorem getA_not {A : Abs} {s : ByteArray} (h : s ∉ A.map (·.1)) : getA A s = [] := by
  induction A with
  | nil => rfl
  | cons p A ih =>
    simp only [List.map_cons, List.mem_cons, not_or] at h
    rw [getA_cons', if_neg (fun e => h.1 e.symm), ih h.2]
theorem getA_mem {A : Abs} (hn : (A.map (·.1)).Nodup) {p : ByteArray × List Ent} (hp : p ∈ A) : getA A p.1 = p.2 := by
  induction A with
  | nil => cases hp
  | cons q A ih =>
    simp only [List.map_cons, List.nodup_cons] at hn
    rw [getA_cons']
    rcases List.mem_cons.1 hp with rfl | hp
    · simp
    · have : q.1 ≠ p.1 := fun e => hn.1 (e ▸ List.mem_map.2 ⟨p, hp, rfl⟩)
      rw [if_neg this]
      exact ih hn.2 hp
theorem mem_of_getA {A : Abs} {s : ByteArray} (h : s ∈ A.map (·.1)) : (s, getA A s) ∈ A := by
  induction A with
  | nil => cases h
  | cons q A ih =>
    rw [getA_cons']
    by_cases e : q.1 = s
    · rw [if_pos e, ← e]; exact List.mem_cons_self ..
    · rw [if_neg e]
      simp only [List.map_cons, List.mem_cons] at h
      exact List.mem_cons_of_mem _ (ih (h.resolve_left (fun e2 => e e2.symm)))

theorem any_keyA {A : Abs} {s : ByteArray} : A.any (fun p => decide (p.1 = s)) = true ↔ s ∈ A.map (·.1) := by
  simp only [List.any_eq_true, decide_eq_true_eq, List.mem_map]
theorem updA_keys (A : Abs) (s : ByteArray) (d : List Ent) : (updA A s d).map (·.1) = if s ∈ A.map (·.1) then A.map (·.1) else A.map (·.1) ++ [s] := by
  unfold updA
  by_cases h : s ∈ A.map (·.1)
  · rw [if_pos (any_keyA.2 h), if_pos h, List.map_map]
    refine List.map_congr_left fun p _ => ?_
    simp only [Function.comp]
    split <;> rfl
  · rw [if_neg (fun e => h (any_keyA.1 e)), if_neg h]
    simp
theorem updA_nodup {A : Abs} (h : (A.map (·.1)).Nodup) (s : ByteArray) (d : List Ent) : ((updA A s d).map (·.1)).Nodup := by
  rw [updA_keys]
  split
  · exact h
  · rename_i hs
    rw [List.nodup_append]
    refine ⟨h, by simp, fun a ha b hb e => ?_⟩
    rw [List.mem_singleton.1 hb] at e
    exact hs (e ▸ ha)
theorem getA_map (A : Abs) (s s' : ByteArray) (d : List Ent) : getA (A.map (fun p => if p.1 = s then (p.1, d) else p)) s' = if s' = s ∧ s ∈ A.map (·.1) then d else getA A s' := by
  induction A with
  | nil => simp [getA_nil]
  | cons p A ih =>
    simp only [List.map_cons, getA_cons', ih, List.mem_cons]
    by_cases h1 : p.1 = s
    · simp only [h1, if_true]
      by_cases h2 : s = s'
      · subst h2; simp
      · have : ¬ s' = s := fun e => h2 e.symm
        simp [h2, this]
    · have h1' : ¬ s = p.1 := fun e => h1 e.symm
      simp only [h1, if_false, h1', false_or]
      by_cases h2 : p.1 = s'
      · have : ¬ s' = s := fun e => h1 (h2.trans e)
        simp [h2, this]
      · simp [h2]
theorem getA_updA (A : Abs) (s s' : ByteArray) (d : List Ent) : getA (updA A s d) s' = if s' = s then d else getA A s' := by
  unfold updA
  by_cases h : s ∈ A.map (·.1)
  · rw [if_pos (any_keyA.2 h), getA_map]
    simp [h]
  · rw [if_neg (fun e => h (any_keyA.1 e)), getA_append]
    by_cases h2 : s' = s
    · subst h2
      simp [h, getA_cons']
    · simp only [h2, if_false]
      by_cases h3 : s' ∈ A.map (·.1)
      · rw [if_pos h3]
      · rw [if_neg h3, getA_not h3, getA_cons', if_neg (fun e => h2 e.symm)]
        rfl

theorem lenA_cons (p : ByteArray × List Ent) (A : Abs) : lenA (p :: A) = p.2.length + lenA A := by simp [lenA]
theorem lenA_append (A B : Abs) : lenA (A ++ B) = lenA A + lenA B := by simp [lenA]
theorem map_sameA {A : Abs} {s : ByteArray} {d : List Ent} (h : s ∉ A.map (·.1)) : A.map (fun p => if p.1 = s then (p.1, d) else p) = A := by
  refine (List.map_congr_left fun p hp => ?_).trans (List.map_id A)
  rw [if_neg (fun e => h (List.mem_map.2 ⟨p, hp, e⟩))]
  rfl
theorem lenA_updA {A : Abs} (hn : (A.map (·.1)).Nodup) (s : ByteArray) (d : List Ent) : lenA (updA A s d) + (getA A s).length = lenA A + d.length := by
  unfold updA
  by_cases h : s ∈ A.map (·.1)
  · rw [if_pos (any_keyA.2 h)]
    induction A with
    | nil => cases h
    | cons p A ih =>
      simp only [List.map_cons, List.nodup_cons] at hn
      simp only [List.map_cons, lenA_cons, getA_cons']
      by_cases e : p.1 = s
      · rw [if_pos e, if_pos e, map_sameA (e ▸ hn.1)]
        simp only
        omega
      · rw [if_neg e, if_neg e]
        simp only [List.map_cons, List.mem_cons] at h
        have := ih hn.2 (h.resolve_left (fun e2 => e e2.symm))
        omega
  · rw [if_neg (fun e => h (any_keyA.1 e)), getA_not h, lenA_append, lenA_cons]
    simp [lenA]

/-- A write of that name is held. -/
theorem hasA_iff {A : Abs} (hn : (A.map (·.1)).Nodup) (e : Ent) : hasA A e = true ↔ ∃ s, ∃ x ∈ getA A s, sameDot e.dc e.rng e.seq x = true := by
  unfold hasA
  simp only [List.any_eq_true]
  constructor
  · rintro ⟨p, hp, x, hx, h⟩
    exact ⟨p.1, x, by rw [getA_mem hn hp]; exact hx, h⟩
  · rintro ⟨s, x, hx, h⟩
    by_cases hs : s ∈ A.map (·.1)
    · exact ⟨_, mem_of_getA hs, x, hx, h⟩
    · rw [getA_not hs] at hx; cases hx

/-- What holds of a store of that range. -/
structure GoodA (rng : Int) (A : Abs) : Prop where
  keys : (A.map (·.1)).Nodup
  right : ∀ s, ∀ e ∈ getA A s, entB e = true ∧ e.rng = rng ∧ e.key = s
theorem GoodA.nil (rng : Int) : GoodA rng [] := ⟨by simp, fun s e h => by cases h⟩

section
variable {rng m0 m1 m2 : Int} {A : Abs} {e : Ent}
theorem skips_false : skips rng m0 m1 m2 A e = false ↔ entB e = true ∧ e.rng = rng ∧ coveredB m0 m1 m2 e = false ∧ hasA A e = false := by
  unfold skips
  simp only [Bool.or_eq_false_iff, Bool.not_eq_false', bne_eq_false_iff_eq, and_assoc]
theorem putOne_skip (h : skips rng m0 m1 m2 A e = true) : putOne rng m0 m1 m2 A e = A := by simp [putOne, h]
theorem putOne_lay (h : skips rng m0 m1 m2 A e = false) : putOne rng m0 m1 m2 A e = updA A e.key (sortE (getA A e.key ++ [e])) := by simp [putOne, h]
theorem putOne_get (h : skips rng m0 m1 m2 A e = false) (s : ByteArray) : getA (putOne rng m0 m1 m2 A e) s = if s = e.key then sortE (getA A e.key ++ [e]) else getA A s := by
  rw [putOne_lay h, getA_updA]
theorem putOne_mem (x : Ent) (s : ByteArray) : x ∈ getA (putOne rng m0 m1 m2 A e) s ↔ x ∈ getA A s ∨ (skips rng m0 m1 m2 A e = false ∧ x = e ∧ s = e.key) := by
  cases h : skips rng m0 m1 m2 A e
  · rw [putOne_get h]
    by_cases hs : s = e.key
    · subst hs
      rw [if_pos rfl, sortE_mem]
      simp
    · simp [hs]
  · rw [putOne_skip h]
    simp
theorem putOne_good (h : GoodA rng A) : GoodA rng (putOne rng m0 m1 m2 A e) := by
  constructor
  · unfold putOne
    split
    · exact h.keys
    · exact updA_nodup h.keys _ _
  · intro s x hx
    rcases (putOne_mem x s).1 hx with hx | ⟨hs, rfl, rfl⟩
    · exact h.right s x hx
    · have := skips_false.1 hs
      exact ⟨this.1, this.2.1, rfl⟩
theorem putOne_has (h : GoodA rng A) (x : Ent) : hasA (putOne rng m0 m1 m2 A e) x = true ↔ hasA A x = true ∨ (skips rng m0 m1 m2 A e = false ∧ sameDot x.dc x.rng x.seq e = true) := by
  rw [hasA_iff (putOne_good h).keys, hasA_iff h.keys]
  constructor
  · rintro ⟨s, y, hy, hd⟩
    rcases (putOne_mem y s).1 hy with hy | ⟨hs, rfl, rfl⟩
    · exact .inl ⟨s, y, hy, hd⟩
    · exact .inr ⟨hs, hd⟩
  · rintro (⟨s, y, hy, hd⟩ | ⟨hs, hd⟩)
    · exact ⟨s, y, (putOne_mem y s).2 (.inl hy), hd⟩
    · exact ⟨e.key, e, (putOne_mem e _).2 (.inr ⟨hs, rfl, rfl⟩), hd⟩
theorem putOne_len (h : GoodA rng A) : lenA (putOne rng m0 m1 m2 A e) = lenA A + (if skips rng m0 m1 m2 A e then 0 else 1) := by
  cases hs : skips rng m0 m1 m2 A e
  · rw [putOne_lay hs]
    have := lenA_updA h.keys e.key (sortE (getA A e.key ++ [e]))
    rw [sortE_length] at this
    simp at this ⊢
    omega
  · rw [putOne_skip hs]; simp
/-- A write that was laid in, or was skipped, is skipped ever after. -/
theorem skips_again (h : GoodA rng A) : skips rng m0 m1 m2 (putOne rng m0 m1 m2 A e) e = true := by
  cases hs : skips rng m0 m1 m2 A e
  · have : hasA (putOne rng m0 m1 m2 A e) e = true := (putOne_has h e).2 (.inr ⟨hs, by simp [sameDot]⟩)
    simp [skips, this]
  · rw [putOne_skip hs]; exact hs
theorem skips_stays (h : GoodA rng A) {x : Ent} (hx : skips rng m0 m1 m2 A x = true) : skips rng m0 m1 m2 (putOne rng m0 m1 m2 A e) x = true := by
  have hh : hasA A x = true → hasA (putOne rng m0 m1 m2 A e) x = true := fun h2 => (putOne_has h x).2 (.inl h2)
  unfold skips at *
  simp only [Bool.or_eq_true] at *
  rcases hx with hx | hx
  · exact .inl hx
  · exact .inr (hh hx)
theorem putAll_good : ∀ (es : List Ent) (A : Abs), GoodA rng A → GoodA rng (putAll rng m0 m1 m2 A es)
  | [], _, h => h
  | _ :: es, _, h => putAll_good es _ (putOne_good h)
theorem putAll_skips {x : Ent} : ∀ (es : List Ent) (A : Abs), GoodA rng A → skips rng m0 m1 m2 A x = true → skips rng m0 m1 m2 (putAll rng m0 m1 m2 A es) x = true
  | [], _, _, h => h
  | e :: es, A, hg, h => putAll_skips es _ (putOne_good hg) (skips_stays hg h)
theorem putAll_skips_mem {x : Ent} : ∀ (es : List Ent) (A : Abs), GoodA rng A → x ∈ es → skips rng m0 m1 m2 (putAll rng m0 m1 m2 A es) x = true
  | [], _, _, h => by cases h
  | e :: es, A, hg, h => by
    rcases List.mem_cons.1 h with rfl | h
    · exact putAll_skips es _ (putOne_good hg) (skips_again hg)
    · exact putAll_skips_mem es _ (putOne_good hg) h
theorem putAll_none : ∀ (es : List Ent) (A : Abs), (∀ e ∈ es, skips rng m0 m1 m2 A e = true) → putAll rng m0 m1 m2 A es = A ∧ putCount rng m0 m1 m2 A es = 0
  | [], _, _ => ⟨rfl, rfl⟩
  | e :: es, A, h => by
    have h1 := h e (List.mem_cons_self ..)
    have := putAll_none es A (fun x hx => h x (List.mem_cons_of_mem _ hx))
    simp only [putAll, List.foldl_cons, putCount] at this ⊢
    rw [putOne_skip h1]
    exact ⟨this.1, by rw [h1]; simp [this.2]⟩
theorem putAll_append (A : Abs) (es fs : List Ent) : putAll rng m0 m1 m2 A (es ++ fs) = putAll rng m0 m1 m2 (putAll rng m0 m1 m2 A es) fs := by simp [putAll]
end

end Go.Proofs.Ytiicfpjblfohkaa
