/- The store's plain part: whatever the order, the same is held. -/
import Derived.Test.YtiicfpjblfohkaaB1
import Derived.Test.YtiicfpjblfohkaaA10
namespace Go.Proofs.Ytiicfpjblfohkaa

theorem ltE_tri {a b : Ent} (h1 : ¬ ltE a b) (h2 : ¬ ltE b a) : a.cnt = b.cnt ∧ a.sdc = b.sdc ∧ a.srng = b.srng ∧ a.seq = b.seq := by unfold ltE at *; omega
theorem inj_on_of_nodup {α β : Type} {f : α → β} {l : List α} (h : (l.map f).Nodup) {a b : α} (ha : a ∈ l) (hb : b ∈ l) (e : f a = f b) : a = b := by
  induction l with
  | nil => cases ha
  | cons x l ih =>
    simp only [List.map_cons, List.nodup_cons] at h
    rcases List.mem_cons.1 ha with rfl | h1 <;> rcases List.mem_cons.1 hb with rfl | h2
    · rfl
    · exact absurd (e ▸ List.mem_map.2 ⟨b, h2, rfl⟩) h.1
    · exact absurd (e ▸ List.mem_map.2 ⟨a, h1, rfl⟩) h.1
    · exact ih h.2 h1 h2

def dotOf (e : Ent) : Int × Int × Int := (e.dc, e.rng, e.seq)
theorem sameDot_iff (e x : Ent) : sameDot e.dc e.rng e.seq x = true ↔ dotOf x = dotOf e := by
  simp [sameDot, dotOf, and_assoc]
/-- Right for a store of that range, and not under the mark. -/
def rightB (rng m0 m1 m2 : Int) (e : Ent) : Bool := entB e && (e.rng == rng) && !coveredB m0 m1 m2 e
theorem skips_eq (rng m0 m1 m2 : Int) (A : Abs) (e : Ent) : skips rng m0 m1 m2 A e = (!rightB rng m0 m1 m2 e || hasA A e) := by
  unfold skips rightB
  cases entB e <;> cases h : (e.rng == rng) <;> cases coveredB m0 m1 m2 e <;> simp_all [bne]

/-- What is held behind a Put of writes of distinct names. -/
structure Held (rng m0 m1 m2 : Int) (l : List Ent) (A : Abs) : Prop where
  good : GoodA rng A
  mem : ∀ s x, x ∈ getA A s ↔ x ∈ l ∧ rightB rng m0 m1 m2 x = true ∧ x.key = s
  nodup : ∀ s, (getA A s).Nodup
  sorted : ∀ s, (getA A s).Pairwise fun a b => ¬ ltE b a
  keys : ∀ s, s ∈ A.map (·.1) ↔ ∃ x ∈ l, rightB rng m0 m1 m2 x = true ∧ x.key = s
  len : lenA A = (l.filter (rightB rng m0 m1 m2)).length

theorem Held.nil (rng m0 m1 m2 : Int) : Held rng m0 m1 m2 [] [] := by
  refine ⟨GoodA.nil _, fun s x => ?_, fun s => ?_, fun s => ?_, fun s => ?_, rfl⟩ <;> simp [getA_nil]

theorem Held.put {rng m0 m1 m2 : Int} {l : List Ent} {A : Abs} (h : Held rng m0 m1 m2 l A) {e : Ent} (hd : ∀ x ∈ l, dotOf x ≠ dotOf e) : Held rng m0 m1 m2 (l ++ [e]) (putOne rng m0 m1 m2 A e) := by
  have hno : hasA A e = false := by
    cases hh : hasA A e
    · rfl
    · obtain ⟨s, x, hx, hs⟩ := (hasA_iff h.good.keys e).1 hh
      exact absurd ((sameDot_iff e x).1 hs) (hd x ((h.mem s x).1 hx).1)
  have hsk : skips rng m0 m1 m2 A e = !rightB rng m0 m1 m2 e := by rw [skips_eq, hno, Bool.or_false]
  refine ⟨putOne_good h.good, fun s x => ?_, fun s => ?_, fun s => ?_, fun s => ?_, ?_⟩
  · rw [putOne_mem, h.mem, hsk]
    simp only [List.mem_append, List.mem_singleton, Bool.not_eq_false']
    constructor
    · rintro (⟨h1, h2, h3⟩ | ⟨h1, rfl, rfl⟩)
      · exact ⟨.inl h1, h2, h3⟩
      · exact ⟨.inr rfl, h1, rfl⟩
    · rintro ⟨h1 | rfl, h2, h3⟩
      · exact .inl ⟨h1, h2, h3⟩
      · exact .inr ⟨h2, rfl, h3.symm⟩
  · cases hr : skips rng m0 m1 m2 A e
    · rw [putOne_get hr]
      split
      · rw [(sortE_perm _).nodup_iff]
        rw [List.nodup_append]
        refine ⟨h.nodup _, by simp, fun a ha b hb e' => ?_⟩
        rw [List.mem_singleton.1 hb] at e'
        exact hd a ((h.mem _ a).1 ha).1 (by rw [e'])
      · exact h.nodup s
    · rw [putOne_skip hr]; exact h.nodup s
  · cases hr : skips rng m0 m1 m2 A e
    · rw [putOne_get hr]
      split
      · exact (sortE_spec _).2
      · exact h.sorted s
    · rw [putOne_skip hr]; exact h.sorted s
  · cases hr : skips rng m0 m1 m2 A e
    · have hre : rightB rng m0 m1 m2 e = true := by rw [hr] at hsk; simpa using hsk.symm
      rw [putOne_lay hr, updA_keys]
      have h1 : s ∈ (if e.key ∈ A.map (·.1) then A.map (·.1) else A.map (·.1) ++ [e.key]) ↔ s ∈ A.map (·.1) ∨ s = e.key := by
        split
        · rename_i hk
          exact ⟨.inl, fun h => h.elim id (fun e => e ▸ hk)⟩
        · simp
      rw [h1, h.keys]
      constructor
      · rintro (⟨x, hx, h2, h3⟩ | rfl)
        · exact ⟨x, List.mem_append_left _ hx, h2, h3⟩
        · exact ⟨e, by simp, hre, rfl⟩
      · rintro ⟨x, hx, h2, h3⟩
        rcases List.mem_append.1 hx with hx | hx
        · exact .inl ⟨x, hx, h2, h3⟩
        · rw [List.mem_singleton.1 hx] at h3; exact .inr h3.symm
    · have hre : rightB rng m0 m1 m2 e = false := by rw [hr] at hsk; simpa using hsk.symm
      rw [putOne_skip hr, h.keys]
      constructor
      · rintro ⟨x, hx, h2, h3⟩
        exact ⟨x, List.mem_append_left _ hx, h2, h3⟩
      · rintro ⟨x, hx, h2, h3⟩
        rcases List.mem_append.1 hx with hx | hx
        · exact ⟨x, hx, h2, h3⟩
        · rw [List.mem_singleton.1 hx, hre] at h2; cases h2
  · rw [putOne_len h.good, h.len, hsk, List.filter_append]
    cases hr : rightB rng m0 m1 m2 e <;> simp [List.filter_cons, hr]

theorem Held.all {rng m0 m1 m2 : Int} : ∀ (l' l : List Ent) (A : Abs), Held rng m0 m1 m2 l A → ((l ++ l').map dotOf).Nodup → Held rng m0 m1 m2 (l ++ l') (putAll rng m0 m1 m2 A l')
  | [], l, A, h, _ => by rw [List.append_nil]; exact h
  | e :: l', l, A, h, hn => by
    have hd : ∀ x ∈ l, dotOf x ≠ dotOf e := by
      intro x hx he
      rw [List.map_append, List.nodup_append] at hn
      exact hn.2.2 _ (List.mem_map.2 ⟨x, hx, rfl⟩) _ (List.mem_map.2 ⟨e, by simp, rfl⟩) he
    have h1 := h.put hd
    have h2 := Held.all l' (l ++ [e]) _ h1 (by rw [List.append_assoc]; exact hn)
    rw [List.append_assoc] at h2
    exact h2

theorem right_key {rng m0 m1 m2 : Int} {a : Ent} (h : rightB rng m0 m1 m2 a = true) : a.sdc = a.dc ∧ a.srng = a.rng := by
  simp only [rightB, Bool.and_eq_true] at h
  have h1 := h.1.1
  simp only [entB, Bool.and_eq_true, decide_eq_true_eq] at h1
  exact h1.1.1.1.1.1.1.2

/-- Two stores that hold the same writes of distinct names hold them alike. -/
theorem Held.same {rng m0 m1 m2 : Int} {l l' : List Ent} {A B : Abs} (hA : Held rng m0 m1 m2 l A) (hB : Held rng m0 m1 m2 l' B) (hp : l.Perm l') (hd : (l.map dotOf).Nodup) :
    (∀ s, getA A s = getA B s) ∧ (A.map (·.1)).Perm (B.map (·.1)) ∧ lenA A = lenA B := by
  refine ⟨fun s => ?_, ?_, ?_⟩
  · have hperm : (getA A s).Perm (getA B s) := (List.perm_ext_iff_of_nodup (hA.nodup s) (hB.nodup s)).2 (fun x => by rw [hA.mem, hB.mem, hp.mem_iff])
    refine List.Perm.eq_of_pairwise (fun a b ha hb h1 h2 => ?_) (hA.sorted s) (hB.sorted s) hperm
    have ma := (hA.mem s a).1 ha
    have mb := (hA.mem s b).1 (hperm.mem_iff.2 hb)
    obtain ⟨_, e2, e3, e4⟩ := ltE_tri h2 h1
    have ka := right_key ma.2.1
    have kb := right_key mb.2.1
    have hdot : dotOf a = dotOf b := by
      unfold dotOf
      rw [← ka.1, ← ka.2, ← kb.1, ← kb.2, e2, e3, e4]
    exact inj_on_of_nodup hd ma.1 mb.1 hdot
  · refine (List.perm_ext_iff_of_nodup hA.good.keys hB.good.keys).2 (fun s => ?_)
    rw [hA.keys, hB.keys]
    constructor
    · rintro ⟨x, h1, h2⟩; exact ⟨x, hp.mem_iff.1 h1, h2⟩
    · rintro ⟨x, h1, h2⟩; exact ⟨x, hp.mem_iff.2 h1, h2⟩
  · rw [hA.len, hB.len]
    exact (hp.filter _).length_eq

end Go.Proofs.Ytiicfpjblfohkaa
