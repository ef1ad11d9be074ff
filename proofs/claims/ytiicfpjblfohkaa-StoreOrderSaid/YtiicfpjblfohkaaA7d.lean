/- Two stores beside one another. -/
import Derived.Test.YtiicfpjblfohkaaA7c
import Derived.Test.YtiicfpjblfohkaaA10
import Derived.Test.YtiicfpjblfohkaaB2
namespace Go.Proofs.Ytiicfpjblfohkaa
set_option linter.unusedSimpArgs false
set_option linter.unusedVariables false
open Go.RowKit Go.Flow

theorem StoreAt.same {w w' : World} {base bs bm : Nat} {rng m0 m1 m2 : Int} {T : List Slot} (h : StoreAt w base bs bm rng m0 m1 m2 T) (hs : ∀ k, Foot bs bm T k → w'.heap[k]? = w.heap[k]?) : StoreAt w' base bs bm rng m0 m1 m2 T := by
  obtain ⟨es, clock, h1, h2⟩ := h.map
  exact ⟨(hs bs (.inl rfl)).trans h.head, ⟨es, clock, (hs bm (.inr (.inl rfl))).trans h1, h2⟩, fun t ht => ownsRow_of_same (h.rows t ht) (fun k hk => hs k (.inr (.inr ⟨t, ht, hk⟩))), h.apart, h.few, h.base1, h.base2⟩
theorem St.same {w wr w' : World} {bs bm : Nat} {rng m0 m1 m2 : Int} {T : List Slot} (h : St w bs bm rng m0 m1 m2 T wr) (hs : ∀ k, Foot bs bm T k → w'.heap[k]? = wr.heap[k]?) (hg : Grow w w') : St w bs bm rng m0 m1 m2 T w' := ⟨h.store.same hs, hg⟩

theorem put_sf {w wr : World} {bs bm : Nat} {rng m0 m1 m2 : Int} {T : List Slot} (h : St w bs bm rng m0 m1 m2 T wr) (v : Value) (es : List Ent) (hE : Ents wr v es) (hb : ∀ b, v.ownBlock = some b → es ≠ [] → ¬ Foot bs bm T b)
    (hfew : lenA (absT T) + es.length ≤ 1000000) :
    Calls Try.prog 13 #[.pointer (some ⟨bs, 0, none⟩), v] wr fun r w' => r = .returned (.int .i64 (putCount rng m0 m1 m2 (absT T) es)) ∧ ∃ T', PutSt w wr w' bs bm rng m0 m1 m2 T T' es ∧ ∀ k, Foot bs bm T' k → Foot bs bm T k ∨ wr.heap.size ≤ k := by
  rw [lenA_abs] at hfew
  refine (put_ents wr w.heap.size bs bm rng m0 m1 m2 T h.store v es hE hb hfew h.grow.size).mono ?_
  rintro r w' ⟨rfl, T', hI⟩
  refine ⟨rfl, T', ⟨⟨hI.store, ?_⟩, hI.abs, ?_, hI.upd.block, hI.upd.size⟩, hI.foot⟩
  · exact Upd.growFrom h.grow hI.upd (fun k hk => (h.store.foot_base hk).1)
  · rw [lenA_abs, lenA_abs]; exact hI.sum

theorem keys_st {w wr : World} {bs bm : Nat} {rng m0 m1 m2 : Int} {T : List Slot} (h : St w bs bm rng m0 m1 m2 T wr) (hfew : T.length ≤ 1000000) :
    Calls Try.prog 26 #[.pointer (some ⟨bs, 0, none⟩)] wr fun r w' => ∃ v, r = .returned v ∧ Texts wr w' v (sortK ((absT T).map (·.1))) := by
  have := keys_any wr _ bs bm rng m0 m1 m2 T h.store hfew
  simpa [absT, List.map_map, Function.comp_def] using this

theorem len_of_nonempty {A : Abs} (h : ∀ p ∈ A, p.2 ≠ []) : A.length ≤ lenA A := by
  induction A with
  | nil => simp
  | cons p A ih =>
    have h1 := ih (fun q hq => h q (List.mem_cons_of_mem _ hq))
    have h2 := List.length_pos_iff.2 (h p (List.mem_cons_self ..))
    rw [lenA_cons, List.length_cons]
    omega
theorem Held.few {rng m0 m1 m2 : Int} {l : List Ent} {A : Abs} (h : Held rng m0 m1 m2 l A) : A.length ≤ l.length := by
  refine Nat.le_trans (len_of_nonempty fun p hp h0 => ?_) (by rw [h.len]; exact List.length_filter_le _ _)
  obtain ⟨x, h1, h2, h3⟩ := (h.keys p.1).1 (List.mem_map.2 ⟨p, hp, rfl⟩)
  have := (h.mem p.1 x).2 ⟨h1, h2, h3⟩
  rw [getA_mem h.good.keys hp, h0] at this
  cases this

/-- Each name once: the first of each. -/
def onceL (l : List Ent) : List Ent := l.foldl (fun O e => if O.any (fun x => sameDot e.dc e.rng e.seq x) then O else O ++ [e]) []
theorem onceL_snoc (l : List Ent) (e : Ent) : onceL (l ++ [e]) = if (onceL l).any (fun x => sameDot e.dc e.rng e.seq x) then onceL l else onceL l ++ [e] := by simp [onceL]
theorem snoc_ind {p : List Ent → Prop} (h0 : p []) (hs : ∀ l e, p l → p (l ++ [e])) : ∀ l, p l := by
  intro l
  have : ∀ n, ∀ l : List Ent, l.length = n → p l := by
    intro n
    induction n with
    | zero => intro l hl; rw [List.length_eq_zero_iff.1 hl]; exact h0
    | succ n ih =>
      intro l hl
      have hne : l ≠ [] := fun e => by rw [e] at hl; simp at hl
      rw [← List.dropLast_concat_getLast hne]
      exact hs _ _ (ih _ (by simp [hl]))
  exact this _ l rfl
theorem onceL_len (l : List Ent) : (onceL l).length ≤ l.length := by
  refine snoc_ind (p := fun l => (onceL l).length ≤ l.length) (by simp [onceL]) (fun l e ih => ?_) l
  rw [onceL_snoc]
  split
  · simp; omega
  · simp; omega
theorem onceL_nodup (l : List Ent) : ((onceL l).map dotOf).Nodup := by
  refine snoc_ind (p := fun l => ((onceL l).map dotOf).Nodup) (by simp [onceL]) (fun l e ih => ?_) l
  rw [onceL_snoc]
  split
  · exact ih
  · rename_i h
    rw [List.map_append, List.nodup_append]
    refine ⟨ih, by simp, fun a ha b hb e' => ?_⟩
    simp at hb
    subst hb
    obtain ⟨x, hx, rfl⟩ := List.mem_map.1 ha
    exact h (List.any_eq_true.2 ⟨x, hx, (sameDot_iff e x).2 e'⟩)

end Go.Proofs.Ytiicfpjblfohkaa
