/- Laying a slice into the store: what stands behind. -/
import Derived.Test.YtiicfpjblfohkaaA6b
import Derived.Maps.AppendAt
namespace Go.Proofs.Ytiicfpjblfohkaa
open Go.RowKit Go.Flow
open Go.ChangeMaps (setBlock)

def Foot (bs bm : Nat) (T : List Slot) (k : Nat) : Prop := k = bs ∨ k = bm ∨ ∃ t ∈ T, t.2.1.ownBlock = some k

/-- Only these blocks may have been written. -/
structure Upd (F : Nat → Prop) (w w' : World) : Prop where
  os : w'.os = w.os
  tape : w'.tape = w.tape
  output : w'.output = w.output
  size : w.heap.size ≤ w'.heap.size
  block : ∀ k, k < w.heap.size → ¬ F k → w'.heap[k]? = w.heap[k]?
theorem Upd.refl (F : Nat → Prop) (w : World) : Upd F w w := ⟨rfl, rfl, rfl, Nat.le_refl _, fun _ _ _ => rfl⟩
theorem Upd.grow {F : Nat → Prop} {a b c : World} (h : Upd F a b) (g : Grow b c) : Upd F a c :=
  ⟨g.below.os.trans h.os, g.below.tape.trans h.tape, g.below.output.trans h.output, Nat.le_trans h.size g.size, fun k hk hf => (g.below.block k (Nat.lt_of_lt_of_le hk h.size)).trans (h.block k hk hf)⟩
theorem Upd.of_grow (F : Nat → Prop) {a b : World} (g : Grow a b) : Upd F a b := (Upd.refl F a).grow g
/-- One behind the other: what the second may write is in the first's foot, or new. -/
theorem Upd.trans {F G : Nat → Prop} {a b c : World} (h : Upd F a b) (g : Upd G b c) (hG : ∀ k, G k → F k ∨ a.heap.size ≤ k) : Upd F a c :=
  ⟨g.os.trans h.os, g.tape.trans h.tape, g.output.trans h.output, Nat.le_trans h.size g.size, fun k hk hf => (g.block k (Nat.lt_of_lt_of_le hk h.size) (fun hg => (hG k hg).elim hf (fun h2 => by omega))).trans (h.block k hk hf)⟩

theorem Upd.growFrom {F : Nat → Prop} {a b c : World} (h : Grow a b) (u : Upd F b c) (hF : ∀ k, F k → a.heap.size ≤ k) : Grow a c :=
  ⟨⟨u.os.trans h.below.os, u.tape.trans h.below.tape, u.output.trans h.below.output, Nat.le_trans h.size u.size, fun k hk => (u.block k (Nat.lt_of_lt_of_le hk h.size) (fun hf => by have := hF k hf; omega)).trans (h.below.block k hk)⟩⟩

def updT (T : List Slot) (s : ByteArray) (v : Value) (d : List Ent) : List Slot := if T.any (fun t => decide (t.1 = s)) then T.map (fun t => if t.1 = s then (t.1, v, d) else t) else T ++ [(s, v, d)]

theorem updT_vals (T : List Slot) (s : ByteArray) (v : Value) (d : List Ent) : (updT T s v d).map (fun t => (t.1, t.2.1)) = updOf (T.map fun t => (t.1, t.2.1)) s v := by
  unfold updT updOf
  rw [List.any_map]
  simp only [Function.comp_def]
  split
  · simp only [List.map_map]
    refine List.map_congr_left fun t _ => ?_
    simp only [Function.comp]
    split <;> rfl
  · simp
theorem updT_abs (T : List Slot) (s : ByteArray) (v : Value) (d : List Ent) : absT (updT T s v d) = updA (absT T) s d := by
  unfold updT updA absT
  rw [List.any_map]
  simp only [Function.comp_def]
  split
  · simp only [List.map_map]
    refine List.map_congr_left fun t _ => ?_
    simp only [Function.comp]
    split <;> rfl
  · simp

theorem getA_cons (t : Slot) (T : List Slot) (s : ByteArray) : getA (absT (t :: T)) s = if t.1 = s then t.2.2 else getA (absT T) s := by
  unfold getA absT
  simp only [List.map_cons, List.find?_cons]
  by_cases h : t.1 = s <;> simp [h]
theorem map_same {T : List Slot} {s : ByteArray} {v : Value} {d : List Ent} (h : s ∉ T.map (·.1)) : T.map (fun t => if t.1 = s then (t.1, v, d) else t) = T := by
  refine (List.map_congr_left fun t ht => ?_).trans (List.map_id T)
  rw [if_neg (fun e => h (List.mem_map.2 ⟨t, ht, e⟩))]
  rfl
theorem updT_sum {T : List Slot} (hn : (T.map (·.1)).Nodup) (s : ByteArray) (v : Value) {d : List Ent} (hd : d.length ≤ (getA (absT T) s).length + 1) :
    ((updT T s v d).map fun t => t.2.2.length).sum ≤ (T.map fun t => t.2.2.length).sum + 1 := by
  unfold updT
  split
  · rename_i ha
    induction T with
    | nil => simp at ha
    | cons t T ih =>
      simp only [List.map_cons, List.nodup_cons] at hn
      simp only [List.map_cons, List.sum_cons]
      rw [getA_cons] at hd
      by_cases h : t.1 = s
      · rw [if_pos h] at hd
        rw [map_same (h ▸ hn.1), if_pos h]
        simp only
        omega
      · rw [if_neg h] at hd
        rw [if_neg h]
        have := ih hn.2 hd (by simpa [h] using ha)
        omega
  · rename_i ha
    have h0 : getA (absT T) s = [] := by
      clear hd hn
      induction T with
      | nil => rfl
      | cons t T ih =>
        simp only [List.any_cons, Bool.or_eq_true, decide_eq_true_eq, not_or] at ha
        rw [getA_cons, if_neg ha.1]
        exact ih ha.2
    rw [h0] at hd
    simp only [List.length_nil] at hd
    simp
    omega
theorem updT_mem {T : List Slot} {s : ByteArray} {v : Value} {d : List Ent} {t : Slot} (h : t ∈ updT T s v d) : t = (s, v, d) ∨ (t ∈ T ∧ t.1 ≠ s) := by
  unfold updT at h
  split at h
  · obtain ⟨u, hu, rfl⟩ := List.mem_map.1 h
    by_cases e : u.1 = s
    · rw [if_pos e, e]; exact .inl rfl
    · rw [if_neg e]; exact .inr ⟨hu, e⟩
  · rename_i ha
    rcases List.mem_append.1 h with h | h
    · refine .inr ⟨h, fun e => ha ?_⟩
      rw [List.any_eq_true]
      exact ⟨t, h, by simpa using e⟩
    · exact .inl (List.mem_singleton.1 h)

def Apart2 (t u : Slot) : Prop := t.2.1.ownBlock = none ∨ t.2.1.ownBlock ≠ u.2.1.ownBlock
theorem Apart2.symm {t u : Slot} (h : Apart2 t u) : Apart2 u t := by
  unfold Apart2 at *
  rcases h with h | h
  · by_cases e : u.2.1.ownBlock = none
    · exact .inl e
    · exact .inr (fun e2 => e (e2.trans h))
  · exact .inr (Ne.symm h)

theorem apart_of {T : List Slot} (hp : T.Pairwise Apart2) {t u : Slot} (ht : t ∈ T) (hu : u ∈ T) (hne : t.1 ≠ u.1) : Apart2 t u := by
  induction T with
  | nil => cases ht
  | cons x T ih =>
    rw [List.pairwise_cons] at hp
    rcases List.mem_cons.1 ht with rfl | h1 <;> rcases List.mem_cons.1 hu with rfl | h2
    · exact absurd rfl hne
    · exact hp.1 u h2
    · exact (hp.1 t h1).symm
    · exact ih hp.2 h1 h2

theorem updT_apart {T : List Slot} (hn : (T.map (·.1)).Nodup) (hp : T.Pairwise Apart2) {s : ByteArray} {v : Value} {d : List Ent} (hv : ∀ t ∈ T, t.1 ≠ s → Apart2 t (s, v, d)) : (updT T s v d).Pairwise Apart2 := by
  have hk : T.Pairwise fun t u => t.1 ≠ u.1 := by
    rw [List.nodup_iff_pairwise_ne, List.pairwise_map] at hn
    exact hn
  unfold updT
  split
  · rw [List.pairwise_map]
    refine (hp.and hk).imp_of_mem fun {t u} ht hu h => ?_
    by_cases e : t.1 = s
    · have e2 : u.1 ≠ s := fun e2 => h.2 (e.trans e2.symm)
      rw [if_pos e, if_neg e2]
      exact e ▸ (hv u hu e2).symm
    · rw [if_neg e]
      by_cases e2 : u.1 = s
      · rw [if_pos e2]; exact e2 ▸ hv t ht e
      · rw [if_neg e2]; exact h.1
  · rename_i ha
    rw [List.pairwise_append]
    refine ⟨hp, List.pairwise_singleton _ _, fun t ht u hu => ?_⟩
    rw [List.mem_singleton.1 hu]
    refine hv t ht fun e => ha ?_
    rw [List.any_eq_true]
    exact ⟨t, ht, by simpa using e⟩

theorem ownsRow_block {w : World} {base : Nat} {v : Value} {n : Nat} {xs : List Value} (h : w.ownsRow base 40 20 v n xs) {k : Nat} (hk : v.ownBlock = some k) : base ≤ k ∧ ∃ cur, w.heap[k]? = some (.cells cur 40 (0, 0)) := by
  rcases h.2 with ⟨rfl, _⟩ | ⟨g, cap, cur, rfl, hb, hg, _⟩
  · cases hk
  · cases hk; exact ⟨hb, cur, hg⟩
theorem ownsRow_of_same {w w' : World} {base : Nat} {v : Value} {n : Nat} {xs : List Value} (h : w.ownsRow base 40 20 v n xs) (hs : ∀ k, v.ownBlock = some k → w'.heap[k]? = w.heap[k]?) : w'.ownsRow base 40 20 v n xs := by
  refine ⟨h.1, ?_⟩
  rcases h.2 with hn | ⟨g, cap, cur, rfl, hb, hg, rest⟩
  · exact .inl hn
  · exact .inr ⟨g, cap, cur, rfl, hb, (hs g rfl).trans hg, rest⟩

theorem StoreAt.valOf_mem {w : World} {base bs bm : Nat} {rng m0 m1 m2 : Int} {T : List Slot} (_h : StoreAt w base bs bm rng m0 m1 m2 T) (s : ByteArray) {k : Nat} (hk : (valOf (T.map fun t => (t.1, t.2.1)) s).ownBlock = some k) :
    ∃ t ∈ T, t.1 = s ∧ t.2.1 = valOf (T.map fun t => (t.1, t.2.1)) s := by
  have e1 : (T.map fun t => (t.1, t.2.1)).find? (fun p => decide (p.1 = s)) = (T.find? fun t => decide (t.1 = s)).map fun t => (t.1, t.2.1) := by
    rw [List.find?_map]; rfl
  unfold valOf at hk ⊢
  rw [e1] at hk ⊢
  cases hf : T.find? fun t => decide (t.1 = s) with
  | none => rw [hf] at hk; cases hk
  | some t => exact ⟨t, List.mem_of_find?_eq_some hf, by simpa using List.find?_some hf, rfl⟩

theorem store_lay {w w3 w4 w5 : World} {base bs bm : Nat} {rng m0 m1 m2 : Int} {T : List Slot} (hS : StoreAt w base bs bm rng m0 m1 m2 T) {s : ByteArray} (hs : s.size ≤ maxLen) {v3 : Value} {d : List Ent}
    (h3 : w.grownBy w3 (valOf (T.map fun t => (t.1, t.2.1)) s).ownBlock) (hv : v3.ownBlock = (valOf (T.map fun t => (t.1, t.2.1)) s).ownBlock ∨ v3.ownBlock = some w.heap.size)
    (h4 : w3.grownBy w4 v3.ownBlock) (hd : w4.ownsRow base 40 20 v3 d.length (flat d)) (h5 : Grow w4 w5) (hlen : d.length ≤ (getA (absT T) s).length + 1) (hfew : (T.map fun t => t.2.2.length).sum + 1 ≤ 1000000) :
    (∀ k, k < w.heap.size → (∀ t ∈ T, t.2.1.ownBlock ≠ some k) → w5.heap[k]? = w.heap[k]?) ∧ w5.heap[bs]? = w.heap[bs]? ∧ w5.heap[bm]? = w.heap[bm]? ∧
    ∃ w6, (Instr.mapUpdate 78 (.map (some bm)) (.string s) v3).run Try.prog w5 = .ok () w6 ∧ StoreAt w6 base bs bm rng m0 m1 m2 (updT T s v3 d) ∧ Upd (Foot bs bm T) w w6 ∧ (∀ k, Foot bs bm (updT T s v3 d) k → Foot bs bm T k ∨ w.heap.size ≤ k) ∧
      ((updT T s v3 d).map fun t => t.2.2.length).sum ≤ (T.map fun t => t.2.2.length).sum + 1 := by
  obtain ⟨es, clock, hm, hK⟩ := hS.map
  have same4 : ∀ k, k < w.heap.size → (valOf (T.map fun t => (t.1, t.2.1)) s).ownBlock ≠ some k → w4.heap[k]? = w.heap[k]? := by
    intro k hk hne
    rw [h4.block k (Nat.lt_of_lt_of_le hk h3.size) (fun e => by
      rcases hv with hv | hv
      · exact hne (by rw [← hv, ← e])
      · rw [hv] at e; cases e; omega)]
    exact h3.block k hk (fun e => hne e.symm)
  have hle : w.heap.size ≤ w4.heap.size := Nat.le_trans h3.size h4.size
  have same5 : ∀ k, k < w.heap.size → (valOf (T.map fun t => (t.1, t.2.1)) s).ownBlock ≠ some k → w5.heap[k]? = w.heap[k]? := fun k hk hne =>
    (h5.below.block k (Nat.lt_of_lt_of_le hk hle)).trans (same4 k hk hne)
  have hrow := (hS.slice s).1
  have hnbs : (valOf (T.map fun t => (t.1, t.2.1)) s).ownBlock ≠ some bs := fun e => by
    obtain ⟨_, cur, hc⟩ := ownsRow_block hrow e
    rw [hS.head] at hc
    cases hc
  have hnbm : (valOf (T.map fun t => (t.1, t.2.1)) s).ownBlock ≠ some bm := fun e => by
    obtain ⟨_, cur, hc⟩ := ownsRow_block hrow e
    rw [hm] at hc
    cases hc
  have hb5 : w5.heap[bs]? = w.heap[bs]? := same5 bs hS.bs_lt hnbs
  have hm5 : w5.heap[bm]? = w.heap[bm]? := same5 bm hS.bm_lt hnbm
  refine ⟨fun k hk hno => same5 k hk (fun e => by
    obtain ⟨t, ht, _, h2⟩ := hS.valOf_mem s e
    exact hno t ht (h2 ▸ e)), hb5, hm5, ?_⟩
  obtain ⟨es', clock', hr, hK', _⟩ := run_upd hK (hm5.trans hm) hs v3
  have hbm5 : bm < w5.heap.size := (Array.getElem?_eq_some_iff.1 (hm5.trans hm)).1
  have set_ne : ∀ k, k ≠ bm → (setBlock w5 bm (.map es' clock')).heap[k]? = w5.heap[k]? := fun k hk => by
    show (w5.heap.setIfInBounds bm _)[k]? = _
    rw [Array.getElem?_setIfInBounds_ne (Ne.symm hk)]
  have hbsm : bs ≠ bm := fun e => by
    have := hS.head
    rw [e, hm] at this
    cases this
  have rest : ∀ t ∈ T, t.1 ≠ s → ∀ k, t.2.1.ownBlock = some k → (valOf (T.map fun t => (t.1, t.2.1)) s).ownBlock ≠ some k := by
    intro t ht hne k hk e
    obtain ⟨u, hu, h1, h2⟩ := hS.valOf_mem s e
    rcases apart_of hS.apart ht hu (fun e2 => hne (e2.trans h1)) with h3 | h3
    · rw [hk] at h3; cases h3
    · exact h3 (by rw [hk, h2, e])
  refine ⟨_, hr, ⟨?_, ⟨es', clock', ?_, ?_⟩, ?_, ?_, ?_, hS.base1, hS.base2⟩, ?_, ?_, updT_sum hK.slots s v3 hlen⟩
  · rw [set_ne bs hbsm, hb5]; exact hS.head
  · show (w5.heap.setIfInBounds bm _)[bm]? = _
    simp [hbm5]
  · rw [updT_vals]; exact hK'
  · intro t ht
    rcases updT_mem ht with rfl | ⟨ht, hne⟩
    · refine ownsRow_of_same (ownsRow_grow hd h5) fun k hk => set_ne k fun e => ?_
      subst e
      obtain ⟨_, cur, hc⟩ := ownsRow_block (ownsRow_grow hd h5) hk
      rw [hm5, hm] at hc
      cases hc
    · refine ownsRow_of_same (hS.rows t ht) fun k hk => ?_
      obtain ⟨_, cur, hc⟩ := ownsRow_block (hS.rows t ht) hk
      rw [set_ne k (fun e => by subst e; rw [hm] at hc; cases hc)]
      exact same5 k (Array.getElem?_eq_some_iff.1 hc).1 (rest t ht hne k hk)
  · refine updT_apart hK.slots hS.apart fun t ht hne => ?_
    by_cases e : t.2.1.ownBlock = none
    · exact .inl e
    · refine .inr fun e2 => ?_
      obtain ⟨k, hk⟩ := Option.ne_none_iff_exists'.1 e
      simp only at e2
      rcases hv with hv | hv
      · exact rest t ht hne k hk (by rw [← hv, ← e2, hk])
      · obtain ⟨_, cur, hc⟩ := ownsRow_block (hS.rows t ht) hk
        have := (Array.getElem?_eq_some_iff.1 hc).1
        rw [← e2, hk] at hv
        cases hv
        omega
  · have := updT_sum hK.slots s v3 hlen
    omega
  · refine ⟨h5.below.os.trans (h4.os.trans h3.os), h5.below.tape.trans (h4.tape.trans h3.tape), h5.below.output.trans (h4.output.trans h3.output), ?_, ?_⟩
    · show _ ≤ (w5.heap.setIfInBounds bm _).size
      simp only [Array.size_setIfInBounds]
      exact Nat.le_trans hle h5.size
    · intro k hk hf
      rw [set_ne k (fun e => hf (.inr (.inl e)))]
      refine same5 k hk fun e => hf (.inr (.inr ?_))
      obtain ⟨t, ht, _, h2⟩ := hS.valOf_mem s e
      exact ⟨t, ht, by rw [h2, e]⟩
  · intro k hk
    rcases hk with h | h | ⟨t, ht, hk⟩
    · exact .inl (.inl h)
    · exact .inl (.inr (.inl h))
    · rcases updT_mem ht with rfl | ⟨ht, _⟩
      · simp only at hk
        rcases hv with hv | hv
        · rw [hk] at hv
          obtain ⟨t, ht, _, h2⟩ := hS.valOf_mem s hv.symm
          exact .inl (.inr (.inr ⟨t, ht, by rw [h2, hv]⟩))
        · rw [hk] at hv; cases hv; exact .inr (Nat.le_refl _)
      · exact .inl (.inr (.inr ⟨t, ht, hk⟩))

theorem wpList_mapUpdate_at {ops : Array Oper} {rest : List Oper} {o : Oper} {a : Act} {w w6 : World} {Q : Exit → Act → World → Prop} (hgd : o.guard = none) (x k v : Operand) (ho : o.op = .mapUpdate 78 x k v)
    (hr : (Instr.mapUpdate 78 (a.eval x) (a.eval k) (a.eval v)).run Try.prog w = .ok () w6)
    (hk : wpList Try.prog ops Q rest (a.put o.dst undef) w6) : wpList Try.prog ops Q (o :: rest) a w :=
  wpList_plain hgd fun K hK => by
    unfold Oper.wp execOp
    simp only [ho, Sem.run_bind, Sem.run_pure, hr, Result.andThen_ok]
    exact hK _ _ hk

end Go.Proofs.Ytiicfpjblfohkaa
