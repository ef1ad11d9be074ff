/- A slice of writes, read; append of such a slice to one that the call owns. -/
import Derived.Test.YtiicfpjblfohkaaA4b
import Derived.Maps.AppendAt
import Derived.Test.YtiicfpjblfohkaaA6b
import Derived.Laws.OwnMore
namespace Go.Proofs.Ytiicfpjblfohkaa
open Go.RowKit Go.Flow

/-- The value reads as these writes. -/
structure Ents (w : World) (v : Value) (d : List Ent) : Prop where
  is : ∃ p cap, v = .slice p d.length cap ∧ d.length ≤ cap ∧ cap ≤ maxLen ∧ (p = none → cap = 0) ∧ (d = [] ∨ ∃ b off, p = some ⟨b, off, none⟩ ∧ RowsAt w b off d ∧ b < w.heap.size)

theorem Ents.nil (w : World) : Ents w (.slice none 0 0) [] := ⟨none, 0, rfl, Nat.le_refl _, by decide, fun _ => rfl, .inl rfl⟩
theorem Ents.grow {w w' : World} {v : Value} {d : List Ent} (h : Ents w v d) (hg : Grow w w') : Ents w' v d := by
  obtain ⟨p, cap, h1, h2, h3, h4, h5⟩ := h.is
  refine ⟨p, cap, h1, h2, h3, h4, ?_⟩
  rcases h5 with h5 | ⟨b, off, h6, h7, h8⟩
  · exact .inl h5
  · exact .inr ⟨b, off, h6, h7.keep hg, Nat.lt_of_lt_of_le h8 hg.size⟩
theorem Ents.of_owns {w : World} {base : Nat} {v : Value} {d : List Ent} (h : w.ownsRow base 40 20 v d.length (flat d)) : Ents w v d := by
  rcases rows_of_owns h with ⟨rfl, rfl⟩ | ⟨g, cap, rfl, h1, h2, h3, h4, h5⟩
  · exact Ents.nil w
  · exact ⟨_, cap, rfl, h4, h5, (fun h => by cases h), .inr ⟨g, 0, rfl, h3, h2⟩⟩
theorem Ents.of_rows {w : World} {b off cap : Nat} {d : List Ent} (h : RowsAt w b off d) (hb : b < w.heap.size) (hc : d.length ≤ cap) (hm : cap ≤ maxLen) : Ents w (.slice (some ⟨b, off, none⟩) d.length cap) d :=
  ⟨_, cap, rfl, hc, hm, (fun h => by cases h), .inr ⟨b, off, rfl, h, hb⟩⟩
/-- In a world where its block is as it was. -/
theorem Ents.same {w w' : World} {v : Value} {d : List Ent} (h : Ents w v d) (hs : ∀ b, v.ownBlock = some b → d ≠ [] → w'.heap[b]? = w.heap[b]?) : Ents w' v d := by
  obtain ⟨p, cap, h1, h2, h3, h4, h5⟩ := h.is
  refine ⟨p, cap, h1, h2, h3, h4, ?_⟩
  rcases h5 with h5 | ⟨b, off, rfl, h7, h8⟩
  · exact .inl h5
  · by_cases hd : d = []
    · exact .inl hd
    · have h9 := hs b (by rw [h1]; rfl) hd
      refine .inr ⟨b, off, rfl, fun i e hi j u hj => ?_, ?_⟩
      · rw [World.cell?_of_block (w := w) (a := ⟨b, off + i * 20 + j, none⟩) h9]
        exact h7 i e hi j u hj
      · have := Array.getElem?_eq_getElem h8
        rw [← h9] at this
        exact (Array.getElem?_eq_some_iff.1 this).1

theorem rows_flat {w : World} {b off : Nat} {d : List Ent} (h : RowsAt w b off d) (j : Nat) (u : Value) (hj : (flat d)[j]? = some u) : w.cell? ⟨b, off + j, none⟩ = some u := by
  have hl := (List.getElem?_eq_some_iff.1 hj).1
  rw [flat_len] at hl
  have hq : j / 20 < d.length := by omega
  have hr : j % 20 < (encL d[j / 20]).length := by simp; omega
  have h1 := flat_get d (j / 20) d[j / 20] (List.getElem?_eq_getElem hq) (j % 20) _ (List.getElem?_eq_getElem hr)
  have e1 : j / 20 * 20 + j % 20 = j := by omega
  rw [e1, hj] at h1
  have h2 := h (j / 20) d[j / 20] (List.getElem?_eq_getElem hq) (j % 20) _ (List.getElem?_eq_getElem hr)
  rw [show off + j = off + j / 20 * 20 + j % 20 by omega, h2, Option.some.inj h1]

theorem flat_one (d : List Ent) : ∀ u ∈ flat d, u.oneCell' = true := by
  intro u hu
  obtain ⟨e, _, h⟩ := List.mem_flatMap.1 hu
  exact encL_one1 e u h

/-- What an append leaves. -/
structure Appended (w w' : World) (base : Nat) (v v' : Value) (d : List Ent) (m : Nat) : Prop where
  owns : w'.ownsRow base 40 20 v' d.length (flat d)
  grown : w.grownBy w' v.ownBlock
  nil_iff : v' = .slice none 0 0 ↔ v = .slice none 0 0 ∧ m = 0
  block : v'.ownBlock = v.ownBlock ∨ v'.ownBlock = some w.heap.size

theorem Appended.grow {w0 w w' : World} {base : Nat} {v v' : Value} {d : List Ent} {m : Nat} (h : Appended w w' base v v' d m) (hg : Grow w0 w) (hv : ∀ k, v.ownBlock = some k → w0.heap.size ≤ k) : Grow w0 w' :=
  ⟨⟨h.grown.os.trans hg.below.os, h.grown.tape.trans hg.below.tape, h.grown.output.trans hg.below.output, Nat.le_trans hg.below.size h.grown.size, fun k hk => (h.grown.block k (Nat.lt_of_lt_of_le hk hg.below.size) (fun e => by have := hv k e.symm; omega)).trans (hg.below.block k hk)⟩⟩

theorem run_append_ents {w : World} (base : Nat) (ty : TypeId) {v : Value} {d0 : List Ent} (hown : w.ownsRow base 40 20 v d0.length (flat d0)) {src : Value} {d : List Ent} (hs : Ents w src d) (hlen : d0.length + d.length ≤ 2000000) (hb : base ≤ w.heap.size) :
    ∃ v' w', (Builtin.append_ #[22, 22] ty #[v, src]).run Try.prog w = .ok v' w' ∧ Appended w w' base v v' (d0 ++ d) d.length := by
  obtain ⟨p, cap, rfl, h2, h3, h4, h5⟩ := hs.is
  obtain ⟨i40, hi40, hz0, hz1, hz2⟩ := info_parts Try.info40b
  rcases p with _ | a
  · have hd : d = [] := by have := h4 rfl; exact List.length_eq_zero_iff.1 (by omega)
    subst hd
    have hc := h4 rfl
    subst hc
    have hrun := run_append_owned_none (P := Try.prog) (w := w) base 22 ty 40 i40 20 und22 hi40 v d0.length (flat d0) hown
    exact ⟨v, w, hrun, ⟨by simpa using hown, ⟨rfl, rfl, rfl, Nat.le_refl _, fun _ _ _ => rfl⟩, by simp, .inl rfl⟩⟩
  · have hnews : ∀ j u, (flat d)[j]? = some u → w.cell? (a.add j) = some u := by
      intro j u hj
      rcases h5 with h5 | ⟨b, off, h6, h7, h8⟩
      · subst h5; simp [flat] at hj
      · cases h6
        have hadd : (⟨b, off, none⟩ : Addr).add j = ⟨b, off + j, none⟩ := by unfold Addr.add; split <;> simp_all
        rw [hadd]
        exact rows_flat h7 j u hj
    have hl : (flat d).length = d.length * i40.size := by rw [hz1]; exact flat_len d
    obtain ⟨v', w', h6, h7, h8, h9, h10⟩ := run_append_own_at (P := Try.prog) w base 22 ty 40 i40 _ i40.size i40.bytes und22 hi40 hz0 rfl rfl (by rw [hz1]; rfl) (by rw [hz1]; decide) v d0.length (flat d0) (by rw [hz1]; exact hown) a d.length cap (flat d) hl hnews (flat_one d)
      (by unfold maxLen; omega) (by rw [hz2]; omega) hb
    refine ⟨v', w', h6, ⟨?_, h8, h9, h10⟩⟩
    rw [List.length_append, flat_append, ← hz1]
    exact h7

theorem wpList_append_ents {ops : Array Oper} {rest : List Oper} {o : Oper} {a : Act} {w : World} {Q : Exit → Act → World → Prop} (hgd : o.guard = none) (s x : Operand)
    (ho : o.op = .call { callee := .builtin .append, args := #[s, x], argTypes := #[22, 22] }) (base : Nat) {v : Value} {d0 : List Ent} (hs : a.eval s = v) (hown : w.ownsRow base 40 20 v d0.length (flat d0)) {src : Value} {d : List Ent} (hx : a.eval x = src) (he : Ents w src d)
    (hlen : d0.length + d.length ≤ 2000000) (hb : base ≤ w.heap.size)
    (h : ∀ v' w', Appended w w' base v v' (d0 ++ d) d.length → wpList Try.prog ops Q rest (a.put o.dst v') w') :
    wpList Try.prog ops Q (o :: rest) a w := by
  refine wpList_plain hgd fun K hK => ?_
  obtain ⟨v', w', hr, h2⟩ := run_append_ents base o.type hown he hlen hb
  unfold Oper.wp execOp
  simp only [ho, resolve, invoke, builtin, Sem.run_bind, Sem.run_pure, Result.andThen_ok, List.map_toArray, List.map_cons, List.map_nil, hs, hx, hr]
  exact hK _ _ (h v' w' h2)

/-- An empty slice of one's own. -/
theorem owns_empty (w : World) (base : Nat) (hb : base ≤ w.heap.size) : (w.alloc (.cells #[] 40)).ownsRow base 40 20 (.slice (some ⟨w.heap.size, 0, none⟩) 0 0) 0 (flat []) :=
  ⟨rfl, .inr ⟨w.heap.size, 0, #[], rfl, hb, heap_alloc_new _ _, Nat.le_refl _, by decide, rfl, rfl⟩⟩

/-- A block that holds these writes one behind the other. -/
theorem rows_of_flat {w : World} {g : Nat} {d : List Ent} (h : w.heap[g]? = some (.cells (flat d).toArray 40 (0, 0))) : RowsAt w g 0 d := by
  intro i e hi j v hj
  rw [cell_of_row w g _ _ 40 (0, 0) h]
  have := flat_get d i e hi j v hj
  simpa using this

end Go.Proofs.Ytiicfpjblfohkaa
