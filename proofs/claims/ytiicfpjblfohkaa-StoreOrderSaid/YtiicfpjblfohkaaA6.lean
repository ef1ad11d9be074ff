/- The store in memory: what it holds, and the calls that only read it. -/
import Derived.Test.YtiicfpjblfohkaaA5
namespace Go.Proofs.Ytiicfpjblfohkaa
open Go.RowKit Go.Flow
open Go.ChangeMaps (setBlock)
attribute [local irreducible] wpQuiet

def flat (d : List Ent) : List Value := d.flatMap encL
theorem flat_len (d : List Ent) : (flat d).length = d.length * 20 := by
  induction d with
  | nil => rfl
  | cons e d ih => simp only [flat, List.flatMap_cons, List.length_append] at ih ⊢; rw [ih]; simp; omega
theorem flat_append (d d' : List Ent) : flat (d ++ d') = flat d ++ flat d' := by simp [flat]
theorem flat_get (d : List Ent) : ∀ (i : Nat) (e : Ent), d[i]? = some e → ∀ (j : Nat) (v : Value), (encL e)[j]? = some v → (flat d)[i * 20 + j]? = some v := by
  induction d with
  | nil => intro i e h; simp at h
  | cons x d ih =>
    intro i e h j v hj
    have hj20 : j < 20 := by have := (List.getElem?_eq_some_iff.1 hj).1; simpa using this
    cases i with
    | zero =>
      simp at h
      subst h
      simp only [flat, List.flatMap_cons, Nat.zero_mul, Nat.zero_add]
      rw [List.getElem?_append_left (by simpa using hj20)]
      exact hj
    | succ i =>
      have := ih i e (by simpa using h) j v hj
      simp only [flat, List.flatMap_cons] at this ⊢
      rw [List.getElem?_append_right (by simp; omega)]
      have e1 : (i + 1) * 20 + j - (encL x).length = i * 20 + j := by simp; omega
      rw [e1]
      exact this

theorem rows_of_owns {w : World} {base : Nat} {v : Value} {d : List Ent} (h : w.ownsRow base 40 20 v d.length (flat d)) :
    (v = .slice none 0 0 ∧ d = []) ∨ ∃ g cap, v = .slice (some ⟨g, 0, none⟩) d.length cap ∧ base ≤ g ∧ g < w.heap.size ∧ RowsAt w g 0 d ∧ d.length ≤ cap ∧ cap ≤ maxLen := by
  rcases h.2 with ⟨h1, h2⟩ | ⟨g, cap, cur, h1, h2, h3, h4, h5, h6, h7⟩
  · exact .inl ⟨h1, List.length_eq_zero_iff.1 h2⟩
  · refine .inr ⟨g, cap, h1, h2, (Array.getElem?_eq_some_iff.1 h3).1, ?_, h4, h5⟩
    intro i e hi j u hj
    have hf := flat_get d i e hi j u hj
    rw [← h7] at hf
    rw [cell_of_row w g _ cur 40 (0, 0) h3]
    have hlt := (List.getElem?_eq_some_iff.1 hf).1
    rw [List.getElem?_take] at hf
    split at hf
    · simpa using hf
    · cases hf

/-- A key, the slice that is stored at it, and the writes that it holds. -/
abbrev Slot := ByteArray × Value × List Ent

/-- THE STORE IN MEMORY: its head lies in block bs, its map in block bm. -/
structure StoreAt (w : World) (base bs bm : Nat) (rng m0 m1 m2 : Int) (T : List Slot) : Prop where
  head : w.heap[bs]? = some (.cells #[.int .i64 rng, .map (some bm), .int .i64 m0, .int .i64 m1, .int .i64 m2] 80 (0, 0))
  map : ∃ es clock, w.heap[bm]? = some (.map es clock) ∧ KMap es clock (T.map fun t => (t.1, t.2.1))
  rows : ∀ t ∈ T, w.ownsRow base 40 20 t.2.1 t.2.2.length (flat t.2.2)
  apart : T.Pairwise fun t u => t.2.1.ownBlock = none ∨ t.2.1.ownBlock ≠ u.2.1.ownBlock
  few : (T.map fun t => t.2.2.length).sum ≤ 1000000
  base1 : base ≤ bs
  base2 : base ≤ bm

theorem StoreAt.bs_lt {w : World} {base bs bm : Nat} {rng m0 m1 m2 : Int} {T : List Slot} (h : StoreAt w base bs bm rng m0 m1 m2 T) : bs < w.heap.size := (Array.getElem?_eq_some_iff.1 h.head).1
theorem StoreAt.bm_lt {w : World} {base bs bm : Nat} {rng m0 m1 m2 : Int} {T : List Slot} (h : StoreAt w base bs bm rng m0 m1 m2 T) : bm < w.heap.size := by
  obtain ⟨es, clock, h1, _⟩ := h.map
  exact (Array.getElem?_eq_some_iff.1 h1).1
theorem ownsRow_grow {w w' : World} {base : Nat} {v : Value} {n : Nat} {xs : List Value} (h : w.ownsRow base 40 20 v n xs) (hg : Grow w w') : w'.ownsRow base 40 20 v n xs :=
  h.kept (row := none) ⟨hg.below.os, hg.below.tape, hg.below.output, hg.below.size, fun k hk _ => hg.below.block k hk⟩ (by cases v.ownBlock <;> simp)
theorem StoreAt.grow {w w' : World} {base bs bm : Nat} {rng m0 m1 m2 : Int} {T : List Slot} (h : StoreAt w base bs bm rng m0 m1 m2 T) (hg : Grow w w') : StoreAt w' base bs bm rng m0 m1 m2 T := by
  obtain ⟨es, clock, h1, h2⟩ := h.map
  exact ⟨(hg.below.block bs h.bs_lt).trans h.head, ⟨es, clock, (hg.below.block bm h.bm_lt).trans h1, h2⟩, fun t ht => ownsRow_grow (h.rows t ht) hg, h.apart, h.few, h.base1, h.base2⟩
theorem StoreAt.cells {w : World} {base bs bm : Nat} {rng m0 m1 m2 : Int} {T : List Slot} (h : StoreAt w base bs bm rng m0 m1 m2 T) :
    w.cell? ⟨bs, 0, none⟩ = some (.int .i64 rng) ∧ w.cell? ⟨bs, 1, none⟩ = some (.map (some bm)) ∧ w.cell? ⟨bs, 2, none⟩ = some (.int .i64 m0) ∧ w.cell? ⟨bs, 3, none⟩ = some (.int .i64 m1) ∧ w.cell? ⟨bs, 4, none⟩ = some (.int .i64 m2) := by
  refine ⟨?_, ?_, ?_, ?_, ?_⟩ <;> simp [World.cell?, h.head]

theorem list_small {T : List Slot} (h : (T.map fun t => t.2.2.length).sum ≤ 1000000) {t : Slot} (ht : t ∈ T) : t.2.2.length ≤ 1000000 := by
  have h2 : t.2.2.length ≤ (T.map fun t => t.2.2.length).sum := by
    clear h
    induction T with
    | nil => cases ht
    | cons x T ih =>
      simp only [List.map_cons, List.sum_cons]
      rcases List.mem_cons.1 ht with rfl | ht
      · omega
      · have := ih ht; omega
  omega

/-- What has been said of the entries that the loop has had. -/
def SeenSay (es : Array MapEntry) (T : List Slot) (P : Slot → Prop) (seen : Array Nat) : Prop := ∀ e ∈ es.toList, seen.contains e.born = true → ∀ t ∈ T, e.key = .string t.1 → P t

theorem SeenSay.start (es : Array MapEntry) (T : List Slot) (P : Slot → Prop) : SeenSay es T P #[] := fun e _ h => by simp at h

theorem slot_of {es : Array MapEntry} {clock : Nat} {T : List Slot} (hK : KMap es clock (T.map fun t => (t.1, t.2.1))) {e : MapEntry} (he : e ∈ es.toList) : ∃ t ∈ T, e.key = .string t.1 ∧ e.val = t.2.1 := by
  obtain ⟨p, hp, h1, h2⟩ := hK.mem he
  obtain ⟨t, ht, rfl⟩ := List.mem_map.1 hp
  exact ⟨t, ht, h1, h2⟩
theorem entry_of {es : Array MapEntry} {clock : Nat} {T : List Slot} (hK : KMap es clock (T.map fun t => (t.1, t.2.1))) {t : Slot} (ht : t ∈ T) : ∃ e ∈ es.toList, e.key = .string t.1 ∧ e.val = t.2.1 :=
  hK.back (p := (t.1, t.2.1)) (List.mem_map.2 ⟨t, ht, rfl⟩)
theorem eq_of_key {T : List Slot} (hn : (T.map (·.1)).Nodup) {t u : Slot} (ht : t ∈ T) (hu : u ∈ T) (h : t.1 = u.1) : t = u := by
  induction T with
  | nil => cases ht
  | cons x T ih =>
    simp only [List.map_cons, List.nodup_cons] at hn
    rcases List.mem_cons.1 ht with rfl | h1 <;> rcases List.mem_cons.1 hu with rfl | h2
    · rfl
    · exact absurd (h ▸ List.mem_map.2 ⟨u, h2, rfl⟩) hn.1
    · exact absurd (h ▸ List.mem_map.2 ⟨t, h1, rfl⟩) hn.1
    · exact ih hn.2 h1 h2
theorem KMap.slots {es : Array MapEntry} {clock : Nat} {T : List Slot} (hK : KMap es clock (T.map fun t => (t.1, t.2.1))) : (T.map (·.1)).Nodup := by
  have := hK.keys
  rwa [List.map_map] at this
theorem eq_of_born : ∀ {l : List MapEntry}, (l.map (·.born)).Nodup → ∀ {e f : MapEntry}, e ∈ l → f ∈ l → e.born = f.born → e = f
  | [], _, _, _, h, _, _ => by cases h
  | x :: l, hn, e, f, he, hf, h => by
    simp only [List.map_cons, List.nodup_cons] at hn
    rcases List.mem_cons.1 he with rfl | h1 <;> rcases List.mem_cons.1 hf with rfl | h2
    · rfl
    · exact absurd (h ▸ List.mem_map.2 ⟨f, h2, rfl⟩) hn.1
    · exact absurd (h ▸ List.mem_map.2 ⟨e, h1, rfl⟩) hn.1
    · exact eq_of_born hn.2 h1 h2 h
theorem SeenSay.push {es : Array MapEntry} {clock : Nat} {T : List Slot} (hK : KMap es clock (T.map fun t => (t.1, t.2.1))) {P : Slot → Prop} {seen : Array Nat} (h : SeenSay es T P seen) {e : MapEntry} (he : e ∈ es.toList)
    {t : Slot} (ht : t ∈ T) (hk : e.key = .string t.1) (hP : P t) : SeenSay es T P (seen.push e.born) := by
  intro f hf hs u hu hku
  by_cases hb : f.born = e.born
  · have hfe := eq_of_born hK.nodup hf he hb
    subst hfe
    rw [hk] at hku
    have := eq_of_key hK.slots ht hu (Value.string.inj hku)
    exact this ▸ hP
  · refine h f hf ?_ u hu hku
    simp only [Array.contains_push] at hs
    simpa [hb] using hs
theorem SeenSay.all {es : Array MapEntry} {clock : Nat} {T : List Slot} (hK : KMap es clock (T.map fun t => (t.1, t.2.1))) {P : Slot → Prop} {seen : Array Nat} (h : SeenSay es T P seen) (h0 : (leftOf es seen).size = 0) : ∀ t ∈ T, P t := fun t ht => by
  obtain ⟨e, he, hk, _⟩ := entry_of hK ht
  exact h e he (all_seen es seen h0 e he) t ht hk

set_option maxHeartbeats 1000000 in
/-- ContainsFunc of whatever slice a slot holds. -/
theorem contains_slot {base : Nat} (t : Slot) (bd : Nat) (dc rng seq : Int) (w : World) (hr : w.ownsRow base 40 20 t.2.1 t.2.2.length (flat t.2.2)) (hl : t.2.2.length ≤ 1000000)
    (h0 : w.cell? ⟨bd, 0, none⟩ = some (.int .i64 dc)) (h1 : w.cell? ⟨bd, 1, none⟩ = some (.int .i64 rng)) (h2 : w.cell? ⟨bd, 2, none⟩ = some (.int .i64 seq)) (hb : bd < w.heap.size) :
    Calls Try.prog 60 #[t.2.1, .func (.func 61) #[] #[.pointer (some ⟨bd, 0, none⟩)]] w fun r w' => r = .returned (.bool (t.2.2.any (sameDot dc rng seq))) ∧ Grow w w' := by
  obtain ⟨k, v, d⟩ := t
  simp only at *
  rcases rows_of_owns hr with ⟨rfl, rfl⟩ | ⟨g, cap, rfl, _, _, hrow, _, _⟩
  · exact containsFunc_nil _ _
  · exact containsFunc_any g 0 cap d bd dc rng seq w h0 h1 h2 hb hrow (by omega)

set_option maxHeartbeats 2000000 in
theorem has_any (w : World) (base bs bm : Nat) (rng m0 m1 m2 : Int) (T : List Slot) (hS : StoreAt w base bs bm rng m0 m1 m2 T) (dc r0 seq : Int) :
    Calls Try.prog 36 #[.pointer (some ⟨bs, 0, none⟩), .agg #[.int .i64 dc, .int .i64 r0, .int .i64 seq]] w fun r w' => r = .returned (.bool (T.any fun t => t.2.2.any (sameDot dc r0 seq))) ∧ Grow w w' := by
  obtain ⟨es, clock, hmap, hK⟩ := hS.map
  have hbs := hS.bs_lt
  have hbm := hS.bm_lt
  obtain ⟨c0, c1, c2, c3, c4⟩ := hS.cells
  have HS := Lib.hid hS
  have HK := Lib.hid hK
  have HM := Lib.hid hmap
  clear hS hK hmap
  go_enter Try.func36, Try.ntmps36
  have hm1 : (w.alloc (Obj.cells #[Value.int IntKind.i64 dc, Value.int IntKind.i64 r0, Value.int IntKind.i64 seq] 34)).heap[bm]? = some (.map es clock) := by
    rw [Below.heap_alloc _ _ _ hbm]; exact HM.out
  have HM1 := Lib.hid hm1
  clear hm1
  go_wp2_with (refine wpList_range_kv rfl _ rfl bm es clock rfl HM1.out ?_)
  have hg0 : Grow w (w.alloc (Obj.cells #[Value.int IntKind.i64 dc, Value.int IntKind.i64 r0, Value.int IntKind.i64 seq] 34)) := (Grow.refl _).alloc _
  have hk0 : (w.alloc (Obj.cells #[Value.int IntKind.i64 dc, Value.int IntKind.i64 r0, Value.int IntKind.i64 seq] 34)).cell? ⟨w.heap.size, 0, none⟩ = some (.int .i64 dc) ∧ (w.alloc (Obj.cells #[Value.int IntKind.i64 dc, Value.int IntKind.i64 r0, Value.int IntKind.i64 seq] 34)).cell? ⟨w.heap.size, 1, none⟩ = some (.int .i64 r0) ∧ (w.alloc (Obj.cells #[Value.int IntKind.i64 dc, Value.int IntKind.i64 r0, Value.int IntKind.i64 seq] 34)).cell? ⟨w.heap.size, 2, none⟩ = some (.int .i64 seq) := by
    refine ⟨?_, ?_, ?_⟩ <;> simp
  have hr0 : ((w.alloc (Obj.cells #[Value.int IntKind.i64 dc, Value.int IntKind.i64 r0, Value.int IntKind.i64 seq] 34)).alloc (.mapIter (some bm) clock #[] clock)).heap[(w.alloc (Obj.cells #[Value.int IntKind.i64 dc, Value.int IntKind.i64 r0, Value.int IntKind.i64 seq] 34)).heap.size]? = some (.mapIter (some bm) clock #[] clock) := heap_alloc_new _ _
  have hsz : (w.alloc (Obj.cells #[Value.int IntKind.i64 dc, Value.int IntKind.i64 r0, Value.int IntKind.i64 seq] 34)).heap.size = w.heap.size + 1 := by simp
  generalize w.alloc (Obj.cells #[Value.int IntKind.i64 dc, Value.int IntKind.i64 r0, Value.int IntKind.i64 seq] 34) = W0 at *
  have HK0 := Lib.hid hk0
  have HR0 := Lib.hid hr0
  have HZ := Lib.hid hsz
  clear hk0 hr0 hsz
  go_frame
  go_loopw [6] (fun _ wr => ∃ seen c0, wr.heap[W0.heap.size]? = some (.mapIter (some bm) clock seen c0) ∧ clock ≤ c0 ∧ Grow W0 wr ∧ SeenSay es T (fun t => t.2.2.any (sameDot dc r0 seq) = false) seen) (fun _ wr => wr.rangeLeft bm (W0.heap.size))
  case atStart => exact ⟨#[], clock, HR0.out, Nat.le_refl _, (Grow.refl _).alloc _, SeenSay.start _ _ _⟩
  case round =>
    obtain ⟨seen, c0, hr, hc0, hg, hsay⟩ := hrel
    have hbr : wr.heap[bm]? = some (.map es clock) := (hg.below.block bm (by have := HZ.out; omega)).trans HM1.out
    have HBR := Lib.hid hbr
    have HR := Lib.hid hr
    have HSA := Lib.hid hsay
    clear hbr hr hsay
    go_wp2_with (refine wpList_next_kv rfl _ rfl (W0.heap.size) bm clock c0 seen es clock rfl HR.out HBR.out HK.out.born hc0 ?_ ?_)
    focus
      unfold NextDone
      intro h0
      have H0 := Lib.hid h0
      clear h0
      go_wp2
      go_ret
      refine ⟨ret_bool ?_, hg0.trans hg⟩
      have := HSA.out.all HK.out H0.out
      symm
      rw [List.any_eq_false]
      intro t ht
      rw [this t ht]
      simp
    unfold NextMore
    intro e he w1 hw1
    obtain ⟨hee, hes⟩ := mem_left he
    obtain ⟨t, ht, hkey, hval⟩ := slot_of HK.out hee
    have hg1 : Grow W0 w1 := by rcases hw1 with rfl | rfl; exact hg; exact hg.drew
    have hlt : W0.heap.size < w1.heap.size := by
      have h1 : W0.heap.size < wr.heap.size := (Array.getElem?_eq_some_iff.1 HR.out).1
      rcases hw1 with rfl | rfl <;> exact h1
    have hg2 : Grow W0 (setBlock w1 W0.heap.size (.mapIter (some bm) clock (seen.push e.born) clock)) := hg1.setBlock (Nat.le_refl _) _
    have hr2 : (setBlock w1 W0.heap.size (.mapIter (some bm) clock (seen.push e.born) clock)).heap[W0.heap.size]? = some (.mapIter (some bm) clock (seen.push e.born) clock) := by simp [setBlock, hlt]
    have hb2 : (setBlock w1 W0.heap.size (.mapIter (some bm) clock (seen.push e.born) clock)).heap[bm]? = some (.map es clock) := (hg2.below.block bm (by have := HZ.out; omega)).trans HM1.out
    have hme : (setBlock w1 W0.heap.size (.mapIter (some bm) clock (seen.push e.born) clock)).rangeLeft bm W0.heap.size < wr.rangeLeft bm W0.heap.size := by
      simp only [World.rangeLeft, hr2, hb2, HR.out, HBR.out]
      exact left_shrinks es seen e he
    generalize setBlock w1 W0.heap.size (.mapIter (some bm) clock (seen.push e.born) clock) = W2 at *
    have hrow := ownsRow_grow (HS.out.rows t ht) (hg0.trans hg2)
    have hlen := list_small HS.out.few ht
    have hbd : w.heap.size < W2.heap.size := by have := hg2.size; have := HZ.out; omega
    have hc := gcell (w.heap.size + 1) hg2 (by have := HZ.out; omega)
    have k0 := (hc.1 w.heap.size 0 (by omega)).trans HK0.out.1
    have k1 := (hc.1 w.heap.size 1 (by omega)).trans HK0.out.2.1
    have k2 := (hc.1 w.heap.size 2 (by omega)).trans HK0.out.2.2
    have HR2 := Lib.hid hr2
    have HB2 := Lib.hid hb2
    have HKV := Lib.hid (And.intro hkey hval)
    have HRW := Lib.hid hrow
    have HME := Lib.hid hme
    have HK2 := Lib.hid (And.intro k0 (And.intro k1 k2))
    clear hr2 hb2 hkey hval hrow hme hc k0 k1 k2 c1 c2 c3 c4
    go_wp2_with (first | (refine wpList_entry_kv rfl _ rfl W0.heap.size bm clock seen es clock e rfl HR2.out HB2.out hee HK.out.nodup ?_; rw [HKV.out.1, HKV.out.2]) | (go_at_call 60; refine (contains_slot t w.heap.size dc r0 seq _ HRW.out hlen HK2.out.1 HK2.out.2.1 HK2.out.2.2 hbd).mono ?_; rintro _ w3 ⟨rfl, hw3⟩))
    · go_ret
      refine ⟨ret_bool ?_, hg0.trans (hg2.trans hw3)⟩
      symm
      rw [List.any_eq_true]
      exact ⟨t, ht, by assumption⟩
    · have h3 : w3.heap[W0.heap.size]? = some (.mapIter (some bm) clock (seen.push e.born) clock) := (hw3.below.block _ (Array.getElem?_eq_some_iff.1 HR2.out).1).trans HR2.out
      have h4 : w3.heap[bm]? = some (.map es clock) := (hw3.below.block _ (Array.getElem?_eq_some_iff.1 HB2.out).1).trans HB2.out
      refine ⟨⟨seen.push e.born, clock, h3, Nat.le_refl _, hg2.trans hw3, HSA.out.push HK.out hee ht HKV.out.1 (by assumption)⟩, ?_⟩
      have h5 := HME.out
      simp only [World.rangeLeft, h3, h4, HR2.out, HB2.out] at h5 ⊢
      exact h5

end Go.Proofs.Ytiicfpjblfohkaa
