/- A map from texts to slices in memory: look-up, update, ranging. -/
import Derived.Test.YtiicfpjblfohkaaA4
import Derived.Maps.RangeRun
import Derived.Maps.Keyed
namespace Go.Proofs.Ytiicfpjblfohkaa
open Go.RowKit Go.Flow
open Go.ChangeMaps (setBlock)
open Go.WideMaps (keyOf_string_mk)


theorem und78 : Try.prog.underlying 78 = some (.map 9 22) := by kernel_rfl
theorem und9 : Try.prog.underlying 9 = some .string := by kernel_rfl
theorem zero22 (w : World) : (zeroValue 22).run Try.prog w = .ok (.slice none 0 0) w := by kernel_rfl
theorem keyed9 : Maps.Keyed Try.prog 9 := Maps.string_keyed und9

/-- The entries of a map in memory, as a list of texts and values. -/
structure KMap (es : Array MapEntry) (clock : Nat) (L : List (ByteArray × Value)) : Prop where
  list : es.toList.map (fun e => (e.key, e.val)) = L.map (fun p => (Value.string p.1, p.2))
  born : ∀ e ∈ es.toList, e.born < clock
  nodup : (es.toList.map (·.born)).Nodup
  keys : (L.map (·.1)).Nodup
  wf : ∀ p ∈ L, p.1.size ≤ maxLen

/-- What stands at a text. -/
def valOf (L : List (ByteArray × Value)) (s : ByteArray) : Value := match L.find? (fun p => decide (p.1 = s)) with | some p => p.2 | none => .slice none 0 0
def updOf (L : List (ByteArray × Value)) (s : ByteArray) (v : Value) : List (ByteArray × Value) := if L.any (fun p => decide (p.1 = s)) then L.map (fun p => if p.1 = s then (p.1, v) else p) else L ++ [(s, v)]

theorem KMap.get {es : Array MapEntry} {clock : Nat} {L : List (ByteArray × Value)} (h : KMap es clock L) {i : Nat} {e : MapEntry} (he : es.toList[i]? = some e) : ∃ p, L[i]? = some p ∧ e.key = .string p.1 ∧ e.val = p.2 := by
  have h1 := congrArg (fun l => l[i]?) h.list
  simp only [List.getElem?_map, he, Option.map_some] at h1
  cases hp : L[i]? with
  | none => simp [hp] at h1
  | some p => simp [hp] at h1; exact ⟨p, rfl, h1.1, h1.2⟩
theorem KMap.mem {es : Array MapEntry} {clock : Nat} {L : List (ByteArray × Value)} (h : KMap es clock L) {e : MapEntry} (he : e ∈ es.toList) : ∃ p ∈ L, e.key = .string p.1 ∧ e.val = p.2 := by
  obtain ⟨i, hi⟩ := List.getElem?_of_mem he
  obtain ⟨p, hp, h1, h2⟩ := h.get hi
  exact ⟨p, List.mem_of_getElem? hp, h1, h2⟩
theorem KMap.length {es : Array MapEntry} {clock : Nat} {L : List (ByteArray × Value)} (h : KMap es clock L) : es.toList.length = L.length := by simpa using congrArg List.length h.list
theorem KMap.back {es : Array MapEntry} {clock : Nat} {L : List (ByteArray × Value)} (h : KMap es clock L) {p : ByteArray × Value} (hp : p ∈ L) : ∃ e ∈ es.toList, e.key = .string p.1 ∧ e.val = p.2 := by
  obtain ⟨i, hi⟩ := List.getElem?_of_mem hp
  have hl : i < es.toList.length := by rw [h.length]; exact (List.getElem?_eq_some_iff.1 hi).1
  obtain ⟨q, hq, h1, h2⟩ := h.get (List.getElem?_eq_getElem hl)
  rw [hi] at hq
  cases hq
  exact ⟨_, List.getElem_mem hl, h1, h2⟩
theorem KMap.keyed {es : Array MapEntry} {clock : Nat} {L : List (ByteArray × Value)} (h : KMap es clock L) : ∀ e ∈ es.toList, ∃ l, keyOf Try.prog 9 e.key = some l := fun e he => by
  obtain ⟨p, hp, h1, _⟩ := h.mem he
  exact ⟨_, by rw [h1]; exact keyOf_string_mk und9 (h.wf p hp)⟩
theorem KMap.found {es : Array MapEntry} {clock : Nat} {L : List (ByteArray × Value)} (h : KMap es clock L) {s : ByteArray} (hs : s.size ≤ maxLen) (w : World) :
    ((Instr.findKey 9 (.string s) es.toList).run Try.prog w = .ok none w ∧ s ∉ L.map (·.1)) ∨
    ∃ (j : Nat) (e : MapEntry) (p : ByteArray × Value), (Instr.findKey 9 (.string s) es.toList).run Try.prog w = .ok (some (j, e.val)) w ∧ es.toList[j]? = some e ∧ L[j]? = some p ∧ p.1 = s ∧ e.val = p.2 ∧ e.key = .string s := by
  rcases keyed9.find w (keyOf_string_mk und9 hs) es.toList h.keyed with ⟨h1, h2⟩ | ⟨j, e, h1, h2, h3⟩
  · refine .inl ⟨h1, fun hm => ?_⟩
    obtain ⟨p, hp, hps⟩ := List.mem_map.1 hm
    obtain ⟨e, he, hk, _⟩ := h.back hp
    exact h2 e he (by rw [hk, hps])
  · obtain ⟨p, hp, hk, hv⟩ := h.get h2
    refine .inr ⟨j, e, p, h1, h2, hp, ?_, hv, h3⟩
    rw [h3] at hk
    exact (Value.string.inj hk).symm

theorem any_keys {L : List (ByteArray × Value)} {s : ByteArray} : L.any (fun p => decide (p.1 = s)) = true ↔ s ∈ L.map (·.1) := by
  simp only [List.any_eq_true, decide_eq_true_eq, List.mem_map]
theorem updOf_new {L : List (ByteArray × Value)} {s : ByteArray} {v : Value} (h : s ∉ L.map (·.1)) : updOf L s v = L ++ [(s, v)] := by
  unfold updOf; rw [if_neg (fun e => h (any_keys.1 e))]
theorem updOf_old {L : List (ByteArray × Value)} {s : ByteArray} {v : Value} (h : s ∈ L.map (·.1)) : updOf L s v = L.map (fun p => if p.1 = s then (p.1, v) else p) := by
  unfold updOf; rw [if_pos (any_keys.2 h)]

theorem find_at {L : List (ByteArray × Value)} (hk : (L.map (·.1)).Nodup) {j : Nat} {p : ByteArray × Value} (hp : L[j]? = some p) : L.find? (fun q => decide (q.1 = p.1)) = some p := by
  induction L generalizing j with
  | nil => simp at hp
  | cons x l ih =>
    simp only [List.map_cons, List.nodup_cons] at hk
    cases j with
    | zero => simp at hp; subst hp; simp
    | succ j =>
      simp at hp
      have hm : p.1 ∈ l.map (·.1) := List.mem_map.2 ⟨p, List.mem_of_getElem? hp, rfl⟩
      have hne : x.1 ≠ p.1 := fun e => hk.1 (e ▸ hm)
      simp [hne]
      simpa using ih hk.2 hp

theorem run_look {w : World} {bm : Nat} {es : Array MapEntry} {clock : Nat} {L : List (ByteArray × Value)} (h : KMap es clock L) (hb : w.heap[bm]? = some (.map es clock)) {s : ByteArray} (hs : s.size ≤ maxLen) :
    (Instr.lookup 78 (.map (some bm)) (.string s) false).run Try.prog w = .ok (valOf L s) w := by
  rcases h.found hs w with ⟨h1, h2⟩ | ⟨j, e, p, h1, h2, h3, h4, h5, _⟩
  · have hn : L.find? (fun p => decide (p.1 = s)) = none := by
      rw [List.find?_eq_none]
      intro x hx
      simp
      exact fun e => h2 (List.mem_map.2 ⟨x, hx, e⟩)
    simp [Instr.lookup, run_underlying und78, MapKept.run_getObj_map hb, keyed9.check w _ (keyOf_string_mk und9 hs), h1, Result.andThen, valOf, hn]
  · have hf : L.find? (fun q => decide (q.1 = s)) = some p := by rw [← h4]; exact find_at h.keys h3
    simp [Instr.lookup, run_underlying und78, MapKept.run_getObj_map hb, keyed9.check w _ (keyOf_string_mk und9 hs), h1, Result.andThen, valOf, hf, h5]

theorem set_same {α : Type} {l : List α} {j : Nat} {x : α} (h : l[j]? = some x) : l.set j x = l := by
  apply List.ext_getElem?
  intro i
  rw [List.getElem?_set]
  split
  · rename_i e; subst e; rw [h]; have := (List.getElem?_eq_some_iff.1 h).1; simp [this]
  · rfl
theorem modify_set {α : Type} {f : α → α} : ∀ {l : List α} {j : Nat} {x : α}, l[j]? = some x → l.modify j f = l.set j (f x)
  | [], j, x, h => by simp at h
  | y :: l, 0, x, h => by simp at h; simp [h]
  | y :: l, j + 1, x, h => by simp at h; simpa using modify_set (f := f) h
theorem set_upd {L : List (ByteArray × Value)} (hk : (L.map (·.1)).Nodup) {j : Nat} {p : ByteArray × Value} {s : ByteArray} {v : Value} (h3 : L[j]? = some p) (h4 : p.1 = s) :
    (L.map (fun p => (Value.string p.1, p.2))).set j (Value.string s, v) = (L.map (fun p => if p.1 = s then (p.1, v) else p)).map (fun p => (Value.string p.1, p.2)) := by
  apply List.ext_getElem?
  intro i
  rw [List.getElem?_set]
  have hj := (List.getElem?_eq_some_iff.1 h3).1
  split
  · rename_i e
    subst e
    have e1 : L[j] = p := by rw [List.getElem?_eq_getElem hj] at h3; exact Option.some.inj h3
    simp [hj, e1, h4]
  · rename_i hne
    simp only [List.getElem?_map]
    cases hi : L[i]? with
    | none => rfl
    | some q =>
      have hqs : q.1 ≠ s := by
        intro e
        have h5 : (L.map (·.1))[i]? = some s := by rw [List.getElem?_map, hi]; simp [e]
        have h6 : (L.map (·.1))[j]? = some s := by rw [List.getElem?_map, h3]; simp [h4]
        exact hne ((List.getElem?_inj (by simpa using hj) hk).1 (h6.trans h5.symm))
      simp [hqs]

theorem run_upd {w : World} {bm : Nat} {es : Array MapEntry} {clock : Nat} {L : List (ByteArray × Value)} (h : KMap es clock L) (hb : w.heap[bm]? = some (.map es clock)) {s : ByteArray} (hs : s.size ≤ maxLen) (v : Value) :
    ∃ es' clock', (Instr.mapUpdate 78 (.map (some bm)) (.string s) v).run Try.prog w = .ok () (setBlock w bm (.map es' clock')) ∧ KMap es' clock' (updOf L s v) ∧
      (s ∈ L.map (·.1) → clock' = clock ∧ es'.toList.map (·.born) = es.toList.map (·.born)) := by
  rcases h.found hs w with ⟨h1, h2⟩ | ⟨j, e, p, h1, h2, h3, h4, h5, h6⟩
  · refine ⟨es.push ⟨.string s, v, clock⟩, clock + 1, ?_, ⟨?_, ?_, ?_, ?_, ?_⟩, fun hm => absurd hm h2⟩
    · simp [Instr.mapUpdate, run_underlying und78, MapKept.run_getObj_map hb, keyed9.check w false (keyOf_string_mk und9 hs), h1, MapKept.run_setObj_map _ hb, Result.andThen, setBlock]
    · rw [updOf_new h2]; simp only [Array.toList_push, List.map_append, h.list]; simp
    · intro e he
      simp at he
      rcases he with he | rfl
      · have := h.born e (by simpa using he); omega
      · simp
    · simp only [Array.toList_push, List.map_append, List.map_cons, List.map_nil]
      rw [List.nodup_append]
      refine ⟨h.nodup, by simp, ?_⟩
      intro a ha b hb'
      simp at hb'
      subst hb'
      obtain ⟨x, hx, rfl⟩ := List.mem_map.1 ha
      have := h.born x hx
      omega
    · rw [updOf_new h2, List.map_append, List.nodup_append]
      refine ⟨h.keys, by simp, ?_⟩
      intro a ha b hb'
      simp at hb'
      subst hb'
      exact fun e => h2 (e ▸ ha)
    · intro q hq
      rw [updOf_new h2, List.mem_append, List.mem_singleton] at hq
      rcases hq with hq | rfl
      · exact h.wf q hq
      · exact hs
  · have hm : s ∈ L.map (·.1) := List.mem_map.2 ⟨p, List.mem_of_getElem? h3, h4⟩
    have hja : es[j]? = some e := by simpa using h2
    have hlist : (es.modify j (fun e' => { e' with key := .string s, val := v })).toList = es.toList.set j { e with key := .string s, val := v } := by
      rw [Array.toList_modify, modify_set h2]
    refine ⟨es.modify j (fun e' => { e' with key := .string s, val := v }), clock, ?_, ⟨?_, ?_, ?_, ?_, ?_⟩, fun _ => ⟨rfl, ?_⟩⟩
    · simp [Instr.mapUpdate, run_underlying und78, MapKept.run_getObj_map hb, keyed9.check w false (keyOf_string_mk und9 hs), h1, hja, h6, keyed9.stays w (keyOf_string_mk und9 hs), MapKept.run_setObj_map _ hb, Result.andThen, setBlock]
    · rw [hlist, updOf_old hm, List.map_set, h.list]
      exact set_upd h.keys h3 h4
    · intro x hx
      rw [hlist] at hx
      rcases List.mem_or_eq_of_mem_set hx with hx | rfl
      · exact h.born x hx
      · exact h.born e (List.mem_of_getElem? h2)
    · rw [hlist, List.map_set]
      rw [set_same (by rw [List.getElem?_map, h2]; rfl)]
      exact h.nodup
    · rw [updOf_old hm, List.map_map]
      rw [show ((fun x : ByteArray × Value => x.1) ∘ fun p => if p.1 = s then (p.1, v) else p) = fun p => p.1 from funext fun p => by simp only [Function.comp]; split <;> rfl]
      exact h.keys
    · intro q hq
      rw [updOf_old hm] at hq
      obtain ⟨r, hr, rfl⟩ := List.mem_map.1 hq
      have := h.wf r hr
      split <;> exact this
    · rw [hlist, List.map_set, set_same (by rw [List.getElem?_map, h2]; rfl)]

theorem _root_.Go.Grow.setBlock {a b : World} (h : Grow a b) {r : Nat} (hr : a.heap.size ≤ r) (o : Obj) : Grow a (setBlock b r o) :=
  ⟨⟨h.below.os, h.below.tape, h.below.output, by simpa [ChangeMaps.setBlock] using h.below.size, fun k hk => by
    show (b.heap.setIfInBounds r o)[k]? = _
    rw [Array.getElem?_setIfInBounds_ne (by omega)]
    exact h.below.block k hk⟩⟩

section
variable {ops : Array Oper} {rest : List Oper} {o : Oper} {a : Act} {w : World} {Q : Exit → Act → World → Prop}

def NextDone (ops : Array Oper) (Q : Exit → Act → World → Prop) (rest : List Oper) (o : Oper) (a : Act) (w : World) (es : Array MapEntry) (seen : Array Nat) : Prop :=
  (leftOf es seen).size = 0 → wpList Try.prog ops Q rest (a.put o.dst (.tuple #[.bool false])) w
def NextMore (ops : Array Oper) (Q : Exit → Act → World → Prop) (rest : List Oper) (o : Oper) (a : Act) (w : World) (es : Array MapEntry) (seen : Array Nat) (r bm since clock : Nat) : Prop :=
  ∀ e ∈ (leftOf es seen).toList, ∀ w1, (w1 = w ∨ w1 = w.drew) → wpList Try.prog ops Q rest (a.put o.dst (.tuple #[.bool true, e.key, e.val])) (setBlock w1 r (.mapIter (some bm) since (seen.push e.born) clock))

theorem wpList_next_kv (hgd : o.guard = none) (it : Operand) (ho : o.op = .next it false) (r bm since c0 : Nat) (seen : Array Nat) (es : Array MapEntry) (clock : Nat) (hx : a.eval it = .pointer (some ⟨r, 0, none⟩))
    (hr : w.heap[r]? = some (.mapIter (some bm) since seen c0)) (hb : w.heap[bm]? = some (.map es clock)) (hold : ∀ x ∈ es.toList, x.born < since) (hsc : since ≤ c0)
    (hdone : NextDone ops Q rest o a w es seen)
    (hmore : NextMore ops Q rest o a w es seen r bm since clock) :
    wpList Try.prog ops Q (o :: rest) a w :=
  wpList_plain hgd fun K hK => by
    unfold Oper.wp execOp
    simp only [ho, hx]
    rcases run_next_at (P := Try.prog) w o.type r bm since c0 seen es clock hr hb hold hsc with ⟨h1, h2⟩ | ⟨e, he, w1, hw1, h2⟩
    · simp only [Sem.run_bind, h2, Result.andThen_ok]
      exact hK _ _ (hdone h1)
    · simp only [Sem.run_bind, h2, Result.andThen_ok]
      exact hK _ _ (hmore e he w1 hw1)

theorem wpList_entry_kv (hgd : o.guard = none) (it : Operand) (ho : o.op = .entry it) (r bm since : Nat) (seen : Array Nat) (es : Array MapEntry) (clock : Nat) (e : MapEntry) (hx : a.eval it = .pointer (some ⟨r, 0, none⟩))
    (hr : w.heap[r]? = some (.mapIter (some bm) since (seen.push e.born) clock)) (hb : w.heap[bm]? = some (.map es clock)) (he : e ∈ es.toList) (hn : (es.toList.map (·.born)).Nodup)
    (hk : wpList Try.prog ops Q rest (a.put o.dst (.tuple #[e.key, e.val])) w) : wpList Try.prog ops Q (o :: rest) a w :=
  wpList_plain hgd fun K hK => by
    unfold Oper.wp execOp
    simp only [ho, hx, Sem.run_bind, run_entry_at (P := Try.prog) w r bm since seen es clock e hr hb he hn, Result.andThen_ok]
    exact hK _ _ hk

theorem wpList_range_kv (hgd : o.guard = none) (m : Operand) (ho : o.op = .range 78 m) (bm : Nat) (es : Array MapEntry) (clock : Nat) (hx : a.eval m = .map (some bm)) (hb : w.heap[bm]? = some (.map es clock))
    (hk : wpList Try.prog ops Q rest (a.put o.dst (.pointer (some ⟨w.heap.size, 0, none⟩))) (w.alloc (.mapIter (some bm) clock #[] clock))) : wpList Try.prog ops Q (o :: rest) a w :=
  wpList_plain hgd fun K hK => by
    unfold Oper.wp execOp
    simp [ho, hx, Instr.range, run_underlying und78, MapKept.run_getObj_map hb, newObj, Sem.run_bind, Sem.run, Result.andThen]
    exact hK _ _ hk
end

end Go.Proofs.Ytiicfpjblfohkaa
