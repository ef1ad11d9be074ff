/- StoreOrder's state, and its plain part. -/
import Derived.Test.YtiicfpjblfohkaaA4g
import Derived.Test.YtiicfpjblfohkaaA12
import Derived.Test.YtiicfpjblfohkaaA7d
namespace Go.Proofs.Ytiicfpjblfohkaa
set_option linter.unusedSimpArgs false
set_option linter.unusedVariables false
open Go.RowKit Go.Flow

/-- What stands while the writes are named once: two empty stores, and a slice of one's own. -/
structure Ord1 (w : World) (bs bm bs2 bm2 : Nat) (rng : Int) (ov : Value) (O : List Ent) (wr : World) : Prop where
  a : St w bs bm rng 0 0 0 [] wr
  b : St w bs2 bm2 rng 0 0 0 [] wr
  own : wr.ownsRow w.heap.size 40 20 ov O.length (flat O)
  ne : bs ≠ bs2 ∧ bs ≠ bm2 ∧ bm ≠ bs2 ∧ bm ≠ bm2
theorem Ord1.step {w : World} {bs bm bs2 bm2 : Nat} {rng : Int} {ov : Value} {O : List Ent} {wr w' : World} (h : Ord1 w bs bm bs2 bm2 rng ov O wr) (hg : Grow wr w') : Ord1 w bs bm bs2 bm2 rng ov O w' :=
  ⟨h.a.step hg, h.b.step hg, ownsRow_grow h.own hg, h.ne⟩
/-- The slice's block is none of a store's that is empty. -/
theorem own_not_foot {w wr : World} {bs bm : Nat} {rng m0 m1 m2 : Int} (h : St w bs bm rng m0 m1 m2 [] wr) {base : Nat} {v : Value} {n : Nat} {xs : List Value} (ho : wr.ownsRow base 40 20 v n xs) {k : Nat} (hk : v.ownBlock = some k) : ¬ Foot bs bm [] k := fun hf => by
  obtain ⟨_, cur, h2⟩ := ownsRow_block ho hk
  rcases hf with rfl | rfl | ⟨t, ht, _⟩
  · rw [h.store.head] at h2; cases h2
  · obtain ⟨es, clock, h3, _⟩ := h.store.map
    rw [h3] at h2; cases h2
  · cases ht
theorem Ord1.app {w : World} {bs bm bs2 bm2 : Nat} {rng : Int} {ov ov' : Value} {O : List Ent} {wr w' : World} {e : Ent} (h : Ord1 w bs bm bs2 bm2 rng ov O wr) (hA : Appended wr w' w.heap.size ov ov' (O ++ [e]) 1) : Ord1 w bs bm bs2 bm2 rng ov' (O ++ [e]) w' := by
  have hg : Grow w w' := hA.grow h.a.grow (fun k hk => (ownsRow_block h.own hk).1)
  refine ⟨h.a.same (fun k hk => hA.grown.block k ((h.a.store.foot_base hk).2) (fun e => own_not_foot h.a h.own e.symm hk)) hg, h.b.same (fun k hk => hA.grown.block k ((h.b.store.foot_base hk).2) (fun e => own_not_foot h.b h.own e.symm hk)) hg, hA.owns, h.ne⟩

/-- Names: loaded, and compared. -/
def dotV (e : Ent) : Value := .agg #[.int .i64 e.dc, .int .i64 e.rng, .int .i64 e.seq]
theorem run_load_dot (w : World) (b off i : Nat) (d : List Ent) (e : Ent) (h : RowsAt w b off d) (hi : d[i]? = some e) :
    (loadVar 34 ⟨b, off + i * 20, none⟩).run Try.prog w = .ok (dotV e) w := by
  have hl : (loadCells ⟨b, off + i * 20, none⟩ 3).run Try.prog w = .ok #[.int .i64 e.dc, .int .i64 e.rng, .int .i64 e.seq] w :=
    run_loadCells_list (P := Try.prog) w ⟨b, off + i * 20, none⟩ [.int .i64 e.dc, .int .i64 e.rng, .int .i64 e.seq] (fun j v hv => by
      have hadd : (⟨b, off + i * 20, none⟩ : Addr).add j = ⟨b, off + i * 20 + j, none⟩ := by unfold Addr.add; split <;> simp_all
      rw [hadd]
      refine h i e hi j v ?_
      match j, hv with
      | 0, hv => exact hv
      | 1, hv => exact hv
      | 2, hv => exact hv
      | j + 3, hv => cases hv)
  have hagg : (isAgg 34).run Try.prog w = .ok true w := by kernel_rfl
  have hsz : (Go.sizeOf 34).run Try.prog w = .ok 3 w := by kernel_rfl
  simp [loadVar, Sem.run_bind, hagg, hsz, hl, dotV]
theorem exec_load_dot {o : Oper} {a : Act} {w : World} {x : Operand} (ho : o.op = .load 34 x) {b off i : Nat} {d : List Ent} {e : Ent} (h : RowsAt w b off d) (hi : d[i]? = some e) (hx : a.eval x = .pointer (some ⟨b, off + i * 20, none⟩)) :
    (execOp a.eval o).run Try.prog w = .ok (.value (dotV e)) w := by
  unfold execOp
  simp only [ho, hx, Instr.loadAt, Instr.sureAddr, Sem.run_bind, Sem.run_pure, Result.andThen_ok, run_load_dot w b off i d e h hi]
theorem run_eql_dot {w : World} (e f : Ent) : (binOp .eql 34 (dotV e) (dotV f)).run Try.prog w = .ok (.bool (sameDot f.dc f.rng f.seq e)) w := by
  have h34 := @eq34
  have hs : sameDot f.dc f.rng f.seq e = (e.dc == f.dc && (e.rng == f.rng && e.seq == f.seq)) := by unfold sameDot; rw [Bool.and_assoc]
  rw [hs]
  unfold dotV
  go_simp
theorem exec_eql_dot {o : Oper} {a : Act} {w : World} {x y : Operand} {t : TypeId} (ho : o.op = .binOp .eql 34 x y t) {e f : Ent} (hx : a.eval x = dotV e) (hy : a.eval y = dotV f) : (execOp a.eval o).run Try.prog w = .ok (.value (.bool (sameDot f.dc f.rng f.seq e))) w := by
  have hg : (eqGuard .eql 34 x y (dotV e) (dotV f)).run Try.prog w = .ok () w := run_eqGuard_agg w .eql 34 x y _ _ (by kernel_rfl)
  unfold execOp
  simp only [ho, hx, hy, Sem.run_bind, Sem.run_pure, hg, run_eql_dot, Result.andThen_ok]

/-- What stands while the second store is filled. -/
structure Ord2 (w : World) (bs bm bs2 bm2 : Nat) (rng : Int) (ov : Value) (O R : List Ent) (T1 T2 : List Slot) (wr : World) : Prop where
  a : St w bs bm rng 0 0 0 T1 wr
  b : St w bs2 bm2 rng 0 0 0 T2 wr
  own : wr.ownsRow w.heap.size 40 20 ov O.length (flat O)
  apA : ∀ k, Foot bs2 bm2 T2 k → ¬ Foot bs bm T1 k
  apO : ∀ k, Foot bs2 bm2 T2 k → ov.ownBlock ≠ some k
  abs : absT T2 = putAll rng 0 0 0 [] R
  few : lenA (absT T2) ≤ R.length
theorem Ord2.step {w : World} {bs bm bs2 bm2 : Nat} {rng : Int} {ov : Value} {O R : List Ent} {T1 T2 : List Slot} {wr w' : World} (h : Ord2 w bs bm bs2 bm2 rng ov O R T1 T2 wr) (hg : Grow wr w') : Ord2 w bs bm bs2 bm2 rng ov O R T1 T2 w' :=
  ⟨h.a.step hg, h.b.step hg, ownsRow_grow h.own hg, h.apA, h.apO, h.abs, h.few⟩
theorem Ord2.put {w : World} {bs bm bs2 bm2 : Nat} {rng : Int} {ov : Value} {O R : List Ent} {T1 T2 T3 : List Slot} {wr w' : World} {e : Ent} (h : Ord2 w bs bm bs2 bm2 rng ov O R T1 T2 wr) (hP : PutSt w wr w' bs2 bm2 rng 0 0 0 T2 T3 [e])
    (hf : ∀ k, Foot bs2 bm2 T3 k → Foot bs2 bm2 T2 k ∨ wr.heap.size ≤ k) : Ord2 w bs bm bs2 bm2 rng ov O (R ++ [e]) T1 T3 w' := by
  refine ⟨h.a.same (fun k hk => hP.block k (h.a.store.foot_base hk).2 (fun h2 => h.apA k h2 hk)) hP.st.grow, hP.st, ownsRow_of_same h.own (fun k hk => hP.block k ?_ (fun h2 => h.apO k h2 hk)), fun k hk hk2 => ?_, fun k hk hk2 => ?_, ?_, ?_⟩
  · obtain ⟨_, cur, h2⟩ := ownsRow_block h.own hk
    exact (Array.getElem?_eq_some_iff.1 h2).1
  · rcases hf k hk with h3 | h3
    · exact h.apA k h3 hk2
    · have := (h.a.store.foot_base hk2).2; omega
  · rcases hf k hk with h3 | h3
    · exact h.apO k h3 hk2
    · obtain ⟨_, cur, h2⟩ := ownsRow_block h.own hk2
      have := (Array.getElem?_eq_some_iff.1 h2).1
      omega
  · rw [hP.abs, putAll_snoc, ← h.abs]; simp [putAll]
  · have h1 := hP.few
    have h2 := h.few
    simp only [List.length_append, List.length_cons, List.length_nil] at *
    omega
/-- Behind the first store's Put. -/
theorem Ord1.put {w : World} {bs bm bs2 bm2 : Nat} {rng : Int} {ov : Value} {O l : List Ent} {T1 : List Slot} {wr w' : World} (h : Ord1 w bs bm bs2 bm2 rng ov O wr) (hP : PutSt w wr w' bs bm rng 0 0 0 [] T1 l)
    (hf : ∀ k, Foot bs bm T1 k → Foot bs bm [] k ∨ wr.heap.size ≤ k) : Ord2 w bs bm bs2 bm2 rng ov O [] T1 [] w' := by
  have foot2 : ∀ k, Foot bs2 bm2 [] k → k = bs2 ∨ k = bm2 := fun k hk => by
    rcases hk with h | h | ⟨t, ht, _⟩
    · exact .inl h
    · exact .inr h
    · cases ht
  have foot1 : ∀ k, Foot bs bm [] k → k = bs ∨ k = bm := fun k hk => by
    rcases hk with h | h | ⟨t, ht, _⟩
    · exact .inl h
    · exact .inr h
    · cases ht
  have hne := h.ne
  have apart : ∀ k, Foot bs2 bm2 [] k → ¬ Foot bs bm [] k := fun k hk hk2 => by
    rcases foot2 k hk with rfl | rfl <;> rcases foot1 _ hk2 with h3 | h3 <;> simp_all
  refine ⟨hP.st, h.b.same (fun k hk => hP.block k (h.b.store.foot_base hk).2 (apart k hk)) hP.st.grow, ownsRow_of_same h.own (fun k hk => hP.block k ?_ (own_not_foot h.a h.own hk)), fun k hk hk2 => ?_, fun k hk hk2 => own_not_foot h.b h.own hk2 hk, rfl, by simp [absT, lenA]⟩
  · obtain ⟨_, cur, h2⟩ := ownsRow_block h.own hk
    exact (Array.getElem?_eq_some_iff.1 h2).1
  · rcases hf k hk2 with h3 | h3
    · exact apart k hk h3
    · have := (h.b.store.foot_base hk).2; omega

/-- Both stores hold the same. -/
theorem order_held {rng : Int} (l : List Ent) : (∀ s, getA (putAll rng 0 0 0 [] (onceL l)) s = getA (putAll rng 0 0 0 [] (onceL l).reverse) s) ∧ sortK ((putAll rng 0 0 0 [] (onceL l)).map (·.1)) = sortK ((putAll rng 0 0 0 [] (onceL l).reverse).map (·.1)) ∧
    lenA (putAll rng 0 0 0 [] (onceL l)) = lenA (putAll rng 0 0 0 [] (onceL l).reverse) := by
  have h1 := Held.all (onceL l) [] [] (Held.nil rng 0 0 0) (by rw [List.nil_append]; exact onceL_nodup l)
  have h2 := Held.all (onceL l).reverse [] [] (Held.nil rng 0 0 0) (by rw [List.nil_append, List.map_reverse]; exact (List.reverse_perm _).nodup_iff.2 (onceL_nodup l))
  rw [List.nil_append] at h1 h2
  obtain ⟨h3, h4, h5⟩ := h1.same h2 (List.reverse_perm _).symm (onceL_nodup l)
  exact ⟨h3, sortK_perm h4, h5⟩
theorem held_once {rng : Int} (l : List Ent) : Held rng 0 0 0 (onceL l) (putAll rng 0 0 0 [] (onceL l)) := by
  have h1 := Held.all (onceL l) [] [] (Held.nil rng 0 0 0) (by rw [List.nil_append]; exact onceL_nodup l)
  rwa [List.nil_append] at h1

theorem rev_few {rng : Int} (l : List Ent) : (putAll rng 0 0 0 [] (onceL l).reverse).length ≤ (onceL l).length := by
  have h2 := Held.all (onceL l).reverse [] [] (Held.nil rng 0 0 0) (by rw [List.nil_append, List.map_reverse]; exact (List.reverse_perm _).nodup_iff.2 (onceL_nodup l))
  rw [List.nil_append] at h2
  have := h2.few
  rwa [List.length_reverse] at this
theorem sortK_mem {L : List ByteArray} {s : ByteArray} (h : s ∈ sortK L) : s ∈ L := by
  unfold sortK at h
  obtain ⟨l, hl, rfl⟩ := List.mem_map.1 h
  have h2 := (List.mergeSort_perm _ _).mem_iff.1 hl
  obtain ⟨t, ht, rfl⟩ := List.mem_map.1 h2
  simpa using ht
theorem once_key {rng : Int} {l : List Ent} {s : ByteArray} (h : s ∈ sortK ((putAll rng 0 0 0 [] (onceL l)).map (·.1))) : s.size ≤ maxLen := by
  obtain ⟨x, _, hx, rfl⟩ := ((held_once l).keys s).1 (sortK_mem h)
  simp only [rightB, Bool.and_eq_true] at hx
  exact key_of_ent hx.1.1
theorem St.under {w w3 wr : World} {bs bm : Nat} {rng m0 m1 m2 : Int} (h : St w3 bs bm rng m0 m1 m2 [] wr) (hg : Grow w w3) : St w bs bm rng m0 m1 m2 [] wr :=
  ⟨⟨h.store.head, h.store.map, (fun t ht => by cases ht), h.store.apart, h.store.few, Nat.le_trans hg.size h.store.base1, Nat.le_trans hg.size h.store.base2⟩, hg.trans h.grow⟩
theorem Ord1.start {w w3 w4 : World} {bs bm bs2 bm2 : Nat} {rng : Int} (h1 : St w bs bm rng 0 0 0 [] w3) (h2 : St w3 bs2 bm2 rng 0 0 0 [] w4) : Ord1 w bs bm bs2 bm2 rng (.slice none 0 0) [] w4 := by
  have a1 := (h1.store.foot_base (.inl rfl)).2
  have a2 := (h1.store.foot_base (.inr (.inl rfl))).2
  have b1 := h2.store.base1
  have b2 := h2.store.base2
  exact ⟨h1.step h2.grow, h2.under h1.grow, ⟨rfl, .inl ⟨rfl, rfl⟩⟩, by omega⟩
theorem getA_few {w wr : World} {bs bm : Nat} {rng m0 m1 m2 : Int} {T : List Slot} (h : St w bs bm rng m0 m1 m2 T wr) (s : ByteArray) : (getA (absT T) s).length ≤ 1000000 := Nat.le_trans (h.store.slice s).2 h.store.few

end Go.Proofs.Ytiicfpjblfohkaa
