/- A store that lies behind a world: Put, Len, Versions, Latest upon it. -/
import Derived.Test.YtiicfpjblfohkaaA7b
import Derived.Test.YtiicfpjblfohkaaA8c
import Derived.Test.YtiicfpjblfohkaaA8b
import Derived.Test.YtiicfpjblfohkaaB1
namespace Go.Proofs.Ytiicfpjblfohkaa
open Go.RowKit Go.Flow

theorem StoreAt.foot_base {w : World} {base bs bm : Nat} {rng m0 m1 m2 : Int} {T : List Slot} (h : StoreAt w base bs bm rng m0 m1 m2 T) {k : Nat} (hk : Foot bs bm T k) : base ≤ k ∧ k < w.heap.size := by
  rcases hk with rfl | rfl | ⟨t, ht, hk⟩
  · exact ⟨h.base1, h.bs_lt⟩
  · exact ⟨h.base2, h.bm_lt⟩
  · obtain ⟨h1, cur, h2⟩ := ownsRow_block (h.rows t ht) hk
    exact ⟨h1, (Array.getElem?_eq_some_iff.1 h2).1⟩

/-- A store all of whose blocks were made behind w. -/
structure St (w : World) (bs bm : Nat) (rng m0 m1 m2 : Int) (T : List Slot) (wr : World) : Prop where
  store : StoreAt wr w.heap.size bs bm rng m0 m1 m2 T
  grow : Grow w wr
theorem St.step {w wr w' : World} {bs bm : Nat} {rng m0 m1 m2 : Int} {T : List Slot} (h : St w bs bm rng m0 m1 m2 T wr) (hg : Grow wr w') : St w bs bm rng m0 m1 m2 T w' := ⟨h.store.grow hg, h.grow.trans hg⟩

theorem new_st (w wr : World) (hg : Grow w wr) (rng : Int) : Calls Try.prog 12 #[.int .i64 rng] wr fun e w' => ∃ bs bm, e = .returned (.pointer (some ⟨bs, 0, none⟩)) ∧ St w bs bm rng 0 0 0 [] w' ∧ Grow wr w' := by
  refine (new_any rng wr w.heap.size hg.size).mono ?_
  rintro e w' ⟨bs, bm, rfl, hS, h2, h3, h4⟩
  exact ⟨bs, bm, rfl, ⟨hS, hg.trans h2⟩, h2⟩

/-- What Put leaves. -/
structure PutSt (w wr w' : World) (bs bm : Nat) (rng m0 m1 m2 : Int) (T T' : List Slot) (es : List Ent) : Prop where
  st : St w bs bm rng m0 m1 m2 T' w'
  abs : absT T' = putAll rng m0 m1 m2 (absT T) es
  few : lenA (absT T') ≤ lenA (absT T) + es.length
  block : ∀ k, k < wr.heap.size → ¬ Foot bs bm T k → w'.heap[k]? = wr.heap[k]?
  size : wr.heap.size ≤ w'.heap.size

theorem put_st {w wr : World} {bs bm : Nat} {rng m0 m1 m2 : Int} {T : List Slot} (h : St w bs bm rng m0 m1 m2 T wr) (v : Value) (es : List Ent) (hE : Ents wr v es) (hb : ∀ b, v.ownBlock = some b → es ≠ [] → ¬ Foot bs bm T b)
    (hfew : lenA (absT T) + es.length ≤ 1000000) {n : Nat} (hn : putCount rng m0 m1 m2 (absT T) es = n) :
    Calls Try.prog 13 #[.pointer (some ⟨bs, 0, none⟩), v] wr fun r w' => r = .returned (.int .i64 n) ∧ ∃ T', PutSt w wr w' bs bm rng m0 m1 m2 T T' es := by
  subst hn
  rw [lenA_abs] at hfew
  refine (put_ents wr w.heap.size bs bm rng m0 m1 m2 T h.store v es hE hb hfew h.grow.size).mono ?_
  rintro r w' ⟨rfl, T', hI⟩
  refine ⟨rfl, T', ⟨hI.store, ?_⟩, hI.abs, ?_, hI.upd.block, hI.upd.size⟩
  · exact Upd.growFrom h.grow hI.upd (fun k hk => (h.store.foot_base hk).1)
  · rw [lenA_abs, lenA_abs]; exact hI.sum

theorem len_st {w wr : World} {bs bm : Nat} {rng m0 m1 m2 : Int} {T : List Slot} (h : St w bs bm rng m0 m1 m2 T wr) {n : Nat} (hn : lenA (absT T) = n) :
    Calls Try.prog 15 #[.pointer (some ⟨bs, 0, none⟩)] wr fun r w' => r = .returned (.int .i64 n) ∧ Grow wr w' := by subst hn; exact len_any wr _ bs bm rng m0 m1 m2 T h.store
theorem versions_st {w wr : World} {bs bm : Nat} {rng m0 m1 m2 : Int} {T : List Slot} (h : St w bs bm rng m0 m1 m2 T wr) (s : ByteArray) (hs : s.size ≤ maxLen) :
    Calls Try.prog 16 #[.pointer (some ⟨bs, 0, none⟩), .string s] wr fun e w' => ∃ v, e = .returned v ∧ Fresh wr w' v (getA (absT T) s) := versions_any wr _ bs bm rng m0 m1 m2 T h.store s hs

/-- A slice that was read before the store's blocks were made is none of the store's. -/
theorem St.old {w wr : World} {bs bm : Nat} {rng m0 m1 m2 : Int} {T : List Slot} (h : St w bs bm rng m0 m1 m2 T wr) {b : Nat} (hb : b < w.heap.size) : ¬ Foot bs bm T b := fun hk => by
  have := (h.store.foot_base hk).1
  omega
/-- One that is made behind it is none of the store's. -/
theorem St.new {w wr : World} {bs bm : Nat} {rng m0 m1 m2 : Int} {T : List Slot} (h : St w bs bm rng m0 m1 m2 T wr) {b : Nat} (hb : wr.heap.size ≤ b) : ¬ Foot bs bm T b := fun hk => by
  have := (h.store.foot_base hk).2
  omega
/-- A row of one write, just made. -/
theorem ents_one (w : World) (e : Ent) : Ents (w.alloc (.cells (encL e).toArray 40)) (.slice (some ⟨w.heap.size, 0, none⟩) 1 1) [e] := by
  have h := heap_alloc_new w (.cells (flat [e]).toArray 40)
  have hf : flat [e] = encL e := by simp [flat]
  rw [hf] at h
  refine Ents.of_rows (d := [e]) (rows_of_flat (by rw [hf]; exact h)) (by simp) (Nat.le_refl _) (by decide)
end Go.Proofs.Ytiicfpjblfohkaa
