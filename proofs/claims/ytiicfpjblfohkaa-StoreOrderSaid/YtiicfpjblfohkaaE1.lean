/- The arguments opened: numbers, columns, slices of writes. -/
import Derived.Test.YtiicfpjblfohkaaC2
import Derived.OpenShut
import Derived.ProofKit
import Derived.ChangeArms
import Derived.ChangeSame
import Derived.SizedLaws
import Derived.Deep.Slices
namespace Go.Proofs.Ytiicfpjblfohkaa
open Go.ChangeShapes Go.WideShapes Go.RowKit Go.Deep

section
variable {H : Type} {enc : TypeId × Value → H} {w : World} {base : Nat} {spare : Nat → Bool} {held : Bool}

theorem open_fields {P : Program} {t : TypeId} {fs : Array Field} {L : List (TypeId × Nat × Nat)} {fuel : Nat} {cs : List Value} {x : DataW H × List MemPlace} (hu : P.underlying t = some (.struct fs)) (hL : fs.toList.map (fun f => (f.type, f.offset, P.cellsOf f.type)) = L) (h : DataW.trod enc P w base spare held fuel t cs = some x) :
    ∃ (xs : List (DataW H × List MemPlace)) (n : Nat), x.1 = .agg (xs.map (·.1)) ∧ cs.length = P.cellsOf t ∧ xs.length = L.length ∧ ∀ (i : Nat) (q : TypeId × Nat × Nat), L[i]? = some q → DataW.trod enc P w base spare held n q.1 ((cs.drop q.2.1).take q.2.2) = xs[i]? := by
  obtain ⟨xs, n, _, hx, hlen, hxl, hg⟩ := DataW.trod_struct hu h
  refine ⟨xs, n, by rw [hx], hlen, by rw [hxl, ← hL]; simp, fun i q hq => ?_⟩
  rw [← hL, List.getElem?_map] at hq
  cases hf : fs.toList[i]? with
  | none => rw [hf] at hq; cases hq
  | some f =>
    rw [hf] at hq
    cases hq
    exact hg i f (by simpa using hf)

theorem und3 : Try.prog.underlying 3 = some (.int .i64) := by kernel_rfl
theorem und4 : Try.prog.underlying 4 = some .bool := by kernel_rfl
theorem und25 : Try.prog.underlying 25 = some (.array 3 3) := by kernel_rfl
theorem und26 : Try.prog.underlying 26 = some (.array 3 3) := by kernel_rfl
theorem und38 : Try.prog.underlying 38 = some (.array 3 25) := by kernel_rfl
theorem und34 : Try.prog.underlying 34 = some (.struct (Try.prog.fieldsOf 34)) := by kernel_rfl
theorem und36 : Try.prog.underlying 36 = some (.struct (Try.prog.fieldsOf 36)) := by kernel_rfl
theorem und40' : Try.prog.underlying 40 = some (.struct (Try.prog.fieldsOf 40)) := by kernel_rfl
theorem cl3 : Try.prog.cellsOf 3 = 1 := by kernel_rfl
theorem cl25 : Try.prog.cellsOf 25 = 3 := by kernel_rfl
theorem cl26 : Try.prog.cellsOf 26 = 3 := by kernel_rfl
theorem cl34 : Try.prog.cellsOf 34 = 3 := by kernel_rfl
theorem cl36 : Try.prog.cellsOf 36 = 3 := by kernel_rfl
theorem cl38 : Try.prog.cellsOf 38 = 9 := by kernel_rfl
theorem cl40 : Try.prog.cellsOf 40 = 20 := by kernel_rfl

def dI (n : Int) : DataW H := .lit (.int .i64 n)
def d3 (a b c : Int) : DataW H := .agg [dI a, dI b, dI c]

theorem len3 {α : Type} {l : List α} (h : l.length = 3) : ∃ a b c, l = [a, b, c] := by
  match l, h with
  | [a, b, c], _ => exact ⟨a, b, c, rfl⟩

theorem open_s3 {t : TypeId} {fs : Array Field} {fuel : Nat} {cs : List Value} {x : DataW H × List MemPlace} (hu : Try.prog.underlying t = some (.struct fs)) (hL : fs.toList.map (fun f => (f.type, f.offset, Try.prog.cellsOf f.type)) = [(3, 0, 1), (3, 1, 1), (3, 2, 1)]) (hc : Try.prog.cellsOf t = 3)
    (h : DataW.trod enc Try.prog w base spare held fuel t cs = some x) : ∃ a b c : Int, cs = [.int .i64 a, .int .i64 b, .int .i64 c] ∧ x.1 = d3 a b c := by
  obtain ⟨xs, n, hx, hl, hxl, hg⟩ := open_fields hu hL h
  obtain ⟨c0, c1, c2, rfl⟩ := len3 (hl.trans hc)
  obtain ⟨x0, x1, x2, rfl⟩ := len3 (hxl.trans rfl)
  have h0 := hg 0 _ rfl
  have h1 := hg 1 _ rfl
  have h2 := hg 2 _ rfl
  obtain ⟨a, ha, ea, _⟩ := DataW.trod_int und3 h0
  obtain ⟨b, hb, eb, _⟩ := DataW.trod_int und3 h1
  obtain ⟨c, hcc, ec, _⟩ := DataW.trod_int und3 h2
  simp only [List.drop_zero, List.drop_succ_cons, List.take_succ_cons, List.take_zero, List.cons.injEq, and_true] at ha hb hcc
  exact ⟨a, b, c, by rw [ha, hb, hcc], by rw [hx, ea, eb, ec]; rfl⟩
theorem open_a3 {t : TypeId} {fuel : Nat} {cs : List Value} {x : DataW H × List MemPlace} (hu : Try.prog.underlying t = some (.array 3 3)) (hc : Try.prog.cellsOf t = 3)
    (h : DataW.trod enc Try.prog w base spare held fuel t cs = some x) : ∃ a b c : Int, cs = [.int .i64 a, .int .i64 b, .int .i64 c] ∧ x.1 = d3 a b c := by
  obtain ⟨xs, n, _, hx, hl, hxl, hg⟩ := DataW.trod_array hu h
  obtain ⟨c0, c1, c2, rfl⟩ := len3 (hl.trans hc)
  obtain ⟨x0, x1, x2, rfl⟩ := len3 hxl
  simp only [cl3] at hg
  have h0 := hg 0 (by omega)
  have h1 := hg 1 (by omega)
  have h2 := hg 2 (by omega)
  obtain ⟨a, ha, ea, _⟩ := DataW.trod_int und3 h0
  obtain ⟨b, hb, eb, _⟩ := DataW.trod_int und3 h1
  obtain ⟨c, hcc, ec, _⟩ := DataW.trod_int und3 h2
  simp at ha hb hcc
  exact ⟨a, b, c, by rw [ha, hb, hcc], by rw [hx, ea, eb, ec]; rfl⟩
def d9 (a b c d e f g h i : Int) : DataW H := .agg [d3 a b c, d3 d e f, d3 g h i]
theorem open_38 {fuel : Nat} {cs : List Value} {x : DataW H × List MemPlace} (h : DataW.trod enc Try.prog w base spare held fuel 38 cs = some x) :
    ∃ a b c d e f g h i : Int, cs = [.int .i64 a, .int .i64 b, .int .i64 c, .int .i64 d, .int .i64 e, .int .i64 f, .int .i64 g, .int .i64 h, .int .i64 i] ∧ x.1 = d9 a b c d e f g h i := by
  obtain ⟨xs, n, _, hx, hl, hxl, hg⟩ := DataW.trod_array und38 h
  obtain ⟨x0, x1, x2, rfl⟩ := len3 hxl
  simp only [cl25] at hg
  obtain ⟨a, b, c, h0, e0⟩ := open_a3 und25 cl25 (hg 0 (by omega))
  obtain ⟨d, e, f, h1, e1⟩ := open_a3 und25 cl25 (hg 1 (by omega))
  obtain ⟨g, h', i, h2, e2⟩ := open_a3 und25 cl25 (hg 2 (by omega))
  have hcs : cs = (cs.drop (0 * 3)).take 3 ++ ((cs.drop (1 * 3)).take 3 ++ (cs.drop (2 * 3)).take 3) := by
    have hl9 : cs.length = 9 := hl.trans cl38
    match cs, hl9 with
    | [_, _, _, _, _, _, _, _, _], _ => rfl
  refine ⟨a, b, c, d, e, f, g, h', i, ?_, ?_⟩
  · rw [hcs, h0, h1, h2]; rfl
  · rw [hx]; simp [d9, ← e0, ← e1, ← e2]

/-- A write, as data. -/
def dE (e : Ent) : DataW H := .agg [d3 e.dc e.rng e.seq, d3 e.cnt e.sdc e.srng, .lit (.string e.key.data.toList), .lit (.string e.value.data.toList), .lit (.bool e.dead), d9 e.d00 e.d01 e.d02 e.d10 e.d11 e.d12 e.d20 e.d21 e.d22, dI e.client, dI e.op]

set_option maxRecDepth 100000 in
theorem open_ent {fuel : Nat} {cs : List Value} {x : DataW H × List MemPlace} (h : DataW.trod enc Try.prog w base spare held fuel 40 cs = some x) : ∃ e : Ent, cs = encL e ∧ x.1 = dE e := by
  obtain ⟨xs, n, hx, hl, hxl, hg⟩ := open_fields (L := [(34, 0, 3), (36, 3, 3), (9, 6, 1), (9, 7, 1), (4, 8, 1), (38, 9, 9), (3, 18, 1), (3, 19, 1)]) und40' (by kernel_rfl) h
  have hl20 : cs.length = 20 := hl.trans cl40
  match xs, hxl with
  | [x0, x1, x2, x3, x4, x5, x6, x7], _ =>
    obtain ⟨a0, a1, a2, h0, e0⟩ := open_s3 und34 (by kernel_rfl) cl34 (hg 0 _ rfl)
    obtain ⟨b0, b1, b2, h1, e1⟩ := open_s3 und36 (by kernel_rfl) cl36 (hg 1 _ rfl)
    obtain ⟨k, h2, e2, _⟩ := DataW.trod_string und9 (hg 2 _ rfl)
    obtain ⟨v, h3, e3, _⟩ := DataW.trod_string und9 (hg 3 _ rfl)
    obtain ⟨q, h4, e4⟩ := DataW.trod_bool und4 (hg 4 _ rfl)
    obtain ⟨c0, c1, c2, c3, c4, c5, c6, c7, c8, h5, e5⟩ := open_38 (hg 5 _ rfl)
    obtain ⟨m, h6, e6, _⟩ := DataW.trod_int und3 (hg 6 _ rfl)
    obtain ⟨o, h7, e7, _⟩ := DataW.trod_int und3 (hg 7 _ rfl)
    refine ⟨⟨a0, a1, a2, b0, b1, b2, k, v, q, c0, c1, c2, c3, c4, c5, c6, c7, c8, m, o⟩, ?_, ?_⟩
    · have hcs : cs = (cs.drop 0).take 3 ++ ((cs.drop 3).take 3 ++ ((cs.drop 6).take 1 ++ ((cs.drop 7).take 1 ++ ((cs.drop 8).take 1 ++ ((cs.drop 9).take 9 ++ ((cs.drop 18).take 1 ++ (cs.drop 19).take 1)))))) := by
        match cs, hl20 with
        | [_, _, _, _, _, _, _, _, _, _, _, _, _, _, _, _, _, _, _, _], _ => rfl
      simp only at h0 h1 h2 h3 h4 h5 h6 h7
      rw [hcs, h0, h1, h2, h3, h4, h5, h6, h7]
      rfl
    · rw [hx]
      simp [dE, ← e0, ← e1, e2, e3, e4, ← e5, e6, e7, dI]
/-- A slice of writes that came in. -/
theorem open_ents {fuel : Nat} {a : Option Addr} {len cap : Nat} {x : DataW H × List MemPlace} (h : DataW.trod enc Try.prog w 0 (fun _ => true) held fuel 22 [.slice a len cap] = some x) :
    ∃ es : List Ent, len = es.length ∧ Ents w (.slice a es.length cap) es ∧ ((es = [] ∧ x.1 = .nil) ∨ ∃ spare, x.1 = .slice (es.map dE) spare) := by
  rcases open_slice und22 h with ⟨h0, hx⟩ | ⟨ad, len', cap', m, n, D, Pl, hcs, _, hl, hm, hmm, hx, hi⟩
  · simp only [List.cons.injEq, Value.slice.injEq, and_true] at h0
    obtain ⟨rfl, rfl, rfl⟩ := h0
    exact ⟨[], rfl, Ents.nil w, .inl ⟨rfl, by rw [hx]⟩⟩
  · simp only [List.cons.injEq, Value.slice.injEq, and_true] at hcs
    obtain ⟨rfl, e1, e2⟩ := hcs
    subst e1
    subst e2
    simp only [if_true] at hmm
    rw [hmm] at hx hi
    clear hmm
    rw [cl40] at hi
    have hex : ∀ i, ∃ e : Ent, i < len → (∀ j u, (encL e)[j]? = some u → w.cell? ((ad.add (i * 20)).add j) = some u) ∧ D i = dE e := by
      intro i
      by_cases hil : i < len
      · obtain ⟨cs', hc, ht⟩ := hi i (by omega)
        obtain ⟨e, he, hd⟩ := open_ent ht
        subst he
        obtain ⟨_, hcl, hat⟩ := World.cells?_some hc
        refine ⟨e, fun _ => ⟨fun j u hj => ?_, hd⟩⟩
        have hj20 : j < 20 := by
          have := (List.getElem?_eq_some_iff.1 hj).1
          simpa using this
        rw [hat j hj20, hj]
      · exact ⟨default, fun h => absurd h hil⟩
    obtain ⟨f, hf⟩ := Classical.axiomOfChoice hex
    have hlen : ((List.range len).map f).length = len := by simp
    refine ⟨(List.range len).map f, hlen.symm, ⟨some ad, cap, rfl, by rw [hlen]; exact hl, hm, (fun h => by cases h), ?_⟩, .inr ⟨(List.range (cap - len)).map fun j => D (len + j), ?_⟩⟩
    · by_cases h0 : len = 0
      · subst h0; exact .inl rfl
      · obtain ⟨b, off, spot⟩ := ad
        have hc0 := (hf 0 (by omega)).1 0 _ rfl
        have hs : spot = none := by
          have := World.cell?_spot hc0
          simpa [Addr.add] using this
        subst hs
        refine .inr ⟨b, off, rfl, fun i e hie j u hj => ?_, ?_⟩
        · simp only [List.getElem?_map] at hie
          have hil : i < len := by
            rcases Nat.lt_or_ge i len with h | h
            · exact h
            · rw [List.getElem?_eq_none (by simpa using h)] at hie; cases hie
          rw [List.getElem?_range hil] at hie
          cases hie
          have := (hf i hil).1 j u hj
          have e1 : ((⟨b, off, none⟩ : Addr).add (i * 20)).add j = ⟨b, off + i * 20 + j, none⟩ := by rw [add_plain, add_plain]
          rwa [e1] at this
        · have := block_lt_of_cell hc0
          simpa [Addr.add] using this
    · rw [hx]
      simp only [List.map_map]
      congr 1
      refine List.map_congr_left fun i hi' => ?_
      exact (hf i (List.mem_range.1 hi')).2
end

theorem mem_weightsAll {H : Type} {P : Program} {t : TypeId} {l : List (DataW H)} {d : DataW H} (hd : d ∈ l) {n : Nat} (hn : n ∈ d.weights P t) : n ∈ DataW.weightsAll P t l := by
  induction l with
  | nil => cases hd
  | cons x l ih =>
    unfold DataW.weightsAll
    rcases List.mem_cons.1 hd with rfl | hd
    · exact List.mem_append_left _ hn
    · exact List.mem_append_right _ (ih hd)
theorem fields40 : (Try.prog.fieldsOf 40).toList.map (·.type) = [34, 36, 9, 9, 4, 38, 3, 3] := by kernel_rfl
theorem weights_ent {H : Type} (e : Ent) : e.key.size ∈ (dE (H := H) e).weights Try.prog 40 ∧ e.value.size ∈ (dE (H := H) e).weights Try.prog 40 := by
  have hk : ∀ s : ByteArray, s.data.toList.length = s.size := fun s => by simp
  unfold dE DataW.weights
  rw [und40']
  simp only [fields40]
  simp [DataW.weightsEach, DataW.weights]
theorem sized_ents {H : Type} {ts : List TypeId} {ds : List (DataW H)} (h : (DataW.weightsEach Try.prog ts ds).all (· ≤ reachBytes) = true) {j : Nat} (ht : ts[j]? = some 22) {es : List Ent} {d : DataW H} (hd : ds[j]? = some d) (hx : (es = [] ∧ d = .nil) ∨ ∃ spare, d = .slice (es.map dE) spare) :
    es.length ≤ 140737488351232 ∧ ∀ e ∈ es, SmallE e := by
  rcases hx with ⟨rfl, _⟩ | ⟨spare, rfl⟩
  · exact ⟨by simp, by simp⟩
  · have hall : ∀ n ∈ (DataW.slice (es.map dE) spare : DataW H).weights Try.prog 22, n ≤ 140737488351232 := fun n hn => by
      have := List.all_eq_true.1 h n (DataW.weights_mem_each ht hd n hn)
      have h2 : n ≤ reachBytes := of_decide_eq_true this
      exact h2
    have hw : (DataW.slice (es.map dE) spare : DataW H).weights Try.prog 22 = ((es.map (dE (H := H))).length + spare.length) * Try.prog.bytesOf 40 :: (DataW.weightsAll Try.prog 40 (es.map (dE (H := H))) ++ DataW.weightsAll Try.prog 40 spare) := by
      show DataW.weights _ _ _ = _
      unfold DataW.weights
      rw [und22]
    rw [hw] at hall
    have hb : Try.prog.bytesOf 40 = 176 := by kernel_rfl
    constructor
    · have := hall _ (List.mem_cons_self ..)
      rw [hb] at this
      simp at this
      omega
    · intro e he
      have hm : dE (H := H) e ∈ es.map dE := List.mem_map.2 ⟨e, he, rfl⟩
      obtain ⟨w1, w2⟩ := weights_ent (H := H) e
      exact ⟨hall _ (List.mem_cons_of_mem _ (List.mem_append_left _ (mem_weightsAll hm w1))), hall _ (List.mem_cons_of_mem _ (List.mem_append_left _ (mem_weightsAll hm w2)))⟩

end Go.Proofs.Ytiicfpjblfohkaa
