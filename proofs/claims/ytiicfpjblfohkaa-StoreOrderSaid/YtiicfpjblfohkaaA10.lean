/- Keys: the texts of the store, sorted. -/
import Derived.Test.YtiicfpjblfohkaaA6d
import Derived.Test.YtiicfpjblfohkaaSort
namespace Go.Proofs.Ytiicfpjblfohkaa
open Go.RowKit Go.Flow Go.Sort Go.Shelf
open Go.ChangeMaps (setBlock)
attribute [local irreducible] wpQuiet

def keyB : Value → ByteArray
  | .string s => s
  | _ => ⟨#[]⟩
/-- The texts of the entries that the loop has had. -/
def seenKeys (es : List MapEntry) (seen : Array Nat) : List ByteArray := (es.filter fun e => seen.contains e.born).map fun e => keyB e.key
theorem seenKeys_nil (es : List MapEntry) : seenKeys es #[] = [] := by
  unfold seenKeys
  rw [List.filter_eq_nil_iff.2 (by simp)]
  rfl
theorem seenKeys_push {es : List MapEntry} (hn : (es.map (·.born)).Nodup) {seen : Array Nat} {e : MapEntry} (he : e ∈ es) (hs : seen.contains e.born = false) : (seenKeys es (seen.push e.born)).Perm (seenKeys es seen ++ [keyB e.key]) := by
  unfold seenKeys
  induction es with
  | nil => cases he
  | cons x es ih =>
    simp only [List.map_cons, List.nodup_cons] at hn
    rcases List.mem_cons.1 he with rfl | he
    · have h1 : (es.filter fun f => (seen.push e.born).contains f.born) = es.filter fun f => seen.contains f.born := by
        refine List.filter_congr fun f hf => ?_
        have : f.born ≠ e.born := fun h => hn.1 (h ▸ List.mem_map.2 ⟨f, hf, rfl⟩)
        simp only [Array.contains_push]
        simp [this]
      have h2 : (seen.push e.born).contains e.born = true := by simp
      rw [List.filter_cons_of_pos (by exact h2), List.filter_cons_of_neg (by rw [hs]; simp), h1]
      simp only [List.map_cons]
      exact (List.perm_append_singleton _ _).symm
    · have hne : x.born ≠ e.born := fun h => hn.1 (h ▸ List.mem_map.2 ⟨e, he, rfl⟩)
      have h2 : (seen.push e.born).contains x.born = seen.contains x.born := by
        simp only [Array.contains_push]; simp [hne]
      have := ih hn.2 he
      cases hc : seen.contains x.born
      · rw [List.filter_cons_of_neg (by rw [h2, hc]; simp), List.filter_cons_of_neg (by rw [hc]; simp)]
        exact this
      · rw [List.filter_cons_of_pos (by rw [h2, hc]), List.filter_cons_of_pos (by rw [hc])]
        simp only [List.map_cons, List.cons_append]
        exact this.cons _
theorem seenKeys_all {es : List MapEntry} {seen : Array Nat} (h : ∀ e ∈ es, seen.contains e.born = true) : seenKeys es seen = es.map fun e => keyB e.key := by
  unfold seenKeys
  rw [List.filter_eq_self.2 h]
theorem keys_vals {es : Array MapEntry} {clock : Nat} {T : List Slot} (hK : KMap es clock (T.map fun t => (t.1, t.2.1))) : (es.toList.map fun e => keyB e.key) = T.map (·.1) := by
  have h1 : es.toList.map (fun e => keyB e.key) = (es.toList.map (fun e => (e.key, e.val))).map fun p => keyB p.1 := by simp
  rw [h1, hK.list]
  simp [List.map_map, Function.comp_def, keyB]

theorem Try.info9 : (Try.prog.info? 9).map (fun i => (i.zero, i.size, i.bytes)) = some (some (.string ⟨#[]⟩), 1, 16) := by kernel_rfl
theorem und61 : Try.prog.underlying 61 = some (.slice 9) := by kernel_rfl

/-- Texts, sorted as the library sorts them. -/
def sortK (L : List ByteArray) : List ByteArray := ((L.map fun s => s.data.toList).mergeSort fun x y => decide (x ≤ y)).map fun l => ⟨l.toArray⟩
theorem sortK_length (L : List ByteArray) : (sortK L).length = L.length := by simp [sortK]

theorem sortK_perm {L L' : List ByteArray} (h : L.Perm L') : sortK L = sortK L' := by
  have h1 := List.pairwise_mergeSort (le := fun x y : List UInt8 => decide (x ≤ y)) (fun a b c h1 h2 => by simp only [decide_eq_true_eq] at *; exact List.le_trans h1 h2) (fun a b => by simp only [Bool.or_eq_true, decide_eq_true_eq]; exact List.le_total a b)
  have hp : ((L.map fun s => s.data.toList).mergeSort fun x y => decide (x ≤ y)).Perm ((L'.map fun s => s.data.toList).mergeSort fun x y => decide (x ≤ y)) :=
    (List.mergeSort_perm _ _).trans ((h.map _).trans (List.mergeSort_perm _ _).symm)
  have := List.Perm.eq_of_pairwise (fun a b _ _ h1 h2 => by simp only [decide_eq_true_eq] at *; exact List.le_antisymm h1 h2) (h1 _) (h1 _) hp
  unfold sortK
  rw [this]

theorem sort_strs {w : World} {base : Nat} {v : Value} {L : List ByteArray} (h : w.ownsRow base 9 1 v L.length (L.map Value.string)) (hl : L.length ≤ 1000000) :
    Calls Try.prog 52 #[v] w fun r w' => r = .returned (.tuple #[]) ∧ w'.ownsRow base 9 1 v (sortK L).length ((sortK L).map Value.string) ∧ w.grownBy w' v.ownBlock := by
  rcases h.2 with ⟨rfl, h2⟩ | ⟨g, cap, cur, rfl, hb, hg, hn, hc, hs, ht⟩
  · have h0 : L = [] := List.length_eq_zero_iff.1 h2
    subst h0
    refine (Try.slices_Sort_string_none none 0 w).mono ?_
    rintro e w' ⟨rfl, rfl⟩
    have hk0 : sortK [] = [] := by simp [sortK]
    rw [hk0]
    exact ⟨rfl, World.ownsRow_nil _ _ _ _, ⟨rfl, rfl, rfl, Nat.le_refl _, fun _ _ _ => rfl⟩⟩
  · have hgl := (Array.getElem?_eq_some_iff.1 hg).1
    have hH : Holds encStr w g 0 (L.map fun s => s.data.toList).toArray := by
      intro j hj
      have hj' : j < L.length := by simpa using hj
      refine ⟨?_, by simp [World.frozen?, hg]⟩
      rw [cell_of_row w g _ cur 9 (0, 0) hg, Nat.zero_add]
      have h1 : (cur.toList.take (L.length * 1))[j]? = (L.map Value.string)[j]? := by rw [ht]
      rw [List.getElem?_take, if_pos (by omega)] at h1
      have h2 : cur[j]? = (L.map Value.string)[j]? := by simpa using h1
      rw [h2, getElem!_pos _ j hj]
      simp [hj']
    have hlen : (L.map fun s => s.data.toList).length = L.length := by simp
    have hcon := Try.slices_Sort_string g 0 cap (L.map fun s => s.data.toList) w hH hgl (by rw [hlen]; omega)
    rw [hlen] at hcon
    refine hcon.mono ?_
    rintro e w' ⟨rfl, n, os, rfl⟩
    have hheap : (Sort.grow (putRow encStr (Sort.ahead w n) g 0 ((L.map fun s => s.data.toList).mergeSort fun x y => decide (x ≤ y)).toArray) os).heap[g]? = some (.cells (putCells encStr 0 ((L.map fun s => s.data.toList).mergeSort fun x y => decide (x ≤ y)).toArray cur) 9 (0, 0)) := by
      show ((w.heap.modify g (onCells (putCells encStr 0 _))) ++ os)[g]? = _
      rw [Array.getElem?_append_left (by simpa using hgl), Array.getElem?_modify, if_pos rfl, hg]
      rfl
    refine ⟨rfl, ⟨by simp, .inr ⟨g, cap, _, by rw [sortK_length], hb, hheap, by rw [sortK_length]; exact hn, hc, by simp [putCells]; omega, ?_⟩⟩, ⟨rfl, rfl, rfl, ?_, fun k hk hne => ?_⟩⟩
    · apply List.ext_getElem?
      intro j
      rw [List.getElem?_take]
      split
      · rename_i hj
        rw [sortK_length] at hj
        have hj2 : j < L.length := by omega
        have hjm : j < ((L.map fun s => s.data.toList).mergeSort fun x y => decide (x ≤ y)).length := by simp; exact hj2
        have hjc : j < cur.size := by omega
        simp only [putCells, Array.getElem?_toList, Array.getElem?_mapIdx, Array.getElem?_eq_getElem hjc, Option.map_some, Nat.zero_le, true_and, Nat.zero_add, Nat.sub_zero]
        rw [if_pos (by simpa using hj2)]
        rw [getElem!_pos _ j (by simpa using hj2)]
        unfold sortK
        simp [hj2]
      · rename_i hj
        rw [List.getElem?_eq_none (by simp; omega)]
    · show w.heap.size ≤ ((w.heap.modify g _) ++ os).size
      simp
    · show ((w.heap.modify g _) ++ os)[k]? = _
      rw [Array.getElem?_append_left (by simpa using hk), Array.getElem?_modify, if_neg (fun e => hne (by rw [e]; rfl))]

/-- A row of texts of one's own, made behind w. -/
def Texts (w w' : World) (v : Value) (L : List ByteArray) : Prop := w'.ownsRow w.heap.size 9 1 v L.length (L.map Value.string) ∧ Grow w w'

theorem row9_block {w : World} {base : Nat} {v : Value} {n : Nat} {xs : List Value} (h : w.ownsRow base 9 1 v n xs) {k : Nat} (hk : v.ownBlock = some k) : base ≤ k ∧ ∃ cur, w.heap[k]? = some (.cells cur 9 (0, 0)) := by
  rcases h.2 with ⟨rfl, _⟩ | ⟨g, cap, cur, rfl, hb, hg, _⟩
  · cases hk
  · cases hk; exact ⟨hb, cur, hg⟩
theorem grow_row {w0 w w' : World} {o : Option Nat} (h : w.grownBy w' o) (hg : Grow w0 w) (hv : ∀ k, o = some k → w0.heap.size ≤ k) : Grow w0 w' :=
  ⟨⟨h.os.trans hg.below.os, h.tape.trans hg.below.tape, h.output.trans hg.below.output, Nat.le_trans hg.below.size h.size, fun k hk => (h.block k (Nat.lt_of_lt_of_le hk hg.below.size) (fun e => by have := hv k e.symm; omega)).trans (hg.below.block k hk)⟩⟩

set_option maxRecDepth 100000 in
set_option maxHeartbeats 4000000 in
theorem keys_any (w : World) (base bs bm : Nat) (rng m0 m1 m2 : Int) (T : List Slot) (hS : StoreAt w base bs bm rng m0 m1 m2 T) (hfew : T.length ≤ 1000000) :
    Calls Try.prog 26 #[.pointer (some ⟨bs, 0, none⟩)] w fun r w' => ∃ v, r = .returned v ∧ Texts w w' v (sortK (T.map (·.1))) := by
  obtain ⟨es, clock, hmap, hK⟩ := hS.map
  have hbs := hS.bs_lt
  have hbm := hS.bm_lt
  obtain ⟨c0, c1, c2, c3, c4⟩ := hS.cells
  obtain ⟨i9, hi9, hz0, hz1, hz2⟩ := info_parts Try.info9
  have hel : es.toList.length ≤ 1000000 := by rw [hK.length]; simpa using hfew
  have HKV := Lib.hid (And.intro (keys_vals hK) hel)
  have HK := Lib.hid hK
  have HM := Lib.hid hmap
  clear hS hK hmap hel
  go_enter Try.func26, Try.ntmps26
  go_wp2_with (refine wpList_range_kv rfl _ rfl bm es clock rfl HM.out ?_)
  have hr0 : (w.alloc (.mapIter (some bm) clock #[] clock)).heap[w.heap.size]? = some (.mapIter (some bm) clock #[] clock) := heap_alloc_new _ _
  have HR0 := Lib.hid hr0
  clear hr0
  go_frame
  go_loopw [3, 4] (fun v _ wr => ∃ (L : List ByteArray) (seen : Array Nat) (c0 : Nat), wr.heap[w.heap.size]? = some (.mapIter (some bm) clock seen c0) ∧ clock ≤ c0 ∧ Grow w wr ∧ wr.ownsRow w.heap.size 9 1 v L.length (L.map Value.string) ∧ L.Perm (seenKeys es.toList seen)) (fun _ _ wr => wr.rangeLeft bm w.heap.size)
  case atStart => exact ⟨[], #[], clock, HR0.out, Nat.le_refl _, (Grow.refl _).alloc _, World.ownsRow_nil _ _ _ _, by rw [seenKeys_nil]⟩
  case round =>
    obtain ⟨L, seen, c0, hr, hc0, hg, hown, hperm⟩ := hrel
    have hLl : L.length ≤ 1000000 := by
      rw [hperm.length_eq]
      unfold seenKeys
      rw [List.length_map]
      exact Nat.le_trans (List.length_filter_le _ _) HKV.out.2
    have hbr : wr.heap[bm]? = some (.map es clock) := (hg.below.block bm hbm).trans HM.out
    have HBR := Lib.hid hbr
    have HR := Lib.hid hr
    have HO := Lib.hid (And.intro hown hperm)
    clear hbr hr hown hperm
    go_wp2_with (refine wpList_next_kv rfl _ rfl (w.heap.size) bm clock c0 seen es clock rfl HR.out HBR.out HK.out.born hc0 ?_ ?_)
    focus
      unfold NextDone
      intro h0
      have H0 := Lib.hid h0
      clear h0
      go_wp2_with (go_at_call 52; refine (sort_strs HO.out.1 hLl).mono ?_; rintro _ w3 ⟨rfl, ho3, hg3⟩)
      go_ret
      have hp := HO.out.2
      rw [seenKeys_all (all_seen es seen H0.out), HKV.out.1] at hp
      rw [sortK_perm hp] at ho3
      exact ⟨_, rfl, ho3, grow_row hg3 hg (fun k hk => (row9_block HO.out.1 hk).1)⟩
    unfold NextMore
    intro e he w1 hw1
    obtain ⟨hee, hes⟩ := mem_left he
    obtain ⟨t, ht, hkey, hval⟩ := slot_of HK.out hee
    have hg1 : Grow w w1 := by rcases hw1 with rfl | rfl; exact hg; exact hg.drew
    have hlt : w.heap.size < w1.heap.size := by
      have h1 : w.heap.size < wr.heap.size := (Array.getElem?_eq_some_iff.1 HR.out).1
      rcases hw1 with rfl | rfl <;> exact h1
    have hoth : ∀ k, k ≠ w.heap.size → (setBlock w1 w.heap.size (.mapIter (some bm) clock (seen.push e.born) clock)).heap[k]? = wr.heap[k]? := fun k hk => by
      show (w1.heap.setIfInBounds w.heap.size _)[k]? = _
      rw [Array.getElem?_setIfInBounds_ne (Ne.symm hk)]
      rcases hw1 with rfl | rfl <;> rfl
    have hg2 : Grow w (setBlock w1 w.heap.size (.mapIter (some bm) clock (seen.push e.born) clock)) := hg1.setBlock (Nat.le_refl _) _
    have hr2 : (setBlock w1 w.heap.size (.mapIter (some bm) clock (seen.push e.born) clock)).heap[w.heap.size]? = some (.mapIter (some bm) clock (seen.push e.born) clock) := by simp [setBlock, hlt]
    have hb2 : (setBlock w1 w.heap.size (.mapIter (some bm) clock (seen.push e.born) clock)).heap[bm]? = some (.map es clock) := (hg2.below.block bm hbm).trans HM.out
    have hme : (setBlock w1 w.heap.size (.mapIter (some bm) clock (seen.push e.born) clock)).rangeLeft bm w.heap.size < wr.rangeLeft bm w.heap.size := by
      simp only [World.rangeLeft, hr2, hb2, HR.out, HBR.out]
      exact left_shrinks es seen e he
    have hown2 : (setBlock w1 w.heap.size (.mapIter (some bm) clock (seen.push e.born) clock)).ownsRow w.heap.size 9 1 u3 L.length (L.map Value.string) := by
      refine ⟨HO.out.1.1, ?_⟩
      rcases HO.out.1.2 with hn | ⟨g, cap, cur, h1, h2, h3, h4⟩
      · exact .inl hn
      · refine .inr ⟨g, cap, cur, h1, h2, (hoth g (fun e => ?_)).trans h3, h4⟩
        rw [e, HR.out] at h3
        cases h3
    generalize setBlock w1 w.heap.size (.mapIter (some bm) clock (seen.push e.born) clock) = W2 at *
    have HR2 := Lib.hid hr2
    have HB2 := Lib.hid hb2
    have HKV2 := Lib.hid (And.intro hkey hval)
    have HME := Lib.hid hme
    have HO2 := Lib.hid hown2
    have HP := Lib.hid (seenKeys_push HK.out.nodup hee hes)
    have hbz : w.heap.size ≤ W2.heap.size := hg2.size
    clear hr2 hb2 hkey hval hme hown2 c1 c2 c3 c4 hoth
    go_wp2_with (first | (refine wpList_entry_kv rfl _ rfl w.heap.size bm clock seen es clock e rfl HR2.out HB2.out hee HK.out.nodup ?_; rw [HKV2.out.1]) | (at_builtin; refine wpList_append_own_at _ rfl _ _ 61 rfl w.heap.size 9 i9 _ 1 16 und61 hi9 hz0 hz1 hz2 rfl (by decide) _ _ _ rfl (HO2.out.alloc _) ⟨W2.heap.size, 0, none⟩ 1 1 [.string t.1] rfl rfl ?c1 ?c2 ?c3 ?c4 ?c5 ?_))
    case c1 =>
      intro j u hj
      cases j with
      | zero => simp at hj; subst hj; simp [Addr.add]
      | succ j => simp at hj
    case c2 => intro u hu; rw [List.mem_singleton.1 hu]; rfl
    case c3 => unfold maxLen; omega
    case c4 => omega
    case c5 => simp; omega
    intro v' w3 hown' hgrow _ _
    have hit : u3.ownBlock ≠ some w.heap.size := fun h => by
      obtain ⟨_, cur, h2⟩ := row9_block HO2.out h
      rw [HR2.out] at h2
      cases h2
    have him : u3.ownBlock ≠ some bm := fun h => by
      obtain ⟨_, cur, h2⟩ := row9_block HO2.out h
      rw [HB2.out] at h2
      cases h2
    have hitl : w.heap.size < W2.heap.size := (Array.getElem?_eq_some_iff.1 HR2.out).1
    have hbml : bm < W2.heap.size := (Array.getElem?_eq_some_iff.1 HB2.out).1
    have h3 : w3.heap[w.heap.size]? = some (.mapIter (some bm) clock (seen.push e.born) clock) := (hgrow.block _ (by simp; omega) (fun h => hit h.symm)).trans ((Below.heap_alloc _ _ _ hitl).trans HR2.out)
    have h4 : w3.heap[bm]? = some (.map es clock) := (hgrow.block _ (by simp; omega) (fun h => him h.symm)).trans ((Below.heap_alloc _ _ _ hbml).trans HB2.out)
    have hgw : Grow w w3 := grow_row hgrow (hg2.alloc _) (fun k hk => (row9_block HO2.out hk).1)
    have hpp : (L ++ [t.1]).Perm (seenKeys es.toList (seen.push e.born)) := by
      refine ((HO.out.2.append_right [t.1]).trans ?_)
      have := HP.out.symm
      rw [HKV2.out.1] at this
      exact this
    have hol : w3.ownsRow w.heap.size 9 1 v' (L ++ [t.1]).length ((L ++ [t.1]).map Value.string) := by
      simpa using hown'
    have HF := Lib.hid (And.intro h3 (And.intro h4 (And.intro hgw (And.intro hol hpp))))
    clear h3 h4 hgw hol hpp hown' hgrow
    go_wp2
    refine ⟨⟨L ++ [t.1], seen.push e.born, clock, HF.out.1, Nat.le_refl _, HF.out.2.2.1, HF.out.2.2.2.1, HF.out.2.2.2.2⟩, ?_⟩
    have h5 := HME.out
    simp only [World.rangeLeft, HF.out.1, HF.out.2.1, HR2.out, HB2.out] at h5 ⊢
    exact h5

end Go.Proofs.Ytiicfpjblfohkaa
