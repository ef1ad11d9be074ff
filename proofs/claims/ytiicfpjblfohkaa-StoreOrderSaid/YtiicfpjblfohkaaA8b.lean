/- Len: how many versions there are. -/
import Derived.Test.YtiicfpjblfohkaaA6b
namespace Go.Proofs.Ytiicfpjblfohkaa
open Go.RowKit Go.Flow
open Go.ChangeMaps (setBlock)
attribute [local irreducible] wpQuiet

/-- How many a slice value tells of. -/
def lenV : Value → Nat
  | .slice _ n _ => n
  | _ => 0
theorem lenV_owns {w : World} {base : Nat} {v : Value} {n : Nat} {xs : List Value} (h : w.ownsRow base 40 20 v n xs) : lenV v = n := by
  rcases h.2 with ⟨rfl, rfl⟩ | ⟨g, cap, cur, rfl, _⟩ <;> rfl
/-- The sum over the entries that the loop has had. -/
def seenSum (es : List MapEntry) (seen : Array Nat) : Nat := ((es.filter fun e => seen.contains e.born).map fun e => lenV e.val).sum
theorem seenSum_nil (es : List MapEntry) : seenSum es #[] = 0 := by
  unfold seenSum
  rw [List.filter_eq_nil_iff.2 (by simp)]
  rfl
theorem seenSum_push {es : List MapEntry} (hn : (es.map (·.born)).Nodup) {seen : Array Nat} {e : MapEntry} (he : e ∈ es) (hs : seen.contains e.born = false) : seenSum es (seen.push e.born) = seenSum es seen + lenV e.val := by
  unfold seenSum
  induction es with
  | nil => cases he
  | cons x es ih =>
    simp only [List.map_cons, List.nodup_cons] at hn
    rcases List.mem_cons.1 he with rfl | he
    · have h1 : (es.filter fun f => (seen.push e.born).contains f.born) = es.filter fun f => seen.contains f.born := by
        refine List.filter_congr fun f hf => ?_
        have : f.born ≠ e.born := fun h => hn.1 (h ▸ List.mem_map.2 ⟨f, hf, rfl⟩)
        simp only [Array.contains_push]
        simp [this]
      have h2 : (seen.push e.born).contains e.born = true := by simp
      rw [List.filter_cons_of_pos (by exact h2), List.filter_cons_of_neg (by rw [hs]; simp), h1]
      simp only [List.map_cons, List.sum_cons]
      omega
    · have hne : x.born ≠ e.born := fun h => hn.1 (h ▸ List.mem_map.2 ⟨e, he, rfl⟩)
      have h2 : (seen.push e.born).contains x.born = seen.contains x.born := by
        simp only [Array.contains_push]; simp [hne]
      have := ih hn.2 he
      cases hc : seen.contains x.born
      · rw [List.filter_cons_of_neg (by rw [h2, hc]; simp), List.filter_cons_of_neg (by rw [hc]; simp)]
        exact this
      · rw [List.filter_cons_of_pos (by rw [h2, hc]), List.filter_cons_of_pos (by rw [hc])]
        simp only [List.map_cons, List.sum_cons]
        omega
theorem seenSum_all {es : List MapEntry} {seen : Array Nat} (h : ∀ e ∈ es, seen.contains e.born = true) : seenSum es seen = (es.map fun e => lenV e.val).sum := by
  unfold seenSum
  rw [List.filter_eq_self.2 h]
theorem seenSum_le (es : List MapEntry) (seen : Array Nat) : seenSum es seen ≤ (es.map fun e => lenV e.val).sum := by
  unfold seenSum
  induction es with
  | nil => simp
  | cons x es ih =>
    cases hc : seen.contains x.born
    · rw [List.filter_cons_of_neg (by rw [hc]; simp)]; simp only [List.map_cons, List.sum_cons]; omega
    · rw [List.filter_cons_of_pos (by rw [hc])]; simp only [List.map_cons, List.sum_cons]; omega
theorem sum_vals {w : World} {base bs bm : Nat} {rng m0 m1 m2 : Int} {T : List Slot} (hS : StoreAt w base bs bm rng m0 m1 m2 T) {es : Array MapEntry} {clock : Nat} (hK : KMap es clock (T.map fun t => (t.1, t.2.1))) :
    (es.toList.map fun e => lenV e.val).sum = (T.map fun t => t.2.2.length).sum := by
  have h1 : es.toList.map (fun e => lenV e.val) = (es.toList.map (fun e => (e.key, e.val))).map fun p => lenV p.2 := by simp
  rw [h1, hK.list]
  simp only [List.map_map, Function.comp_def]
  congr 1
  refine List.map_congr_left fun t ht => ?_
  exact lenV_owns (hS.rows t ht)
theorem sum_mem_le {l : List Nat} {n : Nat} (h : n ∈ l) : n ≤ l.sum := by
  induction l with
  | nil => cases h
  | cons x l ih =>
    simp only [List.sum_cons]
    rcases List.mem_cons.1 h with rfl | h
    · omega
    · have := ih h; omega
theorem seenSum_push_le {es : List MapEntry} (hn : (es.map (·.born)).Nodup) {seen : Array Nat} {e : MapEntry} (he : e ∈ es) (hs : seen.contains e.born = false) : seenSum es seen + lenV e.val ≤ (es.map fun e => lenV e.val).sum := by
  rw [← seenSum_push hn he hs]
  exact seenSum_le _ _

def lenT (T : List Slot) : Nat := (T.map fun t => t.2.2.length).sum
def lenA (A : Abs) : Nat := (A.map fun p => p.2.length).sum
theorem lenA_abs (T : List Slot) : lenA (absT T) = (T.map fun t => t.2.2.length).sum := by simp [lenA, absT, Function.comp_def]

set_option maxRecDepth 100000 in
set_option maxHeartbeats 2000000 in
theorem len_any (w : World) (base bs bm : Nat) (rng m0 m1 m2 : Int) (T : List Slot) (hS : StoreAt w base bs bm rng m0 m1 m2 T) :
    Calls Try.prog 15 #[.pointer (some ⟨bs, 0, none⟩)] w fun r w' => r = .returned (.int .i64 (lenA (absT T))) ∧ Grow w w' := by
  obtain ⟨es, clock, hmap, hK⟩ := hS.map
  have hbs := hS.bs_lt
  have hbm := hS.bm_lt
  obtain ⟨c0, c1, c2, c3, c4⟩ := hS.cells
  have hfew := hS.few
  have HSM := Lib.hid (sum_vals hS hK)
  have HS := Lib.hid hS
  have HK := Lib.hid hK
  have HM := Lib.hid hmap
  clear hS hK hmap
  go_enter Try.func15, Try.ntmps15
  go_wp2_with (refine wpList_range_kv rfl _ rfl bm es clock rfl HM.out ?_)
  have hr0 : (w.alloc (.mapIter (some bm) clock #[] clock)).heap[w.heap.size]? = some (.mapIter (some bm) clock #[] clock) := heap_alloc_new _ _
  have HR0 := Lib.hid hr0
  clear hr0
  go_frame
  go_loopw [3, 5] (fun n _ wr => ∃ seen c0, wr.heap[w.heap.size]? = some (.mapIter (some bm) clock seen c0) ∧ clock ≤ c0 ∧ Grow w wr ∧ n = .int .i64 (seenSum es.toList seen)) (fun _ _ wr => wr.rangeLeft bm w.heap.size)
  case atStart => exact ⟨#[], clock, HR0.out, Nat.le_refl _, (Grow.refl _).alloc _, by rw [seenSum_nil]; rfl⟩
  case round =>
    obtain ⟨seen, c0, hr, hc0, hg, rfl⟩ := hrel
    have hbr : wr.heap[bm]? = some (.map es clock) := (hg.below.block bm hbm).trans HM.out
    have HBR := Lib.hid hbr
    have HR := Lib.hid hr
    clear hbr hr
    go_wp2_with (refine wpList_next_kv rfl _ rfl (w.heap.size) bm clock c0 seen es clock rfl HR.out HBR.out HK.out.born hc0 ?_ ?_)
    focus
      unfold NextDone
      intro h0
      have H0 := Lib.hid h0
      clear h0
      go_wp2
      go_ret
      refine ⟨ret_int ?_, hg⟩
      rw [seenSum_all (all_seen es seen H0.out), HSM.out, lenA_abs]
    unfold NextMore
    intro e he w1 hw1
    obtain ⟨hee, hes⟩ := mem_left he
    obtain ⟨t, ht, hkey, hval⟩ := slot_of HK.out hee
    have hg1 : Grow w w1 := by rcases hw1 with rfl | rfl; exact hg; exact hg.drew
    have hlt : w.heap.size < w1.heap.size := by
      have h1 : w.heap.size < wr.heap.size := (Array.getElem?_eq_some_iff.1 HR.out).1
      rcases hw1 with rfl | rfl <;> exact h1
    have hg2 : Grow w (setBlock w1 w.heap.size (.mapIter (some bm) clock (seen.push e.born) clock)) := hg1.setBlock (Nat.le_refl _) _
    have hr2 : (setBlock w1 w.heap.size (.mapIter (some bm) clock (seen.push e.born) clock)).heap[w.heap.size]? = some (.mapIter (some bm) clock (seen.push e.born) clock) := by simp [setBlock, hlt]
    have hb2 : (setBlock w1 w.heap.size (.mapIter (some bm) clock (seen.push e.born) clock)).heap[bm]? = some (.map es clock) := (hg2.below.block bm hbm).trans HM.out
    have hme : (setBlock w1 w.heap.size (.mapIter (some bm) clock (seen.push e.born) clock)).rangeLeft bm w.heap.size < wr.rangeLeft bm w.heap.size := by
      simp only [World.rangeLeft, hr2, hb2, HR.out, HBR.out]
      exact left_shrinks es seen e he
    generalize setBlock w1 w.heap.size (.mapIter (some bm) clock (seen.push e.born) clock) = W2 at *
    have hrow := HS.out.rows t ht
    have hpush := seenSum_push_le HK.out.nodup hee hes
    rw [HSM.out] at hpush
    have HP := Lib.hid (seenSum_push HK.out.nodup hee hes)
    have HR2 := Lib.hid hr2
    have HB2 := Lib.hid hb2
    have HKV := Lib.hid (And.intro hkey hval)
    have HME := Lib.hid hme
    have hlv : lenV e.val = t.2.2.length := by rw [hval]; exact lenV_owns hrow
    rw [hlv] at hpush
    have HLV := Lib.hid hlv
    clear hr2 hb2 hkey hme c1 c2 c3 c4 hlv
    have hsh : ∃ p c, t.2.1 = .slice p t.2.2.length c := by
      rcases hrow.2 with ⟨h1, h2⟩ | ⟨g, cap, cur, h1, _⟩
      · exact ⟨none, 0, by rw [h1, h2]⟩
      · exact ⟨_, _, h1⟩
    obtain ⟨p, c, hsl⟩ := hsh
    have HV := Lib.hid (hval.trans hsl)
    clear hval hsl hrow
    go_wp2_with (refine wpList_entry_kv rfl _ rfl w.heap.size bm clock seen es clock e rfl HR2.out HB2.out hee HK.out.nodup ?_; rw [HKV.out.1, HV.out])
    have h3 : W2.heap[w.heap.size]? = some (.mapIter (some bm) clock (seen.push e.born) clock) := HR2.out
    refine ⟨⟨seen.push e.born, clock, h3, Nat.le_refl _, hg2, ?_⟩, HME.out⟩
    rw [HP.out, HLV.out]
    go_num

end Go.Proofs.Ytiicfpjblfohkaa
