/- The library's sort, on a row that the store owns. -/
import Derived.Test.YtiicfpjblfohkaaA6b
import Derived.Test.YtiicfpjblfohkaaSort
namespace Go.Proofs.Ytiicfpjblfohkaa
open Go.RowKit Go.Flow Go.Sort Go.Shelf

/-- Go's own sort, as a function. -/
def sortE (d : List Ent) : List Ent := (Sort.pdq (ltOf cmpE) d.toArray 0 d.length (Lib.bitLen d.length) true true).toList

theorem cmpI_lt {a b : Int} : cmpI a b < 0 ↔ a < b := by
  unfold cmpI
  repeat' split
  all_goals omega
theorem cmpI_zero {a b : Int} : cmpI a b = 0 ↔ a = b := by
  unfold cmpI
  repeat' split
  all_goals omega
/-- The order of versions, by its four numbers. -/
def ltE (a b : Ent) : Prop := a.cnt < b.cnt ∨ a.cnt = b.cnt ∧ (a.sdc < b.sdc ∨ a.sdc = b.sdc ∧ (a.srng < b.srng ∨ a.srng = b.srng ∧ a.seq < b.seq))
theorem cmpE_lt (a b : Ent) : cmpE a b < 0 ↔ ltE a b := by
  unfold cmpE cmpSt or2I or3I ltE
  have h1 := @cmpI_lt a.cnt b.cnt; have h2 := @cmpI_zero a.cnt b.cnt
  have h3 := @cmpI_lt a.sdc b.sdc; have h4 := @cmpI_zero a.sdc b.sdc
  have h5 := @cmpI_lt a.srng b.srng; have h6 := @cmpI_zero a.srng b.srng
  have h7 := @cmpI_lt a.seq b.seq
  repeat' split
  all_goals omega
theorem swoE : SWO (ltOf cmpE) where
  irrefl x := by unfold ltOf; rw [decide_eq_false_iff_not, cmpE_lt]; unfold ltE; omega
  trans x y z h1 h2 := by
    unfold ltOf at *
    rw [decide_eq_true_eq, cmpE_lt] at *
    unfold ltE at *
    omega
  ntrans x y z h1 h2 := by
    unfold ltOf at *
    rw [decide_eq_false_iff_not, cmpE_lt] at *
    unfold ltE at *
    omega

theorem flatK_get (d : List Ent) (i j : Nat) (hi : i < d.length) (hj : j < 20) : (flatK encL 20 d.toArray)[i * 20 + j]! = (encL d[i])[j]! := by
  rw [get_flatK _ _ _ _ (by simp; omega)]
  have e1 : (i * 20 + j) / 20 = i := by omega
  have e2 : (i * 20 + j) % 20 = j := by omega
  rw [e1, e2]
  simp [hi]
theorem flatK_eq (d : List Ent) : (flatK encL 20 d.toArray).toList = flat d := by
  apply List.ext_getElem?
  intro t
  by_cases ht : t < d.length * 20
  · have hq : t / 20 < d.length := by omega
    have hr : t % 20 < 20 := Nat.mod_lt _ (by omega)
    have h1 := flatK_get d (t / 20) (t % 20) hq hr
    have ht2 : t / 20 * 20 + t % 20 = t := by omega
    rw [ht2] at h1
    have hl : (t % 20) < (encL d[t / 20]).length := by simpa using hr
    have h2 := flat_get d (t / 20) d[t / 20] (List.getElem?_eq_getElem hq) (t % 20) _ (List.getElem?_eq_getElem hl)
    rw [ht2] at h2
    rw [h2]
    have hs : t < (flatK encL 20 d.toArray).size := by simp; omega
    rw [getElem!_pos (flatK encL 20 d.toArray) t hs, getElem!_pos (encL d[t / 20]) (t % 20) hl] at h1
    rw [List.getElem?_eq_getElem (by simpa using hs)]
    simpa using congrArg some h1
  · rw [List.getElem?_eq_none (by simp; omega), List.getElem?_eq_none (by rw [flat_len]; omega)]

theorem holds_of_owned {w : World} {g : Nat} {cur : Array Value} {d : List Ent} (hg : w.heap[g]? = some (.cells cur 40 (0, 0))) (ht : cur.toList.take (d.length * 20) = flat d) : HoldsK encL 20 w g 0 d.toArray := by
  intro j hj
  have hj' : j < d.length * 20 := by simpa using hj
  refine ⟨?_, by simp [World.frozen?, hg]⟩
  rw [cell_of_row w g _ cur 40 (0, 0) hg, Nat.zero_add]
  have h1 : (flat d)[j]? = (flatK encL 20 d.toArray)[j]? := by rw [← flatK_eq]; simp
  rw [← ht, List.getElem?_take, if_pos hj'] at h1
  have h2 : cur[j]? = (flatK encL 20 d.toArray)[j]? := by simpa using h1
  rw [h2, getElem!_pos (flatK encL 20 d.toArray) j hj]
  exact Array.getElem?_eq_getElem hj

theorem sorted_heap {w : World} {g m : Nat} {cur : Array Value} {d' : Array Ent} {os : Array Obj} (hg : w.heap[g]? = some (.cells cur 40 (0, 0))) :
    (sortWorldK encL 20 w g 0 m d' os).heap[g]? = some (.cells (putCells id 0 (flatK encL 20 d') cur) 40 (0, 0)) := by
  have hlt := (Array.getElem?_eq_some_iff.1 hg).1
  show ((w.heap.modify g (onCells (putCells id 0 (flatK encL 20 d')))) ++ os)[g]? = _
  rw [Array.getElem?_append_left (by simpa using hlt), Array.getElem?_modify, if_pos rfl, hg]
  rfl
theorem sorted_grown {w : World} {g m : Nat} {d' : Array Ent} {os : Array Obj} : w.grownBy (sortWorldK encL 20 w g 0 m d' os) (some g) := by
  refine ⟨rfl, rfl, rfl, ?_, fun k hk hne => ?_⟩
  · show w.heap.size ≤ ((w.heap.modify g _) ++ os).size
    simp
  · show ((w.heap.modify g _) ++ os)[k]? = _
    rw [Array.getElem?_append_left (by simpa using hk), Array.getElem?_modify, if_neg (fun e => hne (by rw [e]))]
theorem putCells_take {cur : Array Value} {d' : List Ent} (hs : d'.length * 20 ≤ cur.size) : (putCells id 0 (flatK encL 20 d'.toArray) cur).toList.take (d'.length * 20) = flat d' := by
  rw [← flatK_eq]
  apply List.ext_getElem?
  intro j
  rw [List.getElem?_take]
  split
  · rename_i hj
    have hj2 : j < (flatK encL 20 d'.toArray).size := by simpa using hj
    simp only [putCells, Array.getElem?_toList, Array.getElem?_mapIdx, Array.getElem?_eq_getElem (show j < cur.size by omega), Option.map_some, Nat.zero_le, true_and, Nat.zero_add, hj2, if_true, Nat.sub_zero, Array.getElem?_eq_getElem hj2]
    rw [getElem!_pos (flatK encL 20 d'.toArray) j hj2]
    rfl
  · rename_i hj
    rw [List.getElem?_eq_none (by simp; omega)]

theorem grow_of {w w' : World} (h : GrowD w w') : ∃ q os', w' = Sort.grow (w.drewN q) os' := by
  refine ⟨w'.drawn - w.drawn, w'.heap.extract w.heap.size w'.heap.size, ?_⟩
  have hd := h.drawn
  have hh : w'.heap = w.heap ++ w'.heap.extract w.heap.size w'.heap.size := by
    apply Array.ext_getElem?
    intro k
    by_cases hk : k < w.heap.size
    · rw [Array.getElem?_append_left hk]; exact h.grow.below.block k hk
    · rw [Array.getElem?_append_right (by omega), Array.getElem?_extract]
      have := h.size
      by_cases hk2 : k < w'.heap.size
      · rw [if_pos (by omega)]; congr 1; omega
      · rw [if_neg (by omega), Array.getElem?_eq_none (by omega)]
  obtain ⟨hp, tp, dr, o, out⟩ := w'
  have h1 := h.grow.below.os
  have h2 := h.grow.below.tape
  have h3 := h.grow.below.output
  simp only at h1 h2 h3 hh hd
  unfold Sort.grow World.drewN
  simp only
  rw [← hh, h1, h2, h3]
  congr 1
  omega

theorem cmpLays (g size : Nat) (w : World) : CmpLays Try.prog 38 #[] encL 20 cmpE g 0 size w := by
  intro m os dk _ x y
  refine (putCmp_any x y _).mono ?_
  rintro e w' ⟨rfl, hg⟩
  exact ⟨rfl, grow_of hg⟩

theorem isAgg40 (w : World) : (isAgg 40).run Try.prog w = .ok true w := by kernel_rfl
theorem sizeOf40 (w : World) : (Go.sizeOf 40).run Try.prog w = .ok 20 w := by kernel_rfl
theorem enters38 : ∀ args w, (callFunc 38 args).run Try.prog w = .ok (.enter 38 args) w := enters_of Try.func38 (by kernel_rfl) rfl

theorem encL_one (e : Ent) : ∀ u ∈ encL e, u.oneCell' = true := by
  intro v hv
  simp only [List.mem_cons, List.not_mem_nil, or_false] at hv
  rcases hv with rfl | rfl | rfl | rfl | rfl | rfl | rfl | rfl | rfl | rfl | rfl | rfl | rfl | rfl | rfl | rfl | rfl | rfl | rfl | rfl <;> rfl

theorem sort_owned {w : World} {base : Nat} {v : Value} {d : List Ent} (h : w.ownsRow base 40 20 v d.length (flat d)) (hv : d ≠ []) (hl : d.length ≤ 1000000) :
    Calls Try.prog 37 #[v, .func (.func 38) #[] #[]] w fun r w' => r = .returned (.tuple #[]) ∧ w'.ownsRow base 40 20 v (sortE d).length (flat (sortE d)) ∧ w.grownBy w' v.ownBlock ∧ (sortE d).length = d.length := by
  rcases h.2 with ⟨_, h2⟩ | ⟨g, cap, cur, rfl, hb, hg, hn, hc, hs, ht⟩
  · exact absurd (List.length_eq_zero_iff.1 h2) hv
  have hgl := (Array.getElem?_eq_some_iff.1 hg).1
  have hcon := AnyQ.slices_SortFunc_eq Try.sortL 20 isAgg40 sizeOf40 encL (fun _ => rfl) (fun e => encL_one e) cmpE swoE 38 #[] g 0 cap d.toArray w enters38 (cmpLays g _ w) (holds_of_owned hg ht) hgl (by simp; omega)
  change Calls Try.prog 37 _ _ _ at hcon
  refine hcon.mono ?_
  rintro e w' ⟨rfl, m, os, rfl⟩
  have hp := (pdq_sorts (ltOf cmpE) swoE d.toArray 0 d.toArray.size (Lib.bitLen d.toArray.size) true true (Nat.zero_le _) (Nat.le_refl _) (Or.inl rfl)).1
  have hse : (sortE d).length = d.length := by
    have := hp.1
    simpa [sortE] using this
  have he : (sortE d).toArray = pdq (ltOf cmpE) d.toArray 0 d.toArray.size (Lib.bitLen d.toArray.size) true true := by simp [sortE]
  refine ⟨rfl, ?_, sorted_grown, hse⟩
  rw [← he]
  refine ⟨flat_len _, .inr ⟨g, cap, _, by rw [hse], hb, sorted_heap hg, by omega, hc, by simp [putCells]; exact hs, ?_⟩⟩
  exact putCells_take (by rw [hse, hs]; exact Nat.mul_le_mul_right 20 hn)

end Go.Proofs.Ytiicfpjblfohkaa
