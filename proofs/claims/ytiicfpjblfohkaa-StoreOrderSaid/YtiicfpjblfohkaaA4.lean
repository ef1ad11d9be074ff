/- Reading rows of writes: the search for a name, and what it answers. -/
import Derived.Test.YtiicfpjblfohkaaA2
import Derived.Handy
import Derived.Lib.Hide
namespace Go.Proofs.Ytiicfpjblfohkaa
open Go.RowKit Go.Flow
attribute [local irreducible] wpQuiet

/-- The cells from that place on hold these writes. -/
def RowsAt (w : World) (b off : Nat) (d : List Ent) : Prop := ∀ i e, d[i]? = some e → ∀ j v, (encL e)[j]? = some v → w.cell? ⟨b, off + i * 20 + j, none⟩ = some v

theorem RowsAt.keep {w w' : World} {b off : Nat} {d : List Ent} (h : RowsAt w b off d) (hg : Grow w w') : RowsAt w' b off d := by
  intro i e hi j v hj
  have h1 := h i e hi j v hj
  have hb : b < w.heap.size := by
    have := h1
    unfold World.cell? at this
    split at this
    · rename_i hx
      exact (Array.getElem?_eq_some_iff.1 hx).1
    · cases this
  rw [hg.below.cell (p := ⟨b, off + i * 20 + j, none⟩) hb]
  exact h1

theorem und40 : Try.prog.underlying 40 = Try.prog.underlying 39 := by kernel_rfl
theorem info40 : (Try.prog.info? 40).map (·.size) = some 20 := by kernel_rfl

theorem run_load_ent (w : World) (b off i : Nat) (d : List Ent) (e : Ent) (h : RowsAt w b off d) (hi : d[i]? = some e) :
    (loadVar 40 ⟨b, off + i * 20, none⟩).run Try.prog w = .ok (encE e) w := by
  have hl : (loadCells ⟨b, off + i * 20, none⟩ (encL e).length).run Try.prog w = .ok (encL e).toArray w :=
    run_loadCells_list (P := Try.prog) w ⟨b, off + i * 20, none⟩ (encL e) (fun j v hv => by
      have hadd : (⟨b, off + i * 20, none⟩ : Addr).add j = ⟨b, off + i * 20 + j, none⟩ := by unfold Addr.add; split <;> simp_all
      rw [hadd]
      exact h i e hi j v hv)
  have hagg : (isAgg 40).run Try.prog w = .ok true w := by kernel_rfl
  simp only [List.length_cons, List.length_nil] at hl
  simp [loadVar, Sem.run_bind, hagg, hl]

theorem wpList_load_ent {ops : Array Oper} {rest : List Oper} {o : Oper} {a : Act} {w : World} {Q : Exit → Act → World → Prop} (hgd : o.guard = none) (x : Operand) (ho : o.op = .load 40 x)
    (b off i : Nat) (d : List Ent) (e : Ent) (h : RowsAt w b off d) (hi : d[i]? = some e) (hx : a.eval x = .pointer (some ⟨b, off + i * 20, none⟩))
    (hk : wpList Try.prog ops Q rest (a.put o.dst (encE e)) w) : wpList Try.prog ops Q (o :: rest) a w :=
  wpList_plain hgd fun K hK => by
    unfold Oper.wp execOp
    simp only [ho, hx, Instr.loadAt, Instr.sureAddr, Sem.run_bind, Sem.run_pure, Result.andThen_ok, run_load_ent w b off i d e h hi]
    exact hK _ _ hk

theorem setRow_alloc (w0 : World) (Z X : Array Value) (t : TypeId) : (w0.alloc (.cells Z t)).setRow w0.heap.size X = w0.alloc (.cells X t) := by
  have hh : (w0.heap.push (.cells Z t)).modify w0.heap.size (fun | .cells _ elem frozen => .cells X elem frozen | o => o) = w0.heap.push (.cells X t) := by
    apply Array.ext_getElem?
    intro j
    rw [Array.getElem?_modify, Array.getElem?_push, Array.getElem?_push]
    by_cases hj : j = w0.heap.size
    · subst hj; simp
    · rw [if_neg (fun e => hj e.symm), if_neg hj, if_neg hj]
  unfold World.setRow
  exact congrArg (fun h => ({ w0 with heap := h } : World)) hh

theorem run_store_ent (w0 : World) (Z : Array Value) (hz : Z.size = 20) (e : Ent) :
    (storeVar 40 ⟨w0.heap.size, 0, none⟩ (encE e)).run Try.prog (w0.alloc (.cells Z 40)) = .ok () (w0.alloc (.cells (encL e).toArray 40)) := by
  have hs : (Go.sizeOf 40).run Try.prog (w0.alloc (.cells Z 40)) = .ok 20 (w0.alloc (.cells Z 40)) := by kernel_rfl
  have h := run_storeCells_at (P := Try.prog) w0.heap.size 0 40 (encL e) 0 Z (w0.alloc (.cells Z 40)) (heap_alloc_new w0 _) (by simp [hz]) (by
    intro v hv
    simp only [List.mem_cons, List.not_mem_nil, or_false] at hv
    rcases hv with rfl | rfl | rfl | rfl | rfl | rfl | rfl | rfl | rfl | rfl | rfl | rfl | rfl | rfl | rfl | rfl | rfl | rfl | rfl | rfl <;> rfl)
  have h2 : (w0.alloc (.cells Z 40)).setRow w0.heap.size (encL e).toArray = w0.alloc (.cells (encL e).toArray 40) := setRow_alloc _ _ _ _
  have h3 : (Z.toList.take (0 + 0) ++ encL e ++ Z.toList.drop (0 + 0 + (encL e).length)).toArray = (encL e).toArray := by
    simp [hz]
  rw [h3, h2] at h
  unfold storeVar
  simp only [Sem.run_bind, hs, Result.andThen_ok]
  simp only [Value.cells, List.size_toArray, List.length_cons, List.length_nil]
  exact h

theorem wpList_store_ent {ops : Array Oper} {rest : List Oper} {o : Oper} {a : Act} {w0 : World} {Z : Array Value} {Q : Exit → Act → World → Prop} (hgd : o.guard = none) (x y : Operand) (ho : o.op = .store 40 x y)
    (e : Ent) (hz : Z.size = 20) (hx : a.eval x = .pointer (some ⟨w0.heap.size, 0, none⟩)) (hy : a.eval y = encE e)
    (hk : wpList Try.prog ops Q rest (a.put o.dst undef) (w0.alloc (.cells (encL e).toArray 40))) : wpList Try.prog ops Q (o :: rest) a (w0.alloc (.cells Z 40)) :=
  wpList_plain hgd fun K hK => by
    unfold Oper.wp execOp
    simp only [ho, hx, hy, Instr.storeAt, Instr.sureAddr, Sem.run_bind, Sem.run_pure, Result.andThen_ok, run_store_ent w0 Z hz e]
    exact hK _ _ hk

theorem quiet_load_ent {a : Act} {o : Oper} {x : Operand} {w' : World} {g : Nat} {e : Ent} (ho : o.op = .load 40 x) (hx : a.eval x = .pointer (some ⟨g, 0, none⟩)) (hg : w'.heap[g]? = some (.cells (encL e).toArray 40 (0, 0))) :
    Oper.quietUpon Try.prog (Grow w') w' (encE e) ((execOp a.eval o).run Try.prog w') := by
  have hu : Try.prog.underlying 40 = some (Try.prog.underlying 40).get! := by kernel_rfl
  have h := run_loadVar_row (P := Try.prog) w' g 40 40 (encL e).toArray (0, 0) _ hg hu (by kernel_rfl) (by rw [info40]; rfl)
  unfold execOp
  simp only [ho, hx, Instr.loadAt, Instr.sureAddr, Sem.run_bind, Sem.run_pure, Result.andThen_ok, h, Oper.quietUpon]
  exact ⟨trivial, trivial⟩

theorem run_build1_ent (e : Ent) (w : World) : (Instr.buildSlice 22 1 #[(0, encE e)]).run Try.prog w = .ok (.slice (some ⟨w.heap.size, 0, none⟩) 1 1) (w.alloc (.cells (encL e).toArray 40)) := by
  kernel_rfl

theorem makes_build1 {a : Act} {o : Oper} {t : Tmp} {w' : World} {e : Ent} (ho : o.op = .buildSlice 22 1 #[(0, .tmp t)]) (hx : a.eval (.tmp t) = encE e) :
    (execOp a.eval o).run Try.prog w' = .ok (.value (.slice (some ⟨w'.heap.size, 0, none⟩) 1 1)) (w'.alloc (.cells (encL e).toArray 40)) := by
  unfold execOp
  simp only [ho, List.map_toArray, List.map_cons, List.map_nil, hx, Sem.run_bind, Sem.run_pure, Result.andThen_ok, run_build1_ent e w']

def sameDot (dc rng seq : Int) (e : Ent) : Bool := e.dc == dc && e.rng == rng && e.seq == seq

set_option maxHeartbeats 1000000 in
theorem has1_any (e : Ent) (bd : Nat) (dc rng seq : Int) (w : World) (h0 : w.cell? ⟨bd, 0, none⟩ = some (.int .i64 dc)) (h1 : w.cell? ⟨bd, 1, none⟩ = some (.int .i64 rng)) (h2 : w.cell? ⟨bd, 2, none⟩ = some (.int .i64 seq)) (hb : bd < w.heap.size) :
    Calls Try.prog 61 #[encE e, .pointer (some ⟨bd, 0, none⟩)] w fun r w' => r = .returned (.bool (sameDot dc rng seq e)) ∧ Grow w w' := by
  go_enter Try.func61, Try.ntmps61
  go_wp2
  all_goals
    go_ret
    exact ⟨ret_bool (by simp [sameDot, *]), (Grow.refl _).alloc _⟩

/-- The first that fits, by its place; -1 if there is none. -/
def idxI (p : Ent → Bool) (d : List Ent) : Int := if d.any p then (d.findIdx p : Nat) else -1

theorem idx_here {p : Ent → Bool} {d : List Ent} {n : Nat} (hn : n < d.length) (h : (d.take n).any p = false) (hp : p d[n] = true) : (n : Int) = idxI p d := by
  have h1 : d.findIdx p = n := by
    rw [List.findIdx_eq hn]
    refine ⟨hp, fun j hj => ?_⟩
    have := List.any_eq_false.1 h d[j] (by rw [List.mem_take_iff_getElem]; exact ⟨j, by omega, rfl⟩)
    simpa using this
  have h2 : d.any p = true := List.any_eq_true.2 ⟨d[n], List.getElem_mem hn, hp⟩
  simp [idxI, h1, h2]
theorem idx_none {p : Ent → Bool} {d : List Ent} {n : Nat} (hn : d.length ≤ n) (h : (d.take n).any p = false) : (-1 : Int) = idxI p d := by
  rw [List.take_of_length_le hn] at h
  simp [idxI, h]
theorem any_snoc {p : Ent → Bool} {d : List Ent} {n : Nat} (hn : n < d.length) (h : (d.take n).any p = false) (hp : p d[n] = false) : (d.take (n + 1)).any p = false := by
  rw [List.take_succ_eq_append_getElem hn, List.any_append, h]
  simp [hp]

set_option maxHeartbeats 1000000 in
theorem indexFunc_any (b off cap : Nat) (d : List Ent) (bd : Nat) (dc rng seq : Int) (w : World) (h0 : w.cell? ⟨bd, 0, none⟩ = some (.int .i64 dc)) (h1 : w.cell? ⟨bd, 1, none⟩ = some (.int .i64 rng)) (h2 : w.cell? ⟨bd, 2, none⟩ = some (.int .i64 seq)) (hb : bd < w.heap.size)
    (hd : RowsAt w b off d) (hlen : d.length ≤ 140737488351232) :
    Calls Try.prog 71 #[.slice (some ⟨b, off, none⟩) d.length cap, .func (.func 61) #[] #[.pointer (some ⟨bd, 0, none⟩)]] w fun r w' => r = .returned (.int .i64 (idxI (sameDot dc rng seq) d)) ∧ Grow w w' := by
  go_enter Try.func71, Try.ntmps71
  go_wp2
  have HD : Hid (RowsAt w b off d) := hd
  clear hd
  go_loopw [8] (fun k wr => ∃ n : Nat, n ≤ d.length ∧ k = .int .i64 n ∧ (d.take n).any (sameDot dc rng seq) = false ∧ Grow w wr) (fun k _ => d.length - (intOf k).toNat)
  case atStart => exact ⟨0, Nat.zero_le _, rfl, by simp, Grow.refl _⟩
  case round =>
    obtain ⟨n, hn, rfl, hany, hg⟩ := hrel
    have hc := gcell (bd + 1) hg hb
    have h0' : wr.cell? ⟨bd, 0, none⟩ = some (.int .i64 dc) := (hc.1 _ _ (by omega)).trans h0
    have h1' : wr.cell? ⟨bd, 1, none⟩ = some (.int .i64 rng) := (hc.1 _ _ (by omega)).trans h1
    have h2' : wr.cell? ⟨bd, 2, none⟩ = some (.int .i64 seq) := (hc.1 _ _ (by omega)).trans h2
    have hb' : bd < wr.heap.size := Nat.lt_of_lt_of_le hb hg.size
    have HA := Lib.hid hany
    clear hany hc h0 h1 h2
    by_cases hlt : n < d.length
    · go_wp2_with (first | (refine wpList_load_ent rfl _ rfl b off n d d[n] (HD.out.keep hg) (List.getElem?_eq_getElem hlt) rfl ?_) | (go_at_call 61; refine (has1_any d[n] bd dc rng seq _ h0' h1' h2' hb').mono ?_; rintro e w2 ⟨rfl, hw2⟩))
      · go_ret
        exact ⟨ret_int (idx_here hlt HA.out (by assumption)), hg.trans hw2⟩
      · exact ⟨⟨n + 1, by omega, by go_num, any_snoc hlt HA.out (by assumption), hg.trans hw2⟩, by simp [intOf]; omega⟩
    · go_wp2
      go_ret
      exact ⟨ret_int (idx_none (by omega) HA.out), hg⟩

theorem idxI_nonneg (p : Ent → Bool) (d : List Ent) : decide (idxI p d ≥ 0) = d.any p := by
  unfold idxI
  split
  · rename_i h; rw [h]; simp
  · rename_i h; simp at h ⊢; simpa using h

set_option maxHeartbeats 1000000 in
theorem containsFunc_any (b off cap : Nat) (d : List Ent) (bd : Nat) (dc rng seq : Int) (w : World) (h0 : w.cell? ⟨bd, 0, none⟩ = some (.int .i64 dc)) (h1 : w.cell? ⟨bd, 1, none⟩ = some (.int .i64 rng)) (h2 : w.cell? ⟨bd, 2, none⟩ = some (.int .i64 seq)) (hb : bd < w.heap.size)
    (hd : RowsAt w b off d) (hlen : d.length ≤ 140737488351232) :
    Calls Try.prog 60 #[.slice (some ⟨b, off, none⟩) d.length cap, .func (.func 61) #[] #[.pointer (some ⟨bd, 0, none⟩)]] w fun r w' => r = .returned (.bool (d.any (sameDot dc rng seq))) ∧ Grow w w' := by
  go_enter Try.func60, Try.ntmps60
  go_wp2_with (go_at_call 71; refine (indexFunc_any b off cap d bd dc rng seq _ h0 h1 h2 hb hd hlen).mono ?_; rintro e w2 ⟨rfl, hw2⟩)
  go_ret
  exact ⟨ret_bool (idxI_nonneg _ _), hw2⟩

set_option maxHeartbeats 1000000 in
theorem containsFunc_nil (c : Value) (w : World) :
    Calls Try.prog 60 #[.slice none 0 0, c] w fun r w' => r = .returned (.bool false) ∧ Grow w w' := by
  go_enter Try.func60, Try.ntmps60
  go_wp2
  refine wp_loop_rounds 1 ?_
  rw [rounds_succ]
  go_wp2
  go_ret
  exact ⟨ret_bool (by simp), Grow.refl _⟩

end Go.Proofs.Ytiicfpjblfohkaa
