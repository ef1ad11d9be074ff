/- Whole writes: loads, stores and results of twenty cells. -/
import Derived.Test.YtiicfpjblfohkaaA4
import Derived.Laws.ResultCell
namespace Go.Proofs.Ytiicfpjblfohkaa
open Go.RowKit Go.Flow

/-- An empty write. -/
def entZ : Ent := ⟨0, 0, 0, 0, 0, 0, ⟨#[]⟩, ⟨#[]⟩, false, 0, 0, 0, 0, 0, 0, 0, 0, 0, 0, 0⟩

/-- A block that holds one write. -/
def EntAt (w : World) (g : Nat) (e : Ent) : Prop := w.heap[g]? = some (.cells (encL e).toArray 40 (0, 0))
theorem EntAt.lt {w : World} {g : Nat} {e : Ent} (h : EntAt w g e) : g < w.heap.size := (Array.getElem?_eq_some_iff.1 h).1
theorem EntAt.grow {w w' : World} {g : Nat} {e : Ent} (h : EntAt w g e) (hg : Grow w w') : EntAt w' g e := (hg.below.block g h.lt).trans h
theorem EntAt.alloc {w : World} {g : Nat} {e : Ent} (h : EntAt w g e) (o : Obj) : EntAt (w.alloc o) g e := (Below.heap_alloc w o g h.lt).trans h
theorem EntAt.new {w : World} {e : Ent} : EntAt (w.alloc (.cells (encL e).toArray 40)) w.heap.size e := heap_alloc_new _ _

theorem run_load_entAt {w : World} {g : Nat} {e : Ent} (h : EntAt w g e) : (loadVar 40 ⟨g, 0, none⟩).run Try.prog w = .ok (encE e) w := by
  have hu : Try.prog.underlying 40 = some (Try.prog.underlying 40).get! := by kernel_rfl
  exact run_loadVar_row (P := Try.prog) w g 40 40 (encL e).toArray (0, 0) _ h hu (by kernel_rfl) (by rw [info40]; rfl)

section
variable {ops : Array Oper} {rest : List Oper} {o : Oper} {a : Act} {w : World} {Q : Exit → Act → World → Prop}
theorem wpList_load_entAt (hgd : o.guard = none) (x : Operand) (ho : o.op = .load 40 x) {g : Nat} {e : Ent} (h : EntAt w g e) (hx : a.eval x = .pointer (some ⟨g, 0, none⟩))
    (hk : wpList Try.prog ops Q rest (a.put o.dst (encE e)) w) : wpList Try.prog ops Q (o :: rest) a w :=
  wpList_plain hgd fun K hK => by
    unfold Oper.wp execOp
    simp only [ho, hx, Instr.loadAt, Instr.sureAddr, Sem.run_bind, Sem.run_pure, Result.andThen_ok, run_load_entAt h]
    exact hK _ _ hk

theorem wpList_load_ent0 (hgd : o.guard = none) (x : Operand) (ho : o.op = .load 40 x) (b i : Nat) (d : List Ent) (e : Ent) (h : RowsAt w b 0 d) (hi : d[i]? = some e) (hx : a.eval x = .pointer (some ⟨b, i * 20, none⟩))
    (hk : wpList Try.prog ops Q rest (a.put o.dst (encE e)) w) : wpList Try.prog ops Q (o :: rest) a w :=
  wpList_load_ent hgd x ho b 0 i d e h hi (by rw [Nat.zero_add]; exact hx) hk

theorem encL_one1 (e : Ent) : ∀ u ∈ encL e, u.oneCell' = true := by
  intro v hv
  simp only [List.mem_cons, List.not_mem_nil, or_false] at hv
  rcases hv with rfl | rfl | rfl | rfl | rfl | rfl | rfl | rfl | rfl | rfl | rfl | rfl | rfl | rfl | rfl | rfl | rfl | rfl | rfl | rfl <;> rfl

/-- What one write stored in a block leaves. -/
structure Stored (w w' : World) (g : Nat) (e : Ent) : Prop where
  at_ : EntAt w' g e
  other : ∀ k, k ≠ g → w'.heap[k]? = w.heap[k]?
  size : w'.heap.size = w.heap.size
  os : w'.os = w.os
  tape : w'.tape = w.tape
  output : w'.output = w.output
  drawn : w'.drawn = w.drawn
theorem Stored.grow {w0 w w' : World} {g : Nat} {e : Ent} (h : Stored w w' g e) (hg : w0.heap.size ≤ g) (h0 : Grow w0 w) : Grow w0 w' :=
  ⟨⟨h.os.trans h0.below.os, h.tape.trans h0.below.tape, h.output.trans h0.below.output, by rw [h.size]; exact h0.below.size, fun k hk => (h.other k (by omega)).trans (h0.below.block k hk)⟩⟩
theorem Stored.cell {w w' : World} {g : Nat} {e : Ent} (h : Stored w w' g e) (b o : Nat) (hb : b ≠ g) : w'.cell? ⟨b, o, none⟩ = w.cell? ⟨b, o, none⟩ := World.cell?_of_block (h.other b hb)
theorem Stored.frozen {w w' : World} {g : Nat} {e : Ent} (h : Stored w w' g e) (b o : Nat) (hb : b ≠ g) : w'.frozen? ⟨b, o, none⟩ = w.frozen? ⟨b, o, none⟩ := World.frozen?_of_block (h.other b hb)

theorem run_store_entAt {g : Nat} {Z : Array Value} (hg : w.heap[g]? = some (.cells Z 40 (0, 0))) (hz : Z.size = 20) (e : Ent) :
    ∃ w', (storeVar 40 ⟨g, 0, none⟩ (encE e)).run Try.prog w = .ok () w' ∧ Stored w w' g e := by
  have hs : (Go.sizeOf 40).run Try.prog w = .ok 20 w := by kernel_rfl
  have h := run_storeCells_at (P := Try.prog) g 0 40 (encL e) 0 Z w hg (by simp [hz]) (encL_one1 e)
  have h3 : (Z.toList.take (0 + 0) ++ encL e ++ Z.toList.drop (0 + 0 + (encL e).length)).toArray = (encL e).toArray := by
    simp [hz]
  rw [h3] at h
  have hlt := (Array.getElem?_eq_some_iff.1 hg).1
  refine ⟨w.setRow g (encL e).toArray, ?_, ⟨?_, ?_, ?_, rfl, rfl, rfl, rfl⟩⟩
  · unfold storeVar
    simp only [Sem.run_bind, hs, Result.andThen_ok]
    simp only [Value.cells, List.size_toArray, List.length_cons, List.length_nil]
    exact h
  · show (w.heap.modify g _)[g]? = _
    rw [Array.getElem?_modify, if_pos rfl, hg]
    rfl
  · intro k hk
    show (w.heap.modify g _)[k]? = _
    rw [Array.getElem?_modify, if_neg (Ne.symm hk)]
  · show (w.heap.modify g _).size = _
    simp

theorem wpList_store_entAt (hgd : o.guard = none) (x y : Operand) (ho : o.op = .store 40 x y) {g : Nat} {Z : Array Value} (hg : w.heap[g]? = some (.cells Z 40 (0, 0))) (hz : Z.size = 20) (e : Ent)
    (hx : a.eval x = .pointer (some ⟨g, 0, none⟩)) (hy : a.eval y = encE e)
    (hk : ∀ w', Stored w w' g e → wpList Try.prog ops Q rest (a.put o.dst undef) w') : wpList Try.prog ops Q (o :: rest) a w :=
  wpList_plain hgd fun K hK => by
    obtain ⟨w', h1, h2⟩ := run_store_entAt hg hz e
    unfold Oper.wp execOp
    simp only [ho, hx, hy, Instr.storeAt, Instr.sureAddr, Sem.run_bind, Sem.run_pure, Result.andThen_ok, h1]
    exact hK _ _ (hk w' h2)
end

theorem results_ent {fn : Func} {p : Tmp} (h : fn.results = #[.cell p 40]) (tmps : Array Value) {w : World} {g : Nat} {e : Ent} (hp : tmps.getD p undef = .pointer (some ⟨g, 0, none⟩)) (hg : EntAt w g e) :
    (results fn tmps).run Try.prog w = .ok (encE e) w := by
  have hu : Try.prog.underlying 40 = some (Try.prog.underlying 40).get! := by kernel_rfl
  exact results_cell_row (P := Try.prog) h tmps w g 40 _ (0, 0) _ hp hg hu (by kernel_rfl) (by rw [info40]; rfl)
theorem results_ent_tmp {fn : Func} {p u : Tmp} (h : fn.results = #[.cell p 40, .tmp u]) (tmps : Array Value) {w : World} {g : Nat} {e : Ent} (hp : tmps.getD p undef = .pointer (some ⟨g, 0, none⟩)) (hg : EntAt w g e) :
    (results fn tmps).run Try.prog w = .ok (.tuple #[encE e, tmps.getD u undef]) w := by
  rw [results_cell_tmp h, hp]
  simp [asAddr, run_load_entAt hg, Result.andThen]

end Go.Proofs.Ytiicfpjblfohkaa
