/- What single operations on writes do, guarded or not. -/
import Derived.Test.YtiicfpjblfohkaaA4e
import Derived.Test.YtiicfpjblfohkaaA4f
namespace Go.Proofs.Ytiicfpjblfohkaa
open Go.RowKit Go.Flow

section
variable {P : Program} {ops : Array Oper} {rest : List Oper} {o : Oper} {a : Act} {w w' : World} {Q : Exit → Act → World → Prop} {v : Value}
theorem wpList_value (hw : Region.wanted o (yielded ops a.tmps) = true) (hr : (execOp a.eval o).run P w = .ok (.value v) w') (hk : wpList P ops Q rest (a.put o.dst v) w') : wpList P ops Q (o :: rest) a w :=
  wpList_step fun K hK => by
    rw [if_pos hw]
    unfold Oper.wp
    rw [hr]
    exact hK _ _ hk
theorem wpList_none (hw : Region.wanted o (yielded ops a.tmps) = true) (hr : (execOp a.eval o).run P w = .ok .skip w') (hk : wpList P ops Q rest (a.put o.dst undef) w') : wpList P ops Q (o :: rest) a w :=
  wpList_step fun K hK => by
    rw [if_pos hw]
    unfold Oper.wp
    rw [hr]
    exact hK _ _ hk
/-- A guarded operation that is passed over. -/
theorem wpList_over (hw : Region.wanted o (yielded ops a.tmps) = false) (hk : wpList P ops Q rest (a.put o.dst undef) w) : wpList P ops Q (o :: rest) a w :=
  wpList_step fun K hK => by
    rw [if_neg (by rw [hw]; exact Bool.false_ne_true)]
    exact hK _ _ hk
end

section
variable {o : Oper} {a : Act} {w : World}
theorem exec_load_rows {x : Operand} (ho : o.op = .load 40 x) {b off i : Nat} {d : List Ent} {e : Ent} (h : RowsAt w b off d) (hi : d[i]? = some e) (hx : a.eval x = .pointer (some ⟨b, off + i * 20, none⟩)) :
    (execOp a.eval o).run Try.prog w = .ok (.value (encE e)) w := by
  unfold execOp
  simp only [ho, hx, Instr.loadAt, Instr.sureAddr, Sem.run_bind, Sem.run_pure, Result.andThen_ok, run_load_ent w b off i d e h hi]
theorem exec_load_rows0 {x : Operand} (ho : o.op = .load 40 x) {b i : Nat} {d : List Ent} {e : Ent} (h : RowsAt w b 0 d) (hi : d[i]? = some e) (hx : a.eval x = .pointer (some ⟨b, i * 20, none⟩)) :
    (execOp a.eval o).run Try.prog w = .ok (.value (encE e)) w := exec_load_rows ho h hi (by rw [Nat.zero_add]; exact hx)
theorem exec_load_at {x : Operand} (ho : o.op = .load 40 x) {g : Nat} {e : Ent} (h : EntAt w g e) (hx : a.eval x = .pointer (some ⟨g, 0, none⟩)) :
    (execOp a.eval o).run Try.prog w = .ok (.value (encE e)) w := by
  unfold execOp
  simp only [ho, hx, Instr.loadAt, Instr.sureAddr, Sem.run_bind, Sem.run_pure, Result.andThen_ok, run_load_entAt h]
theorem exec_eql_ent {x y : Operand} {t : TypeId} (ho : o.op = .binOp .eql 40 x y t) {e f : Ent} (hx : a.eval x = encE e) (hy : a.eval y = encE f) : (execOp a.eval o).run Try.prog w = .ok (.value (.bool (eqE e f))) w := by
  have hg : (eqGuard .eql 40 x y (encE e) (encE f)).run Try.prog w = .ok () w := run_eqGuard_agg w .eql 40 x y _ _ (by kernel_rfl)
  unfold execOp
  simp only [ho, hx, hy, Sem.run_bind, Sem.run_pure, hg, run_eql_ent, Result.andThen_ok]
theorem exec_neq_ent {x y : Operand} {t : TypeId} (ho : o.op = .binOp .neq 40 x y t) {e f : Ent} (hx : a.eval x = encE e) (hy : a.eval y = encE f) : (execOp a.eval o).run Try.prog w = .ok (.value (.bool (!eqE e f))) w := by
  have hg : (eqGuard .neq 40 x y (encE e) (encE f)).run Try.prog w = .ok () w := run_eqGuard_agg w .neq 40 x y _ _ (by kernel_rfl)
  unfold execOp
  simp only [ho, hx, hy, Sem.run_bind, Sem.run_pure, hg, run_neq_ent, Result.andThen_ok]
theorem exec_build1 {x : Operand} (ho : o.op = .buildSlice 22 1 #[(0, x)]) {e : Ent} (hx : a.eval x = encE e) :
    (execOp a.eval o).run Try.prog w = .ok (.value (.slice (some ⟨w.heap.size, 0, none⟩) 1 1)) (w.alloc (.cells (encL e).toArray 40)) := by
  unfold execOp
  simp only [ho, List.map_toArray, List.map_cons, List.map_nil, hx, Sem.run_bind, Sem.run_pure, Result.andThen_ok, run_build1_ent e w]
theorem run_build3 (e f g : Ent) : (Instr.buildSlice 22 3 #[(0, encE e), (1, encE f), (2, encE g)]).run Try.prog w = .ok (.slice (some ⟨w.heap.size, 0, none⟩) 3 3) (w.alloc (.cells (flat [e, f, g]).toArray 40)) := by
  kernel_rfl
theorem exec_build3 {x y z : Operand} (ho : o.op = .buildSlice 22 3 #[(0, x), (1, y), (2, z)]) {e f g : Ent} (hx : a.eval x = encE e) (hy : a.eval y = encE f) (hz : a.eval z = encE g) :
    (execOp a.eval o).run Try.prog w = .ok (.value (.slice (some ⟨w.heap.size, 0, none⟩) 3 3)) (w.alloc (.cells (flat [e, f, g]).toArray 40)) := by
  unfold execOp
  simp only [ho, List.map_toArray, List.map_cons, List.map_nil, hx, hy, hz, Sem.run_bind, Sem.run_pure, Result.andThen_ok, run_build3 e f g]
theorem exec_look {x k : Operand} (ho : o.op = .lookup 78 x k false) {base bs bm : Nat} {rng m0 m1 m2 : Int} {T : List Slot} (hS : StoreAt w base bs bm rng m0 m1 m2 T) {s : ByteArray} (hs : s.size ≤ maxLen) (hx : a.eval x = .map (some bm)) (hy : a.eval k = .string s) :
    (execOp a.eval o).run Try.prog w = .ok (.value (valOf (T.map fun t => (t.1, t.2.1)) s)) w := by
  obtain ⟨es, clock, h1, h2⟩ := hS.map
  unfold execOp
  simp only [ho, hx, hy, Sem.run_bind, Sem.run_pure, run_look h2 h1 hs, Result.andThen_ok]
theorem exec_append {s x : Operand} (ho : o.op = .call { callee := .builtin .append, args := #[s, x], argTypes := #[22, 22] }) (base : Nat) {v : Value} {d0 : List Ent} (hs : a.eval s = v) (hown : w.ownsRow base 40 20 v d0.length (flat d0)) {src : Value} {d : List Ent} (hx : a.eval x = src) (he : Ents w src d)
    (hlen : d0.length + d.length ≤ 2000000) (hb : base ≤ w.heap.size) : ∃ v' w', (execOp a.eval o).run Try.prog w = .ok (.value v') w' ∧ Appended w w' base v v' (d0 ++ d) d.length := by
  obtain ⟨v', w', hr, h2⟩ := run_append_ents base o.type hown he hlen hb
  refine ⟨v', w', ?_, h2⟩
  unfold execOp
  simp only [ho, resolve, invoke, builtin, Sem.run_bind, Sem.run_pure, Result.andThen_ok, List.map_toArray, List.map_cons, List.map_nil, hs, hx, hr]
theorem exec_store_at {x y : Operand} (ho : o.op = .store 40 x y) {g : Nat} {Z : Array Value} (hg : w.heap[g]? = some (.cells Z 40 (0, 0))) (hz : Z.size = 20) {e : Ent}
    (hx : a.eval x = .pointer (some ⟨g, 0, none⟩)) (hy : a.eval y = encE e) : ∃ w', (execOp a.eval o).run Try.prog w = .ok .skip w' ∧ Stored w w' g e := by
  obtain ⟨w', h1, h2⟩ := run_store_entAt hg hz e
  refine ⟨w', ?_, h2⟩
  unfold execOp
  simp only [ho, hx, hy, Instr.storeAt, Instr.sureAddr, Sem.run_bind, Sem.run_pure, Result.andThen_ok, h1]
end

section
variable {ops : Array Oper} {rest : List Oper} {o : Oper} {a : Act} {w w' : World} {Q : Exit → Act → World → Prop}
theorem wl_load_rows {x : Operand} (ho : o.op = .load 40 x) {b off i : Nat} {d : List Ent} {e : Ent} (h : RowsAt w b off d) (hi : d[i]? = some e) (hx : a.eval x = .pointer (some ⟨b, off + i * 20, none⟩)) (hw : Region.wanted o (yielded ops a.tmps) = true)
    (hk : wpList Try.prog ops Q rest (a.put o.dst (encE e)) w) : wpList Try.prog ops Q (o :: rest) a w := wpList_value hw (exec_load_rows ho h hi hx) hk
theorem wl_load_rows0 {x : Operand} (ho : o.op = .load 40 x) {b i : Nat} {d : List Ent} {e : Ent} (h : RowsAt w b 0 d) (hi : d[i]? = some e) (hx : a.eval x = .pointer (some ⟨b, i * 20, none⟩)) (hw : Region.wanted o (yielded ops a.tmps) = true)
    (hk : wpList Try.prog ops Q rest (a.put o.dst (encE e)) w) : wpList Try.prog ops Q (o :: rest) a w := wpList_value hw (exec_load_rows0 ho h hi hx) hk
theorem wl_load_at {x : Operand} (ho : o.op = .load 40 x) {g : Nat} {e : Ent} (h : EntAt w g e) (hx : a.eval x = .pointer (some ⟨g, 0, none⟩)) (hw : Region.wanted o (yielded ops a.tmps) = true)
    (hk : wpList Try.prog ops Q rest (a.put o.dst (encE e)) w) : wpList Try.prog ops Q (o :: rest) a w := wpList_value hw (exec_load_at ho h hx) hk
theorem wl_eql {x y : Operand} {t : TypeId} (ho : o.op = .binOp .eql 40 x y t) {e f : Ent} (hx : a.eval x = encE e) (hy : a.eval y = encE f) {b : Bool} (hb : eqE e f = b) (hw : Region.wanted o (yielded ops a.tmps) = true)
    (hk : wpList Try.prog ops Q rest (a.put o.dst (.bool b)) w) : wpList Try.prog ops Q (o :: rest) a w := wpList_value hw (hb ▸ exec_eql_ent ho hx hy) hk
theorem wl_neq {x y : Operand} {t : TypeId} (ho : o.op = .binOp .neq 40 x y t) {e f : Ent} (hx : a.eval x = encE e) (hy : a.eval y = encE f) {b : Bool} (hb : (!eqE e f) = b) (hw : Region.wanted o (yielded ops a.tmps) = true)
    (hk : wpList Try.prog ops Q rest (a.put o.dst (.bool b)) w) : wpList Try.prog ops Q (o :: rest) a w := wpList_value hw (hb ▸ exec_neq_ent ho hx hy) hk
theorem wl_build1 {x : Operand} (ho : o.op = .buildSlice 22 1 #[(0, x)]) {e : Ent} (hx : a.eval x = encE e) (hw : Region.wanted o (yielded ops a.tmps) = true)
    (hk : wpList Try.prog ops Q rest (a.put o.dst (.slice (some ⟨w.heap.size, 0, none⟩) 1 1)) (w.alloc (.cells (encL e).toArray 40))) : wpList Try.prog ops Q (o :: rest) a w := wpList_value hw (exec_build1 ho hx) hk
theorem wl_build3 {x y z : Operand} (ho : o.op = .buildSlice 22 3 #[(0, x), (1, y), (2, z)]) {e f g : Ent} (hx : a.eval x = encE e) (hy : a.eval y = encE f) (hz : a.eval z = encE g) (hw : Region.wanted o (yielded ops a.tmps) = true)
    (hk : wpList Try.prog ops Q rest (a.put o.dst (.slice (some ⟨w.heap.size, 0, none⟩) 3 3)) (w.alloc (.cells (flat [e, f, g]).toArray 40))) : wpList Try.prog ops Q (o :: rest) a w := wpList_value hw (exec_build3 ho hx hy hz) hk
theorem wl_append {s x : Operand} (ho : o.op = .call { callee := .builtin .append, args := #[s, x], argTypes := #[22, 22] }) (base : Nat) {v : Value} {d0 : List Ent} (hs : a.eval s = v) (hown : w.ownsRow base 40 20 v d0.length (flat d0)) {src : Value} {d : List Ent} (hx : a.eval x = src) (he : Ents w src d)
    (hlen : d0.length + d.length ≤ 2000000) (hb : base ≤ w.heap.size) (hw : Region.wanted o (yielded ops a.tmps) = true)
    (hk : ∀ v' w', Appended w w' base v v' (d0 ++ d) d.length → wpList Try.prog ops Q rest (a.put o.dst v') w') : wpList Try.prog ops Q (o :: rest) a w := by
  obtain ⟨v', w', h1, h2⟩ := exec_append ho base hs hown hx he hlen hb
  exact wpList_value hw h1 (hk v' w' h2)
theorem wl_store_at {x y : Operand} (ho : o.op = .store 40 x y) {g : Nat} {Z : Array Value} (hg : w.heap[g]? = some (.cells Z 40 (0, 0))) (hz : Z.size = 20) {e : Ent}
    (hx : a.eval x = .pointer (some ⟨g, 0, none⟩)) (hy : a.eval y = encE e) (hw : Region.wanted o (yielded ops a.tmps) = true) (hk : ∀ w', Stored w w' g e → wpList Try.prog ops Q rest (a.put o.dst undef) w') : wpList Try.prog ops Q (o :: rest) a w := by
  obtain ⟨w', h1, h2⟩ := exec_store_at ho hg hz hx hy
  exact wpList_none hw h1 (hk w' h2)
/-- A write stored into the block that was just laid for it. -/
theorem wl_store_new {x y : Operand} (ho : o.op = .store 40 x y) {e : Ent} {W : World} {Z : Array Value} (hz : Z.size = 20) (hx : a.eval x = .pointer (some ⟨W.heap.size, 0, none⟩)) (hy : a.eval y = encE e) (hw : Region.wanted o (yielded ops a.tmps) = true)
    (hk : ∀ w', EntAt w' W.heap.size e → Grow W w' → wpList Try.prog ops Q rest (a.put o.dst undef) w') : wpList Try.prog ops Q (o :: rest) a (W.alloc (.cells Z 40)) := by
  refine wpList_none hw ?_ (hk _ EntAt.new ((Grow.refl _).alloc _))
  unfold execOp
  simp only [ho, hx, hy, Instr.storeAt, Instr.sureAddr, Sem.run_bind, Sem.run_pure, Result.andThen_ok, run_store_ent W Z hz e]
end

end Go.Proofs.Ytiicfpjblfohkaa
