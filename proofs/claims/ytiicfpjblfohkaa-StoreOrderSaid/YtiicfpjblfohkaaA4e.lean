/- The laws on writes, the map and append, inside a fence. -/
import Derived.Test.YtiicfpjblfohkaaA4d
import Derived.Test.YtiicfpjblfohkaaA6d
import Derived.Test.YtiicfpjblfohkaaA8
import Derived.TacticsIn
import Derived.OwnWalkIn
namespace Go.Proofs.Ytiicfpjblfohkaa
open Go.RowKit Go.Flow

section
variable {F : Fence} {n : Nat} {P : Program} {ops : Array Oper} {rest : List Oper} {o : Oper} {a : Act} {w w' : World} {Q : Exit → Act → World → Prop} {v : Value}
theorem wpListIn_value (hg : o.guard = none) (hab : o.about P w a.eval = none) (hnd : ∀ c, o.op ≠ .defer c) (hr : (execOp a.eval o).run P w = .ok (.value v) w') (hk : wpListIn F n P ops Q rest (a.put o.dst v) w') : wpListIn F n P ops Q (o :: rest) a w := by
  refine wpListIn_plain hg fun K hK => ?_
  unfold Oper.wpIn
  refine ⟨(fun f hf => by rw [hab] at hf; cases hf), ?_⟩
  rw [Oper.semAt_plain F _ _ hnd, hr]
  exact hK _ _ hk
theorem wpListIn_skip (hg : o.guard = none) (hab : o.about P w a.eval = none) (hnd : ∀ c, o.op ≠ .defer c) (hr : (execOp a.eval o).run P w = .ok .skip w') (hk : wpListIn F n P ops Q rest (a.put o.dst undef) w') : wpListIn F n P ops Q (o :: rest) a w := by
  refine wpListIn_plain hg fun K hK => ?_
  unfold Oper.wpIn
  refine ⟨(fun f hf => by rw [hab] at hf; cases hf), ?_⟩
  rw [Oper.semAt_plain F _ _ hnd, hr]
  exact hK _ _ hk
end

section
variable {F : Fence} {n : Nat} {ops : Array Oper} {rest : List Oper} {o : Oper} {a : Act} {w w' : World} {Q : Exit → Act → World → Prop} {v : Value}
theorem wpListIn_load_ent0 (hgd : o.guard = none) (x : Operand) (ho : o.op = .load 40 x) (b i : Nat) (d : List Ent) (e : Ent) (h : RowsAt w b 0 d) (hi : d[i]? = some e) (hx : a.eval x = .pointer (some ⟨b, i * 20, none⟩))
    (hk : wpListIn F n Try.prog ops Q rest (a.put o.dst (encE e)) w) : wpListIn F n Try.prog ops Q (o :: rest) a w := by
  refine wpListIn_value hgd (by simp [Oper.about, ho]) (by rw [ho]; intro c hc; cases hc) ?_ hk
  have h1 := run_load_ent w b 0 i d e h hi
  rw [Nat.zero_add] at h1
  unfold execOp
  simp only [ho, hx, Instr.loadAt, Instr.sureAddr, Sem.run_bind, Sem.run_pure, Result.andThen_ok, h1]
theorem wpListIn_load_entAt (hgd : o.guard = none) (x : Operand) (ho : o.op = .load 40 x) {g : Nat} {e : Ent} (h : EntAt w g e) (hx : a.eval x = .pointer (some ⟨g, 0, none⟩))
    (hk : wpListIn F n Try.prog ops Q rest (a.put o.dst (encE e)) w) : wpListIn F n Try.prog ops Q (o :: rest) a w := by
  refine wpListIn_value hgd (by simp [Oper.about, ho]) (by rw [ho]; intro c hc; cases hc) ?_ hk
  unfold execOp
  simp only [ho, hx, Instr.loadAt, Instr.sureAddr, Sem.run_bind, Sem.run_pure, Result.andThen_ok, run_load_entAt h]
theorem wpListIn_store_entAt (hgd : o.guard = none) (x y : Operand) (ho : o.op = .store 40 x y) {g : Nat} {Z : Array Value} (hg : w.heap[g]? = some (.cells Z 40 (0, 0))) (hz : Z.size = 20) (e : Ent)
    (hx : a.eval x = .pointer (some ⟨g, 0, none⟩)) (hy : a.eval y = encE e)
    (hk : ∀ w', Stored w w' g e → wpListIn F n Try.prog ops Q rest (a.put o.dst undef) w') : wpListIn F n Try.prog ops Q (o :: rest) a w := by
  obtain ⟨w', h1, h2⟩ := run_store_entAt hg hz e
  refine wpListIn_skip hgd (by simp [Oper.about, ho]) (by rw [ho]; intro c hc; cases hc) ?_ (hk w' h2)
  unfold execOp
  simp only [ho, hx, hy, Instr.storeAt, Instr.sureAddr, Sem.run_bind, Sem.run_pure, Result.andThen_ok, h1]
theorem wpListIn_look (hgd : o.guard = none) (x k : Operand) (ho : o.op = .lookup 78 x k false)
    {base bs bm : Nat} {rng m0 m1 m2 : Int} {T : List Slot} (hS : StoreAt w base bs bm rng m0 m1 m2 T) {s : ByteArray} (hs : s.size ≤ maxLen) (hx : a.eval x = .map (some bm)) (hy : a.eval k = .string s)
    (hk : wpListIn F n Try.prog ops Q rest (a.put o.dst (valOf (T.map fun t => (t.1, t.2.1)) s)) w) : wpListIn F n Try.prog ops Q (o :: rest) a w := by
  obtain ⟨es, clock, h1, h2⟩ := hS.map
  refine wpListIn_value hgd (by simp [Oper.about, ho]) (by rw [ho]; intro c hc; cases hc) ?_ hk
  unfold execOp
  simp only [ho, hx, hy, Sem.run_bind, Sem.run_pure, run_look h2 h1 hs, Result.andThen_ok]
theorem wpListIn_append_ents (hgd : o.guard = none) (s x : Operand)
    (ho : o.op = .call { callee := .builtin .append, args := #[s, x], argTypes := #[22, 22] }) (base : Nat) {v : Value} {d0 : List Ent} (hs : a.eval s = v) (hown : w.ownsRow base 40 20 v d0.length (flat d0)) {src : Value} {d : List Ent} (hx : a.eval x = src) (he : Ents w src d)
    (hlen : d0.length + d.length ≤ 2000000) (hb : base ≤ w.heap.size)
    (h : ∀ v' w', Appended w w' base v v' (d0 ++ d) d.length → wpListIn F n Try.prog ops Q rest (a.put o.dst v') w') :
    wpListIn F n Try.prog ops Q (o :: rest) a w := by
  obtain ⟨v', w', hr, h2⟩ := run_append_ents base o.type hown he hlen hb
  refine wpListIn_value hgd (by simp [Oper.about, ho, resolve, Target.leads, Sem.run_pure]) (by rw [ho]; intro c hc; cases hc) ?_ (h v' w' h2)
  unfold execOp
  simp only [ho, resolve, invoke, builtin, Sem.run_bind, Sem.run_pure, Result.andThen_ok, List.map_toArray, List.map_cons, List.map_nil, hs, hx, hr]
theorem wpListIn_mapUpdate_at {w6 : World} (hgd : o.guard = none) (x k v : Operand) (ho : o.op = .mapUpdate 78 x k v)
    (hr : (Instr.mapUpdate 78 (a.eval x) (a.eval k) (a.eval v)).run Try.prog w = .ok () w6)
    (hk : wpListIn F n Try.prog ops Q rest (a.put o.dst undef) w6) : wpListIn F n Try.prog ops Q (o :: rest) a w := by
  refine wpListIn_skip hgd (by simp [Oper.about, ho]) (by rw [ho]; intro c hc; cases hc) ?_ hk
  unfold execOp
  simp only [ho, Sem.run_bind, Sem.run_pure, hr, Result.andThen_ok]
end

end Go.Proofs.Ytiicfpjblfohkaa
