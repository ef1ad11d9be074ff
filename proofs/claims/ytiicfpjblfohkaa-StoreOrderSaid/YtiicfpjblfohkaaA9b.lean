/- slices.Backward over a slice of writes: its contract. -/
import Derived.Test.YtiicfpjblfohkaaA4e
import Derived.RangeFuncNested
import Derived.RangeFuncBound
import Derived.RangeFuncCalls
import Derived.RangeFuncBox
import Derived.RangeFuncLeaves
import Derived.Shelf.Abstract
import Derived.Shelf.RegionOpen
import Derived.WalkKit
import Derived.OwnWalkIn
import Derived.TacticsInMore
import Derived.LoopNIn
import Derived.LoopIn
namespace Go.Proofs.Ytiicfpjblfohkaa
open Go.RowKit Go.Flow Go.Shelf
attribute [local go_sem] Oper.semAt_some

/-- What has come behind k rounds: from the back. -/
def back (d : List Ent) (k : Nat) : List (Nat × Ent) := (List.range k).map fun j => (d.length - 1 - j, d.getD (d.length - 1 - j) default)
theorem back_succ (d : List Ent) (k : Nat) : back d (k + 1) = back d k ++ [(d.length - 1 - k, d.getD (d.length - 1 - k) default)] := by simp [back, List.range_succ]
theorem back_length (d : List Ent) (k : Nat) : (back d k).length = k := by simp [back]

/-- What a round keeps: what lay below n₀, and block Bs. -/
def KeepB (n₀ Bs : Nat) (W W' : World) : Prop := Below n₀ W W' ∧ W'.heap[Bs]? = W.heap[Bs]?
theorem keepB_t {n₀ Bs : Nat} {A B C : World} (h : KeepB n₀ Bs A B) (k : KeepB n₀ Bs B C) : KeepB n₀ Bs A C := ⟨h.1.trans k.1, k.2.trans h.2⟩
theorem keepB_b {n₀ Bs : Nat} {w : World} (hn : n₀ ≤ w.heap.size) (hB : Bs < w.heap.size) (W : World) (l : Nat) (o o' : Obj) (hl : w.heap.size ≤ l) (h : W.heap[l]? = some o) (h1 : o.isCells = false) (h2 : o.isWalk = false) : KeepB n₀ Bs W (W.putObj l o') :=
  ⟨belowK_b hn W l o o' hl h h1 h2, World.putObj_heap_other (by omega)⟩

/-- A place and the write at it, of which P holds. -/
abbrev Seen2 (p : Ent → Prop) := { x : Nat × Ent // p x.2 }
def encs2 {p : Ent → Prop} (x : Seen2 p) : Array Value := #[.int .i64 (x.1.1 : Int), encE x.1.2]

set_option maxRecDepth 100000 in
set_option maxHeartbeats 2000000 in
theorem backward1_in (F : Fence) (n : Nat) (h7 : F.fn 65) (hro : F.round = none) (hn : 1 ≤ n) (l Bs n₀ b cap : Nat) (d : List Ent) (hreach : d.length ≤ 1000000) (hb : b < n₀) (p : Ent → Prop) (hp : ∀ e ∈ d, p e) (J Jx : List (Seen2 p) → World → Prop)
    (hY : ∀ pre (x : Seen2 p) W, J pre W → pre.length < d.length → YieldAt F (n - 1) Try.prog l (encs2 x) W fun e W' =>
      (e = .returned (.bool true) ∧ J (pre ++ [x]) W' ∧ KeepB n₀ Bs W W') ∨ (e = .returned (.bool false) ∧ Jx (pre ++ [x]) W'))
    (W : World) (hBs : W.cell? ⟨Bs, 0, none⟩ = some (.slice (some ⟨b, 0, none⟩) d.length cap)) (hc : RowsAt W b 0 d) (h0 : J [] W) :
    CallsIn F n Try.prog 65 #[.func (.yield l) #[] #[], .pointer (some ⟨Bs, 0, none⟩)] W fun e W' => (∃ v, e = .returned v) ∧
      ((∃ ys, ys.map (·.1) = back d d.length ∧ J ys W') ∨ (∃ pre, (∃ k, k ≤ d.length ∧ pre.map (·.1) = back d k) ∧ Jx pre W')) := by
  refine callsIn_of_wp Try.func65 rfl h7 ?_ hro
  simp only [Try.ntmps65, List.size_toArray, List.length_cons, List.length_nil, Nat.reduceAdd, Nat.reduceSub, Array.replicate_succ, Array.replicate_zero, List.push_toArray, List.append_toArray, List.nil_append, List.cons_append]
  have HC := Lib.hid hc
  have HP := Lib.hid hp
  clear hc hp
  gi_wp2
  gi_loopw [3] (fun i wr => ∃ (k : Nat) (pre : List (Seen2 p)), k ≤ d.length ∧ i = .int .i64 ((d.length : Int) - 1 - k) ∧ pre.map (·.1) = back d k ∧ J pre wr ∧ KeepB n₀ Bs W wr)
    (fun i _ => (intOf i + 1).toNat)
  case atStart => exact ⟨0, [], Nat.zero_le _, by simp, rfl, h0, Below.refl _ _, rfl⟩
  case round =>
    obtain ⟨k, pre, hk, rfl, hpre, hJs, hnx⟩ := hrel
    have hBr : wr.cell? ⟨Bs, 0, none⟩ = some (.slice (some ⟨b, 0, none⟩) d.length cap) := (World.cell?_of_block (w := W) (w' := wr) (a := ⟨Bs, 0, none⟩) hnx.2).trans hBs
    by_cases hlt : k < d.length
    · obtain ⟨m, hm⟩ : ∃ m : Nat, d.length = m + 1 + k := ⟨d.length - 1 - k, by omega⟩
      have hmi : (d.length : Int) - 1 - k = (m : Int) := by omega
      have hml : m < d.length := by omega
      have hme : d.length - 1 - k = m := by omega
      have hrow : RowsAt wr b 0 d := fun i e hi j v hj => (hnx.1.cell (p := ⟨b, 0 + i * 20 + j, none⟩) hb).trans (HC.out i e hi j v hj)
      have hget : d[m]? = some (d.getD m default) := by simp [hml]
      have hpm : p (d.getD m default) := HP.out _ (List.mem_of_getElem? hget)
      have hlp : pre.length = k := by have := congrArg List.length hpre; simpa [back_length] using this
      obtain ⟨fn, tmps, assign, body, hy, hR⟩ := hY _ ⟨(m, d.getD m default), hpm⟩ wr hJs (by omega)
      rw [hmi]
      dsimp only [encs2] at hy
      have HR := Lib.hid (And.intro hrow hget)
      have HM := Lib.hid (And.intro hm (And.intro hmi (And.intro hme hpre)))
      clear hrow hget hm hmi hme hpre hlp
      have HQ := Lib.hid hR
      clear hR
      obtain ⟨e, he⟩ : ∃ e, e = d.getD m default := ⟨_, rfl⟩
      rw [← he] at HR hy
      have HE := Lib.hid he
      clear he
      gi_wp2_with (refine wpListIn_load_ent0 rfl _ rfl b m d e HR.out.1 HR.out.2 rfl ?_)
      refine HQ.out.mono ?_
      rintro _ W3 (⟨rfl, hJ3, hk3⟩ | ⟨rfl, hJx3⟩)
      · have hJ4 := Lib.hid hJ3
        clear hJ3
        gi_wp2
        go_roundw
        case rel => exact ⟨k + 1, _, by omega, by have := HM.out; congr 1 <;> omega, by rw [back_succ, List.map_append, HM.out.2.2.2, HM.out.2.2.1]; rfl, hJ4.out, keepB_t hnx hk3⟩
        case measure => have := HM.out; simp [intOf]
      · have hJ4 := Lib.hid hJx3
        clear hJx3
        gi_wp2
        refine bodyPost_ret (results_none rfl _ _ _) rfl ?_
        exact ⟨⟨_, rfl⟩, .inr ⟨_, ⟨k + 1, by omega, by rw [back_succ, List.map_append, HM.out.2.2.2, HM.out.2.2.1]; rfl⟩, hJ4.out⟩⟩
    · obtain rfl : k = d.length := by omega
      have HX := Lib.hid hpre
      clear hpre
      gi_wp2
      go_end0
      exact ⟨⟨_, rfl⟩, .inl ⟨_, HX.out, hJs⟩⟩

set_option maxRecDepth 100000 in
set_option maxHeartbeats 1000000 in
theorem backward1_nil (F : Fence) (n : Nat) (h7 : F.fn 65) (hro : F.round = none) (l Bs : Nat) (p : Ent → Prop) (J : List (Seen2 p) → World → Prop) (W : World) (a : Option Addr) (cap : Nat) (hBs : W.cell? ⟨Bs, 0, none⟩ = some (.slice a 0 cap)) (h0 : J [] W) :
    CallsIn F n Try.prog 65 #[.func (.yield l) #[] #[], .pointer (some ⟨Bs, 0, none⟩)] W fun e W' => (∃ v, e = .returned v) ∧ J [] W' := by
  refine callsIn_of_wp Try.func65 rfl h7 ?_ hro
  simp only [Try.ntmps65, List.size_toArray, List.length_cons, List.length_nil, Nat.reduceAdd, Nat.reduceSub, Array.replicate_succ, Array.replicate_zero, List.push_toArray, List.append_toArray, List.nil_append, List.cons_append]
  gi_wp2
  gi_loopw [3] (fun i wr => i = .int .i64 (-1) ∧ J [] wr) (fun _ _ => 0)
  case atStart => exact ⟨rfl, h0⟩
  case round =>
    obtain ⟨rfl, hJs⟩ := hrel
    gi_wp2
    go_end0
    exact ⟨⟨_, rfl⟩, hJs⟩

set_option maxHeartbeats 1000000 in
theorem backward_in (F : Fence) (n : Nat) (h5 : F.fn 47) (hro : F.round = none) (v : Value) (w : World) (hv : ∃ p len cap, v = .slice p len cap) :
    CallsIn F n Try.prog 47 #[v] w fun e w' => e = .returned (.func (.func 65) #[] #[.pointer (some ⟨w.heap.size, 0, none⟩)]) ∧ w' = w.alloc (.cells #[v] 22) := by
  obtain ⟨p, len, cap, rfl⟩ := hv
  refine callsIn_of_wp Try.func47 rfl h5 ?_ hro
  simp only [Try.ntmps47, List.size_toArray, List.length_cons, List.length_nil, Nat.reduceAdd, Nat.reduceSub, Array.replicate_succ, Array.replicate_zero, List.push_toArray, List.append_toArray, List.nil_append, List.cons_append]
  gi_wp2
  go_ret
  exact ⟨rfl, rfl⟩

/-- Backward over what the store owns. -/
theorem backward_stops (F : Fence) (n : Nat) (h7 : F.fn 65) (hro : F.round = none) (hn : 1 ≤ n) (Bs n₀ base : Nat) (v : Value) (d : List Ent) (hreach : d.length ≤ 1000000) (p : Ent → Prop) (hp : ∀ e ∈ d, p e) (w : World) (hBs : Bs < w.heap.size)
    (hc : w.cell? ⟨Bs, 0, none⟩ = some v) (hI : w.ownsRow base 40 20 v d.length (flat d)) (hb : ∀ g, v.ownBlock = some g → g < n₀) :
    SeqStopsK F n Try.prog 65 #[.pointer (some ⟨Bs, 0, none⟩)] (encs2 (p := p)) (KeepB n₀ Bs) (fun ys => ys.map (·.1) = back d d.length)
      (fun pre => ∃ k, k ≤ d.length ∧ pre.map (·.1) = back d k) d.length w := fun l J Jx W hW _ _ hY h0 => by
  have hc' := (hW.cell (p := ⟨Bs, 0, none⟩) hBs).trans hc
  rcases rows_of_owns hI with ⟨rfl, rfl⟩ | ⟨g, cap, rfl, _, hg, hrow, _⟩
  · exact (backward1_nil F n h7 hro l Bs p J W _ _ hc' h0).mono fun e W' ⟨he, hj⟩ => ⟨he, .inl ⟨[], rfl, hj⟩⟩
  · have hgn := hb g rfl
    refine backward1_in F n h7 hro hn l Bs n₀ g cap d hreach hgn p hp J Jx hY W hc' (fun i e hi j v hj => (hW.cell (p := ⟨g, 0 + i * 20 + j, none⟩) hg).trans (hrow i e hi j v hj)) h0

end Go.Proofs.Ytiicfpjblfohkaa
