/- Versions: a copy of what the store holds at a key. -/
import Derived.Test.YtiicfpjblfohkaaA4d
import Derived.Test.YtiicfpjblfohkaaA8
namespace Go.Proofs.Ytiicfpjblfohkaa
open Go.RowKit Go.Flow
attribute [local irreducible] wpQuiet

/-- A slice of one's own, made behind w. -/
def Fresh (w w' : World) (v : Value) (d : List Ent) : Prop := w'.ownsRow w.heap.size 40 20 v d.length (flat d) ∧ Grow w w'

theorem run_build0 (w : World) : (Instr.buildSlice 22 0 #[]).run Try.prog w = .ok (.slice (some ⟨w.heap.size, 0, none⟩) 0 0) (w.alloc (.cells #[] 40)) := by kernel_rfl

set_option maxRecDepth 100000 in
set_option maxHeartbeats 1000000 in
theorem clone_nil (w : World) : Calls Try.prog 45 #[.slice none 0 0] w fun e w' => ∃ v, e = .returned v ∧ Fresh w w' v [] := by
  have hnil := fun (w : World) (a : Option Addr) (n c : Nat) => Lib.run_eql_slice_nil (P := Try.prog) w 22 40 a n c 0 0 und22
  go_enter Try.func45, Try.ntmps45
  go_wp2
  go_ret
  exact ⟨_, rfl, World.ownsRow_nil _ _ _ _, Grow.refl _⟩

set_option maxRecDepth 100000 in
set_option maxHeartbeats 1000000 in
theorem clone_some (w : World) (p : Addr) (d : List Ent) (cap : Nat) (hE : Ents w (.slice (some p) d.length cap) d) (hl : d.length ≤ 1000000) : Calls Try.prog 45 #[.slice (some p) d.length cap] w fun e w' => ∃ v, e = .returned v ∧ Fresh w w' v d := by
  have HE := Lib.hid hE
  have hb0 := run_build0
  have hnil := fun (w : World) (a : Option Addr) (n c : Nat) => Lib.run_eql_slice_nil (P := Try.prog) w 22 40 a n c 0 0 und22
  clear hE
  go_enter Try.func45, Try.ntmps45
  go_wp2_with (at_builtin; refine wpList_append_ents (d0 := []) rfl _ _ rfl w.heap.size rfl (owns_empty w w.heap.size (Nat.le_refl _)) rfl (HE.out.grow ((Grow.refl _).alloc _)) ?c1 ?c2 ?_)
  case c1 => simp; omega
  case c2 => simp
  intro v' w' hA
  have HA := Lib.hid hA
  clear hA
  go_wp2
  go_ret
  exact ⟨_, rfl, HA.out.owns, HA.out.grow ((Grow.refl _).alloc _) (fun k hk => by cases hk; exact Nat.le_refl _)⟩

theorem clone_any (w : World) (base : Nat) (v : Value) (d : List Ent) (hr : w.ownsRow base 40 20 v d.length (flat d)) (hl : d.length ≤ 1000000) : Calls Try.prog 45 #[v] w fun e w' => ∃ v, e = .returned v ∧ Fresh w w' v d := by
  rcases rows_of_owns hr with ⟨rfl, rfl⟩ | ⟨g, cap, rfl, _⟩
  · exact clone_nil w
  · exact clone_some w _ d cap (Ents.of_owns hr) hl

set_option maxRecDepth 100000 in
set_option maxHeartbeats 1000000 in
theorem versions_any (w : World) (base bs bm : Nat) (rng m0 m1 m2 : Int) (T : List Slot) (hS : StoreAt w base bs bm rng m0 m1 m2 T) (s : ByteArray) (hs : s.size ≤ maxLen) :
    Calls Try.prog 16 #[.pointer (some ⟨bs, 0, none⟩), .string s] w fun e w' => ∃ v, e = .returned v ∧ Fresh w w' v (getA (absT T) s) := by
  obtain ⟨c0, c1, c2, c3, c4⟩ := hS.cells
  have hbs := hS.bs_lt
  have hrow := (hS.slice s).1
  have hfew := Nat.le_trans (hS.slice s).2 hS.few
  generalize getA (absT T) s = d at *
  have HS := Lib.hid hS
  have HR := Lib.hid hrow
  clear hS hrow
  go_enter Try.func16, Try.ntmps16
  go_wp2_with (first | (refine wpList_look rfl _ _ rfl HS.out hs rfl rfl ?_) | (go_at_call 45; refine (clone_any _ base _ d HR.out hfew).mono ?_; rintro _ w2 ⟨v, rfl, hf⟩))
  go_ret
  exact ⟨_, rfl, hf⟩

end Go.Proofs.Ytiicfpjblfohkaa
