/- Put of whatever slice of writes. -/
import Derived.Test.YtiicfpjblfohkaaA7
import Derived.Test.YtiicfpjblfohkaaA4d
namespace Go.Proofs.Ytiicfpjblfohkaa
open Go.RowKit Go.Flow
attribute [local irreducible] wpQuiet wpLoose

set_option maxRecDepth 100000 in
set_option maxHeartbeats 1000000 in
theorem put_nil (w : World) (bs : Nat) (p : Option Addr) (cap : Nat) :
    Calls Try.prog 13 #[.pointer (some ⟨bs, 0, none⟩), .slice p 0 cap] w fun r w' => r = .returned (.int .i64 0) ∧ Grow w w' := by
  go_enter Try.func13, Try.ntmps13
  go_wp2
  refine wp_loop_rounds 1 ?_
  rw [rounds_succ]
  go_wp2
  go_ret
  exact ⟨rfl, Grow.refl _⟩

theorem PutInv.none {w w' : World} {base bs bm : Nat} {rng m0 m1 m2 : Int} {T : List Slot} (hS : StoreAt w base bs bm rng m0 m1 m2 T) (hg : Grow w w') : PutInv w base bs bm rng m0 m1 m2 T [] w' T :=
  ⟨hS.grow hg, rfl, Upd.of_grow _ hg, fun k hk => .inl hk, by simp⟩

theorem put_ents (w : World) (base bs bm : Nat) (rng m0 m1 m2 : Int) (T : List Slot) (hS : StoreAt w base bs bm rng m0 m1 m2 T) (v : Value) (es : List Ent) (hE : Ents w v es) (hb : ∀ b, v.ownBlock = some b → es ≠ [] → ¬ Foot bs bm T b)
    (hfew : (T.map fun t => t.2.2.length).sum + es.length ≤ 1000000) (hbase : base ≤ w.heap.size) :
    Calls Try.prog 13 #[.pointer (some ⟨bs, 0, none⟩), v] w fun r w' => r = .returned (.int .i64 (putCount rng m0 m1 m2 (absT T) es)) ∧
      ∃ T', PutInv w base bs bm rng m0 m1 m2 T es w' T' := by
  obtain ⟨p, cap, rfl, h2, h3, h4, h5⟩ := hE.is
  by_cases h0 : es = []
  · subst h0
    refine (put_nil w bs p cap).mono ?_
    rintro r w' ⟨rfl, hg⟩
    exact ⟨rfl, T, PutInv.none hS hg⟩
  · rcases h5 with h5 | ⟨b, off, rfl, hr, hbl⟩
    · exact absurd h5 h0
    · exact put_any w base bs bm rng m0 m1 m2 T hS b off cap es hr (hb b rfl h0) hbl hfew hbase

end Go.Proofs.Ytiicfpjblfohkaa
