/- Layer 10: a view in memory; Get and New's map. -/
import Derived.Test.YtlihhnjinakpfaaRankA
import Derived.WideKeyArgs
namespace Go.Proofs.Ytlihhnjinakpfaa
open Go.RowKit Go.Maps

/-- a view: its struct at p, its map at b, what is known -/
def ViewAt (H : Type) (w : World) (p b N : Nat) (f : Known) : Prop :=
  At w p 52 [.map (some b)] ∧ w.ownsMap Try.prog 3 readM b N (mapD H f) ∧ Sane f ∧ p ≠ b
theorem keyed_int : Keyed Try.prog 3 := int_keyed Try.underlying3
theorem zero_mem (w : World) : (zeroValue 28).run Try.prog w = .ok (memV Mem.zero) w := by kernel_rfl
theorem key_int {n : Int} (h1 : -9223372036854775808 ≤ n) (h2 : n ≤ 9223372036854775807) : keyOf Try.prog 3 (.int .i64 n) = some (.int .i64 n) :=
  keyOf_int_mk Try.underlying3 (by simp [Lit.wf, IntKind.min, IntKind.max, IntKind.signed, IntKind.bits]; omega)
theorem sane_nodes {f : Known} (h : Sane f) : ∀ k m, f k = some m → k ∈ nodes := fun k m hk => by
  obtain ⟨hg, rfl⟩ := h k m hk
  exact good_node hg
/-- what a lookup with ok hands back -/
def found (f : Known) (k : Int) : Value := match f k with
  | some m => .tuple #[memV m, .bool true]
  | none => .tuple #[memV Mem.zero, .bool false]
theorem view_lookup {H : Type} {w : World} {p b N : Nat} {f : Known} (h : ViewAt H w p b N f) {k : Int} (h1 : -9223372036854775808 ≤ k) (h2 : k ≤ 9223372036854775807) :
    (Instr.lookup 50 (.map (some b)) (.int .i64 k) true).run Try.prog w = .ok (found f k) w := by
  obtain ⟨_, ⟨es, clock, hb, F, _, hD⟩, hs, _⟩ := h
  have hat : ∀ z : DataW H, (DataW.map ((es.toList.map (WideElems.rg Try.prog 3 readM)).foldr DataW.insert [])).atKey (.int .i64 k) z = (match f k with | some m => memD m | none => z) := fun z => by
    rw [← hD]
    exact atKey_mapD f k z (sane_nodes hs k)
  rcases Maps.fit_look true keyed_int Try.underlying50 (zero_mem w) hb F (key_int h1 h2) with ⟨hrun, _, hz⟩ | ⟨e0, y, _, _, hrun, hRv, hz, _⟩
  · rw [hrun]
    have : f k = none := by
      cases hf : f k with
      | none => rfl
      | some m =>
        have h3 := (hz .nil).symm.trans (hat .nil)
        rw [hf] at h3
        cases h3
    simp [found, this]
  · rw [hrun]
    obtain ⟨m, hv, rfl⟩ := readM_inv hRv
    have h3 := (hz .nil).symm.trans (hat .nil)
    cases hf : f k with
    | none =>
      rw [hf] at h3
      cases h3
    | some m' =>
      rw [hf] at h3
      have := memD_inj h3
      subst this
      simp [found, hf, hv]
theorem view_below {H : Type} {w w' : World} {p b N : Nat} {f : Known} (h : ViewAt H w p b N f) (hb : Below w.heap.size w w') : ViewAt H w' p b N f :=
  ⟨h.1.below hb h.1.lt, h.2.1.kept (row := none) ⟨hb.os, hb.tape, hb.output, hb.size, fun i hi _ => hb.block i hi⟩ (by simp), h.2.2⟩
end Go.Proofs.Ytlihhnjinakpfaa
