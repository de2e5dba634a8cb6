/- Layer 14: a sky never holds more than six entries; calls at a nil sky. -/
import Derived.Test.YtcpnlojcmlldpaaSkyC
namespace Go.Proofs.Ytcpnlojcmlldpaa
open Go.RowKit Go.Maps

theorem sky_six {H : Type} {w : World} {p b N : Nat} {f : Clouds} (h : SkyAt H w p b N f) : SkyAt H w p b 6 f := by
  obtain ⟨h1, ⟨es, clock, hb, F, hn, hD⟩, h3⟩ := h
  refine ⟨h1, ⟨es, clock, hb, F, ?_, hD⟩, h3⟩
  have e : (DataW.map (Sk.ents cloudD f Sk.nodes) : DataW H) = .map ((es.toList.map (WideElems.rg Try.prog 3 readC)).foldr DataW.insert []) := hD
  injection e with e
  have hl := congrArg List.length e
  have e2 : es.toList.length = es.size := by simp
  rw [length_sorted, List.length_map, e2] at hl
  have : (Sk.ents cloudD f Sk.nodes : List (Lit × DataW H)).length ≤ 6 := List.length_filterMap_le _ Sk.nodes
  rw [hl] at this
  exact this
theorem nil_put (node : Int) (h : List UInt8) (now : Int) (w : World) : Calls Try.prog 14 #[.pointer none, .int .i64 node, hzV h, .int .i64 now] w fun e w' => e = .returned (.tuple #[]) ∧ Below w.heap.size w w' := by
  go_enter Try.func14, Try.ntmps14
  go_wp2_with fail
  go_end0
  exact ⟨rfl, (Below.refl _ _).alloc (Nat.le_refl _) _⟩
theorem nil_drop (node : Int) (w : World) : Calls Try.prog 16 #[.pointer none, .int .i64 node] w fun e w' => e = .returned (.tuple #[]) ∧ Below w.heap.size w w' := by
  go_enter Try.func16, Try.ntmps16
  go_wp2_with fail
  go_end0
  exact ⟨rfl, Below.refl _ _⟩
end Go.Proofs.Ytcpnlojcmlldpaa
