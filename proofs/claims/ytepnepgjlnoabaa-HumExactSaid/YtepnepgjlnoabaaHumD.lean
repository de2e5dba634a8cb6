/- Layer 11: a rumour looked up in the map of pointers. -/
import Derived.Test.YtepnepgjlnoabaaHumC
namespace Go.Proofs.Ytepnepgjlnoabaa
open Go.RowKit Go.Maps

theorem zero_ptr (w : World) : (zeroValue 55).run Try.prog w = .ok (.pointer none) w := by kernel_rfl
theorem hum_keyed : Keyed Try.prog 3 := int_keyed Try.underlying3
theorem hum_key {n : Int} (h1 : -9223372036854775808 ≤ n) (h2 : n ≤ 9223372036854775807) : keyOf Try.prog 3 (.int .i64 n) = some (.int .i64 n) :=
  keyOf_int_mk Try.underlying3 (by simp [Lit.wf, IntKind.min, IntKind.max, IntKind.signed, IntKind.bits]; omega)
theorem HumAt.nodes {H : Type} {w : World} {p b N : Nat} {t : Int} {F : Int → Option (Nat × Rum)} (h : HumAt H w p b N t F) : Sk.Sane fun x => (F x).map (·.1) := fun x g hg => by
  change (F x).map (·.1) = some g at hg
  cases hF : F x with
  | none => rw [hF] at hg; cases hg
  | some q =>
    have h2 := h.sane x q.2 (by simp [hF])
    have h3 := (Mem.good_iff _).1 h2.1
    exact Sk.node_mem (by omega) (by omega)
theorem hum_lookup {H : Type} {w : World} {p b N : Nat} {t : Int} {F : Int → Option (Nat × Rum)} (h : HumAt H w p b N t F) {k : Int} (h1 : -9223372036854775808 ≤ k) (h2 : k ≤ 9223372036854775807) :
    (Instr.lookup 49 (.map (some b)) (.int .i64 k) false).run Try.prog w = .ok (match F k with | some (g, _) => ptrV g | none => .pointer none) w := by
  obtain ⟨es, clock, hb, Ft, _, hD⟩ := h.map
  have hat : ∀ z : DataW H, (DataW.map ((es.toList.map (WideElems.rg Try.prog 3 readP)).foldr DataW.insert [])).atKey (.int .i64 k) z = (match (F k).map (·.1) with | some m => ptrD m | none => z) := fun z => by
    rw [← hD]
    refine (Sk.atKey_mapD (enc := ptrD) h.nodes k z).trans ?_
    cases (F k).map (·.1) <;> rfl
  rcases Maps.fit_look false hum_keyed Try.underlying49 (zero_ptr w) hb Ft (hum_key h1 h2) with ⟨hrun, _, hz⟩ | ⟨e0, y, _, _, hrun, hRv, hz, _⟩
  · rw [hrun]
    have : F k = none := by
      cases hf : F k with
      | none => rfl
      | some m =>
        have h3 := (hz .nil).symm.trans (hat .nil)
        rw [hf] at h3
        cases h3
    simp [this]
  · rw [hrun]
    obtain ⟨m, hv, rfl⟩ := readP_inv hRv
    have h3 := (hz .nil).symm.trans (hat .nil)
    cases hf : F k with
    | none =>
      rw [hf] at h3
      cases h3
    | some m' =>
      rw [hf] at h3
      have := ptrD_inj h3
      simp [hv, this]
end Go.Proofs.Ytepnepgjlnoabaa
