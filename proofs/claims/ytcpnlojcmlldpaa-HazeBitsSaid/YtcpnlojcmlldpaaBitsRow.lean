/- HazeBits: for every two digests a, b apiarylaw14.HazeBits returns true, and the arguments read as before. -/
import Derived.Test.YtcpnlojcmlldpaaBitsA
import Derived.Test.YtcpnlojcmlldpaaHzR
import Derived.Test.YtcpnlojcmlldpaaRows
namespace Go.Proofs.Ytcpnlojcmlldpaa
open Go.ChangeShapes Go.WideShapes Go.ChangeAt Go.RowKit

theorem bits_contract (H : Type) (enc : TypeId × Value → H) (W : World) (base : Nat) (args : Array Value) (ds gs : List (DataW H)) (before : List MemPlace)
    (hval : ∀ (j : Nat) t v, Try.f3.params[j]? = some t → args[j]? = some v → Value.okWide Try.prog W .any base t v)
    (hW : DataW.Whole enc Try.prog Try.f3.params.toList Rows.hazeBitsSpec.vars false W args.toList ds gs before) :
    Calls Try.prog 3 args W fun e W' => ∃ v, e = .returned v ∧ Rows.hazeBitsSpec.post enc Try.prog Try.f3 false true false false W args v W' := by
  have hW' := hW
  have hlt := hW.lt
  obtain ⟨p, q, hA0, hV, rfl, hfz, hnd⟩ := hW
  have hA : DataW.TrodAll enc Try.prog W 0 (fun _ => true) true Try.f3.params.toList args.toList ds p := hA0
  rw [Try.params3] at hA hval
  obtain ⟨v0, vs0, d0, ds0, p0, q0, hargs, rfl, rfl, h0, r0⟩ := trodAll_cons hA
  obtain ⟨v1, vs1, d1, ds1, p1, q1, rfl, rfl, rfl, h1, r1⟩ := trodAll_cons r0
  obtain ⟨rfl, rfl, rfl⟩ := trodAll_nil r1
  obtain rfl : args = #[v0, v1] := by cases args; simp_all
  obtain ⟨rfl, rfl⟩ := trodVars_none hV
  obtain ⟨m0, rfl, hl0⟩ := open_bytes Try.underlying23 Try.underlying5 cells_u8 cells_dg (hval 0 23 v0 rfl rfl) h0
  obtain ⟨m1, rfl, hl1⟩ := open_bytes Try.underlying23 Try.underlying5 cells_u8 cells_dg (hval 1 23 v1 rfl rfl) h1
  clear hA0
  simp only [List.append_nil] at hW'
  refine (bits_any m0 m1 W hl0 hl1).mono fun e W' ⟨he, hg⟩ => ?_
  subst he
  exact ⟨_, rfl, done_true (tb := 4) hW' rfl rfl laidOut (by kernel_rfl) rfl Try.underlying4 hg⟩

theorem bits_reads (os : Os) {H : Type} (enc : TypeId × Value → H) : ∃ places, DataW.whole enc Try.prog ((World.holding Try.prog os ⟨#[], #[], []⟩).forCall (fun _ _ => 0) ⟨#[], #[Value.agg (Array.replicate 32 (Value.int IntKind.u8 0)), Value.agg (Array.replicate 32 (Value.int IntKind.u8 0))], []⟩).memory Try.f3.params.toList Rows.hazeBitsSpec.vars false #[(Value.agg (Array.replicate 32 (Value.int IntKind.u8 0)) : Value), (Value.agg (Array.replicate 32 (Value.int IntKind.u8 0)) : Value)].toList 8 = some ([.agg (List.replicate 32 (.lit (.int .u8 0))), .agg (List.replicate 32 (.lit (.int .u8 0)))], [], places) :=
  ⟨[], by kernel_rfl⟩
theorem bits_laid (os : Os) : laidMet Try.prog Rows.hazeBitsRow.laid ((World.holding Try.prog os ⟨#[], #[], []⟩).forCall (fun _ _ => 0) ⟨#[], #[Value.agg (Array.replicate 32 (Value.int IntKind.u8 0)), Value.agg (Array.replicate 32 (Value.int IntKind.u8 0))], []⟩).memory :=
  ⟨[], rfl, List.nodup_nil, fun _ _ h => by cases h⟩

set_option maxRecDepth 100000 in
theorem bits_lifted (os : Os) (started : os.Started) (H : Type) (enc : TypeId × Value → H) (F : Stop.Interp) :
    ReturnsInHanded {} Try.checked os 3 .any ((OpenSpec.ofChange Rows.hazeBitsSpec).preRow enc Try.prog Try.f3 Rows.hazeBitsRow.domain false Rows.hazeBitsRow.laid) (((OpenSpec.ofChange Rows.hazeBitsSpec).at F).post enc Try.prog Try.f3 false true false false) := by
  obtain ⟨places, hx⟩ := bits_reads os enc
  refine returnsInHanded_of_row (C := Try.checked) (s := OpenSpec.ofChange Rows.hazeBitsSpec) own started (by kernel_rfl) Try.func3
    (witness_row_at (enc := enc) (C := Try.checked) false (World.holding Try.prog os ⟨#[], #[], []⟩) #[Value.agg (Array.replicate 32 (Value.int IntKind.u8 0)), Value.agg (Array.replicate 32 (Value.int IntKind.u8 0))] rfl (by kernel_rfl) (by kernel_rfl) (by kernel_rfl)
      (OpenSpec.preRow_of_cond 8 hx (by kernel_rfl) (fun k hk => by cases hk) (by kernel_rfl) (bits_laid os))) ?_
  intro W base args ds gs before hval hW _ _ _ _ _ _
  exact bits_contract H enc W base args ds gs before hval hW

/-- THE STATEMENT -/
theorem bits_said : Rows.HazeBitsSaid :=
  OpenClaim.holds_of_cond 3 Try.f3 rfl rfl rfl rfl rfl rfl rfl ⟨rfl, rfl, rfl, rfl, rfl⟩ rfl rfl rfl rfl rfl (by kernel_rfl) Try.func3 (by kernel_rfl)
    (of_decide_eq_true (by kernel_rfl)) (by unfold Func.isWrapper; first | (rw [if_pos (by decide +kernel)]; kernel_rfl) | (rw [if_neg (by decide +kernel)]; exact ⟨rfl, rfl⟩))
    (fun os started H enc _ F => by rw [OpenClaim.pre_eq_preRow]; exact bits_lifted os started H enc F)
end Go.Proofs.Ytcpnlojcmlldpaa
