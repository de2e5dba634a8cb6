/- HazeAges: for every node, key and times apiarylaw14.HazeAges returns true, and the arguments read as before. -/
import Derived.Test.YtcpnlojcmlldpaaAgesA
import Derived.Test.YtcpnlojcmlldpaaHzR
import Derived.Test.YtcpnlojcmlldpaaRows
namespace Go.Proofs.Ytcpnlojcmlldpaa
open Go.ChangeShapes Go.WideShapes Go.ChangeAt Go.RowKit

theorem ages_contract (H : Type) (enc : TypeId × Value → H) (W : World) (base : Nat) (args : Array Value) (ds gs : List (DataW H)) (before : List MemPlace)
    (hval : ∀ (j : Nat) t v, Try.f5.params[j]? = some t → args[j]? = some v → Value.okWide Try.prog W .any base t v)
    (hW : DataW.Whole enc Try.prog Try.f5.params.toList Rows.hazeAgesSpec.vars false W args.toList ds gs before) :
    Calls Try.prog 5 args W fun e W' => ∃ v, e = .returned v ∧ Rows.hazeAgesSpec.post enc Try.prog Try.f5 false true false false W args v W' := by
  have hW' := hW
  have hlt := hW.lt
  obtain ⟨p, q, hA0, hV, rfl, hfz, hnd⟩ := hW
  have hA : DataW.TrodAll enc Try.prog W 0 (fun _ => true) true Try.f5.params.toList args.toList ds p := hA0
  rw [Try.params5] at hA hval
  obtain ⟨v0, vs0, d0, ds0, p0, q0, hargs, rfl, rfl, h0, r0⟩ := trodAll_cons hA
  obtain ⟨v1, vs1, d1, ds1, p1, q1, rfl, rfl, rfl, h1, r1⟩ := trodAll_cons r0
  obtain ⟨v2, vs2, d2, ds2, p2, q2, rfl, rfl, rfl, h2, r2⟩ := trodAll_cons r1
  obtain ⟨v3, vs3, d3, ds3, p3, q3, rfl, rfl, rfl, h3, r3⟩ := trodAll_cons r2
  obtain ⟨rfl, rfl, rfl⟩ := trodAll_nil r3
  obtain rfl : args = #[v0, v1, v2, v3] := by cases args; simp_all
  obtain ⟨rfl, rfl⟩ := trodVars_none hV
  obtain ⟨n0, rfl, rfl, rfl, hw0⟩ := open_int Try.underlying3 (hval 0 3 v0 rfl rfl) h0
  obtain ⟨m1, rfl, hl1⟩ := open_bytes Try.underlying23 Try.underlying5 cells_u8 cells_dg (hval 1 23 v1 rfl rfl) h1
  obtain ⟨n2, rfl, rfl, rfl, hw2⟩ := open_int Try.underlying3 (hval 2 3 v2 rfl rfl) h2
  obtain ⟨n3, rfl, rfl, rfl, hw3⟩ := open_int Try.underlying3 (hval 3 3 v3 rfl rfl) h3
  clear hA0
  simp only [List.append_nil] at hW'
  refine (ages_any n0 m1 n2 n3 W (bounds_i64 hw0) hl1 (bounds_i64 hw2) (bounds_i64 hw3)).mono fun e W' ⟨he, hg⟩ => ?_
  subst he
  exact ⟨_, rfl, done_true (tb := 4) hW' rfl rfl laidOut (by kernel_rfl) rfl Try.underlying4 hg⟩

theorem ages_reads (os : Os) {H : Type} (enc : TypeId × Value → H) : ∃ places, DataW.whole enc Try.prog ((World.holding Try.prog os ⟨#[], #[], []⟩).forCall (fun _ _ => 0) ⟨#[], #[.int .i64 0, Value.agg (Array.replicate 32 (Value.int IntKind.u8 0)), .int .i64 0, .int .i64 0], []⟩).memory Try.f5.params.toList Rows.hazeAgesSpec.vars false #[(.int .i64 0 : Value), (Value.agg (Array.replicate 32 (Value.int IntKind.u8 0)) : Value), (.int .i64 0 : Value), (.int .i64 0 : Value)].toList 8 = some ([.lit (.int .i64 0), .agg (List.replicate 32 (.lit (.int .u8 0))), .lit (.int .i64 0), .lit (.int .i64 0)], [], places) :=
  ⟨[], by kernel_rfl⟩
theorem ages_laid (os : Os) : laidMet Try.prog Rows.hazeAgesRow.laid ((World.holding Try.prog os ⟨#[], #[], []⟩).forCall (fun _ _ => 0) ⟨#[], #[.int .i64 0, Value.agg (Array.replicate 32 (Value.int IntKind.u8 0)), .int .i64 0, .int .i64 0], []⟩).memory :=
  ⟨[], rfl, List.nodup_nil, fun _ _ h => by cases h⟩

set_option maxRecDepth 100000 in
theorem ages_lifted (os : Os) (started : os.Started) (H : Type) (enc : TypeId × Value → H) (F : Stop.Interp) :
    ReturnsInHanded {} Try.checked os 5 .any ((OpenSpec.ofChange Rows.hazeAgesSpec).preRow enc Try.prog Try.f5 Rows.hazeAgesRow.domain false Rows.hazeAgesRow.laid) (((OpenSpec.ofChange Rows.hazeAgesSpec).at F).post enc Try.prog Try.f5 false true false false) := by
  obtain ⟨places, hx⟩ := ages_reads os enc
  refine returnsInHanded_of_row (C := Try.checked) (s := OpenSpec.ofChange Rows.hazeAgesSpec) own started (by kernel_rfl) Try.func5
    (witness_row_at (enc := enc) (C := Try.checked) false (World.holding Try.prog os ⟨#[], #[], []⟩) #[.int .i64 0, Value.agg (Array.replicate 32 (Value.int IntKind.u8 0)), .int .i64 0, .int .i64 0] rfl (by kernel_rfl) (by kernel_rfl) (by kernel_rfl)
      (OpenSpec.preRow_of_cond 8 hx (by kernel_rfl) (fun k hk => by cases hk) (by kernel_rfl) (ages_laid os))) ?_
  intro W base args ds gs before hval hW _ _ _ _ _ _
  exact ages_contract H enc W base args ds gs before hval hW

/-- THE STATEMENT -/
theorem ages_said : Rows.HazeAgesSaid :=
  OpenClaim.holds_of_cond 5 Try.f5 rfl rfl rfl rfl rfl rfl rfl ⟨rfl, rfl, rfl, rfl, rfl⟩ rfl rfl rfl rfl rfl (by kernel_rfl) Try.func5 (by kernel_rfl)
    (of_decide_eq_true (by kernel_rfl)) (by unfold Func.isWrapper; first | (rw [if_pos (by decide +kernel)]; kernel_rfl) | (rw [if_neg (by decide +kernel)]; exact ⟨rfl, rfl⟩))
    (fun os started H enc _ F => by rw [OpenClaim.pre_eq_preRow]; exact ages_lifted os started H enc F)
end Go.Proofs.Ytcpnlojcmlldpaa
