/- HazeJoins: for every two summaries and every row of keys apiarylaw14.HazeJoins returns true, and the arguments read as before. -/
import Derived.Test.YtcpnlojcmlldpaaJoinsA
import Derived.Test.YtcpnlojcmlldpaaHzR
import Derived.Test.YtcpnlojcmlldpaaRows
namespace Go.Proofs.Ytcpnlojcmlldpaa
open Go.ChangeShapes Go.WideShapes Go.ChangeAt Go.RowKit

theorem joins_contract (H : Type) (enc : TypeId × Value → H) (W : World) (base : Nat) (args : Array Value) (ds gs : List (DataW H)) (before : List MemPlace)
    (hval : ∀ (j : Nat) t v, Try.f8.params[j]? = some t → args[j]? = some v → Value.okWide Try.prog W .any base t v)
    (hW : DataW.Whole enc Try.prog Try.f8.params.toList Rows.hazeJoinsSpec.vars false W args.toList ds gs before) :
    Calls Try.prog 8 args W fun e W' => ∃ v, e = .returned v ∧ Rows.hazeJoinsSpec.post enc Try.prog Try.f8 false true false false W args v W' := by
  have hW' := hW
  have hlt := hW.lt
  obtain ⟨p, q, hA0, hV, rfl, hfz, hnd⟩ := hW
  have hA : DataW.TrodAll enc Try.prog W 0 (fun _ => true) true Try.f8.params.toList args.toList ds p := hA0
  rw [Try.params8] at hA hval
  obtain ⟨v0, vs0, d0, ds0, p0, q0, hargs, rfl, rfl, h0, r0⟩ := trodAll_cons hA
  obtain ⟨v1, vs1, d1, ds1, p1, q1, rfl, rfl, rfl, h1, r1⟩ := trodAll_cons r0
  obtain ⟨v2, vs2, d2, ds2, p2, q2, rfl, rfl, rfl, h2, r2⟩ := trodAll_cons r1
  obtain ⟨rfl, rfl, rfl⟩ := trodAll_nil r2
  obtain rfl : args = #[v0, v1, v2] := by cases args; simp_all
  obtain ⟨rfl, rfl⟩ := trodVars_none hV
  obtain ⟨m0, rfl, hl0⟩ := open_bytes Try.underlying26 Try.underlying5 cells_u8 cells_hz (hval 0 26 v0 rfl rfl) h0
  obtain ⟨m1, rfl, hl1⟩ := open_bytes Try.underlying26 Try.underlying5 cells_u8 cells_hz (hval 1 26 v1 rfl rfl) h1
  obtain ⟨A2, c2, l2, rfl, hs2, hm2⟩ := open_bytess (by omega) Try.underlying51 Try.underlying23 Try.underlying5 cells_u8 cells_dg (hval 2 51 v2 rfl rfl) h2 (fun x hx => hlt x (by simp [hx]))
  clear hA0
  simp only [List.append_nil] at hW'
  refine (joins_any m0 m1 A2 c2 l2 W hl0 hl1 hs2 hm2.1 hm2.2.1 hm2.2.2.1 hm2.2.2.2).mono fun e W' ⟨he, hg⟩ => ?_
  subst he
  exact ⟨_, rfl, done_true (tb := 4) hW' rfl rfl laidOut (by kernel_rfl) rfl Try.underlying4 hg⟩

theorem joins_reads (os : Os) {H : Type} (enc : TypeId × Value → H) : ∃ places, DataW.whole enc Try.prog ((World.holding Try.prog os ⟨#[], #[], []⟩).forCall (fun _ _ => 0) ⟨#[], #[Value.agg (Array.replicate 64 (Value.int IntKind.u8 0)), Value.agg (Array.replicate 64 (Value.int IntKind.u8 0)), .slice none 0 0], []⟩).memory Try.f8.params.toList Rows.hazeJoinsSpec.vars false #[(Value.agg (Array.replicate 64 (Value.int IntKind.u8 0)) : Value), (Value.agg (Array.replicate 64 (Value.int IntKind.u8 0)) : Value), (.slice none 0 0 : Value)].toList 8 = some ([.agg (List.replicate 64 (.lit (.int .u8 0))), .agg (List.replicate 64 (.lit (.int .u8 0))), .nil], [], places) :=
  ⟨[], by kernel_rfl⟩
theorem joins_laid (os : Os) : laidMet Try.prog Rows.hazeJoinsRow.laid ((World.holding Try.prog os ⟨#[], #[], []⟩).forCall (fun _ _ => 0) ⟨#[], #[Value.agg (Array.replicate 64 (Value.int IntKind.u8 0)), Value.agg (Array.replicate 64 (Value.int IntKind.u8 0)), .slice none 0 0], []⟩).memory :=
  ⟨[], rfl, List.nodup_nil, fun _ _ h => by cases h⟩

set_option maxRecDepth 100000 in
theorem joins_lifted (os : Os) (started : os.Started) (H : Type) (enc : TypeId × Value → H) (F : Stop.Interp) :
    ReturnsInHanded {} Try.checked os 8 .any ((OpenSpec.ofChange Rows.hazeJoinsSpec).preRow enc Try.prog Try.f8 Rows.hazeJoinsRow.domain false Rows.hazeJoinsRow.laid) (((OpenSpec.ofChange Rows.hazeJoinsSpec).at F).post enc Try.prog Try.f8 false true false false) := by
  obtain ⟨places, hx⟩ := joins_reads os enc
  refine returnsInHanded_of_row (C := Try.checked) (s := OpenSpec.ofChange Rows.hazeJoinsSpec) own started (by kernel_rfl) Try.func8
    (witness_row_at (enc := enc) (C := Try.checked) false (World.holding Try.prog os ⟨#[], #[], []⟩) #[Value.agg (Array.replicate 64 (Value.int IntKind.u8 0)), Value.agg (Array.replicate 64 (Value.int IntKind.u8 0)), .slice none 0 0] rfl (by kernel_rfl) (by kernel_rfl) (by kernel_rfl)
      (OpenSpec.preRow_of_cond 8 hx (by kernel_rfl) (fun k hk => by cases hk) (by kernel_rfl) (joins_laid os))) ?_
  intro W base args ds gs before hval hW _ _ _ _ _ _
  exact joins_contract H enc W base args ds gs before hval hW

/-- THE STATEMENT -/
theorem joins_said : Rows.HazeJoinsSaid :=
  OpenClaim.holds_of_cond 8 Try.f8 rfl rfl rfl rfl rfl rfl rfl ⟨rfl, rfl, rfl, rfl, rfl⟩ rfl rfl rfl rfl rfl (by kernel_rfl) Try.func8 (by kernel_rfl)
    (of_decide_eq_true (by kernel_rfl)) (by unfold Func.isWrapper; first | (rw [if_pos (by decide +kernel)]; kernel_rfl) | (rw [if_neg (by decide +kernel)]; exact ⟨rfl, rfl⟩))
    (fun os started H enc _ F => by rw [OpenClaim.pre_eq_preRow]; exact joins_lifted os started H enc F)
end Go.Proofs.Ytcpnlojcmlldpaa
