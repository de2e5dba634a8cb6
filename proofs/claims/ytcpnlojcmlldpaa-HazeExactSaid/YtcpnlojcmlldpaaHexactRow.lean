/- HazeExact: for every row of summaries, every row of keys and every key apiarylaw14.HazeExact returns true, and the arguments read as before. -/
import Derived.Test.YtcpnlojcmlldpaaHexA
import Derived.Test.YtcpnlojcmlldpaaHzR
import Derived.Test.YtcpnlojcmlldpaaRows
namespace Go.Proofs.Ytcpnlojcmlldpaa
open Go.ChangeShapes Go.WideShapes Go.ChangeAt Go.RowKit

theorem hexact_contract (H : Type) (enc : TypeId × Value → H) (W : World) (base : Nat) (args : Array Value) (ds gs : List (DataW H)) (before : List MemPlace)
    (hval : ∀ (j : Nat) t v, Try.f6.params[j]? = some t → args[j]? = some v → Value.okWide Try.prog W .any base t v)
    (hW : DataW.Whole enc Try.prog Try.f6.params.toList Rows.hazeExactSpec.vars false W args.toList ds gs before) :
    Calls Try.prog 6 args W fun e W' => ∃ v, e = .returned v ∧ Rows.hazeExactSpec.post enc Try.prog Try.f6 false true false false W args v W' := by
  have hW' := hW
  have hlt := hW.lt
  obtain ⟨p, q, hA0, hV, rfl, hfz, hnd⟩ := hW
  have hA : DataW.TrodAll enc Try.prog W 0 (fun _ => true) true Try.f6.params.toList args.toList ds p := hA0
  rw [Try.params6] at hA hval
  obtain ⟨v0, vs0, d0, ds0, p0, q0, hargs, rfl, rfl, h0, r0⟩ := trodAll_cons hA
  obtain ⟨v1, vs1, d1, ds1, p1, q1, rfl, rfl, rfl, h1, r1⟩ := trodAll_cons r0
  obtain ⟨v2, vs2, d2, ds2, p2, q2, rfl, rfl, rfl, h2, r2⟩ := trodAll_cons r1
  obtain ⟨rfl, rfl, rfl⟩ := trodAll_nil r2
  obtain rfl : args = #[v0, v1, v2] := by cases args; simp_all
  obtain ⟨rfl, rfl⟩ := trodVars_none hV
  obtain ⟨A0, c0, l0, rfl, hs0, hm0⟩ := open_bytess (by omega) Try.underlying50 Try.underlying26 Try.underlying5 cells_u8 cells_hz (hval 0 50 v0 rfl rfl) h0 (fun x hx => hlt x (by simp [hx]))
  obtain ⟨A1, c1, l1, rfl, hs1, hm1⟩ := open_bytess (by omega) Try.underlying51 Try.underlying23 Try.underlying5 cells_u8 cells_dg (hval 1 51 v1 rfl rfl) h1 (fun x hx => hlt x (by simp [hx]))
  obtain ⟨m2, rfl, hl2⟩ := open_bytes Try.underlying23 Try.underlying5 cells_u8 cells_dg (hval 2 23 v2 rfl rfl) h2
  clear hA0
  simp only [List.append_nil] at hW'
  refine (hexact_any A0 c0 l0 A1 c1 l1 m2 W hs0 hm0.1 hm0.2.1 hm0.2.2.1 hm0.2.2.2 hs1 hm1.1 hm1.2.1 hm1.2.2.1 hm1.2.2.2 hl2).mono fun e W' ⟨he, hg⟩ => ?_
  subst he
  exact ⟨_, rfl, done_true (tb := 4) hW' rfl rfl laidOut (by kernel_rfl) rfl Try.underlying4 hg⟩

theorem hexact_reads (os : Os) {H : Type} (enc : TypeId × Value → H) : ∃ places, DataW.whole enc Try.prog ((World.holding Try.prog os ⟨#[], #[], []⟩).forCall (fun _ _ => 0) ⟨#[], #[.slice none 0 0, .slice none 0 0, Value.agg (Array.replicate 32 (Value.int IntKind.u8 0))], []⟩).memory Try.f6.params.toList Rows.hazeExactSpec.vars false #[(.slice none 0 0 : Value), (.slice none 0 0 : Value), (Value.agg (Array.replicate 32 (Value.int IntKind.u8 0)) : Value)].toList 8 = some ([.nil, .nil, .agg (List.replicate 32 (.lit (.int .u8 0)))], [], places) :=
  ⟨[], by kernel_rfl⟩
theorem hexact_laid (os : Os) : laidMet Try.prog Rows.hazeExactRow.laid ((World.holding Try.prog os ⟨#[], #[], []⟩).forCall (fun _ _ => 0) ⟨#[], #[.slice none 0 0, .slice none 0 0, Value.agg (Array.replicate 32 (Value.int IntKind.u8 0))], []⟩).memory :=
  ⟨[], rfl, List.nodup_nil, fun _ _ h => by cases h⟩

set_option maxRecDepth 100000 in
theorem hexact_lifted (os : Os) (started : os.Started) (H : Type) (enc : TypeId × Value → H) (F : Stop.Interp) :
    ReturnsInHanded {} Try.checked os 6 .any ((OpenSpec.ofChange Rows.hazeExactSpec).preRow enc Try.prog Try.f6 Rows.hazeExactRow.domain false Rows.hazeExactRow.laid) (((OpenSpec.ofChange Rows.hazeExactSpec).at F).post enc Try.prog Try.f6 false true false false) := by
  obtain ⟨places, hx⟩ := hexact_reads os enc
  refine returnsInHanded_of_row (C := Try.checked) (s := OpenSpec.ofChange Rows.hazeExactSpec) own started (by kernel_rfl) Try.func6
    (witness_row_at (enc := enc) (C := Try.checked) false (World.holding Try.prog os ⟨#[], #[], []⟩) #[.slice none 0 0, .slice none 0 0, Value.agg (Array.replicate 32 (Value.int IntKind.u8 0))] rfl (by kernel_rfl) (by kernel_rfl) (by kernel_rfl)
      (OpenSpec.preRow_of_cond 8 hx (by kernel_rfl) (fun k hk => by cases hk) (by kernel_rfl) (hexact_laid os))) ?_
  intro W base args ds gs before hval hW _ _ _ _ _ _
  exact hexact_contract H enc W base args ds gs before hval hW

/-- THE STATEMENT -/
theorem hexact_said : Rows.HazeExactSaid :=
  OpenClaim.holds_of_cond 6 Try.f6 rfl rfl rfl rfl rfl rfl rfl ⟨rfl, rfl, rfl, rfl, rfl⟩ rfl rfl rfl rfl rfl (by kernel_rfl) Try.func6 (by kernel_rfl)
    (of_decide_eq_true (by kernel_rfl)) (by unfold Func.isWrapper; first | (rw [if_pos (by decide +kernel)]; kernel_rfl) | (rw [if_neg (by decide +kernel)]; exact ⟨rfl, rfl⟩))
    (fun os started H enc _ F => by rw [OpenClaim.pre_eq_preRow]; exact hexact_lifted os started H enc F)
end Go.Proofs.Ytcpnlojcmlldpaa
