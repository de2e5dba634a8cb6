/- ScoutFinds: for every int, every six booleans and every row of draws apiarylaw12.ScoutFinds returns true, and the arguments read as before. -/
import Derived.Test.YtghefmppjdneoaaScRbM
import Derived.Test.YtghefmppjdneoaaScRwM
import Derived.Test.YtghefmppjdneoaaRows
namespace Go.Proofs.Ytghefmppjdneoaa
open Go.ChangeShapes Go.WideShapes Go.ChangeAt Go.RowKit

set_option maxRecDepth 100000 in
theorem sfinds_contract (H : Type) (enc : TypeId × Value → H) (W : World) (base : Nat) (args : Array Value) (ds gs : List (DataW H)) (before : List MemPlace)
    (hval : ∀ (j : Nat) t v, Try.f3.params[j]? = some t → args[j]? = some v → Value.okWide Try.prog W .any base t v)
    (hW : DataW.Whole enc Try.prog Try.f3.params.toList Rows.scoutFindsSpec.vars false W args.toList ds gs before) :
    Calls Try.prog 3 args W fun e W' => ∃ v, e = .returned v ∧ Rows.scoutFindsSpec.post enc Try.prog Try.f3 false true false false W args v W' := by
  have hW' := hW
  have hlt := hW.lt
  obtain ⟨p, q, hA0, hV, rfl, hfz, hnd⟩ := hW
  have hA : DataW.TrodAll enc Try.prog W 0 (fun _ => true) true Try.f3.params.toList args.toList ds p := hA0
  rw [Try.params3] at hA hval
  obtain ⟨v0, vs0, d0, ds0, p0, q0, hargs, rfl, rfl, h0, r0⟩ := trodAll_cons hA
  obtain ⟨v1, vs1, d1, ds1, p1, q1, rfl, rfl, rfl, h1, r1⟩ := trodAll_cons r0
  obtain ⟨v2, vs2, d2, ds2, p2, q2, rfl, rfl, rfl, h2, r2⟩ := trodAll_cons r1
  obtain ⟨rfl, rfl, rfl⟩ := trodAll_nil r2
  obtain rfl : args = #[v0, v1, v2] := by cases args; simp_all
  obtain ⟨rfl, rfl⟩ := trodVars_none hV
  obtain ⟨n0, rfl, rfl, rfl, hw0⟩ := open_int Try.underlying3 (hval 0 3 v0 rfl rfl) h0
  obtain ⟨qq1, rfl⟩ := open_quiet (hval 1 22 v1 rfl rfl) h1
  obtain ⟨A2, c2, l2, rfl, hs2, hm2⟩ := open_draws (hval 2 23 v2 rfl rfl) h2 (fun x hx => hlt x (by simp [hx]))
  clear hA0
  simp only [List.append_nil] at hW'
  refine (sfinds_any n0 qq1 A2 c2 l2 W (bounds_i64 hw0) hs2).mono fun e W' ⟨he, hg⟩ => ?_
  subst he
  exact ⟨_, rfl, done_true (tb := 4) hW' rfl rfl laidOut (by kernel_rfl) rfl Try.underlying4 hg⟩

theorem sfinds_reads (os : Os) {H : Type} (enc : TypeId × Value → H) : ∃ places, DataW.whole enc Try.prog ((World.holding Try.prog os ⟨#[], #[], []⟩).forCall (fun _ _ => 0) ⟨#[], #[.int .i64 0, Value.agg (Array.replicate 6 (Value.bool false)), .slice none 0 0], []⟩).memory Try.f3.params.toList Rows.scoutFindsSpec.vars false #[(.int .i64 0 : Value), (Value.agg (Array.replicate 6 (Value.bool false)) : Value), (.slice none 0 0 : Value)].toList 8 = some ([.lit (.int .i64 0), .agg (List.replicate 6 (.lit (.bool false))), .nil], [], places) :=
  ⟨[], by kernel_rfl⟩
theorem sfinds_laid (os : Os) : laidMet Try.prog Rows.scoutFindsRow.laid ((World.holding Try.prog os ⟨#[], #[], []⟩).forCall (fun _ _ => 0) ⟨#[], #[.int .i64 0, Value.agg (Array.replicate 6 (Value.bool false)), .slice none 0 0], []⟩).memory :=
  ⟨[], rfl, List.nodup_nil, fun _ _ h => by cases h⟩

set_option maxRecDepth 100000 in
theorem sfinds_lifted (os : Os) (started : os.Started) (H : Type) (enc : TypeId × Value → H) (F : Stop.Interp) :
    ReturnsInHanded {} Try.checked os 3 .any ((OpenSpec.ofChange Rows.scoutFindsSpec).preRow enc Try.prog Try.f3 Rows.scoutFindsRow.domain false Rows.scoutFindsRow.laid) (((OpenSpec.ofChange Rows.scoutFindsSpec).at F).post enc Try.prog Try.f3 false true false false) := by
  obtain ⟨places, hx⟩ := sfinds_reads os enc
  refine returnsInHanded_of_row (C := Try.checked) (s := OpenSpec.ofChange Rows.scoutFindsSpec) own started (by kernel_rfl) Try.func3
    (witness_row_at (enc := enc) (C := Try.checked) false (World.holding Try.prog os ⟨#[], #[], []⟩) #[.int .i64 0, Value.agg (Array.replicate 6 (Value.bool false)), .slice none 0 0] rfl (by kernel_rfl) (by kernel_rfl) (by kernel_rfl)
      (OpenSpec.preRow_of_cond 8 hx (by kernel_rfl) (fun k hk => by cases hk) (by kernel_rfl) (sfinds_laid os))) ?_
  intro W base args ds gs before hval hW _ _ _ _ _ _
  exact sfinds_contract H enc W base args ds gs before hval hW

/-- THE STATEMENT -/
theorem sfinds_said : Rows.ScoutFindsSaid :=
  OpenClaim.holds_of_cond 3 Try.f3 rfl rfl rfl rfl rfl rfl rfl ⟨rfl, rfl, rfl, rfl, rfl⟩ rfl rfl rfl rfl rfl (by kernel_rfl) Try.func3 (by kernel_rfl)
    (of_decide_eq_true (by kernel_rfl)) (by unfold Func.isWrapper; first | (rw [if_pos (by decide +kernel)]; kernel_rfl) | (rw [if_neg (by decide +kernel)]; exact ⟨rfl, rfl⟩))
    (fun os started H enc _ F => by rw [OpenClaim.pre_eq_preRow]; exact sfinds_lifted os started H enc F)
end Go.Proofs.Ytghefmppjdneoaa
