/- RingNear: for every digest and every six truth values, in every world whose table stamp.words holds what its initialiser lays, apiarylaw13.RingNear returns true, and the arguments read as before. -/
import Derived.Test.YtdfeiajdmmlllaaDoorRingNe
import Derived.Test.YtdfeiajdmmlllaaDoorRowLib
import Derived.Test.YtdfeiajdmmlllaaDoorRingR2
import Derived.Test.YtdfeiajdmmlllaaDoorCards
import Derived.Test.YtdfeiajdmmlllaaDoorTie
namespace Go.Proofs.YtdfeiajdmmlllaaDoor
open Go.ChangeShapes Go.WideShapes Go.ChangeAt Go.RowKit

theorem rnear_tab {W : World} (h : laidMetH Tryd.prog [("apiary/stamp.words", Rows.laid_apiary_stamp_words)] W) : Tab W 0 (u32s Sha.words) := by
  have hd : (Rows.laid_apiary_stamp_words : DataW Unit) = Lib.tabData .u32 (Sha.words.map fun (n : Nat) => (n : Int)) := by kernel_rfl
  have h1 : laidMet Tryd.prog [("apiary/stamp.words", (Rows.laid_apiary_stamp_words : DataW Unit))] W := h
  rw [hd] at h1
  have h2 := Lib.tabIs_of_head (rest := []) gTab gTabType Tryd.underlying81 Tryd.underlying79 cellsU32 cellsTab h1
  unfold Lib.TabIs World.var? at h2
  rw [gTab, Option.bind_some] at h2
  split at h2
  · rename_i cs t fr hc
    refine ⟨t, fr, ?_⟩
    rw [hc, Option.some.inj h2]
    simp [u32s]
  · cases h2

set_option maxRecDepth 100000 in
theorem rnear_contract (H : Type) (enc : TypeId × Value → H) (W : World) (base : Nat) (args : Array Value) (ds gs : List (DataW H)) (before : List MemPlace)
    (hval : ∀ (j : Nat) t v, Tryd.f5.params[j]? = some t → args[j]? = some v → Value.okWide Tryd.prog W .any base t v)
    (hW : DataW.Whole enc Tryd.prog Tryd.f5.params.toList Rows.ringNearSpec.vars false W args.toList ds gs before) (hL : laidMetH Tryd.prog Rows.ringNearRow.laid W) :
    Calls Tryd.prog 5 args W fun e W' => ∃ v, e = .returned v ∧ Rows.ringNearSpec.post enc Tryd.prog Tryd.f5 false true false false W args v W' := by
  have hW' := hW
  have hlt := hW.lt
  obtain ⟨p, q, hA0, hV, rfl, hfz, hnd⟩ := hW
  have hA : DataW.TrodAll enc Tryd.prog W 0 (fun _ => true) true Tryd.f5.params.toList args.toList ds p := hA0
  rw [Tryd.params5] at hA hval
  obtain ⟨v0, vs0, d0, ds0, p0, q0, hargs, rfl, rfl, h0, r0⟩ := trodAll_cons hA
  obtain ⟨v1, vs1, d1, ds1, p1, q1, rfl, rfl, rfl, h1, r1⟩ := trodAll_cons r0
  obtain ⟨rfl, rfl, rfl⟩ := trodAll_nil r1
  obtain rfl : args = #[v0, v1] := by cases args; simp_all
  obtain ⟨rfl, rfl⟩ := trodVars_none hV
  obtain ⟨a0, rfl, hl0⟩ := open_bytes Tryd.underlying23 Tryd.underlying5 (by kernel_rfl) (by kernel_rfl) (hval 0 23 v0 rfl rfl) h0
  obtain ⟨u1, rfl, hl1⟩ := open_bools (hval 1 37 v1 rfl rfl) h1
  clear hA0
  simp only [List.append_nil] at hW'
  refine (rnear_any a0 hl0 u1 hl1 W (rnear_tab hL)).mono fun e W' ⟨he, hg⟩ => ?_
  subst he
  exact ⟨_, rfl, done_true (tb := 4) hW' rfl rfl laidOut (by kernel_rfl) rfl Tryd.underlying4 hg⟩

/-- a world for the witness: the settled one, the table's block holding what its initialiser lays -/
noncomputable def rnear_world (os : Os) : World :=
  { World.holding Tryd.prog os ⟨#[], #[], []⟩ with heap := (World.holding Tryd.prog os ⟨#[], #[], []⟩).heap.modify 0 fun
      | .cells _ t frozen => .cells (u32s Sha.words).toArray t frozen
      | o => o }
theorem rnear_laid (os : Os) : laidMet Tryd.prog Rows.ringNearRow.laid ((rnear_world os).forCall (fun _ _ => 0) ⟨#[], #[Value.agg (List.replicate 32 (Value.int IntKind.u8 0)).toArray, Value.agg #[Value.bool false, Value.bool false, Value.bool false, Value.bool false, Value.bool false, Value.bool false]], []⟩).memory :=
  laidMet_of_run' 8 (by kernel_rfl) (by kernel_rfl)
theorem rnear_reads (os : Os) {H : Type} (enc : TypeId × Value → H) : ∃ places, DataW.whole enc Tryd.prog ((rnear_world os).forCall (fun _ _ => 0) ⟨#[], #[Value.agg (List.replicate 32 (Value.int IntKind.u8 0)).toArray, Value.agg #[Value.bool false, Value.bool false, Value.bool false, Value.bool false, Value.bool false, Value.bool false]], []⟩).memory Tryd.f5.params.toList Rows.ringNearSpec.vars false #[(Value.agg (List.replicate 32 (Value.int IntKind.u8 0)).toArray : Value), (Value.agg #[Value.bool false, Value.bool false, Value.bool false, Value.bool false, Value.bool false, Value.bool false] : Value)].toList 8 = some ([.agg (List.replicate 32 (.lit (.int .u8 0))), .agg (List.replicate 6 (.lit (.bool false)))], [], places) :=
  ⟨[], by kernel_rfl⟩

set_option maxRecDepth 100000 in
theorem rnear_lifted (os : Os) (started : os.Started) (H : Type) (enc : TypeId × Value → H) (F : Stop.Interp) :
    ReturnsInHanded {} Tryd.checked os 5 .any ((OpenSpec.ofChange Rows.ringNearSpec).preRow enc Tryd.prog Tryd.f5 Rows.ringNearRow.domain false Rows.ringNearRow.laid) (((OpenSpec.ofChange Rows.ringNearSpec).at F).post enc Tryd.prog Tryd.f5 false true false false) := by
  obtain ⟨places, hx⟩ := rnear_reads os enc
  refine returnsInHanded_of_row (C := Tryd.checked) (s := OpenSpec.ofChange Rows.ringNearSpec) own started (by kernel_rfl) Tryd.func5
    (witness_row_at (enc := enc) (C := Tryd.checked) false (rnear_world os) #[Value.agg (List.replicate 32 (Value.int IntKind.u8 0)).toArray, Value.agg #[Value.bool false, Value.bool false, Value.bool false, Value.bool false, Value.bool false, Value.bool false]] rfl (by kernel_rfl) (by kernel_rfl) (by kernel_rfl)
      (OpenSpec.preRow_of_cond 8 hx (by kernel_rfl) (fun k hk => by cases hk) (by kernel_rfl) (rnear_laid os))) ?_
  intro W base args ds gs before hval hW _ _ _ hL _ _
  exact rnear_contract H enc W base args ds gs before hval hW hL

theorem rnear_said : Rows.RingNearSaid :=
  OpenClaim.holds_of_cond 5 Tryd.f5 rfl rfl rfl rfl rfl rfl rfl ⟨rfl, rfl, rfl, rfl, rfl⟩ rfl rfl rfl rfl rfl (by kernel_rfl) Tryd.func5 (by kernel_rfl)
    (of_decide_eq_true (by kernel_rfl)) (by unfold Func.isWrapper; first | (rw [if_pos (by decide +kernel)]; kernel_rfl) | (rw [if_neg (by decide +kernel)]; exact ⟨rfl, rfl⟩))
    (fun os started H enc _ F => by rw [OpenClaim.pre_eq_preRow]; exact rnear_lifted os started H enc F)

theorem rnear_plain (f : FuncId) (fn : Func) (hf : Tryd.pinned.checked.prog.funcNamed "apiary/apiarylaw13.RingNear" = some f) (hfn : Tryd.pinned.checked.prog.funcs[f]? = some fn) :
    false = Tryd.pinned.checked.prog.looks [] ∧ ∀ (j : Nat) t, fn.params[j]? = some t → Tryd.pinned.checked.prog.wantsStandIn t = false := by
  obtain rfl : f = 5 := Option.some.inj ((show Tryd.prog.funcNamed "apiary/apiarylaw13.RingNear" = some 5 by kernel_rfl).symm.trans hf) |>.symm
  obtain rfl : fn = Tryd.f5 := (Option.some.inj (Tryd.func5.symm.trans hfn)).symm
  refine ⟨by kernel_rfl, fun j t ht => ?_⟩
  rw [Tryd.params5] at ht
  have ht' := Array.mem_of_getElem? ht
  simp only [List.mem_toArray, List.mem_cons, List.not_mem_nil, or_false] at ht'
  rcases ht' with rfl | rfl
  · exact (show Tryd.prog.wantsStandIn 23 = false by kernel_rfl)
  · exact (show Tryd.prog.wantsStandIn 37 = false by kernel_rfl)

theorem rnear_card : Rows.RingNearCardSaid :=
  Claim7.holds_tied_plain_at .later [] _ _ _ _ rnear_said (fun _ h => by cases h) (by kernel_rfl) (fun _ h => by cases h) ringNear_row_tie rfl ⟨rfl, rfl⟩ (by kernel_rfl) rfl rnear_plain (by kernel_rfl)
end Go.Proofs.YtdfeiajdmmlllaaDoor
