/- RingStays: for every digest, every row of integers and every integer, in every world whose table stamp.words holds what its initialiser lays, apiarylaw13.RingStays returns true, and the arguments read as before. -/
import Derived.Test.YtdfeiajdmmlllaaDoorRingSt
import Derived.Test.YtdfeiajdmmlllaaDoorRowLib
import Derived.Test.YtdfeiajdmmlllaaDoorRingR
import Derived.Test.YtdfeiajdmmlllaaDoorCards
import Derived.Test.YtdfeiajdmmlllaaDoorTie
namespace Go.Proofs.YtdfeiajdmmlllaaDoor
open Go.ChangeShapes Go.WideShapes Go.ChangeAt Go.RowKit

theorem stays_tab {W : World} (h : laidMetH Tryd.prog [("apiary/stamp.words", Rows.laid_apiary_stamp_words)] W) : Tab W 0 (u32s Sha.words) := by
  have hd : (Rows.laid_apiary_stamp_words : DataW Unit) = Lib.tabData .u32 (Sha.words.map fun (n : Nat) => (n : Int)) := by kernel_rfl
  have h1 : laidMet Tryd.prog [("apiary/stamp.words", (Rows.laid_apiary_stamp_words : DataW Unit))] W := h
  rw [hd] at h1
  have h2 := Lib.tabIs_of_head (rest := []) gTab gTabType Tryd.underlying81 Tryd.underlying79 cellsU32 cellsTab h1
  unfold Lib.TabIs World.var? at h2
  rw [gTab, Option.bind_some] at h2
  split at h2
  · rename_i cs t fr hc
    refine ⟨t, fr, ?_⟩
    rw [hc, Option.some.inj h2]
    simp [u32s]
  · cases h2

set_option maxRecDepth 100000 in
theorem stays_contract (H : Type) (enc : TypeId × Value → H) (W : World) (base : Nat) (args : Array Value) (ds gs : List (DataW H)) (before : List MemPlace)
    (hval : ∀ (j : Nat) t v, Tryd.f4.params[j]? = some t → args[j]? = some v → Value.okWide Tryd.prog W .any base t v)
    (hW : DataW.Whole enc Tryd.prog Tryd.f4.params.toList Rows.ringStaysSpec.vars false W args.toList ds gs before) (hL : laidMetH Tryd.prog Rows.ringStaysRow.laid W) :
    Calls Tryd.prog 4 args W fun e W' => ∃ v, e = .returned v ∧ Rows.ringStaysSpec.post enc Tryd.prog Tryd.f4 false true false false W args v W' := by
  have hW' := hW
  have hlt := hW.lt
  obtain ⟨p, q, hA0, hV, rfl, hfz, hnd⟩ := hW
  have hA : DataW.TrodAll enc Tryd.prog W 0 (fun _ => true) true Tryd.f4.params.toList args.toList ds p := hA0
  rw [Tryd.params4] at hA hval
  obtain ⟨v0, vs0, d0, ds0, p0, q0, hargs, rfl, rfl, h0, r0⟩ := trodAll_cons hA
  obtain ⟨v1, vs1, d1, ds1, p1, q1, rfl, rfl, rfl, h1, r1⟩ := trodAll_cons r0
  obtain ⟨v2, vs2, d2, ds2, p2, q2, rfl, rfl, rfl, h2, r2⟩ := trodAll_cons r1
  obtain ⟨rfl, rfl, rfl⟩ := trodAll_nil r2
  obtain rfl : args = #[v0, v1, v2] := by cases args; simp_all
  obtain ⟨rfl, rfl⟩ := trodVars_none hV
  obtain ⟨a0, rfl, hl0⟩ := open_bytes Tryd.underlying23 Tryd.underlying5 (by kernel_rfl) (by kernel_rfl) (hval 0 23 v0 rfl rfl) h0
  obtain ⟨A1, c1, l1, rfl, hs1, hm1⟩ := open_intsN (hval 1 24 v1 rfl rfl) h1 (fun x hx => hlt x (by simp [hx]))
  obtain ⟨n2, rfl, rfl, rfl, hw2⟩ := open_int Tryd.underlying3 (hval 2 3 v2 rfl rfl) h2
  clear hA0
  simp only [List.append_nil] at hW'
  refine (stays_any a0 hl0 A1 c1 l1 n2 W hs1 hm1.1 hm1.2.1 hm1.2.2 (stays_tab hL)).mono fun e W' ⟨he, hg⟩ => ?_
  subst he
  exact ⟨_, rfl, done_true (tb := 4) hW' rfl rfl laidOut (by kernel_rfl) rfl Tryd.underlying4 hg⟩

/-- a world for the witness: the settled one, the table's block holding what its initialiser lays -/
noncomputable def stays_world (os : Os) : World :=
  { World.holding Tryd.prog os ⟨#[], #[], []⟩ with heap := (World.holding Tryd.prog os ⟨#[], #[], []⟩).heap.modify 0 fun
      | .cells _ t frozen => .cells (u32s Sha.words).toArray t frozen
      | o => o }
theorem stays_laid (os : Os) : laidMet Tryd.prog Rows.ringStaysRow.laid ((stays_world os).forCall (fun _ _ => 0) ⟨#[], #[Value.agg (List.replicate 32 (Value.int IntKind.u8 0)).toArray, .slice none 0 0, .int .i64 0], []⟩).memory :=
  laidMet_of_run' 8 (by kernel_rfl) (by kernel_rfl)
theorem stays_reads (os : Os) {H : Type} (enc : TypeId × Value → H) : ∃ places, DataW.whole enc Tryd.prog ((stays_world os).forCall (fun _ _ => 0) ⟨#[], #[Value.agg (List.replicate 32 (Value.int IntKind.u8 0)).toArray, .slice none 0 0, .int .i64 0], []⟩).memory Tryd.f4.params.toList Rows.ringStaysSpec.vars false #[(Value.agg (List.replicate 32 (Value.int IntKind.u8 0)).toArray : Value), (.slice none 0 0 : Value), (.int .i64 0 : Value)].toList 8 = some ([.agg (List.replicate 32 (.lit (.int .u8 0))), .nil, .lit (.int .i64 0)], [], places) :=
  ⟨[], by kernel_rfl⟩

set_option maxRecDepth 100000 in
theorem stays_lifted (os : Os) (started : os.Started) (H : Type) (enc : TypeId × Value → H) (F : Stop.Interp) :
    ReturnsInHanded {} Tryd.checked os 4 .any ((OpenSpec.ofChange Rows.ringStaysSpec).preRow enc Tryd.prog Tryd.f4 Rows.ringStaysRow.domain false Rows.ringStaysRow.laid) (((OpenSpec.ofChange Rows.ringStaysSpec).at F).post enc Tryd.prog Tryd.f4 false true false false) := by
  obtain ⟨places, hx⟩ := stays_reads os enc
  refine returnsInHanded_of_row (C := Tryd.checked) (s := OpenSpec.ofChange Rows.ringStaysSpec) own started (by kernel_rfl) Tryd.func4
    (witness_row_at (enc := enc) (C := Tryd.checked) false (stays_world os) #[Value.agg (List.replicate 32 (Value.int IntKind.u8 0)).toArray, .slice none 0 0, .int .i64 0] rfl (by kernel_rfl) (by kernel_rfl) (by kernel_rfl)
      (OpenSpec.preRow_of_cond 8 hx (by kernel_rfl) (fun k hk => by cases hk) (by kernel_rfl) (stays_laid os))) ?_
  intro W base args ds gs before hval hW _ _ _ hL _ _
  exact stays_contract H enc W base args ds gs before hval hW hL

theorem stays_said : Rows.RingStaysSaid :=
  OpenClaim.holds_of_cond 4 Tryd.f4 rfl rfl rfl rfl rfl rfl rfl ⟨rfl, rfl, rfl, rfl, rfl⟩ rfl rfl rfl rfl rfl (by kernel_rfl) Tryd.func4 (by kernel_rfl)
    (of_decide_eq_true (by kernel_rfl)) (by unfold Func.isWrapper; first | (rw [if_pos (by decide +kernel)]; kernel_rfl) | (rw [if_neg (by decide +kernel)]; exact ⟨rfl, rfl⟩))
    (fun os started H enc _ F => by rw [OpenClaim.pre_eq_preRow]; exact stays_lifted os started H enc F)

theorem stays_plain (f : FuncId) (fn : Func) (hf : Tryd.pinned.checked.prog.funcNamed "apiary/apiarylaw13.RingStays" = some f) (hfn : Tryd.pinned.checked.prog.funcs[f]? = some fn) :
    false = Tryd.pinned.checked.prog.looks [] ∧ ∀ (j : Nat) t, fn.params[j]? = some t → Tryd.pinned.checked.prog.wantsStandIn t = false := by
  obtain rfl : f = 4 := Option.some.inj ((show Tryd.prog.funcNamed "apiary/apiarylaw13.RingStays" = some 4 by kernel_rfl).symm.trans hf) |>.symm
  obtain rfl : fn = Tryd.f4 := (Option.some.inj (Tryd.func4.symm.trans hfn)).symm
  refine ⟨by kernel_rfl, fun j t ht => ?_⟩
  rw [Tryd.params4] at ht
  have ht' := Array.mem_of_getElem? ht
  simp only [List.mem_toArray, List.mem_cons, List.not_mem_nil, or_false] at ht'
  rcases ht' with rfl | rfl | rfl
  · exact (show Tryd.prog.wantsStandIn 23 = false by kernel_rfl)
  · exact (show Tryd.prog.wantsStandIn 24 = false by kernel_rfl)
  · exact (show Tryd.prog.wantsStandIn 3 = false by kernel_rfl)

theorem stays_card : Rows.RingStaysCardSaid :=
  Claim7.holds_tied_plain_at .later [] _ _ _ _ stays_said (fun _ h => by cases h) (by kernel_rfl) (fun _ h => by cases h) ringStays_row_tie rfl ⟨rfl, rfl⟩ (by kernel_rfl) rfl stays_plain (by kernel_rfl)
end Go.Proofs.YtdfeiajdmmlllaaDoor
