/- GleanMeets: for every two rows of records, in every world whose table stamp.words holds what its initialiser lays, apiarylaw16.GleanMeets returns true, and the arguments read as before. -/
import Derived.Test.YtefbllhpibfojaaDoorGmeDM
import Derived.Test.YtefbllhpibfojaaDoorGrpK
import Derived.Test.YtefbllhpibfojaaDoorCards
import Derived.Test.YtefbllhpibfojaaDoorTie
namespace Go.Proofs.YtefbllhpibfojaaDoor
open Go.ChangeShapes Go.WideShapes Go.ChangeAt Go.RowKit

theorem gmeets_tab {W : World} (h : laidMetH Tryd.prog [("apiary/stamp.words", Rows.laid_apiary_stamp_words)] W) : Tab W 0 (u32s Sha.words) := by
  have hd : (Rows.laid_apiary_stamp_words : DataW Unit) = Lib.tabData .u32 (Sha.words.map fun (n : Nat) => (n : Int)) := by kernel_rfl
  have h1 : laidMet Tryd.prog [("apiary/stamp.words", (Rows.laid_apiary_stamp_words : DataW Unit))] W := h
  rw [hd] at h1
  have h2 := Lib.tabIs_of_head (rest := []) gTab gTabType Tryd.underlying121 Tryd.underlying106 cellsU32 cellsTab h1
  unfold Lib.TabIs World.var? at h2
  rw [gTab, Option.bind_some] at h2
  split at h2
  · rename_i cs t fr hc
    refine ⟨t, fr, ?_⟩
    rw [hc, Option.some.inj h2]
    simp [u32s]
  · cases h2

set_option maxRecDepth 100000 in
theorem gmeets_contract (H : Type) (enc : TypeId × Value → H) (W : World) (base : Nat) (args : Array Value) (ds gs : List (DataW H)) (before : List MemPlace)
    (hval : ∀ (j : Nat) t v, Tryd.f10.params[j]? = some t → args[j]? = some v → Value.okWide Tryd.prog W .any base t v)
    (hW : DataW.Whole enc Tryd.prog Tryd.f10.params.toList Rows.gleanMeetsSpec.vars false W args.toList ds gs before) (hL : laidMetH Tryd.prog Rows.gleanMeetsRow.laid W) :
    Calls Tryd.prog 10 args W fun e W' => ∃ v, e = .returned v ∧ Rows.gleanMeetsSpec.post enc Tryd.prog Tryd.f10 false true false false W args v W' := by
  have hW' := hW
  have hlt := hW.lt
  obtain ⟨p, q, hA0, hV, rfl, hfz, hnd⟩ := hW
  have hA : DataW.TrodAll enc Tryd.prog W 0 (fun _ => true) true Tryd.f10.params.toList args.toList ds p := hA0
  rw [Tryd.params10] at hA hval
  obtain ⟨v0, vs0, d0, ds0, p0, q0, hargs, rfl, rfl, h0, r0⟩ := trodAll_cons hA
  obtain ⟨v1, vs1, d1, ds1, p1, q1, rfl, rfl, rfl, h1, r1⟩ := trodAll_cons r0
  obtain ⟨rfl, rfl, rfl⟩ := trodAll_nil r1
  obtain rfl : args = #[v0, v1] := by cases args; simp_all
  obtain ⟨rfl, rfl⟩ := trodVars_none hV
  obtain ⟨A0, c0, l0, rfl, hs0, hm0⟩ := open_recs (hval 0 22 v0 rfl rfl) h0 (fun x hx => hlt x (by simp [hx]))
  obtain ⟨A1, c1, l1, rfl, hs1, hm1⟩ := open_recs (hval 1 22 v1 rfl rfl) h1 (fun x hx => hlt x (by simp [hx]))
  clear hA0
  simp only [List.append_nil] at hW'
  refine (gmeets_any A0 c0 l0 A1 c1 l1 W hs0 hm0.1 hm0.2.1 hm0.2.2 hs1 hm1.1 hm1.2.1 hm1.2.2 (gmeets_tab hL)).mono fun e W' ⟨he, hg⟩ => ?_
  subst he
  exact ⟨_, rfl, done_true (tb := 4) hW' rfl rfl laidOut (by kernel_rfl) rfl Tryd.underlying4 hg⟩

/-- a world for the witness: the settled one, the table's block holding what its initialiser lays -/
noncomputable def gmeets_world (os : Os) : World :=
  { World.holding Tryd.prog os ⟨#[], #[], []⟩ with heap := (World.holding Tryd.prog os ⟨#[], #[], []⟩).heap.modify 0 fun
      | .cells _ t frozen => .cells (u32s Sha.words).toArray t frozen
      | o => o }
theorem gmeets_laid (os : Os) : laidMet Tryd.prog Rows.gleanMeetsRow.laid ((gmeets_world os).forCall (fun _ _ => 0) ⟨#[], #[.slice none 0 0, .slice none 0 0], []⟩).memory :=
  laidMet_of_run' 8 (by kernel_rfl) (by kernel_rfl)
theorem gmeets_reads (os : Os) {H : Type} (enc : TypeId × Value → H) : ∃ places, DataW.whole enc Tryd.prog ((gmeets_world os).forCall (fun _ _ => 0) ⟨#[], #[.slice none 0 0, .slice none 0 0], []⟩).memory Tryd.f10.params.toList Rows.gleanMeetsSpec.vars false #[(.slice none 0 0 : Value), (.slice none 0 0 : Value)].toList 8 = some ([.nil, .nil], [], places) :=
  ⟨[], by kernel_rfl⟩

set_option maxRecDepth 100000 in
theorem gmeets_lifted (os : Os) (started : os.Started) (H : Type) (enc : TypeId × Value → H) (F : Stop.Interp) :
    ReturnsInHanded {} Tryd.checked os 10 .any ((OpenSpec.ofChange Rows.gleanMeetsSpec).preRow enc Tryd.prog Tryd.f10 Rows.gleanMeetsRow.domain false Rows.gleanMeetsRow.laid) (((OpenSpec.ofChange Rows.gleanMeetsSpec).at F).post enc Tryd.prog Tryd.f10 false true false false) := by
  obtain ⟨places, hx⟩ := gmeets_reads os enc
  refine returnsInHanded_of_row (C := Tryd.checked) (s := OpenSpec.ofChange Rows.gleanMeetsSpec) own started (by kernel_rfl) Tryd.func10
    (witness_row_at (enc := enc) (C := Tryd.checked) false (gmeets_world os) #[.slice none 0 0, .slice none 0 0] rfl (by kernel_rfl) (by kernel_rfl) (by kernel_rfl)
      (OpenSpec.preRow_of_cond 8 hx (by kernel_rfl) (fun k hk => by cases hk) (by kernel_rfl) (gmeets_laid os))) ?_
  intro W base args ds gs before hval hW _ _ _ hL _ _
  exact gmeets_contract H enc W base args ds gs before hval hW hL

theorem gmeets_said : Rows.GleanMeetsSaid :=
  OpenClaim.holds_of_cond 10 Tryd.f10 rfl rfl rfl rfl rfl rfl rfl ⟨rfl, rfl, rfl, rfl, rfl⟩ rfl rfl rfl rfl rfl (by kernel_rfl) Tryd.func10 (by kernel_rfl)
    (of_decide_eq_true (by kernel_rfl)) (by unfold Func.isWrapper; first | (rw [if_pos (by decide +kernel)]; kernel_rfl) | (rw [if_neg (by decide +kernel)]; exact ⟨rfl, rfl⟩))
    (fun os started H enc _ F => by rw [OpenClaim.pre_eq_preRow]; exact gmeets_lifted os started H enc F)

theorem gmeets_plain (f : FuncId) (fn : Func) (hf : Tryd.pinned.checked.prog.funcNamed "apiary/apiarylaw16.GleanMeets" = some f) (hfn : Tryd.pinned.checked.prog.funcs[f]? = some fn) :
    false = Tryd.pinned.checked.prog.looks [] ∧ ∀ (j : Nat) t, fn.params[j]? = some t → Tryd.pinned.checked.prog.wantsStandIn t = false := by
  obtain rfl : f = 10 := Option.some.inj ((show Tryd.prog.funcNamed "apiary/apiarylaw16.GleanMeets" = some 10 by kernel_rfl).symm.trans hf) |>.symm
  obtain rfl : fn = Tryd.f10 := (Option.some.inj (Tryd.func10.symm.trans hfn)).symm
  refine ⟨by kernel_rfl, fun j t ht => ?_⟩
  rw [Tryd.params10] at ht
  have ht' := Array.mem_of_getElem? ht
  simp only [List.mem_toArray, List.mem_cons, List.not_mem_nil, or_false, or_self] at ht'
  subst ht'
  exact (show Tryd.prog.wantsStandIn 22 = false by kernel_rfl)

theorem gmeets_card : Rows.GleanMeetsCardSaid :=
  Claim7.holds_tied_plain_at .later [] _ _ _ _ gmeets_said (fun _ h => by cases h) (by kernel_rfl) (fun _ h => by cases h) gleanMeets_row_tie rfl ⟨rfl, rfl⟩ (by kernel_rfl) rfl gmeets_plain (by kernel_rfl)
end Go.Proofs.YtefbllhpibfojaaDoor
