/- RingExact: for every digest, every row of integers and every two integers, in every world whose table stamp.words holds what its initialiser lays, apiarylaw13.RingExact returns true, and the arguments read as before. -/
import Derived.Test.YtdfeiajdmmlllaaDoorRingR
import Derived.Test.YtdfeiajdmmlllaaDoorRingNe
import Derived.Test.YtdfeiajdmmlllaaDoorRingExM
import Derived.Test.YtdfeiajdmmlllaaDoorRowLib
import Derived.Test.YtdfeiajdmmlllaaDoorCards
import Derived.Test.YtdfeiajdmmlllaaDoorTie
namespace Go.Proofs.YtdfeiajdmmlllaaDoor
open Go.ChangeShapes Go.WideShapes Go.ChangeAt Go.RowKit

section
variable {H : Type} {enc : TypeId × Value → H}
set_option maxRecDepth 100000 in
/-- an array of one-cell things, opened -/
theorem open_arr1 {α : Type} (en : α → Value) (Pr : α → Prop) (z : α) {n : Nat} {t e : TypeId} {W : World} {b0 b1 : Nat} {sp : Nat → Bool} {held : Bool} {v : Value} {d : DataW H} {ps : List MemPlace} (ht : Tryd.prog.underlying t = some (.array n e)) (hce : Tryd.prog.cellsOf e = 1)
    (hct : Tryd.prog.cellsOf t = n) (each' : ∀ (m : Nat) (cs : List Value) (x : DataW H × List MemPlace), DataW.trod enc Tryd.prog W b0 sp held m e cs = some x → ∃ a : α, cs = [en a] ∧ Pr a)
    (hok : Value.okWide Tryd.prog W .any b1 t v) (h : DataW.Trod enc Tryd.prog W b0 sp held t v d ps) : ∃ a : List α, v = .agg (a.map en).toArray ∧ a.length = n ∧ ∀ x ∈ a, Pr x := by
  simp only [Value.okWide, ht] at hok
  obtain ⟨cs, rfl, hsz, _⟩ := hok
  obtain ⟨fuel, hf⟩ := h
  obtain ⟨xs, m, _, _, hl, hxl, hx⟩ := DataW.trod_array ht hf
  simp only [Value.cells] at hl hx
  rw [hct] at hl
  have each : ∀ i (hi : i < n), ∃ b : α, cs.toList[i]? = some (en b) ∧ Pr b := by
    intro i hi
    have h1 := hx i hi
    rw [hce, Nat.mul_one, List.getElem?_eq_getElem (by omega)] at h1
    obtain ⟨k, hk, hw⟩ := each' _ _ _ h1
    refine ⟨k, ?_, hw⟩
    have hi2 : i < cs.toList.length := by omega
    rw [List.drop_eq_getElem_cons hi2, List.take_succ_cons, List.take_zero] at hk
    rw [List.getElem?_eq_getElem hi2, List.head_eq_of_cons_eq hk]
  have hex : ∃ a : List α, a.length = n ∧ ∀ i (hi : i < a.length), cs.toList[i]? = some (en a[i]) ∧ Pr a[i] := by
    refine ⟨(List.range n).map fun i => if h : i < n then (each i h).choose else z, by simp, fun i hi => ?_⟩
    have hin : i < n := by simpa using hi
    have := (each i hin).choose_spec
    simpa [hin] using this
  obtain ⟨a, ha, hc⟩ := hex
  refine ⟨a, ?_, ha, fun x hx => ?_⟩
  · refine congrArg Value.agg (Array.ext' (List.ext_getElem? fun i => ?_))
    by_cases hi : i < a.length
    · rw [(hc i hi).1]
      simp [hi]
    · rw [List.getElem?_eq_none (by omega), List.getElem?_eq_none (by simp; omega)]
  · obtain ⟨i, hi, rfl⟩ := List.getElem_of_mem hx
    exact (hc i hi).2
theorem cellsBool : Tryd.prog.cellsOf 4 = 1 := by kernel_rfl
set_option maxRecDepth 100000 in
theorem open_bools {W : World} {b0 b1 : Nat} {sp : Nat → Bool} {held : Bool} {v : Value} {d : DataW H} {ps : List MemPlace} (hok : Value.okWide Tryd.prog W .any b1 37 v) (h : DataW.Trod enc Tryd.prog W b0 sp held 37 v d ps) :
    ∃ u : List Bool, v = .agg (bls u).toArray ∧ u.length = 6 := by
  obtain ⟨a, h1, h2, _⟩ := open_arr1 Value.bool (fun _ => True) false Tryd.underlying37 cellsBool (by kernel_rfl) (fun m cs x hx => by
    obtain ⟨b, hb, _⟩ := DataW.trod_bool Tryd.underlying4 hx
    exact ⟨b, hb, trivial⟩) hok h
  exact ⟨a, h1, h2⟩
set_option maxRecDepth 100000 in
theorem open_int2 {W : World} {b0 b1 : Nat} {sp : Nat → Bool} {held : Bool} {v : Value} {d : DataW H} {ps : List MemPlace} (hok : Value.okWide Tryd.prog W .any b1 25 v) (h : DataW.Trod enc Tryd.prog W b0 sp held 25 v d ps) :
    ∃ p q : Int, v = .agg #[.int .i64 p, .int .i64 q] ∧ (Lit.int .i64 p).wf = true ∧ (Lit.int .i64 q).wf = true := by
  obtain ⟨a, h1, h2, h3⟩ := open_arr1 (Value.int .i64) (fun n => (Lit.int .i64 n).wf = true) 0 Tryd.underlying25 cellsInt (by kernel_rfl) (fun m cs x hx => by
    obtain ⟨n, hn, _, hw⟩ := DataW.trod_int Tryd.underlying3 hx
    exact ⟨n, hn, hw⟩) hok h
  match a, h2, h3 with
  | [p, q], _, h3 => exact ⟨p, q, h1, h3 p (by simp), h3 q (by simp)⟩
end
end Go.Proofs.YtdfeiajdmmlllaaDoor
namespace Go.Proofs.YtdfeiajdmmlllaaDoor
open Go.ChangeShapes Go.WideShapes Go.ChangeAt Go.RowKit

theorem rexact_tab {W : World} (h : laidMetH Tryd.prog [("apiary/stamp.words", Rows.laid_apiary_stamp_words)] W) : Tab W 0 (u32s Sha.words) := by
  have hd : (Rows.laid_apiary_stamp_words : DataW Unit) = Lib.tabData .u32 (Sha.words.map fun (n : Nat) => (n : Int)) := by kernel_rfl
  have h1 : laidMet Tryd.prog [("apiary/stamp.words", (Rows.laid_apiary_stamp_words : DataW Unit))] W := h
  rw [hd] at h1
  have h2 := Lib.tabIs_of_head (rest := []) gTab gTabType Tryd.underlying81 Tryd.underlying79 cellsU32 cellsTab h1
  unfold Lib.TabIs World.var? at h2
  rw [gTab, Option.bind_some] at h2
  split at h2
  · rename_i cs t fr hc
    refine ⟨t, fr, ?_⟩
    rw [hc, Option.some.inj h2]
    simp [u32s]
  · cases h2

set_option maxRecDepth 100000 in
theorem rexact_contract (H : Type) (enc : TypeId × Value → H) (W : World) (base : Nat) (args : Array Value) (ds gs : List (DataW H)) (before : List MemPlace)
    (hval : ∀ (j : Nat) t v, Tryd.f3.params[j]? = some t → args[j]? = some v → Value.okWide Tryd.prog W .any base t v)
    (hW : DataW.Whole enc Tryd.prog Tryd.f3.params.toList Rows.ringExactSpec.vars false W args.toList ds gs before) (hL : laidMetH Tryd.prog Rows.ringExactRow.laid W) :
    Calls Tryd.prog 3 args W fun e W' => ∃ v, e = .returned v ∧ Rows.ringExactSpec.post enc Tryd.prog Tryd.f3 false true false false W args v W' := by
  have hW' := hW
  have hlt := hW.lt
  obtain ⟨p, q, hA0, hV, rfl, hfz, hnd⟩ := hW
  have hA : DataW.TrodAll enc Tryd.prog W 0 (fun _ => true) true Tryd.f3.params.toList args.toList ds p := hA0
  rw [Tryd.params3] at hA hval
  obtain ⟨v0, vs0, d0, ds0, p0, q0, hargs, rfl, rfl, h0, r0⟩ := trodAll_cons hA
  obtain ⟨v1, vs1, d1, ds1, p1, q1, rfl, rfl, rfl, h1, r1⟩ := trodAll_cons r0
  obtain ⟨v2, vs2, d2, ds2, p2, q2, rfl, rfl, rfl, h2, r2⟩ := trodAll_cons r1
  obtain ⟨rfl, rfl, rfl⟩ := trodAll_nil r2
  obtain rfl : args = #[v0, v1, v2] := by cases args; simp_all
  obtain ⟨rfl, rfl⟩ := trodVars_none hV
  obtain ⟨a0, rfl, hl0⟩ := open_bytes Tryd.underlying23 Tryd.underlying5 (by kernel_rfl) (by kernel_rfl) (hval 0 23 v0 rfl rfl) h0
  obtain ⟨A1, c1, l1, rfl, hs1, hm1⟩ := open_intsN (hval 1 24 v1 rfl rfl) h1 (fun x hx => hlt x (by simp [hx]))
  obtain ⟨p2, q2, rfl, hp2, hq2⟩ := open_int2 (hval 2 25 v2 rfl rfl) h2
  clear hA0
  simp only [List.append_nil] at hW'
  refine (rexact_any a0 hl0 A1 c1 l1 p2 q2 W hs1 hm1.1 hm1.2.1 hm1.2.2 hp2 hq2 (rexact_tab hL)).mono fun e W' ⟨he, hg⟩ => ?_
  subst he
  exact ⟨_, rfl, done_true (tb := 4) hW' rfl rfl laidOut (by kernel_rfl) rfl Tryd.underlying4 hg⟩

/-- a world for the witness: the settled one, the table's block holding what its initialiser lays -/
noncomputable def rexact_world (os : Os) : World :=
  { World.holding Tryd.prog os ⟨#[], #[], []⟩ with heap := (World.holding Tryd.prog os ⟨#[], #[], []⟩).heap.modify 0 fun
      | .cells _ t frozen => .cells (u32s Sha.words).toArray t frozen
      | o => o }
theorem rexact_laid (os : Os) : laidMet Tryd.prog Rows.ringExactRow.laid ((rexact_world os).forCall (fun _ _ => 0) ⟨#[], #[Value.agg (List.replicate 32 (Value.int IntKind.u8 0)).toArray, .slice none 0 0, Value.agg #[Value.int .i64 0, Value.int .i64 0]], []⟩).memory :=
  laidMet_of_run' 8 (by kernel_rfl) (by kernel_rfl)
theorem rexact_reads (os : Os) {H : Type} (enc : TypeId × Value → H) : ∃ places, DataW.whole enc Tryd.prog ((rexact_world os).forCall (fun _ _ => 0) ⟨#[], #[Value.agg (List.replicate 32 (Value.int IntKind.u8 0)).toArray, .slice none 0 0, Value.agg #[Value.int .i64 0, Value.int .i64 0]], []⟩).memory Tryd.f3.params.toList Rows.ringExactSpec.vars false #[(Value.agg (List.replicate 32 (Value.int IntKind.u8 0)).toArray : Value), (.slice none 0 0 : Value), (Value.agg #[Value.int .i64 0, Value.int .i64 0] : Value)].toList 8 = some ([.agg (List.replicate 32 (.lit (.int .u8 0))), .nil, .agg (List.replicate 2 (.lit (.int .i64 0)))], [], places) :=
  ⟨[], by kernel_rfl⟩

set_option maxRecDepth 100000 in
theorem rexact_lifted (os : Os) (started : os.Started) (H : Type) (enc : TypeId × Value → H) (F : Stop.Interp) :
    ReturnsInHanded {} Tryd.checked os 3 .any ((OpenSpec.ofChange Rows.ringExactSpec).preRow enc Tryd.prog Tryd.f3 Rows.ringExactRow.domain false Rows.ringExactRow.laid) (((OpenSpec.ofChange Rows.ringExactSpec).at F).post enc Tryd.prog Tryd.f3 false true false false) := by
  obtain ⟨places, hx⟩ := rexact_reads os enc
  refine returnsInHanded_of_row (C := Tryd.checked) (s := OpenSpec.ofChange Rows.ringExactSpec) own started (by kernel_rfl) Tryd.func3
    (witness_row_at (enc := enc) (C := Tryd.checked) false (rexact_world os) #[Value.agg (List.replicate 32 (Value.int IntKind.u8 0)).toArray, .slice none 0 0, Value.agg #[Value.int .i64 0, Value.int .i64 0]] rfl (by kernel_rfl) (by kernel_rfl) (by kernel_rfl)
      (OpenSpec.preRow_of_cond 8 hx (by kernel_rfl) (fun k hk => by cases hk) (by kernel_rfl) (rexact_laid os))) ?_
  intro W base args ds gs before hval hW _ _ _ hL _ _
  exact rexact_contract H enc W base args ds gs before hval hW hL

theorem rexact_said : Rows.RingExactSaid :=
  OpenClaim.holds_of_cond 3 Tryd.f3 rfl rfl rfl rfl rfl rfl rfl ⟨rfl, rfl, rfl, rfl, rfl⟩ rfl rfl rfl rfl rfl (by kernel_rfl) Tryd.func3 (by kernel_rfl)
    (of_decide_eq_true (by kernel_rfl)) (by unfold Func.isWrapper; first | (rw [if_pos (by decide +kernel)]; kernel_rfl) | (rw [if_neg (by decide +kernel)]; exact ⟨rfl, rfl⟩))
    (fun os started H enc _ F => by rw [OpenClaim.pre_eq_preRow]; exact rexact_lifted os started H enc F)

theorem rexact_plain (f : FuncId) (fn : Func) (hf : Tryd.pinned.checked.prog.funcNamed "apiary/apiarylaw13.RingExact" = some f) (hfn : Tryd.pinned.checked.prog.funcs[f]? = some fn) :
    false = Tryd.pinned.checked.prog.looks [] ∧ ∀ (j : Nat) t, fn.params[j]? = some t → Tryd.pinned.checked.prog.wantsStandIn t = false := by
  obtain rfl : f = 3 := Option.some.inj ((show Tryd.prog.funcNamed "apiary/apiarylaw13.RingExact" = some 3 by kernel_rfl).symm.trans hf) |>.symm
  obtain rfl : fn = Tryd.f3 := (Option.some.inj (Tryd.func3.symm.trans hfn)).symm
  refine ⟨by kernel_rfl, fun j t ht => ?_⟩
  rw [Tryd.params3] at ht
  have ht' := Array.mem_of_getElem? ht
  simp only [List.mem_toArray, List.mem_cons, List.not_mem_nil, or_false] at ht'
  rcases ht' with rfl | rfl | rfl
  · exact (show Tryd.prog.wantsStandIn 23 = false by kernel_rfl)
  · exact (show Tryd.prog.wantsStandIn 24 = false by kernel_rfl)
  · exact (show Tryd.prog.wantsStandIn 25 = false by kernel_rfl)

theorem rexact_card : Rows.RingExactCardSaid :=
  Claim7.holds_tied_plain_at .later [] _ _ _ _ rexact_said (fun _ h => by cases h) (by kernel_rfl) (fun _ h => by cases h) ringExact_row_tie rfl ⟨rfl, rfl⟩ (by kernel_rfl) rfl rexact_plain (by kernel_rfl)
end Go.Proofs.YtdfeiajdmmlllaaDoor
