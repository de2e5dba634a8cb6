/- Rows of layer 13: arrays of one-cell things, opened. -/
import Derived.Test.YtdfeiajdmmlllaaDoorRingR
import Derived.Test.YtdfeiajdmmlllaaDoorRingNe
namespace Go.Proofs.YtdfeiajdmmlllaaDoor
open Go.ChangeShapes Go.WideShapes Go.ChangeAt Go.RowKit

section
variable {H : Type} {enc : TypeId × Value → H}
set_option maxRecDepth 100000 in
/-- an array of one-cell things, opened -/
theorem open_arr1 {α : Type} (en : α → Value) (Pr : α → Prop) (z : α) {n : Nat} {t e : TypeId} {W : World} {b0 b1 : Nat} {sp : Nat → Bool} {held : Bool} {v : Value} {d : DataW H} {ps : List MemPlace} (ht : Tryd.prog.underlying t = some (.array n e)) (hce : Tryd.prog.cellsOf e = 1)
    (hct : Tryd.prog.cellsOf t = n) (each' : ∀ (m : Nat) (cs : List Value) (x : DataW H × List MemPlace), DataW.trod enc Tryd.prog W b0 sp held m e cs = some x → ∃ a : α, cs = [en a] ∧ Pr a)
    (hok : Value.okWide Tryd.prog W .any b1 t v) (h : DataW.Trod enc Tryd.prog W b0 sp held t v d ps) : ∃ a : List α, v = .agg (a.map en).toArray ∧ a.length = n ∧ ∀ x ∈ a, Pr x := by
  simp only [Value.okWide, ht] at hok
  obtain ⟨cs, rfl, hsz, _⟩ := hok
  obtain ⟨fuel, hf⟩ := h
  obtain ⟨xs, m, _, _, hl, hxl, hx⟩ := DataW.trod_array ht hf
  simp only [Value.cells] at hl hx
  rw [hct] at hl
  have each : ∀ i (hi : i < n), ∃ b : α, cs.toList[i]? = some (en b) ∧ Pr b := by
    intro i hi
    have h1 := hx i hi
    rw [hce, Nat.mul_one, List.getElem?_eq_getElem (by omega)] at h1
    obtain ⟨k, hk, hw⟩ := each' _ _ _ h1
    refine ⟨k, ?_, hw⟩
    have hi2 : i < cs.toList.length := by omega
    rw [List.drop_eq_getElem_cons hi2, List.take_succ_cons, List.take_zero] at hk
    rw [List.getElem?_eq_getElem hi2, List.head_eq_of_cons_eq hk]
  have hex : ∃ a : List α, a.length = n ∧ ∀ i (hi : i < a.length), cs.toList[i]? = some (en a[i]) ∧ Pr a[i] := by
    refine ⟨(List.range n).map fun i => if h : i < n then (each i h).choose else z, by simp, fun i hi => ?_⟩
    have hin : i < n := by simpa using hi
    have := (each i hin).choose_spec
    simpa [hin] using this
  obtain ⟨a, ha, hc⟩ := hex
  refine ⟨a, ?_, ha, fun x hx => ?_⟩
  · refine congrArg Value.agg (Array.ext' (List.ext_getElem? fun i => ?_))
    by_cases hi : i < a.length
    · rw [(hc i hi).1]
      simp [hi]
    · rw [List.getElem?_eq_none (by omega), List.getElem?_eq_none (by simp; omega)]
  · obtain ⟨i, hi, rfl⟩ := List.getElem_of_mem hx
    exact (hc i hi).2
theorem cellsBool : Tryd.prog.cellsOf 4 = 1 := by kernel_rfl
set_option maxRecDepth 100000 in
theorem open_bools {W : World} {b0 b1 : Nat} {sp : Nat → Bool} {held : Bool} {v : Value} {d : DataW H} {ps : List MemPlace} (hok : Value.okWide Tryd.prog W .any b1 37 v) (h : DataW.Trod enc Tryd.prog W b0 sp held 37 v d ps) :
    ∃ u : List Bool, v = .agg (bls u).toArray ∧ u.length = 6 := by
  obtain ⟨a, h1, h2, _⟩ := open_arr1 Value.bool (fun _ => True) false Tryd.underlying37 cellsBool (by kernel_rfl) (fun m cs x hx => by
    obtain ⟨b, hb, _⟩ := DataW.trod_bool Tryd.underlying4 hx
    exact ⟨b, hb, trivial⟩) hok h
  exact ⟨a, h1, h2⟩
set_option maxRecDepth 100000 in
theorem open_int2 {W : World} {b0 b1 : Nat} {sp : Nat → Bool} {held : Bool} {v : Value} {d : DataW H} {ps : List MemPlace} (hok : Value.okWide Tryd.prog W .any b1 25 v) (h : DataW.Trod enc Tryd.prog W b0 sp held 25 v d ps) :
    ∃ p q : Int, v = .agg #[.int .i64 p, .int .i64 q] ∧ (Lit.int .i64 p).wf = true ∧ (Lit.int .i64 q).wf = true := by
  obtain ⟨a, h1, h2, h3⟩ := open_arr1 (Value.int .i64) (fun n => (Lit.int .i64 n).wf = true) 0 Tryd.underlying25 cellsInt (by kernel_rfl) (fun m cs x hx => by
    obtain ⟨n, hn, _, hw⟩ := DataW.trod_int Tryd.underlying3 hx
    exact ⟨n, hn, hw⟩) hok h
  match a, h2, h3 with
  | [p, q], _, h3 => exact ⟨p, q, h1, h3 p (by simp), h3 q (by simp)⟩
end
end Go.Proofs.YtdfeiajdmmlllaaDoor
