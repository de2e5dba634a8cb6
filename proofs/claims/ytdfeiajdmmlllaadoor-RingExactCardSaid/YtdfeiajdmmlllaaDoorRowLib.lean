/- Rows and cards: what every statement's row of this seat shares: arguments opened, the last step, the world of the witness. -/
import Derived.Test.YtdfeiajdmmlllaaDoorLibC
import Derived.Test.YtdfeiajdmmlllaaDoorStampD
import Derived.WalkKit
import Derived.ProofKit
import Derived.OpenShut
import Derived.Carry
import Derived.SliceStrings
import Derived.Deep.DeepHandedRow
import Derived.Lib.LaidTab
namespace Go.Proofs.YtdfeiajdmmlllaaDoor
open Go.ChangeShapes Go.WideShapes Go.ChangeAt Go.RowKit

theorem own : ownKnob Tryd.prog.godebug = none := by kernel_rfl
theorem laidOut : laidOutB Tryd.prog = true := by kernel_rfl
theorem gTab : Tryd.prog.globalNamed "apiary/stamp.words" = some 0 := by kernel_rfl
theorem gTabType : (Tryd.prog.globals[0]?).map (·.type) = some 81 := by kernel_rfl
theorem cellsTab : Tryd.prog.cellsOf 81 = 64 := by kernel_rfl
theorem cellsU32 : Tryd.prog.cellsOf 79 = 1 := by kernel_rfl

section
variable {H : Type} {enc : TypeId × Value → H} {P : Program}
/-- arguments that only were read: they read as before, in a world that has only grown -/
theorem below_trodAll (hl : laidOutB P = true) {W W' : World} (hb : Below W.heap.size W W') : ∀ {ts : List TypeId} {vs : List Value} {ds : List (DataW H)} {ps : List MemPlace},
    ts.all (fun t => P.readableRec t && decide (t < P.types.size)) = true → DataW.TrodAll enc P W 0 (fun _ => true) true ts vs ds ps → (∀ x ∈ ps, x.block < W.heap.size) →
    DataW.TrodAll enc P W' 0 (fun b => decide (b < W.heap.size)) true ts vs ds ps
  | [], vs, ds, ps, _, h, _ => by
    obtain ⟨rfl, rfl, rfl⟩ := trodAll_nil h
    exact trodAll_mk0
  | t :: ts, vs, ds, ps, hr, h, hlt => by
    obtain ⟨v, vs', d, ds', p, q, rfl, rfl, rfl, h0, r0⟩ := trodAll_cons h
    rw [List.all_cons, Bool.and_eq_true, Bool.and_eq_true, decide_eq_true_eq] at hr
    exact trodAll_cons_mk (Below.trod hl hr.1.1 hr.1.2 h0 hb (fun x hx => hlt x (List.mem_append_left _ hx)))
      (below_trodAll hl hb hr.2 r0 (fun x hx => hlt x (List.mem_append_right _ hx)))

/-- the last step of a row that answers true, names no variable, and where only memory has grown -/
theorem done_true {f : Func} {s : ChangeSpec} {W W' : World} {args : Array Value} {ds gs : List (DataW H)} {before : List MemPlace} {tb : TypeId}
    (hW : DataW.Whole enc P f.params.toList s.vars false W args.toList ds gs before) (hv : s.vars = []) (hf : s.fn H (ds ++ gs) = { results := [.lit (.bool true)], args := ds })
    (hl : laidOutB P = true) (hr : f.params.toList.all (fun t => P.readableRec t && decide (t < P.types.size)) = true) (hrt : f.resultTypes = #[tb]) (htb : P.underlying tb = some .bool)
    (hb : Below W.heap.size W W') : s.post enc P f false true false false W args (.bool true) W' := by
  have hlt := hW.lt
  obtain ⟨p, q, hA, hV, rfl, hfz, hnd⟩ := id hW
  have hk : W.keptBut W' (· ∈ ([] : List MemPlace)) := hb.frame _
  refine ⟨ds, gs, p ++ q, [], p, [], hW, ?_, ?_, ?_, World.keptBut_mono (fun p hp => by cases hp) hk, fun h => by cases h⟩
  · rw [hf, hrt]
    exact trodAll_cons_mk (shut_bool htb _) trodAll_mk0
  · rw [hf]
    exact below_trodAll hl hb hr hA (fun x hx => hlt x (List.mem_append_left _ hx))
  · rw [hf, hv]
    rfl

/-- an array of bytes, opened -/
theorem open_bytes {n : Nat} {t e : TypeId} {W : World} {b0 b1 : Nat} {sp : Nat → Bool} {held : Bool} {v : Value} {d : DataW H} {ps : List MemPlace} (ht : P.underlying t = some (.array n e)) (he : P.underlying e = some (.int .u8)) (hce : P.cellsOf e = 1)
    (hct : P.cellsOf t = n) (hok : Value.okWide P W .any b1 t v) (h : DataW.Trod enc P W b0 sp held t v d ps) : ∃ a : List UInt8, v = .agg (u8s a).toArray ∧ a.length = n := by
  simp only [Value.okWide, ht] at hok
  obtain ⟨cs, rfl, hsz, _⟩ := hok
  obtain ⟨fuel, hf⟩ := h
  obtain ⟨xs, m, _, _, hl, hxl, hx⟩ := DataW.trod_array ht hf
  simp only [Value.cells] at hl hx
  rw [hct] at hl
  have each : ∀ i (hi : i < n), ∃ b : UInt8, cs.toList[i]? = some (.int .u8 (b.toNat : Int)) := by
    intro i hi
    have h1 := hx i hi
    rw [hce, Nat.mul_one, List.getElem?_eq_getElem (by omega)] at h1
    obtain ⟨k, hk, _, hw⟩ := DataW.trod_int he h1
    have hb := bounds_u8 hw
    refine ⟨UInt8.ofNat k.toNat, ?_⟩
    have hi2 : i < cs.toList.length := by omega
    rw [List.drop_eq_getElem_cons hi2, List.take_succ_cons, List.take_zero] at hk
    rw [List.getElem?_eq_getElem hi2, List.head_eq_of_cons_eq hk]
    have : (UInt8.ofNat k.toNat).toNat = k.toNat := by simp; omega
    rw [this]
    congr 2
    omega
  have hex : ∃ a : List UInt8, a.length = n ∧ ∀ i (hi : i < a.length), cs.toList[i]? = some (.int .u8 (a[i].toNat : Int)) := by
    refine ⟨(List.range n).map fun i => if h : i < n then (each i h).choose else 0, by simp, fun i hi => ?_⟩
    have hin : i < n := by simpa using hi
    have := (each i hin).choose_spec
    simpa [hin] using this
  obtain ⟨a, ha, hc⟩ := hex
  refine ⟨a, ?_, ha⟩
  congr 1
  apply Array.ext'
  apply List.ext_getElem?
  intro i
  by_cases hi : i < a.length
  · rw [hc i hi]
    simp [u8s, hi]
  · rw [List.getElem?_eq_none (by omega), List.getElem?_eq_none (by simp [u8s]; omega)]
end
end Go.Proofs.YtdfeiajdmmlllaaDoor
