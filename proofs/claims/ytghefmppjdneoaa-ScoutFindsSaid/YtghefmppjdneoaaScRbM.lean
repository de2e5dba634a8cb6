/- Rows of layer 12: six booleans, opened. -/
import Derived.Test.YtghefmppjdneoaaScRwM
import Derived.Test.YtghefmppjdneoaaFinWM
namespace Go.Proofs.Ytghefmppjdneoaa
open Go.ChangeShapes Go.WideShapes Go.ChangeAt Go.RowKit

theorem cells_bool : Try.prog.cellsOf 4 = 1 := by kernel_rfl
theorem cells_b6 : Try.prog.cellsOf 22 = 6 := by kernel_rfl
section
variable {H : Type} {enc : TypeId × Value → H}
set_option maxRecDepth 100000 in
theorem open_quiet {W : World} {b0 b1 : Nat} {sp : Nat → Bool} {held : Bool} {v : Value} {d : DataW H} {ps : List MemPlace} (hok : Value.okWide Try.prog W .any b1 22 v) (h : DataW.Trod enc Try.prog W b0 sp held 22 v d ps) : ∃ q : Nat → Bool, v = .agg (quV q).toArray := by
  simp only [Value.okWide, Try.underlying22] at hok
  obtain ⟨cs, rfl, hsz, _⟩ := hok
  obtain ⟨fuel, hf⟩ := h
  obtain ⟨xs, m, _, _, hl, hxl, hx⟩ := DataW.trod_array Try.underlying22 hf
  rw [cells_b6] at hl
  have each : ∀ i (hi : i < 6), ∃ b : Bool, cs.toList[i]? = some (.bool b) := by
    intro i hi
    have h1 := hx i hi
    rw [cells_bool, Nat.mul_one, List.getElem?_eq_getElem (by omega)] at h1
    obtain ⟨b, hb, _⟩ := DataW.trod_bool Try.underlying4 h1
    refine ⟨b, ?_⟩
    have : ((cs.toList.drop i).take 1)[0]? = some (.bool b) := by
      rw [show (cs.toList.drop i).take 1 = [.bool b] from hb]
      rfl
    rw [List.getElem?_take, if_pos Nat.zero_lt_one, List.getElem?_drop] at this
    exact this
  obtain ⟨q, hq⟩ : ∃ q : Nat → Bool, ∀ i, i < 6 → cs.toList[i]? = some (.bool (q i)) := ⟨fun i => if hi : i < 6 then (each i hi).choose else false, fun i hi => by
    have := (each i hi).choose_spec
    simpa [hi] using this⟩
  have e : cs.toList = quV q := by
    apply List.ext_getElem?
    intro i
    by_cases hi : i < 6
    · rw [quV_at _ hi, hq i hi]
    · have hl : cs.toList.length = 6 := hl
      rw [List.getElem?_eq_none (by omega), List.getElem?_eq_none (by unfold quV; simp; omega)]
  refine ⟨q, ?_⟩
  congr 1
  apply Array.ext'
  rw [e, List.toList_toArray]
end
theorem sfinds_any (n : Int) (q : Nat → Bool) (A : Option Addr) (c : Nat) (l : List Int) (w : World) (_hn : -9223372036854775808 ≤ n ∧ n ≤ 9223372036854775807) (hl : DRow w A l) :
    Calls Try.prog 3 #[.int .i64 n, .agg (quV q).toArray, .slice A l.length c] w fun e w' => e = .returned (.bool true) ∧ Below w.heap.size w w' := finds_walk n q A c l w hl
end Go.Proofs.Ytghefmppjdneoaa
