/- Rows of layer 13: a row of integers opened. -/
import Derived.Test.YtdfeiajdmmlllaaDoorRowLib
import Derived.Test.YtdfeiajdmmlllaaDoorRingI
import Derived.Deep.Slices
import Derived.Deep.Strs
namespace Go.Proofs.YtdfeiajdmmlllaaDoor
open Go.ChangeShapes Go.WideShapes Go.ChangeAt Go.RowKit

theorem cellsInt : Tryd.prog.cellsOf 3 = 1 := by kernel_rfl
section
variable {H : Type} {enc : TypeId × Value → H}
/-- a row of things, opened -/
theorem encs_of_trod {α : Type} {en : α → List Value} {sz : Nat} (hk : ∀ x, (en x).length = sz) {t e : TypeId} (hsz : 0 < sz) (ht : Tryd.prog.underlying t = some (.slice e)) (hce : Tryd.prog.cellsOf e = sz) (z : α)
    (each' : ∀ (W : World) (n : Nat) (cs : List Value) (x : DataW H × List MemPlace), DataW.trod enc Tryd.prog W 0 (fun _ => true) true n e cs = some x → ∃ m : α, cs = en m)
    {W : World} {n : Nat} {cs : List Value} {x : DataW H × List MemPlace} (h : DataW.trod enc Tryd.prog W 0 (fun _ => true) true n t cs = some x)
    (hlt : ∀ p ∈ x.2, p.block < W.heap.size) : ∃ (A : Option Addr) (c : Nat) (l : List α), cs = [.slice A l.length c] ∧ EncIn en sz W A l ∧ l.length ≤ c ∧ c ≤ maxLen ∧ (A = none → c = 0) := by
  rcases Go.Deep.open_slice ht h with ⟨rfl, _⟩ | ⟨a, len, cap, m, n, D, Pl, rfl, _, hl, hm, hmm, rfl, hx⟩
  · exact ⟨none, 0, [], rfl, fun h => absurd h (by simp), by simp, by simp, fun _ => rfl⟩
  · rw [hce] at hx hlt
    simp only [if_true] at hmm
    subst hmm
    have each : ∀ i, i < m → ∃ y : α, W.cells? 0 (a.add (i * sz)) sz = some (en y) := by
      intro i hi
      obtain ⟨cs', h1, h2⟩ := hx i hi
      obtain ⟨y, rfl⟩ := each' _ _ _ _ h2
      exact ⟨y, h1⟩
    obtain ⟨l, hll, hle⟩ : ∃ l : List α, l.length = len ∧ ∀ i (h : i < l.length), W.cells? 0 (a.add (i * sz)) sz = some (en l[i]) := by
      refine ⟨(List.range len).map fun i => if h : i < m then (each i h).choose else z, by simp, fun i hi => ?_⟩
      have hin : i < len := by simpa using hi
      have hi' : i < m := by omega
      have := (each i hi').choose_spec
      simpa [hi'] using this
    refine ⟨some a, m, l, by rw [hll], fun h0 => ?_, by omega, hm, fun h => by cases h⟩
    have hs := World.cells?_some (hle 0 h0)
    have hs0 := hs.2.2 0 hsz
    rw [Nat.zero_mul] at hs0
    have hz : (a.add 0).add 0 = a := rfl
    obtain ⟨v0, hv0⟩ : ∃ v0, (en l[0])[0]? = some v0 := by
      have h0' : 0 < (en l[0]).length := by rw [hk]; exact hsz
      exact ⟨_, List.getElem?_eq_getElem h0'⟩
    rw [hz, hv0] at hs0
    have hsp : a.spot = none := World.cell?_spot hs0
    obtain ⟨g, off, sp⟩ := a
    simp only at hsp
    subst hsp
    refine ⟨g, off, rfl, ?_, fun i hi j v hv => ?_⟩
    · have hp : MemPlace.cell g (off + 0) ∈ MemPlace.row ⟨g, off, none⟩ (m * sz) := MemPlace.mem_row.2 ⟨0, Nat.mul_pos (by omega) hsz, rfl⟩
      exact hlt _ (List.mem_append_left _ hp)
    · have hj : j < sz := by
        have := (List.getElem?_eq_some_iff.1 hv).1
        rwa [hk] at this
      have hc := (World.cells?_some (hle i hi)).2.2 j hj
      rw [hv, Go.Deep.add_add] at hc
      have e : (⟨g, off, none⟩ : Addr).add (i * sz + j) = ⟨g, off + i * sz + j, none⟩ := by
        unfold Addr.add
        split
        · rename_i h0
          have h1 : i * sz = 0 := by omega
          have : j = 0 := by omega
          simp_all
        · simp [Nat.add_assoc]
      rw [e] at hc
      exact hc
theorem int_of_trod {W : World} {b0 : Nat} {sp : Nat → Bool} {held : Bool} {k : Nat} {cs : List Value} {x : DataW H × List MemPlace} (h : DataW.trod enc Tryd.prog W b0 sp held k 3 cs = some x) : ∃ n : Int, cs = encN n := by
  obtain ⟨n, hn, _, _⟩ := DataW.trod_int Tryd.underlying3 h
  exact ⟨n, hn⟩
set_option maxRecDepth 100000 in
theorem open_intsN {W : World} {b1 : Nat} {v : Value} {d : DataW H} {ps : List MemPlace} (hok : Value.okWide Tryd.prog W .any b1 24 v) (h : DataW.Trod enc Tryd.prog W 0 (fun _ => true) true 24 v d ps) (hlt : ∀ p ∈ ps, p.block < W.heap.size) :
    ∃ (A : Option Addr) (c : Nat) (l : List Int), v = .slice A l.length c ∧ EncIn encN 1 W A l ∧ l.length ≤ c ∧ c ≤ maxLen ∧ (A = none → c = 0) := by
  obtain ⟨a0, len, cap, rfl⟩ := Go.WideShapes.okWide_slice Tryd.underlying24 hok
  obtain ⟨fuel, hf⟩ := h
  obtain ⟨A, c, l, hc, h1, h2, h3, h4⟩ := encs_of_trod encN_len (by omega) Tryd.underlying24 cellsInt (0 : Int) (fun W n cs x h => int_of_trod h) hf hlt
  simp only [Value.cells, List.cons.injEq, and_true] at hc
  exact ⟨A, c, l, hc, h1, h2, h3, h4⟩
end
end Go.Proofs.YtdfeiajdmmlllaaDoor
