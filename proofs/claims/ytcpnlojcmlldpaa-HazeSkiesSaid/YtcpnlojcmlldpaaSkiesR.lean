/- HazeSkies' row: a row of calls opened. -/
import Derived.Test.YtcpnlojcmlldpaaSkiesD
import Derived.Test.YtcpnlojcmlldpaaHzR
namespace Go.Proofs.Ytcpnlojcmlldpaa
open Go.ChangeShapes Go.WideShapes Go.ChangeAt Go.RowKit

theorem cut5 {cs : List Value} (h : cs.length = 99) : cs = (cs.drop 0).take 1 ++ ((cs.drop 1).take 1 ++ ((cs.drop 2).take 64 ++ ((cs.drop 66).take 32 ++ (cs.drop 98).take 1))) := by
  have h1 : cs.drop 98 = (cs.drop 98).take 1 := (List.take_of_length_le (by rw [List.length_drop]; omega)).symm
  have h2 : cs.drop 66 = (cs.drop 66).take 32 ++ cs.drop 98 := by
    have := (List.take_append_drop 32 (cs.drop 66)).symm
    rwa [List.drop_drop] at this
  have h3 : cs.drop 2 = (cs.drop 2).take 64 ++ cs.drop 66 := by
    have := (List.take_append_drop 64 (cs.drop 2)).symm
    rwa [List.drop_drop] at this
  have h4 : cs.drop 1 = (cs.drop 1).take 1 ++ cs.drop 2 := by
    have := (List.take_append_drop 1 (cs.drop 1)).symm
    rwa [List.drop_drop] at this
  have h5 : cs.drop 0 = (cs.drop 0).take 1 ++ cs.drop 1 := by
    have := (List.take_append_drop 1 (cs.drop 0)).symm
    rwa [List.drop_drop] at this
  rw [← h1, ← h2, ← h3, ← h4, ← h5]
  rfl
/-- how a call lies -/
theorem act_lies : ∃ f0 f1 f2 f3 f4 : Field, Try.prog.underlying 41 = some (.struct #[f0, f1, f2, f3, f4]) ∧ (f0.type = 3 ∧ f0.offset = 0) ∧ (f1.type = 3 ∧ f1.offset = 1) ∧ (f2.type = 26 ∧ f2.offset = 2) ∧ (f3.type = 23 ∧ f3.offset = 66) ∧ (f4.type = 3 ∧ f4.offset = 98) :=
  ⟨_, _, _, _, _, Try.underlying41, ⟨rfl, rfl⟩, ⟨rfl, rfl⟩, ⟨rfl, rfl⟩, ⟨rfl, rfl⟩, ⟨rfl, rfl⟩⟩
theorem cells_int : Try.prog.cellsOf 3 = 1 := by kernel_rfl
theorem cells_act : Try.prog.cellsOf 41 = 99 := by kernel_rfl
section
variable {H : Type} {enc : TypeId × Value → H}
theorem act_of_trod {W : World} {b0 : Nat} {sp : Nat → Bool} {held : Bool} {n : Nat} {cs : List Value} {x : DataW H × List MemPlace} (h : DataW.trod enc Try.prog W b0 sp held n 41 cs = some x) :
    ∃ m : ActM, cs = actCells m ∧ m.Wf := by
  obtain ⟨f0, f1, f2, f3, f4, hu, ⟨t0, o0⟩, ⟨t1, o1⟩, ⟨t2, o2⟩, ⟨t3, o3⟩, ⟨t4, o4⟩⟩ := act_lies
  obtain ⟨xs, k, _, _, hl, hlen, hf⟩ := DataW.trod_struct hu h
  rw [cells_act] at hl
  match xs, hlen with
  | [y0, y1, y2, y3, y4], _ =>
    have h0 := hf 0 f0 rfl
    have h1 := hf 1 f1 rfl
    have h2 := hf 2 f2 rfl
    have h3 := hf 3 f3 rfl
    have h4 := hf 4 f4 rfl
    rw [t0, o0, cells_int] at h0
    rw [t1, o1, cells_int] at h1
    rw [t2, o2, cells_hz] at h2
    rw [t3, o3, cells_dg] at h3
    rw [t4, o4, cells_int] at h4
    obtain ⟨n0, e0, _, w0⟩ := DataW.trod_int Try.underlying3 h0
    obtain ⟨n1, e1, _, w1⟩ := DataW.trod_int Try.underlying3 h1
    obtain ⟨hh, e2, l2⟩ := bytes_of_trod Try.underlying26 Try.underlying5 cells_u8 cells_hz h2
    obtain ⟨kk, e3, l3⟩ := bytes_of_trod Try.underlying23 Try.underlying5 cells_u8 cells_dg h3
    obtain ⟨n4, e4, _, w4⟩ := DataW.trod_int Try.underlying3 h4
    refine ⟨⟨n0, n1, hh, kk, n4⟩, ?_, l2, l3, bounds_i64 w1⟩
    rw [cut5 hl, e0, e1, e2, e3, e4]
    rfl
theorem acts_of_trod {W : World} {n : Nat} {cs : List Value} {x : DataW H × List MemPlace} (h : DataW.trod enc Try.prog W 0 (fun _ => true) true n 31 cs = some x)
    (hlt : ∀ p ∈ x.2, p.block < W.heap.size) : ∃ (A : Option Addr) (c : Nat) (l : List ActM), cs = [.slice A l.length c] ∧ ActsIn W A l ∧ (∀ m ∈ l, m.Wf) ∧ l.length ≤ c ∧ c ≤ maxLen ∧ (A = none → c = 0) := by
  rcases Go.Deep.open_slice Try.underlying31 h with ⟨rfl, _⟩ | ⟨a, len, cap, m, n, D, Pl, rfl, _, hl, hm, hmm, rfl, hx⟩
  · exact ⟨none, 0, [], rfl, fun h => absurd h (by simp), fun m hm => by simp at hm, by simp, by simp, fun _ => rfl⟩
  · rw [cells_act] at hx hlt
    simp only [if_true] at hmm
    subst hmm
    have each : ∀ i, i < m → ∃ y : ActM, W.cells? 0 (a.add (i * 99)) 99 = some (actCells y) ∧ y.Wf := by
      intro i hi
      obtain ⟨cs', h1, h2⟩ := hx i hi
      obtain ⟨y, rfl, hy⟩ := act_of_trod h2
      exact ⟨y, h1, hy⟩
    obtain ⟨l, hll, hle⟩ : ∃ l : List ActM, l.length = len ∧ ∀ i (h : i < l.length), W.cells? 0 (a.add (i * 99)) 99 = some (actCells l[i]) ∧ l[i].Wf := by
      refine ⟨(List.range len).map fun i => if h : i < m then (each i h).choose else zAct, by simp, fun i hi => ?_⟩
      have hin : i < len := by simpa using hi
      have hi' : i < m := by omega
      have := (each i hi').choose_spec
      simpa [hi'] using this
    refine ⟨some a, m, l, by rw [hll], fun h0 => ?_, fun y hy => ?_, by omega, hm, fun h => by cases h⟩
    · have hs := World.cells?_some (hle 0 h0).1
      have hs0 := hs.2.2 0 (by omega)
      rw [Nat.zero_mul] at hs0
      have hz : (a.add 0).add 0 = a := rfl
      rw [hz] at hs0
      have hsp : a.spot = none := World.cell?_spot (v := .int .i64 l[0].kind) (by rw [hs0]; rfl)
      obtain ⟨g, off, sp⟩ := a
      simp only at hsp
      subst hsp
      refine ⟨g, off, rfl, ?_, fun i hi j v hv => ?_⟩
      · have hp : MemPlace.cell g (off + 0) ∈ MemPlace.row ⟨g, off, none⟩ (m * 99) := MemPlace.mem_row.2 ⟨0, by omega, rfl⟩
        exact hlt _ (List.mem_append_left _ hp)
      · have hj : j < 99 := by
          have := (List.getElem?_eq_some_iff.1 hv).1
          rwa [actCells_len (hle i hi).2] at this
        have hc := (World.cells?_some (hle i hi).1).2.2 j hj
        rw [hv, Go.Deep.add_add] at hc
        have e : (⟨g, off, none⟩ : Addr).add (i * 99 + j) = ⟨g, off + i * 99 + j, none⟩ := by
          unfold Addr.add
          split
          · rename_i h0
            have : i * 99 = 0 := by omega
            have : j = 0 := by omega
            simp_all
          · simp [Nat.add_assoc]
        rw [e] at hc
        exact hc
    · obtain ⟨i, hi, rfl⟩ := List.mem_iff_getElem.1 hy
      exact (hle i hi).2
theorem open_acts {W : World} {b1 : Nat} {v : Value} {d : DataW H} {ps : List MemPlace}
    (hok : Value.okWide Try.prog W .any b1 31 v) (h : DataW.Trod enc Try.prog W 0 (fun _ => true) true 31 v d ps) (hlt : ∀ p ∈ ps, p.block < W.heap.size) :
    ∃ (A : Option Addr) (c : Nat) (l : List ActM), v = .slice A l.length c ∧ ActsIn W A l ∧ (∀ m ∈ l, m.Wf) ∧ l.length ≤ c ∧ c ≤ maxLen ∧ (A = none → c = 0) := by
  obtain ⟨a0, len, cap, rfl⟩ := Go.WideShapes.okWide_slice Try.underlying31 hok
  obtain ⟨fuel, hf⟩ := h
  obtain ⟨A, c, l, hc, h1, h2, h3', h4, h5⟩ := acts_of_trod hf hlt
  simp only [Value.cells, List.cons.injEq, and_true] at hc
  exact ⟨A, c, l, hc, h1, h2, h3', h4, h5⟩
end
end Go.Proofs.Ytcpnlojcmlldpaa
