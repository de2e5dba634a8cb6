/- Rows of layer 11 with calls: a row of calls opened. -/
import Derived.Test.YtepnepgjlnoabaaHumV
import Derived.Test.YtepnepgjlnoabaaHumR
namespace Go.Proofs.Ytepnepgjlnoabaa
open Go.ChangeShapes Go.WideShapes Go.ChangeAt Go.RowKit

theorem act_lies : ∃ f0 f1 f2 : Field, Try.prog.underlying 30 = some (.struct #[f0, f1, f2]) ∧ (f0.type = 3 ∧ f0.offset = 0) ∧ (f1.type = 28 ∧ f1.offset = 1) ∧ (f2.type = 3 ∧ f2.offset = 2) :=
  ⟨_, _, _, Try.underlying30, ⟨rfl, rfl⟩, ⟨rfl, rfl⟩, ⟨rfl, rfl⟩⟩
theorem cells_int : Try.prog.cellsOf 3 = 1 := by kernel_rfl
theorem cells_mems : Try.prog.cellsOf 28 = 1 := by kernel_rfl
theorem cells_act : Try.prog.cellsOf 30 = 3 := by kernel_rfl
def zAct : ActM := ⟨0, none, 0, [], 0⟩
section
variable {H : Type} {enc : TypeId × Value → H}
theorem act_of_trod {W : World} {n : Nat} {cs : List Value} {x : DataW H × List MemPlace} (h : DataW.trod enc Try.prog W 0 (fun _ => true) true n 30 cs = some x) (hlt : ∀ p ∈ x.2, p.block < W.heap.size) :
    ∃ m : ActM, cs = actC m ∧ MemsIn W m.A m.l ∧ m.Wf := by
  obtain ⟨f0, f1, f2, hu, ⟨t0, o0⟩, ⟨t1, o1⟩, ⟨t2, o2⟩⟩ := act_lies
  obtain ⟨y0, y1, y2, k, rfl, hl, h0, h1, h2⟩ := Go.Deep.trod_struct3 hu h
  rw [cells_act] at hl
  rw [t0, o0, cells_int] at h0
  rw [t1, o1, cells_mems] at h1
  rw [t2, o2, cells_int] at h2
  obtain ⟨n0, e0, _, w0⟩ := DataW.trod_int Try.underlying3 h0
  obtain ⟨n2, e2, _, w2⟩ := DataW.trod_int Try.underlying3 h2
  obtain ⟨A, c, l, e1, hM, _, hlc, hcm, _⟩ := mems_of_trod Try.underlying28 three h1 (fun p hp => hlt p (List.mem_append_right _ (List.mem_append_left _ hp)))
  match cs, hl with
  | [a, b, d], _ =>
    simp only [List.drop_succ_cons, List.drop_zero, List.take_succ_cons, List.take_zero, List.cons.injEq, and_true] at e0 e1 e2
    subst e0 e1 e2
    exact ⟨⟨n0, A, c, l, n2⟩, rfl, hM, bounds_i64 w0, bounds_i64 w2, hlc, hcm⟩
theorem acts_of_trod {W : World} {n : Nat} {cs : List Value} {x : DataW H × List MemPlace} (h : DataW.trod enc Try.prog W 0 (fun _ => true) true n 22 cs = some x)
    (hlt : ∀ p ∈ x.2, p.block < W.heap.size) : ∃ (A : Option Addr) (c : Nat) (l : List ActM), cs = [.slice A l.length c] ∧ ActsIn W A l ∧ l.length ≤ c ∧ c ≤ maxLen := by
  rcases Go.Deep.open_slice Try.underlying22 h with ⟨rfl, _⟩ | ⟨a, len, cap, m, n, D, Pl, rfl, _, hl, hm, hmm, rfl, hx⟩
  · exact ⟨none, 0, [], rfl, fun h => absurd h (by simp), by simp, by simp⟩
  · rw [cells_act] at hx hlt
    simp only [if_true] at hmm
    subst hmm
    have each : ∀ i, i < m → ∃ y : ActM, W.cells? 0 (a.add (i * 3)) 3 = some (actC y) ∧ MemsIn W y.A y.l ∧ y.Wf := by
      intro i hi
      obtain ⟨cs', h1, h2⟩ := hx i hi
      obtain ⟨y, rfl, hM, hy⟩ := act_of_trod h2 (fun p hp => hlt p (List.mem_append_right _ (List.mem_flatMap.2 ⟨i, List.mem_range.2 hi, hp⟩)))
      exact ⟨y, h1, hM, hy⟩
    obtain ⟨l, hll, hle⟩ : ∃ l : List ActM, l.length = len ∧ ∀ i (h : i < l.length), W.cells? 0 (a.add (i * 3)) 3 = some (actC l[i]) ∧ MemsIn W l[i].A l[i].l ∧ l[i].Wf := by
      refine ⟨(List.range len).map fun i => if h : i < m then (each i h).choose else zAct, by simp, fun i hi => ?_⟩
      have hin : i < len := by simpa using hi
      have hi' : i < m := by omega
      have := (each i hi').choose_spec
      simpa [hi'] using this
    refine ⟨some a, m, l, by rw [hll], fun h0 => ?_, by omega, hm⟩
    have hs := World.cells?_some (hle 0 h0).1
    have hs0 := hs.2.2 0 (by omega)
    rw [Nat.zero_mul] at hs0
    have hz : (a.add 0).add 0 = a := rfl
    rw [hz] at hs0
    have hsp : a.spot = none := World.cell?_spot (v := .int .i64 l[0].kind) (by rw [hs0]; rfl)
    obtain ⟨g, off, sp⟩ := a
    simp only at hsp
    subst hsp
    refine ⟨g, off, rfl, ?_, fun i hi => ⟨fun j v hv => ?_, (hle i hi).2⟩⟩
    · have hp : MemPlace.cell g (off + 0) ∈ MemPlace.row ⟨g, off, none⟩ (m * 3) := MemPlace.mem_row.2 ⟨0, by omega, rfl⟩
      exact hlt _ (List.mem_append_left _ hp)
    · have hj : j < 3 := (List.getElem?_eq_some_iff.1 hv).1
      have hc := (World.cells?_some (hle i hi).1).2.2 j hj
      rw [hv, Go.Deep.add_add] at hc
      have e : (⟨g, off, none⟩ : Addr).add (i * 3 + j) = ⟨g, off + i * 3 + j, none⟩ := by
        unfold Addr.add
        split
        · rename_i h0
          have : i * 3 = 0 := by omega
          have : j = 0 := by omega
          simp_all
        · simp [Nat.add_assoc]
      rw [e] at hc
      exact hc
theorem open_acts {W : World} {b1 : Nat} {v : Value} {d : DataW H} {ps : List MemPlace}
    (hok : Value.okWide Try.prog W .any b1 22 v) (h : DataW.Trod enc Try.prog W 0 (fun _ => true) true 22 v d ps) (hlt : ∀ p ∈ ps, p.block < W.heap.size) :
    ∃ (A : Option Addr) (c : Nat) (l : List ActM), v = .slice A l.length c ∧ ActsIn W A l ∧ l.length ≤ c ∧ c ≤ maxLen := by
  obtain ⟨a0, len, cap, rfl⟩ := Go.WideShapes.okWide_slice Try.underlying22 hok
  obtain ⟨fuel, hf⟩ := h
  obtain ⟨A, c, l, hc, h1, h3, h4⟩ := acts_of_trod hf hlt
  simp only [Value.cells, List.cons.injEq, and_true] at hc
  exact ⟨A, c, l, hc, h1, h3, h4⟩
end
end Go.Proofs.Ytepnepgjlnoabaa
