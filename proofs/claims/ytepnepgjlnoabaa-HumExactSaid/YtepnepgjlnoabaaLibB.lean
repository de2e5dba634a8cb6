/- More general words on memory. -/
import Derived.Test.YtepnepgjlnoabaaLib
namespace Go.Proofs.Ytepnepgjlnoabaa
open Go.RowKit

theorem At.grown {w w' : World} {b : Nat} {t : TypeId} {cs : List Value} {row : Option Nat} (h : At w b t cs) (hg : w.grownBy w' row) (hne : some b ≠ row) : At w' b t cs := (hg.block b h.lt hne).trans h
/-- a variable that reads as these cells, whatever its type and its marks -/
def Tab (w : World) (b : Nat) (cs : List Value) : Prop := ∃ t fr, w.heap[b]? = some (.cells cs.toArray t fr)
section
variable {w w' : World} {b : Nat} {cs : List Value}
theorem Tab.lt (h : Tab w b cs) : b < w.heap.size := by
  obtain ⟨t, fr, h⟩ := h
  by_cases hlt : b < w.heap.size
  · exact hlt
  · rw [Array.getElem?_eq_none (by omega)] at h
    cases h
theorem Tab.cell' (h : Tab w b cs) {i : Nat} {v : Value} (hv : cs[i]? = some v) : w.cell? ⟨b, i, none⟩ = some v := by
  obtain ⟨t, fr, h⟩ := h
  simp [World.cell?, h, hv]
theorem Tab.below {B : Nat} (h : Tab w b cs) (hb : Below B w w') (hlt : b < B) : Tab w' b cs := by
  obtain ⟨t, fr, h⟩ := h
  exact ⟨t, fr, (hb.block b hlt).trans h⟩
theorem Tab.grown {row : Option Nat} (h : Tab w b cs) (hg : w.grownBy w' row) (hne : some b ≠ row) : Tab w' b cs := by
  have hl := h.lt
  obtain ⟨t, fr, h⟩ := h
  exact ⟨t, fr, (hg.block b hl hne).trans h⟩
end
theorem Below.ofGrown {w0 w w' : World} {B : Nat} {row : Nat} (h : Below B w0 w) (hg : w.grownBy w' (some row)) (hB : B ≤ w.heap.size) (hr : B ≤ row) : Below B w0 w' :=
  h.grown hg hB (by intro k hk; injection hk; omega)
theorem grown_setCell {w0 w : World} {g : Nat} (h : w0.grownBy w (some g)) {q : Addr} (hq : q.block = g ∨ w0.heap.size ≤ q.block) (v : Value) : w0.grownBy (w.setCell q v) (some g) :=
  ⟨h.os, h.tape, h.output, by have := h.size; simpa [World.setCell] using this, fun i hi hne => by
    rw [heap_set, if_neg (by
      intro e
      rcases hq with hq | hq
      · exact hne (by rw [← e, hq])
      · omega)]
    exact h.block i hi hne⟩
theorem grown_alloc {w0 w : World} {row : Option Nat} (h : w0.grownBy w row) (o : Obj) : w0.grownBy (w.alloc o) row :=
  ⟨h.os, h.tape, h.output, Nat.le_trans h.size (by simp), fun i hi hne => (Below.heap_alloc w o i (Nat.lt_of_lt_of_le hi h.size)).trans (h.block i hi hne)⟩
theorem grown_drew {w0 w : World} {row : Option Nat} (h : w0.grownBy w row) : w0.grownBy w.drew row := ⟨h.os, h.tape, h.output, h.size, h.block⟩
theorem grown_trans {a b c : World} {g : Nat} (h : a.grownBy b (some g)) (k : b.grownBy c (some g)) : a.grownBy c (some g) :=
  ⟨k.os.trans h.os, k.tape.trans h.tape, k.output.trans h.output, Nat.le_trans h.size k.size, fun i hi hne => (k.block i (Nat.lt_of_lt_of_le hi h.size) hne).trans (h.block i hi hne)⟩
theorem grown_below {a b c : World} {row : Option Nat} (h : a.grownBy b row) (k : Below b.heap.size b c) : a.grownBy c row :=
  ⟨k.os.trans h.os, k.tape.trans h.tape, k.output.trans h.output, Nat.le_trans h.size k.size, fun i hi hne => (k.block i (Nat.lt_of_lt_of_le hi h.size)).trans (h.block i hi hne)⟩

/-- a[k] of an array by value, whose elements are of one cell each -/
theorem run_index_arr {P : Program} (w : World) (t e n : Nat) (k : IntKind) (i : Nat) (cs : Array Value) (v : Value) (ht : P.underlying t = some (.array n e)) (hs : (P.info? e).map (·.size) = some 1)
    {kk : IntKind} (hu : P.underlying e = some (.int kk)) (hi : i < n) (hv : cs[i]? = some v) :
    (Instr.index t (.agg cs) (.int k (i : Int))).run P w = .ok v w := by
  cases hq : P.info? e with
  | none => simp [hq] at hs
  | some j =>
    have hj : j.size = 1 := by simpa [hq] using hs
    have h0 : (0 : Int) ≤ i ∧ (i : Int) < n := ⟨by omega, by omega⟩
    simp only [Instr.index, asIntOf, Sem.run_bind, Sem.run_pure, Result.andThen_ok, run_underlying ht, h0, and_self, if_true]
    simp [sizeOf, typeInfo, hq, hj]
    simp [part, isAgg, run_underlying hu, hv]
end Go.Proofs.Ytepnepgjlnoabaa
