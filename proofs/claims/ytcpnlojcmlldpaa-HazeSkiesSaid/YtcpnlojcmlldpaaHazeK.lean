/- Layer 14: what the statements' walks share: a slice of two digests, a class of worlds, comparisons. -/
import Derived.Test.YtcpnlojcmlldpaaHazeI
import Derived.BigQuiet
namespace Go.Proofs.Ytcpnlojcmlldpaa
open Go.RowKit Go.Maps Go.Sort

theorem fill_dg2 (k l : List UInt8) (hk : k.length = 32) (hl : l.length = 32) : Instr.fill (fun i => some (i * 32, 32)) ((Array.range (2 * 32)).map ((Value.agg (List.replicate 32 (.int .u8 0)).toArray).cells[· % (Value.agg (List.replicate 32 (Value.int .u8 0)).toArray).cells.size]!)) [(0, .agg (u8s k).toArray), (1, .agg (u8s l).toArray)] = some (u8s k ++ u8s l).toArray := by
  rcases k with _ | ⟨k0, k⟩
  · cases hk
  rcases k with _ | ⟨k1, k⟩
  · cases hk
  rcases k with _ | ⟨k2, k⟩
  · cases hk
  rcases k with _ | ⟨k3, k⟩
  · cases hk
  rcases k with _ | ⟨k4, k⟩
  · cases hk
  rcases k with _ | ⟨k5, k⟩
  · cases hk
  rcases k with _ | ⟨k6, k⟩
  · cases hk
  rcases k with _ | ⟨k7, k⟩
  · cases hk
  rcases k with _ | ⟨k8, k⟩
  · cases hk
  rcases k with _ | ⟨k9, k⟩
  · cases hk
  rcases k with _ | ⟨k10, k⟩
  · cases hk
  rcases k with _ | ⟨k11, k⟩
  · cases hk
  rcases k with _ | ⟨k12, k⟩
  · cases hk
  rcases k with _ | ⟨k13, k⟩
  · cases hk
  rcases k with _ | ⟨k14, k⟩
  · cases hk
  rcases k with _ | ⟨k15, k⟩
  · cases hk
  rcases k with _ | ⟨k16, k⟩
  · cases hk
  rcases k with _ | ⟨k17, k⟩
  · cases hk
  rcases k with _ | ⟨k18, k⟩
  · cases hk
  rcases k with _ | ⟨k19, k⟩
  · cases hk
  rcases k with _ | ⟨k20, k⟩
  · cases hk
  rcases k with _ | ⟨k21, k⟩
  · cases hk
  rcases k with _ | ⟨k22, k⟩
  · cases hk
  rcases k with _ | ⟨k23, k⟩
  · cases hk
  rcases k with _ | ⟨k24, k⟩
  · cases hk
  rcases k with _ | ⟨k25, k⟩
  · cases hk
  rcases k with _ | ⟨k26, k⟩
  · cases hk
  rcases k with _ | ⟨k27, k⟩
  · cases hk
  rcases k with _ | ⟨k28, k⟩
  · cases hk
  rcases k with _ | ⟨k29, k⟩
  · cases hk
  rcases k with _ | ⟨k30, k⟩
  · cases hk
  rcases k with _ | ⟨k31, k⟩
  · cases hk
  rcases k with _ | ⟨k32, k⟩
  · skip
    rcases l with _ | ⟨l0, l⟩
    · cases hl
    rcases l with _ | ⟨l1, l⟩
    · cases hl
    rcases l with _ | ⟨l2, l⟩
    · cases hl
    rcases l with _ | ⟨l3, l⟩
    · cases hl
    rcases l with _ | ⟨l4, l⟩
    · cases hl
    rcases l with _ | ⟨l5, l⟩
    · cases hl
    rcases l with _ | ⟨l6, l⟩
    · cases hl
    rcases l with _ | ⟨l7, l⟩
    · cases hl
    rcases l with _ | ⟨l8, l⟩
    · cases hl
    rcases l with _ | ⟨l9, l⟩
    · cases hl
    rcases l with _ | ⟨l10, l⟩
    · cases hl
    rcases l with _ | ⟨l11, l⟩
    · cases hl
    rcases l with _ | ⟨l12, l⟩
    · cases hl
    rcases l with _ | ⟨l13, l⟩
    · cases hl
    rcases l with _ | ⟨l14, l⟩
    · cases hl
    rcases l with _ | ⟨l15, l⟩
    · cases hl
    rcases l with _ | ⟨l16, l⟩
    · cases hl
    rcases l with _ | ⟨l17, l⟩
    · cases hl
    rcases l with _ | ⟨l18, l⟩
    · cases hl
    rcases l with _ | ⟨l19, l⟩
    · cases hl
    rcases l with _ | ⟨l20, l⟩
    · cases hl
    rcases l with _ | ⟨l21, l⟩
    · cases hl
    rcases l with _ | ⟨l22, l⟩
    · cases hl
    rcases l with _ | ⟨l23, l⟩
    · cases hl
    rcases l with _ | ⟨l24, l⟩
    · cases hl
    rcases l with _ | ⟨l25, l⟩
    · cases hl
    rcases l with _ | ⟨l26, l⟩
    · cases hl
    rcases l with _ | ⟨l27, l⟩
    · cases hl
    rcases l with _ | ⟨l28, l⟩
    · cases hl
    rcases l with _ | ⟨l29, l⟩
    · cases hl
    rcases l with _ | ⟨l30, l⟩
    · cases hl
    rcases l with _ | ⟨l31, l⟩
    · cases hl
    rcases l with _ | ⟨l32, l⟩
    · kernel_rfl
    · simp at hl
  · simp at hk
theorem wpList_build_dg2 {ops : Array Oper} {Q : Exit → Act → World → Prop} {o : Oper} {rest : List Oper} {a : Act} {w : World} (hw : Region.wanted o (yielded ops a.tmps) = true) (k l : List UInt8) (hk : k.length = 32) (hl : l.length = 32) (x y : Operand) (ho : o.op = .buildSlice 51 2 #[(0, x), (1, y)]) (hx : a.eval x = .agg (u8s k).toArray) (hy : a.eval y = .agg (u8s l).toArray)
    (h : wpList Try.prog ops Q rest (a.put o.dst (.slice (some ⟨w.heap.size, 0, none⟩) 2 2)) (w.alloc (.cells (u8s k ++ u8s l).toArray 23))) : wpList Try.prog ops Q (o :: rest) a w :=
  wpList_step fun K hK => by
    rw [if_pos hw]
    cases hie : Try.prog.info? 23 with
    | none => have h := info_dg; rw [hie] at h; cases h
    | some ie =>
      have hi := info_dg
      rw [hie, Option.map_some, Option.some.injEq, Prod.mk.injEq] at hi
      refine wp_buildSlice 51 23 2 #[(0, x), (1, y)] ho _ ie _ Try.underlying51 hie hi.1 (by rw [hi.2]; omega) (by rw [hi.2]; omega) ?_ (hK _ _ h)
      rw [hi.2]
      simp only [List.map_toArray, List.map_cons, List.map_nil, hx, hy]
      exact fill_dg2 k l hk hl
/-- arrays of bytes that lie one behind the other in a new block -/
theorem bytes_laid (w : World) (t : TypeId) (sz : Nat) (l : List (List UInt8)) (hl : ∀ x ∈ l, x.length = sz) {n : Nat} (hn : n = w.heap.size) {C : Array Value} (hC : C = (l.flatMap u8s).toArray) : BytesIn (w.alloc (.cells C t)) (some ⟨n, 0, none⟩) sz l := fun _ => by
  subst hn hC
  refine ⟨_, _, rfl, by simp, fun i hi j v hv => ?_⟩
  have hat : At (w.alloc (.cells (l.flatMap u8s).toArray t)) w.heap.size t (l.flatMap u8s) := At.newA w _ rfl
  refine hat.cell' ?_
  rw [Nat.zero_add]
  clear hat
  induction l generalizing i with
  | nil => cases hi
  | cons x r ih =>
    have hx := hl x List.mem_cons_self
    rw [List.flatMap_cons]
    cases i with
    | zero =>
      have hv' : (u8s x)[j]? = some v := hv
      rw [Nat.zero_mul, Nat.zero_add, List.getElem?_append_left (List.getElem?_eq_some_iff.1 hv').1]
      exact hv'
    | succ i =>
      have e : (i + 1) * sz + j = (u8s x).length + (i * sz + j) := by rw [u8s_len, hx, Nat.add_mul]; omega
      rw [e, List.getElem?_append_right (by omega), Nat.add_sub_cancel_left]
      have hi' : i < r.length := by simpa using hi
      exact ih (fun y hy => hl y (List.mem_cons_of_mem _ hy)) (by omega) i hi' hv
/-- worlds behind a world -/
def Behind (w0 w' : World) : Prop := Below w0.heap.size w0 w'
theorem behind_call {w0 w' : World} {f : FuncId} {args : Array Value} {v : Value} (hb : Behind w0 w') (h : Calls Try.prog f args w' fun e w'' => e = .returned v ∧ Below w'.heap.size w' w'') : Calls Try.prog f args w' fun e w'' => e = .returned v ∧ Behind w0 w'' :=
  h.mono fun _ _ ⟨he, h2⟩ => ⟨he, Below.trans hb (h2.mono hb.size)⟩
theorem behind_range {w0 w' : World} {b : Nat} {cs : List Value} {t : TypeId} (h : At w0 b t cs) (hb : Behind w0 w') : w'.rangeAt b 0 cs := fun j v hv => by
  rw [Nat.zero_add]
  exact (h.below hb h.lt).cell' hv
theorem built_zero : Try.prog.built 26 [] = some (u8s Hz.zero).toArray := by kernel_rfl
theorem run_geq (a b : Int) (h : b ≤ a) (w : World) : (binOp .geq 3 (.int .i64 a) (.int .i64 b)).run Try.prog w = .ok (.bool true) w := by
  go_simp
theorem run_leq (a b : Int) (h : a ≤ b) (w : World) : (binOp .leq 3 (.int .i64 a) (.int .i64 b)).run Try.prog w = .ok (.bool true) w := by
  go_simp
theorem run_eqz (a b : Int) (h : a = b) (w : World) : (binOp .eql 3 (.int .i64 a) (.int .i64 b)).run Try.prog w = .ok (.bool true) w := by
  subst h
  go_simp
theorem run_eqb (a b : Bool) (h : a = b) (w : World) : (binOp .eql 4 (.bool a) (.bool b)).run Try.prog w = .ok (.bool true) w := by
  subst h
  cases a <;> go_simp
end Go.Proofs.Ytcpnlojcmlldpaa
