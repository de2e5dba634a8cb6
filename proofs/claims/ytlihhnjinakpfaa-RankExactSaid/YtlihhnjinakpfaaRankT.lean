/- The reference's view as a block: what is known of seven nodes, whether they are known. -/
import Derived.Test.YtlihhnjinakpfaaRankS
import Derived.Test.YtlihhnjinakpfaaRankM1
namespace Go.Proofs.Ytlihhnjinakpfaa
open Go.RowKit

theorem get_put {cs vs : List Value} {o : Nat} (h : o + vs.length ≤ cs.length) (i : Nat) : (cs.take o ++ vs ++ cs.drop (o + vs.length))[i]? = if o ≤ i ∧ i < o + vs.length then vs[i - o]? else cs[i]? := by
  have h1 : (cs.take o).length = o := by rw [List.length_take]; omega
  rw [List.append_assoc, List.getElem?_append, h1]
  by_cases h2 : i < o
  · rw [if_pos h2, if_neg (by omega), List.getElem?_take, if_pos h2]
  · rw [if_neg h2, List.getElem?_append]
    by_cases h3 : i - o < vs.length
    · rw [if_pos h3, if_pos (by omega)]
    · rw [if_neg h3, if_neg (by omega), List.getElem?_drop]
      congr 1
      omega
def known (f : Known) (k : Nat) : Mem := (f (k : Int)).getD Mem.zero
structure RefIs (cs : List Value) (f : Known) : Prop where
  len : cs.length = 28
  mem : ∀ k, k < 7 → ∀ j v, (cellsM (known f k))[j]? = some v → cs[k * 3 + j]? = some v
  is : ∀ k, k < 7 → cs[21 + k]? = some (.bool (f (k : Int)).isSome)
theorem cellsM_len (m : Mem) : (cellsM m).length = 3 := rfl
theorem RefIs.put {cs : List Value} {f : Known} (h : RefIs cs f) {m : Mem} {k : Nat} (hk : k < 7) (hm : m.n = (k : Int)) : RefIs ((cs.take (k * 3) ++ cellsM m ++ cs.drop (k * 3 + 3)).set (21 + k) (.bool true)) (upd f m) := by
  have hl := h.len
  have hc : k * 3 + (cellsM m).length ≤ cs.length := by rw [cellsM_len]; omega
  have hg := get_put hc
  rw [cellsM_len] at hg
  have hlen : (cs.take (k * 3) ++ cellsM m ++ cs.drop (k * 3 + 3)).length = 28 := by
    simp only [List.length_append, List.length_take, List.length_drop, cellsM_len]
    omega
  refine ⟨by rw [List.length_set]; exact hlen, fun i hi j v hv => ?_, fun i hi => ?_⟩
  · have hj : j < 3 := by
      have := (List.getElem?_eq_some_iff.1 hv).1
      rwa [cellsM_len] at this
    rw [List.getElem?_set_ne (by omega), hg]
    by_cases hik : i = k
    · subst hik
      have e : known (upd f m) i = m := by unfold known upd; rw [if_pos hm.symm]; rfl
      rw [e] at hv
      rw [if_pos (by omega), show i * 3 + j - i * 3 = j from by omega]
      exact hv
    · have e : known (upd f m) i = known f i := by unfold known upd; rw [if_neg (by omega)]
      rw [e] at hv
      rw [if_neg (by omega)]
      exact h.mem i hi j v hv
  · by_cases hik : i = k
    · subst hik
      rw [List.getElem?_set_self (by omega)]
      have e : (upd f m (i : Int)) = some m := by unfold upd; rw [if_pos hm.symm]
      rw [e]
      rfl
    · have e : upd f m (i : Int) = f (i : Int) := by unfold upd; rw [if_neg (by omega)]
      rw [List.getElem?_set_ne (by omega), hg, if_neg (by omega), e]
      exact h.is i hi
def RefAt (w : World) (u : Nat) (t : TypeId) (f : Known) : Prop := ∃ cs, At w u t cs ∧ RefIs cs f
theorem RefAt.lt {w : World} {u : Nat} {t : TypeId} {f : Known} (h : RefAt w u t f) : u < w.heap.size := by
  obtain ⟨cs, h1, _⟩ := h
  exact h1.lt
theorem RefAt.below {w w' : World} {u : Nat} {t : TypeId} {f : Known} (h : RefAt w u t f) (hb : Below w.heap.size w w') : RefAt w' u t f := by
  obtain ⟨cs, h1, h2⟩ := h
  exact ⟨cs, h1.below hb h1.lt, h2⟩
theorem RefAt.grown {w w' : World} {u : Nat} {t : TypeId} {f : Known} {row : Option Nat} (h : RefAt w u t f) (hg : w.grownBy w' row) (hne : some u ≠ row) : RefAt w' u t f := by
  obtain ⟨cs, h1, h2⟩ := h
  exact ⟨cs, h1.grown hg hne, h2⟩
theorem RefAt.cellM {w : World} {u : Nat} {t : TypeId} {f : Known} (h : RefAt w u t f) {k : Nat} (hk : k < 7) {j : Nat} {v : Value} (hv : (cellsM (known f k))[j]? = some v) : w.cell? ⟨u, k * 3 + j, none⟩ = some v := by
  obtain ⟨cs, h1, h2⟩ := h
  exact h1.cell' (h2.mem k hk j v hv)
theorem RefAt.cellK {w : World} {u : Nat} {t : TypeId} {f : Known} (h : RefAt w u t f) {k : Nat} (hk : k < 7) : w.cell? ⟨u, 21 + k, none⟩ = some (.bool (f (k : Int)).isSome) := by
  obtain ⟨cs, h1, h2⟩ := h
  exact h1.cell' (h2.is k hk)
/-- a member put in its place, and the word that it is known -/
theorem RefAt.put {w : World} {u : Nat} {t : TypeId} {f : Known} (h : RefAt w u t f) {m : Mem} {k : Nat} (hk : k < 7) (hm : m.n = (k : Int)) :
    RefAt ((w.setCells u (k * 3) (cellsM m)).setCell ⟨u, 21 + k, none⟩ (.bool true)) u t (upd f m) := by
  obtain ⟨cs, h1, h2⟩ := h
  have hl := h2.len
  have h3 := (h1.setCells (cellsM m) (k * 3) (by rw [cellsM_len]; omega)).set (21 + k) (.bool true)
  rw [cellsM_len] at h3
  exact ⟨_, h3, h2.put hk hm⟩
/-- the member is put in its place; that it is known is not yet said -/
def RefMid (w : World) (u : Nat) (t : TypeId) (f : Known) (m : Mem) (k : Nat) : Prop := ∃ cs, RefIs cs f ∧ At w u t (cs.take (k * 3) ++ cellsM m ++ cs.drop (k * 3 + 3))
theorem RefAt.mid {w : World} {u : Nat} {t : TypeId} {f : Known} (h : RefAt w u t f) (m : Mem) {k : Nat} (hk : k < 7) : RefMid (w.setCells u (k * 3) (cellsM m)) u t f m k := by
  obtain ⟨cs, h1, h2⟩ := h
  have hl := h2.len
  have h3 := h1.setCells (cellsM m) (k * 3) (by rw [cellsM_len]; omega)
  rw [cellsM_len] at h3
  exact ⟨cs, h2, h3⟩
theorem RefMid.below {w w' : World} {u : Nat} {t : TypeId} {f : Known} {m : Mem} {k : Nat} (h : RefMid w u t f m k) (hb : Below w.heap.size w w') : RefMid w' u t f m k := by
  obtain ⟨cs, h1, h2⟩ := h
  exact ⟨cs, h1, h2.below hb h2.lt⟩
theorem RefMid.put {w : World} {u : Nat} {t : TypeId} {f : Known} {m : Mem} {k : Nat} (h : RefMid w u t f m k) (hk : k < 7) (hm : m.n = (k : Int)) : RefAt (w.setCell ⟨u, 21 + k, none⟩ (.bool true)) u t (upd f m) := by
  obtain ⟨cs, h1, h2⟩ := h
  exact ⟨_, h2.set (21 + k) (.bool true), h1.put hk hm⟩
theorem RefMid.cell {w : World} {u : Nat} {t : TypeId} {f : Known} {m : Mem} {k : Nat} (h : RefMid w u t f m k) (hk : k < 7) : (w.cell? ⟨u, 21 + k, none⟩).isSome = true ∧ w.frozen? ⟨u, 21 + k, none⟩ = false := by
  obtain ⟨cs, h1, h2⟩ := h
  have hl := h1.len
  refine ⟨?_, h2.frozen _⟩
  rw [h2.cell, List.getElem?_eq_getElem (by simp only [List.length_append, List.length_take, List.length_drop, cellsM_len]; omega)]
  rfl
theorem RefAt.there {w : World} {u : Nat} {t : TypeId} {f : Known} (h : RefAt w u t f) {k : Nat} (hk : k < 7) : w.there u (k * 3) 3 := by
  obtain ⟨cs, h1, h2⟩ := h
  exact h1.there _ _ (by rw [h2.len]; omega)
theorem ref_none : RefIs ((List.replicate 21 (Value.int .i64 0)) ++ List.replicate 7 (Value.bool false)) (fun _ => none) := by
  refine ⟨rfl, fun k hk j v hv => ?_, fun k hk => ?_⟩
  · have hj : j < 3 := by
      have := (List.getElem?_eq_some_iff.1 hv).1
      rwa [cellsM_len] at this
    have e : v = .int .i64 0 := by
      match j, hj with
      | 0, _ => exact (Option.some.inj hv).symm
      | 1, _ => exact (Option.some.inj hv).symm
      | 2, _ => exact (Option.some.inj hv).symm
    rw [List.getElem?_append_left (by rw [List.length_replicate]; omega), e, List.getElem?_replicate, if_pos (by omega)]
  · rw [List.getElem?_append_right (by rw [List.length_replicate]; omega), List.length_replicate, Nat.add_sub_cancel_left, List.getElem?_replicate, if_pos hk]
    rfl
section
variable {P : Program} {ops : Array Oper} {C : World → Prop} {Q : Act → Prop} {a : Act} {o : Oper} {rest : List Oper}
theorem run_load_bool {ty : TypeId} (hu : P.underlying ty = some .bool) {w : World} {b off : Nat} {v : Value} (hc : w.cell? ⟨b, off, none⟩ = some v) :
    (Instr.loadAt ty (.pointer (some ⟨b, off, none⟩))).run P w = .ok v w := by
  simp [Instr.loadAt, Instr.sureAddr, loadVar, isAgg, run_underlying hu, hc]
theorem run_load_slice {ty e : TypeId} (hu : P.underlying ty = some (.slice e)) {w : World} {b off : Nat} {v : Value} (hc : w.cell? ⟨b, off, none⟩ = some v) :
    (Instr.loadAt ty (.pointer (some ⟨b, off, none⟩))).run P w = .ok v w := by
  simp [Instr.loadAt, Instr.sureAddr, loadVar, isAgg, run_underlying hu, hc]
theorem wpQuiet_loadS (v : Value) (hw : Region.wanted o (yielded ops a.tmps) = true) (ty e : TypeId) (x : Operand) (ho : o.op = .load ty x) (hu : P.underlying ty = some (.slice e)) (b off : Nat) (hx : a.eval x = .pointer (some ⟨b, off, none⟩))
    (hS : ∀ w, C w → w.cell? ⟨b, off, none⟩ = some v) (h : wpQuiet P ops C Q rest (a.put o.dst v)) : wpQuiet P ops C Q (o :: rest) a :=
  wpQuiet_val v hw (fun w hC => by
    unfold execOp
    simp only [ho, hx, Sem.run_bind, Sem.run_pure, run_load_slice hu (hS w hC), Result.andThen_ok]) h
theorem wpQuiet_loadB (v : Value) (hw : Region.wanted o (yielded ops a.tmps) = true) (ty : TypeId) (x : Operand) (ho : o.op = .load ty x) (hu : P.underlying ty = some .bool) (b off : Nat) (hx : a.eval x = .pointer (some ⟨b, off, none⟩))
    (hS : ∀ w, C w → w.cell? ⟨b, off, none⟩ = some v) (h : wpQuiet P ops C Q rest (a.put o.dst v)) : wpQuiet P ops C Q (o :: rest) a :=
  wpQuiet_val v hw (fun w hC => by
    unfold execOp
    simp only [ho, hx, Sem.run_bind, Sem.run_pure, run_load_bool hu (hS w hC), Result.andThen_ok]) h
end
theorem wpList_storeB {P : Program} {ops : Array Oper} {rest : List Oper} {o : Oper} {a : Act} {w : World} {Q : Exit → Act → World → Prop} (hgd : o.guard = none) (ty : TypeId) (x y : Operand) (ho : o.op = .store ty x y) (b off : Nat) (bv : Bool)
    (hx : a.eval x = .pointer (some ⟨b, off, none⟩)) (hy : a.eval y = .bool bv) (hi : (P.info? ty).map (·.size) = some 1) (hc : (w.cell? ⟨b, off, none⟩).isSome = true ∧ w.frozen? ⟨b, off, none⟩ = false)
    (h : wpList P ops Q rest (a.put o.dst undef) (w.setCell ⟨b, off, none⟩ (.bool bv))) : wpList P ops Q (o :: rest) a w :=
  wpList_plain hgd fun _ hK => by
    unfold Oper.wp execOp
    have hr : (Instr.storeAt ty (.pointer (some ⟨b, off, none⟩)) (.bool bv)).run P w = .ok () (w.setCell ⟨b, off, none⟩ (.bool bv)) := by
      cases hq : P.info? ty with
      | none => simp [hq] at hi
      | some i =>
        have hs : i.size = 1 := by simpa [hq] using hi
        obtain ⟨v0, hv0⟩ := Option.isSome_iff_exists.1 hc.1
        simp [Instr.storeAt, Instr.sureAddr, storeVar, sizeOf, typeInfo, hq, hs, hv0, hc.2, Value.cells, storeCells, go_sem]
    simp only [ho, hx, hy, Sem.run_bind, Sem.run_pure, hr, Result.andThen_ok]
    exact hK _ _ h
/-- worlds behind a world -/
def Later (w0 w' : World) : Prop := Below w0.heap.size w0 w'
theorem eq_three (w' : World) (u k : Nat) (m : Mem) (h : ∀ j v, (cellsM m)[j]? = some v → w'.cell? ⟨u, k + j, none⟩ = some v) : w'.rangeAt u k (cellsM m) := h
end Go.Proofs.Ytlihhnjinakpfaa
