/- Layer 11: tables of seven things in a block, written place by place. -/
import Derived.Test.YtepnepgjlnoabaaHumL
import Derived.Laws.StructEq
namespace Go.Proofs.Ytepnepgjlnoabaa
open Go.RowKit

theorem get_put {cs vs : List Value} {o : Nat} (h : o + vs.length ≤ cs.length) (i : Nat) : (cs.take o ++ vs ++ cs.drop (o + vs.length))[i]? = if o ≤ i ∧ i < o + vs.length then vs[i - o]? else cs[i]? := by
  have h1 : (cs.take o).length = o := by rw [List.length_take]; omega
  rw [List.append_assoc, List.getElem?_append, h1]
  by_cases h2 : i < o
  · rw [if_pos h2, if_neg (by omega), List.getElem?_take, if_pos h2]
  · rw [if_neg h2, List.getElem?_append]
    by_cases h3 : i - o < vs.length
    · rw [if_pos h3, if_pos (by omega)]
    · rw [if_neg h3, if_neg (by omega), List.getElem?_drop]
      congr 1
      omega
section
variable {P : Program} {ops : Array Oper} {C : World → Prop} {Q : Act → Prop} {a : Act} {o : Oper} {rest : List Oper}
theorem run_load_bool {ty : TypeId} (hu : P.underlying ty = some .bool) {w : World} {b off : Nat} {v : Value} (hc : w.cell? ⟨b, off, none⟩ = some v) :
    (Instr.loadAt ty (.pointer (some ⟨b, off, none⟩))).run P w = .ok v w := by
  simp [Instr.loadAt, Instr.sureAddr, loadVar, isAgg, run_underlying hu, hc]
theorem run_load_slice {ty e : TypeId} (hu : P.underlying ty = some (.slice e)) {w : World} {b off : Nat} {v : Value} (hc : w.cell? ⟨b, off, none⟩ = some v) :
    (Instr.loadAt ty (.pointer (some ⟨b, off, none⟩))).run P w = .ok v w := by
  simp [Instr.loadAt, Instr.sureAddr, loadVar, isAgg, run_underlying hu, hc]
theorem wpQuiet_loadS (v : Value) (hw : Region.wanted o (yielded ops a.tmps) = true) (ty e : TypeId) (x : Operand) (ho : o.op = .load ty x) (hu : P.underlying ty = some (.slice e)) (b off : Nat) (hx : a.eval x = .pointer (some ⟨b, off, none⟩))
    (hS : ∀ w, C w → w.cell? ⟨b, off, none⟩ = some v) (h : wpQuiet P ops C Q rest (a.put o.dst v)) : wpQuiet P ops C Q (o :: rest) a :=
  wpQuiet_val v hw (fun w hC => by
    unfold execOp
    simp only [ho, hx, Sem.run_bind, Sem.run_pure, run_load_slice hu (hS w hC), Result.andThen_ok]) h
theorem wpQuiet_loadB (v : Value) (hw : Region.wanted o (yielded ops a.tmps) = true) (ty : TypeId) (x : Operand) (ho : o.op = .load ty x) (hu : P.underlying ty = some .bool) (b off : Nat) (hx : a.eval x = .pointer (some ⟨b, off, none⟩))
    (hS : ∀ w, C w → w.cell? ⟨b, off, none⟩ = some v) (h : wpQuiet P ops C Q rest (a.put o.dst v)) : wpQuiet P ops C Q (o :: rest) a :=
  wpQuiet_val v hw (fun w hC => by
    unfold execOp
    simp only [ho, hx, Sem.run_bind, Sem.run_pure, run_load_bool hu (hS w hC), Result.andThen_ok]) h
end
theorem wpList_storeB {P : Program} {ops : Array Oper} {rest : List Oper} {o : Oper} {a : Act} {w : World} {Q : Exit → Act → World → Prop} (hgd : o.guard = none) (ty : TypeId) (x y : Operand) (ho : o.op = .store ty x y) (b off : Nat) (bv : Bool)
    (hx : a.eval x = .pointer (some ⟨b, off, none⟩)) (hy : a.eval y = .bool bv) (hi : (P.info? ty).map (·.size) = some 1) (hc : (w.cell? ⟨b, off, none⟩).isSome = true ∧ w.frozen? ⟨b, off, none⟩ = false)
    (h : wpList P ops Q rest (a.put o.dst undef) (w.setCell ⟨b, off, none⟩ (.bool bv))) : wpList P ops Q (o :: rest) a w :=
  wpList_plain hgd fun _ hK => by
    unfold Oper.wp execOp
    have hr : (Instr.storeAt ty (.pointer (some ⟨b, off, none⟩)) (.bool bv)).run P w = .ok () (w.setCell ⟨b, off, none⟩ (.bool bv)) := by
      cases hq : P.info? ty with
      | none => simp [hq] at hi
      | some i =>
        have hs : i.size = 1 := by simpa [hq] using hi
        obtain ⟨v0, hv0⟩ := Option.isSome_iff_exists.1 hc.1
        simp [Instr.storeAt, Instr.sureAddr, storeVar, sizeOf, typeInfo, hq, hs, hv0, hc.2, Value.cells, storeCells, go_sem]
    simp only [ho, hx, hy, Sem.run_bind, Sem.run_pure, hr, Result.andThen_ok]
    exact hK _ _ h

theorem mem_beq (x y : Mem) : (x.n == y.n && (x.i == y.i && x.s == y.s)) = decide (x = y) := by
  rw [Bool.eq_iff_iff]
  cases x; cases y
  simp
theorem run_eql_mem (w : World) (x y : Mem) : (binOp .eql 41 (memV x) (memV y)).run Try.prog w = .ok (.bool (decide (x = y))) w := by
  rw [← mem_beq]
  unfold memV
  go_simp
  by_cases h1 : x.n = y.n <;> by_cases h2 : x.i = y.i <;> by_cases h3 : x.s = y.s <;> simp [h1, h2, h3]
theorem run_neq_mem (w : World) (x y : Mem) : (binOp .neq 41 (memV x) (memV y)).run Try.prog w = .ok (.bool (!decide (x = y))) w := by
  rw [← mem_beq]
  unfold memV
  go_simp
  by_cases h1 : x.n = y.n <;> by_cases h2 : x.i = y.i <;> by_cases h3 : x.s = y.s <;> simp [h1, h2, h3]

section
variable {P : Program} {ops : Array Oper} {Q : Exit → Act → World → Prop} {o : Oper} {rest : List Oper} {a : Act} {w : World}
theorem wpList_val (v : Value) (hw : Region.wanted o (yielded ops a.tmps) = true) (hv : (execOp a.eval o).run P w = .ok (.value v) w) (h : wpList P ops Q rest (a.put o.dst v) w) : wpList P ops Q (o :: rest) a w :=
  wpList_step fun K hK => by
    rw [if_pos hw]
    unfold Oper.wp
    rw [hv]
    exact hK _ _ h
theorem exec_allocZ (T : TypeId) (z : List Value) (ho : o.op = .alloc T) (hz : ∀ w, (zeroValue T).run P w = .ok (.agg z.toArray) w) (w : World) :
    (execOp a.eval o).run P w = .ok (.value (.pointer (some ⟨w.heap.size, 0, none⟩))) (w.alloc (.cells z.toArray T)) := by
  unfold execOp
  simp only [ho]
  go_simp
/-- a variable of several cells is made -/
theorem wpList_allocZ (T : TypeId) (z : List Value) (hw : Region.wanted o (yielded ops a.tmps) = true) (ho : o.op = .alloc T) (hz : ∀ w, (zeroValue T).run P w = .ok (.agg z.toArray) w)
    (h : ∀ g w', g = w.heap.size → At w' g T z → Below w.heap.size w w' → wpList P ops Q rest (a.put o.dst (.pointer (some ⟨g, 0, none⟩))) w') : wpList P ops Q (o :: rest) a w :=
  wpList_step fun K hK => by
    rw [if_pos hw]
    unfold Oper.wp
    rw [exec_allocZ T z ho hz w]
    exact hK _ _ (h _ _ rfl (At.new w T z) ((Below.refl _ _).alloc (Nat.le_refl _) _))
theorem wpList_build (cells : Array Value) (hw : Region.wanted o (yielded ops a.tmps) = true) (t : TypeId) (parts : Array (Nat × Operand)) (ho : o.op = .build t parts) (hb : P.built t (parts.map fun (i, x) => (i, a.eval x)).toList = some cells)
    (h : wpList P ops Q rest (a.put o.dst (.agg cells)) w) : wpList P ops Q (o :: rest) a w :=
  wpList_val _ hw (exec_build t parts cells ho hb w) h
end
def zInts (n : Nat) : List Value := List.replicate n (.int .i64 0)
def zBools (n : Nat) : List Value := List.replicate n (.bool false)
theorem zInts_one (n : Nat) : ∀ v ∈ zInts n, v.oneCell' = true := fun v hv => by rw [List.eq_of_mem_replicate hv]; rfl
theorem zBools_one (n : Nat) : ∀ v ∈ zBools n, v.oneCell' = true := fun v hv => by rw [List.eq_of_mem_replicate hv]; rfl
theorem below_drewN {B : Nat} {w0 w : World} (h : Below B w0 w) (n : Nat) : Below B w0 (w.drewN n) := by
  induction n with
  | zero => exact h
  | succ n ih => exact ih.drew
theorem run_eqGuard_mem (w : World) (op : BinOp) (x y : Operand) (a b : Mem) : (eqGuard op 41 x y (memV a) (memV b)).run Try.prog w = .ok () w :=
  run_eqGuard_agg w op 41 x y _ _ (by kernel_rfl)
/-- worlds behind a world -/
def Behind (w0 w' : World) : Prop := Below w0.heap.size w0 w'
theorem HumSt.sane {H : Type} {w : World} {A : Nat → Prop} {p b N : Nat} {t : Int} {f : Hm.St} (h : HumSt H w A p b N t f) : Hm.Sane t f := by
  obtain ⟨⟨F, h1, h2, _⟩, _⟩ := h
  rw [← h2]
  exact h1.sane
/-- a block that stands apart is written -/
theorem HumSt.apart {H : Type} {w w' : World} {A : Nat → Prop} {p b N : Nat} {t : Int} {f : Hm.St} (h : HumSt H w A p b N t f) {g : Nat} (hg : w.grownBy w' (some g)) (hA : A g) : HumSt H w' A p b N t f := by
  obtain ⟨⟨F, h1, h2, h3⟩, h4, h5, h6⟩ := h
  exact ⟨⟨F, h1.kept hg (by intro e; injection e with e; subst e; exact h4 hA) (by intro e; injection e with e; subst e; exact h5 hA) (fun x g' r hF e => by injection e with e; subst e; exact h3 x _ r hF hA), h2, h3⟩, h4, h5, fun i hi => Nat.lt_of_lt_of_le (h6 i hi) hg.size⟩
/-- a block that begins with hd and then holds the seven things c 0 .. c 6, of s cells each -/
def TblAt (w : World) (b : Nat) (T : TypeId) (hd : List Value) (s : Nat) (c : Nat → List Value) : Prop :=
  ∃ cs, At w b T cs ∧ cs.length = hd.length + 7 * s ∧ (∀ n, (c n).length = s) ∧ (∀ (j : Nat) v, hd[j]? = some v → cs[j]? = some v) ∧ ∀ n, n < 7 → ∀ (j : Nat) v, (c n)[j]? = some v → cs[hd.length + n * s + j]? = some v
section
variable {w w' : World} {b : Nat} {T : TypeId} {hd : List Value} {s : Nat} {c : Nat → List Value}
theorem TblAt.lt (h : TblAt w b T hd s c) : b < w.heap.size := by
  obtain ⟨cs, h1, _⟩ := h
  exact h1.lt
theorem TblAt.below (h : TblAt w b T hd s c) (hb : Below w.heap.size w w') : TblAt w' b T hd s c := by
  obtain ⟨cs, h1, h2⟩ := h
  exact ⟨cs, h1.below hb h1.lt, h2⟩
theorem TblAt.grown {row : Option Nat} (h : TblAt w b T hd s c) (hg : w.grownBy w' row) (hne : some b ≠ row) : TblAt w' b T hd s c := by
  obtain ⟨cs, h1, h2⟩ := h
  exact ⟨cs, h1.grown hg hne, h2⟩
theorem TblAt.keeps {A : Nat → Prop} (h : TblAt w b T hd s c) (hk : Keeps A w w') (hA : A b) : TblAt w' b T hd s c := by
  obtain ⟨cs, h1, h2⟩ := h
  exact ⟨cs, h1.keeps hk hA, h2⟩
theorem TblAt.cell (h : TblAt w b T hd s c) {n : Nat} (hn : n < 7) {j : Nat} {v : Value} (hv : (c n)[j]? = some v) : w.cell? ⟨b, hd.length + n * s + j, none⟩ = some v := by
  obtain ⟨cs, h1, _, _, _, h2⟩ := h
  exact h1.cell' (h2 n hn j v hv)
theorem TblAt.head (h : TblAt w b T hd s c) {j : Nat} {v : Value} (hv : hd[j]? = some v) : w.cell? ⟨b, j, none⟩ = some v := by
  obtain ⟨cs, h1, _, _, h2, _⟩ := h
  exact h1.cell' (h2 j v hv)
theorem TblAt.range (h : TblAt w b T hd s c) {n : Nat} (hn : n < 7) : w.rangeAt b (hd.length + n * s) (c n) := fun _ _ hv => h.cell hn hv
theorem TblAt.frozen (h : TblAt w b T hd s c) (i : Nat) : w.frozen? ⟨b, i, none⟩ = false := by
  obtain ⟨cs, h1, _⟩ := h
  exact h1.frozen i
theorem TblAt.there (h : TblAt w b T hd s c) {n : Nat} (hn : n < 7) : w.there b (hd.length + n * s) s := by
  obtain ⟨cs, h1, h2, _⟩ := h
  refine h1.there _ _ ?_
  rw [h2]
  have : n * s + s ≤ 7 * s := by rw [← Nat.succ_mul]; exact Nat.mul_le_mul_right _ hn
  omega
theorem TblAt.put (h : TblAt w b T hd s c) {n : Nat} (hn : n < 7) (vs : List Value) (hs : vs.length = s) : TblAt (w.setCells b (hd.length + n * s) vs) b T hd s (fun i => if i = n then vs else c i) := by
  obtain ⟨cs, h1, h2, h3, h4, h5⟩ := h
  have hle : n * s + s ≤ 7 * s := by rw [← Nat.succ_mul]; exact Nat.mul_le_mul_right _ hn
  have hfit : hd.length + n * s + vs.length ≤ cs.length := by omega
  refine ⟨_, h1.setCells vs _ hfit, ?_, fun i => ?_, fun j v hv => ?_, fun i hi j v hv => ?_⟩
  · simp only [List.length_append, List.length_take, List.length_drop]
    omega
  · show (if i = n then vs else c i).length = s
    split
    · exact hs
    · exact h3 i
  · have hj := (List.getElem?_eq_some_iff.1 hv).1
    rw [get_put hfit, if_neg (by omega)]
    exact h4 j v hv
  · rw [get_put hfit]
    by_cases hin : i = n
    · subst hin
      change (if i = i then vs else c i)[j]? = some v at hv
      rw [if_pos rfl] at hv
      have hj := (List.getElem?_eq_some_iff.1 hv).1
      rw [if_pos (by omega), show hd.length + i * s + j - (hd.length + i * s) = j from by omega]
      exact hv
    · change (if i = n then vs else c i)[j]? = some v at hv
      rw [if_neg hin] at hv
      have hj := (List.getElem?_eq_some_iff.1 hv).1
      rw [h3] at hj
      have hcmp : i * s + s ≤ n * s ∨ n * s + s ≤ i * s := by
        rcases Nat.lt_or_gt_of_ne hin with hlt | hlt
        · exact .inl (by rw [← Nat.succ_mul]; exact Nat.mul_le_mul_right _ hlt)
        · exact .inr (by rw [← Nat.succ_mul]; exact Nat.mul_le_mul_right _ hlt)
      rw [if_neg (by rw [hs]; omega)]
      exact h5 i hi j v hv
theorem TblAt.put1 (h : TblAt w b T hd 1 c) {n : Nat} (hn : n < 7) (v : Value) : TblAt (w.setCell ⟨b, hd.length + n, none⟩ v) b T hd 1 (fun i => if i = n then [v] else c i) := by
  have h1 := h.put hn [v] rfl
  rw [Nat.mul_one] at h1
  exact h1
theorem TblAt.there0 (h : TblAt w b T [] s c) {n : Nat} (hn : n < 7) : w.there b (n * s) s := by
  have h1 := h.there hn
  rwa [List.length_nil, Nat.zero_add] at h1
theorem TblAt.put0 (h : TblAt w b T [] s c) {n : Nat} (hn : n < 7) (vs : List Value) (hs : vs.length = s) : TblAt (w.setCells b (n * s) vs) b T [] s (fun i => if i = n then vs else c i) := by
  have h1 := h.put hn vs hs
  rwa [List.length_nil, Nat.zero_add] at h1
theorem TblAt.put10 (h : TblAt w b T [] 1 c) {n : Nat} (hn : n < 7) (v : Value) : TblAt (w.setCell ⟨b, n, none⟩ v) b T [] 1 (fun i => if i = n then [v] else c i) := by
  have h1 := h.put1 hn v
  rwa [List.length_nil, Nat.zero_add] at h1
theorem TblAt.cell0 (h : TblAt w b T [] s c) {n : Nat} (hn : n < 7) {j : Nat} {v : Value} (hv : (c n)[j]? = some v) : w.cell? ⟨b, n * s + j, none⟩ = some v := by
  have h1 := h.cell hn hv
  rwa [List.length_nil, Nat.zero_add] at h1
theorem TblAt.cell10 (h : TblAt w b T [] 1 c) {n : Nat} (hn : n < 7) {v : Value} (hv : c n = [v]) : w.cell? ⟨b, n, none⟩ = some v := by
  have h1 := h.cell0 hn (j := 0) (v := v) (by rw [hv]; rfl)
  rwa [Nat.mul_one, Nat.add_zero] at h1
theorem TblAt.range0 (h : TblAt w b T [] s c) {n : Nat} (hn : n < 7) : w.rangeAt b (n * s) (c n) := fun _ _ hv => h.cell0 hn hv
theorem TblAt.congr {c' : Nat → List Value} (h : TblAt w b T hd s c) (hc : ∀ n, c n = c' n) : TblAt w b T hd s c' := by
  have : c = c' := funext hc
  rw [← this]
  exact h
theorem TblAt.made {z : Value} (h : At w b T (hd ++ List.replicate (7 * s) z)) (hc : ∀ n, c n = List.replicate s z) : TblAt w b T hd s c := by
  refine ⟨_, h, by rw [List.length_append, List.length_replicate], fun n => by rw [hc, List.length_replicate], fun j v hv => ?_, fun n hn j v hv => ?_⟩
  · rw [List.getElem?_append_left (List.getElem?_eq_some_iff.1 hv).1]
    exact hv
  · rw [hc] at hv
    have hj := (List.getElem?_eq_some_iff.1 hv).1
    rw [List.length_replicate] at hj
    rw [List.getElem?_replicate, if_pos hj] at hv
    have hle : n * s + s ≤ 7 * s := by rw [← Nat.succ_mul]; exact Nat.mul_le_mul_right _ hn
    rw [List.getElem?_append_right (by omega), List.getElem?_replicate, if_pos (by omega)]
    exact hv
end
end Go.Proofs.Ytepnepgjlnoabaa
