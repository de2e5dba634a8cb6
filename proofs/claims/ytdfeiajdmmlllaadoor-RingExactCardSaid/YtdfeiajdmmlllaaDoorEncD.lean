/- More laws of plain regions: a struct built, a part of a variable stored; results of which one lies in memory; strings out of bytes. -/
import Derived.Test.YtdfeiajdmmlllaaDoorEncC
import Derived.Test.YtdfeiajdmmlllaaDoorMix
namespace Go.Proofs.YtdfeiajdmmlllaaDoor
open Go.Proofs Go.Shelf Go.RowKit Go.Lib Go.Sort

theorem exec_build {P : Program} {a : Act} {o : Oper} (t : TypeId) (parts : Array (Nat × Operand)) (cells : Array Value) (ho : o.op = .build t parts) (h : P.built t (parts.map fun (i, x) => (i, a.eval x)).toList = some cells) (w : World) :
    (execOp a.eval o).run P w = .ok (.value (.agg cells)) w := by
  unfold execOp
  simp only [ho, Sem.run_bind, run_build w t _ cells h, Result.andThen_ok, Sem.run_pure]
section
variable {P : Program} {ops : Array Oper} {Q : Exit → Act → World → Prop} {o : Oper} {rest : List Oper} {a : Act} {w : World}
theorem wpList_build (cells : Array Value) (hw : Region.wanted o (yielded ops a.tmps) = true) (t : TypeId) (parts : Array (Nat × Operand)) (ho : o.op = .build t parts) (hb : P.built t (parts.map fun (i, x) => (i, a.eval x)).toList = some cells)
    (h : wpList P ops Q rest (a.put o.dst (.agg cells)) w) : wpList P ops Q (o :: rest) a w :=
  wpList_val _ hw (exec_build t parts cells ho hb w) h
/-- an integer stored into a variable -/
theorem wpList_store1 (hgd : o.guard = none) (ty : TypeId) (x y : Operand) (ho : o.op = .store ty x y) (b off : Nat) (k : IntKind) (n : Int)
    (hx : a.eval x = .pointer (some ⟨b, off, none⟩)) (hy : a.eval y = .int k n) (hi : (P.info? ty).map (·.size) = some 1) (t : TypeId) (cs : List Value) (hg : At w b t cs) (hl : off < cs.length)
    (h : ∀ w', At w' b t (cs.set off (.int k n)) → w.grownBy w' (some b) → w'.heap.size = w.heap.size → wpList P ops Q rest (a.put o.dst undef) w') : wpList P ops Q (o :: rest) a w :=
  wpList_plain hgd fun _ hK => by
    have hc : (w.cell? ⟨b, off, none⟩).isSome = true ∧ w.frozen? ⟨b, off, none⟩ = false := by
      rw [hg.cell, hg.frozen]
      simp [hl]
    unfold Oper.wp execOp
    have hr : (Instr.storeAt ty (.pointer (some ⟨b, off, none⟩)) (.int k n)).run P w = .ok () (w.setCell ⟨b, off, none⟩ (.int k n)) := by
      cases hq : P.info? ty with
      | none => simp [hq] at hi
      | some i =>
        have hs : i.size = 1 := by simpa [hq] using hi
        obtain ⟨v0, hv0⟩ := Option.isSome_iff_exists.1 hc.1
        simp [Instr.storeAt, Instr.sureAddr, storeVar, sizeOf, typeInfo, hq, hs, hv0, hc.2, Value.cells, storeCells, go_sem]
    simp only [ho, hx, hy, Sem.run_bind, Sem.run_pure, hr, Result.andThen_ok]
    exact hK _ _ (h _ (hg.set off _) (grown_setCell (World.grownBy.refl _ _) (.inl rfl) _) (by simp [World.setCell]))
/-- an array or a struct stored into a part of a variable -/
theorem wpList_storePart (hgd : o.guard = none) (ty : TypeId) (x y : Operand) (ho : o.op = .store ty x y) (b off : Nat) (new : List Value) (hx : a.eval x = .pointer (some ⟨b, off, none⟩)) (hy : a.eval y = .agg new.toArray)
    (t : TypeId) (cs : List Value) (hg : At w b t cs) (hl : off + new.length ≤ cs.length) (hi : (P.info? ty).map (·.size) = some new.length) (h1 : ∀ v ∈ new, v.oneCell' = true)
    (h : ∀ w', At w' b t (cs.take off ++ new ++ cs.drop (off + new.length)) → w.grownBy w' (some b) → w'.heap.size = w.heap.size → wpList P ops Q rest (a.put o.dst undef) w') : wpList P ops Q (o :: rest) a w := by
  refine wpList_store_mid hgd ty x y ho b off new.toArray hx hy (by simpa using hg.there off new.length hl) (by simpa using hi) (all_oneCell_toArray h1) ?_
  refine h _ ?_ (grown_setCells b _ off w w (World.grownBy.refl w _)) ?_
  · simpa using At.setCells new off hg hl
  · have hs : ∀ (vs : List Value) (o : Nat) (w : World), (w.setCells b o vs).heap.size = w.heap.size := by
      intro vs
      induction vs with
      | nil => intro o w; rfl
      | cons v r ih => intro o w; rw [World.setCells, ih]; simp [World.setCell]
    exact hs _ _ _
end
theorem ret_cellTmp {P : Program} {fn : Func} {R : Ending → World → Prop} {a : Act} {w : World} {p q : Tmp} {ty : TypeId} (hr : fn.results = #[.cell p ty, .tmp q]) (hd : a.defers = []) (g : Nat) (t : TypeId) (cs : List Value) (d : TypeDesc)
    (hp : a.tmps.getD p undef = .pointer (some ⟨g, 0, none⟩)) (hg : At w g t cs) (hu : P.underlying ty = some d) (hdd : (match d with | .struct _ | .array _ _ => true | _ => false) = true)
    (hi : (P.info? ty).map (·.size) = some cs.length) (v : Value) (hv : a.tmps.getD q undef = v) (hR : R (.returned (.tuple #[.agg cs.toArray, v])) w) : bodyPost P fn R .ret a w := by
  refine bodyPost_ret ?_ hd hR
  have hp' : a.tmps[p]?.getD undef = .pointer (some ⟨g, 0, none⟩) := by simpa using hp
  have hv' : a.tmps[q]?.getD undef = v := by simpa using hv
  simp [results, hr, hp', hv', asAddr, run_loadVar_row w g t ty cs.toArray (0, 0) d hg hu hdd (by simpa using hi)]
/-- string(x[:]) of a part of a variable -/
theorem conv_part {W : World} {b o cap : Nat} {l : List UInt8} (h : W.rangeAt b o (u8s l)) {n : Nat} (hn : n = l.length) :
    (convert 44 9 (.slice (some ⟨b, o, none⟩) n cap)).run Tryd.prog W = .ok (.string ⟨l.toArray⟩) W := by
  subst hn
  refine run_convert_bytes_back (P := Tryd.prog) W 44 9 5 ⟨b, o, none⟩ cap l Tryd.underlying44 Tryd.underlying5 Tryd.underlying9 fun i hi => ?_
  have e : (⟨b, o, none⟩ : Addr).add i = ⟨b, o + i, none⟩ := by unfold Addr.add; split <;> simp_all
  rw [e]
  exact h i _ (by simp [u8s, hi])
theorem exec_conv {a : Act} {o : Oper} (y : Operand) (ho : o.op = .convert 44 9 y) {W : World} {b off cap n : Nat} {l : List UInt8} (hy : a.eval y = .slice (some ⟨b, off, none⟩) n cap) (hn : n = l.length) (h : W.rangeAt b off (u8s l)) :
    (execOp a.eval o).run Tryd.prog W = .ok (.value (.string ⟨l.toArray⟩)) W := by
  unfold execOp
  simp only [ho, hy, Sem.run_bind, Sem.run_pure, conv_part h hn, Result.andThen_ok]
theorem exec_cat {a : Act} {o : Oper} (x y : Operand) (yt : TypeId) (ho : o.op = .binOp .add 9 x y yt) {s t : ByteArray} (hx : a.eval x = .string s) (hy : a.eval y = .string t) (hsz : s.size + t.size ≤ 9223372036854775807) (W : World) :
    (execOp a.eval o).run Tryd.prog W = .ok (.value (.string (s ++ t))) W := by
  unfold execOp
  simp only [ho, hx, hy]
  go_simp
/-- a slice built of one string -/
theorem exec_one_str {a : Act} {o : Oper} (y : Operand) (ho : o.op = .buildSlice 43 1 #[(0, y)]) {s : ByteArray} (hy : a.eval y = .string s) (W : World) :
    (execOp a.eval o).run Tryd.prog W = .ok (.value (.slice (some ⟨W.heap.size, 0, none⟩) 1 1)) (W.alloc (.cells #[.string s] 9)) := by
  unfold execOp
  simp only [ho]
  have e : (#[(0, y)] : Array (Nat × Operand)).map (fun (i, x) => (i, a.eval x)) = #[(0, .string s)] := by simp [hy]
  rw [e]
  go_simp
/-- a row of strings that an append has made -/
theorem Own.strs {w : World} {base : Nat} {e : TypeId} {n : Nat} {v : Value} {ss : List ByteArray} (h : Own w base e 1 v n (ss.map Value.string)) (hn : n = ss.length) {p : Nat} (hp : p < base ∨ w.heap.size ≤ p) : ∃ A c, v = .slice A n c ∧ StrsAt w A ss p := by
  by_cases h0 : 0 < n
  · obtain ⟨g, cap, rfl, hb, hg, hc, _⟩ := h.form h0
    refine ⟨_, _, rfl, fun _ => ⟨⟨g, 0, none⟩, rfl, by show g ≠ p; omega, hg, fun i hi => ?_⟩⟩
    have e : (⟨g, 0, none⟩ : Addr).add i = ⟨g, i, none⟩ := by unfold Addr.add; split <;> simp_all
    rw [e, h.cellAt rfl i (by omega)]
    simp [hi]
  · have hl0 : ¬ 0 < ss.length := by omega
    rcases h.2 with ⟨rfl, h2⟩ | ⟨g, cap, cur, fr, h1, _, _, _, hc, _⟩
    · exact ⟨none, 0, by rw [h2], fun h => absurd h hl0⟩
    · exact ⟨_, cap, h1, fun h => absurd h hl0⟩
theorem infoStr : (Tryd.prog.info? 9).map (fun i => (i.zero, i.size, i.bytes)) = some (some (.string ByteArray.empty), 1, 16) := by kernel_rfl
end Go.Proofs.YtdfeiajdmmlllaaDoor
