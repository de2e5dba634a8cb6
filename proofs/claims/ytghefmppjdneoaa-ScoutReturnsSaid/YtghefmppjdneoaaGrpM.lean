/- Layer 12, the texts ScZd to ScZe joined: what the functions that a scout reaches do with memory, each told once. -/
import Derived.ArgAppend
import Derived.Maps.AppendAt
import Derived.Great.FillDense
import Derived.Great.BuildSlice
import Derived.Test.YtghefmppjdneoaaGrpL
namespace Go.Proofs.Ytghefmppjdneoaa
open Go.Proofs Stab Go.Shelf Go.RowKit Go.Lib Go.Sort Go.Maps

section
variable {P : Program} {ops : Array Oper} {Q : Exit → Act → World → Prop} {rest : List Oper} {a : Act} {w : World} {o : Oper}
/-- an operation of a plain region whose run is known -/
theorem wpList_to (v : Value) (w' : World) (hw : Region.wanted o (yielded ops a.tmps) = true) (hv : (execOp a.eval o).run P w = .ok (.value v) w') (h : wpList P ops Q rest (a.put o.dst v) w') : wpList P ops Q (o :: rest) a w :=
  wpList_step fun K hK => by
    rw [if_pos hw]
    unfold Oper.wp
    rw [hv]
    exact hK _ _ h
end
/-- a slice of one frame -/
theorem exec_one_sent {ρ : Operand → Value} {o : Oper} (x : Fr) (y : Operand) (ho : o.op = .buildSlice 33 1 #[(0, y)]) {SC : List Value} (hS : SC = bareC x) (hy : ρ y = .agg SC.toArray) (w : World) :
    (execOp ρ o).run Try.prog w = .ok (.value (.slice (some ⟨w.heap.size, 0, none⟩) 1 1)) (w.alloc (.cells SC.toArray 59)) := by
  obtain ⟨ie, hi, hz0, hz1, hz2⟩ := info_parts info_sent3
  have hl : SC.length = 238 := by rw [hS]; exact sentC_len _ _ _
  have hf := Go.Great.fill_whole (s := 238) (by omega) [Value.agg SC.toArray] ((Array.range (1 * 238)).map ((Value.agg (bareC ⟨0, 0, 0, 0, 0, []⟩).toArray).cells[· % (Value.agg (bareC ⟨0, 0, 0, 0, 0, []⟩).toArray).cells.size]!)) (by
    intro v hv
    rw [List.mem_singleton.1 hv]
    simp [Value.cells, hl]) (by simp)
  have hrun := run_buildSlice (P := Try.prog) w 33 59 1 #[(0, ρ y)] _ ie _ Try.underlying33 hi hz0 (by rw [hz1]; omega) (by rw [hz1]; omega) (by rw [hz1, hy]; exact hf)
  have e3 : (([Value.agg SC.toArray]).flatMap fun v => v.cells.toList) = SC := by simp [Value.cells]
  rw [e3] at hrun
  unfold execOp
  simp only [ho, List.map_toArray, List.map_cons, List.map_nil, Sem.run_bind, hrun, Result.andThen_ok, Sem.run_pure]
/-- a frame appended to a row of the call's own -/
theorem exec_app_sent {ρ : Operand → Value} {o : Oper} (x y : Operand) (ho : o.op = .call { callee := .builtin .append, args := #[x, y], argTypes := #[33, 33] }) {B g c : Nat} {v : Value} {l : List Fr} {f : Fr} {w : World} (hx : ρ x = v) (hy : ρ y = .slice (some ⟨g, 0, none⟩) 1 c)
    (hO : w.ownsRow B 59 238 v l.length (l.flatMap bareC)) (hB : B ≤ w.heap.size) (hg : w.rangeAt g 0 (bareC f)) (hl : l.length ≤ 1000) :
    ∃ v' w', (execOp ρ o).run Try.prog w = .ok (.value v') w' ∧ w'.ownsRow B 59 238 v' (l ++ [f]).length ((l ++ [f]).flatMap bareC) ∧ w.grownBy w' v.ownBlock := by
  obtain ⟨i0, hi, hz0, hz1, hz2⟩ := info_parts info_sent3
  obtain ⟨v', w', h1, h2, h3, _⟩ := run_append_own (P := Try.prog) w B 33 o.type 59 i0 _ 238 408 Try.underlying33 hi hz0 hz1 hz2 (by rw [show (Value.agg (bareC ⟨0, 0, 0, 0, 0, []⟩).toArray).cells = (bareC ⟨0, 0, 0, 0, 0, []⟩).toArray from rfl, List.size_toArray]; exact sentC_len _ _ _) (by omega) v l.length _ hO ⟨g, 0, none⟩ 1 c (bareC f) (sentC_len _ _ _) (fun j u hu => by rw [Addr.add_lit]; exact hg j u hu) (sentC_one _ _ _) (by unfold maxLen; omega) (by omega) hB
  refine ⟨v', w', ?_, ?_, h3⟩
  · unfold execOp
    simp only [ho, resolve, invoke, builtin, Sem.run_bind, Sem.run_pure, Result.andThen_ok, List.map_toArray, List.map_cons, List.map_nil, hx, hy, h1]
  · rw [List.flatMap_append, List.flatMap_cons, List.flatMap_nil, List.append_nil, List.length_append]
    exact h2
theorem RRow.below {w w' : World} {A : Option Addr} {c : Nat} {l : List Rel} (h : RRow w A c l) (hb : Below w.heap.size w w') : RRow w' A c l := h.keep fun g _ e => hb.block g (h.lt e)
theorem RRow.len {w : World} {A : Option Addr} {c : Nat} {l : List Rel} (h : RRow w A c l) : l.length ≤ c ∧ c ≤ maxLen := by
  rcases h with ⟨rfl, rfl, rfl⟩ | ⟨g, off, cs, rfl, h1, h2, h3, h4, h5⟩
  · exact ⟨Nat.le_refl _, Nat.zero_le _⟩
  · exact ⟨h4, h5⟩
theorem rels_one (l : List Rel) : ∀ u ∈ relsV l, u.oneCell' = true := by
  intro u hu
  obtain ⟨x, _, hx⟩ := List.mem_flatMap.1 hu
  exact relC_one _ u hx
theorem relsV_app (a b : List Rel) : relsV (a ++ b) = relsV a ++ relsV b := List.flatMap_append
theorem rrow_own {w : World} {B : Nat} {v : Value} {l : List Rel} (h : w.ownsRow B 113 4 v l.length (relsV l)) : ∃ A c, v = .slice A l.length c ∧ RRow w A c l ∧ ∀ g, blkOf A = some g → B ≤ g := by
  rcases h.2 with ⟨h1, h2⟩ | ⟨g, cap, cur, h1, h2, h3, h4, h5, h6, h7⟩
  · have h0 : l = [] := List.length_eq_zero_iff.1 h2
    subst h0
    exact ⟨none, 0, h1, RRow.nil _, fun g hg => by cases hg⟩
  · refine ⟨_, cap, h1, .inr ⟨g, 0, cur.toList, rfl, by unfold At; rw [h3], by rw [List.drop_zero]; exact h7, by rw [Nat.zero_add, Array.length_toList, h6], h4, h5⟩, fun g' hg => by cases hg; exact h2⟩
theorem mid_take {α : Type} (X Y C Z : List α) : ((X ++ Y ++ C ++ Z).drop X.length).take (Y.length + C.length) = Y ++ C := by
  rw [show X ++ Y ++ C ++ Z = X ++ ((Y ++ C) ++ Z) by simp only [List.append_assoc], List.drop_left, ← List.length_append, List.take_left]
/-- a relay appended -/
theorem exec_app_rel {ρ : Operand → Value} {o : Oper} (x y : Operand) (ho : o.op = .call { callee := .builtin .append, args := #[x, y], argTypes := #[77, 77] }) {g c c1 : Nat} {A : Option Addr} {l : List Rel} {r : Rel} {w : World} (hx : ρ x = .slice A l.length c) (hy : ρ y = .slice (some ⟨g, 0, none⟩) 1 c1)
    (hR : RRow w A c l) (hg : w.rangeAt g 0 (relC r)) (hl : l.length ≤ 1000) :
    ∃ A' c' w', (execOp ρ o).run Try.prog w = .ok (.value (.slice A' (l ++ [r]).length c')) w' ∧ RRow w' A' c' (l ++ [r]) ∧ (∀ g, blkOf A' = some g → blkOf A = some g ∨ w.heap.size ≤ g) ∧ Keeps (fun i => blkOf A ≠ some i) w w' := by
  obtain ⟨i0, hi, hz0, hz1, hz2⟩ := info_parts info_relay3
  have hexec : ∀ v' w', (Builtin.append_ #[77, 77] o.type #[.slice A l.length c, .slice (some ⟨g, 0, none⟩) 1 c1]).run Try.prog w = .ok v' w' → (execOp ρ o).run Try.prog w = .ok (.value v') w' := fun v' w' h => by
    unfold execOp
    simp only [ho, resolve, invoke, builtin, Sem.run_bind, Sem.run_pure, Result.andThen_ok, List.map_toArray, List.map_cons, List.map_nil, hx, hy, h]
  have hnew : ∀ j u, (relC r)[j]? = some u → w.cell? ((⟨g, 0, none⟩ : Addr).add j) = some u := fun j u hu => by rw [Addr.add_lit]; exact hg j u hu
  rcases hR with ⟨rfl, rfl, rfl⟩ | ⟨b, off, cs, rfl, h1, h2, h3, h4, h5⟩
  · obtain ⟨v', w', e1, e2, e3, _⟩ := run_append_own (P := Try.prog) w w.heap.size 77 o.type 113 i0 _ 4 32 Try.underlying77 hi hz0 hz1 hz2 rfl (by omega) (.slice none 0 0) 0 [] (World.ownsRow_nil w _ _ _) ⟨g, 0, none⟩ 1 c1 (relC r) rfl hnew (relC_one r) (by unfold maxLen; omega) (by omega) (Nat.le_refl _)
    have e2' : w'.ownsRow w.heap.size 113 4 v' ([] ++ [r]).length (relsV ([] ++ [r])) := e2
    obtain ⟨A', c', rfl, hr, hlo⟩ := rrow_own e2'
    exact ⟨A', c', w', hexec _ _ e1, hr, fun g hg => .inr (hlo g hg), Keeps.grown e3 fun k hk => by cases hk⟩
  · by_cases hroom : l.length + 1 ≤ c
    · have hcl : off + l.length * 4 + 4 ≤ cs.length := by rw [← h3]; omega
      have e1 := run_append_room_cells (P := Try.prog) w 77 o.type 113 i0 Try.underlying77 hi b off l.length c ⟨g, 0, none⟩ 1 c1 (relC r) (by rw [hz1]; rfl) hnew (relC_one r) hroom (fun j hj => by rw [hz1, h1.cell, List.getElem?_eq_getElem (by rw [relC_len] at hj; omega)]; rfl) (fun j hj => h1.frozen _)
      rw [hz1] at e1
      have hset := h1.setCells (relC r) (off + l.length * 4) (by rw [relC_len]; omega)
      refine ⟨some ⟨b, off, none⟩, c, _, ?_, .inr ⟨b, off, _, rfl, hset, ?_, ?_, ?_, h5⟩, fun g hg => .inl hg, Keeps.ofGrown (grown_setCells b _ _ w w (World.grownBy.refl _ _)) fun h => h rfl⟩
      · rw [List.length_append]
        exact hexec _ _ e1
      · rw [List.length_append, relsV_app, ← h2]
        have e5 : cs.take (off + l.length * 4) = cs.take off ++ (cs.drop off).take (l.length * 4) := by rw [List.take_add]
        have e6 : (cs.take off).length = off := by rw [List.length_take]; omega
        have e7 : ((cs.drop off).take (l.length * 4)).length = l.length * 4 := by rw [List.length_take, List.length_drop]; omega
        have e8 : (l.length + [r].length) * 4 = ((cs.drop off).take (l.length * 4)).length + (relC r).length := by rw [e7, relC_len, List.length_singleton, Nat.add_mul]
        have e9 := mid_take (cs.take off) ((cs.drop off).take (l.length * 4)) (relC r) (cs.drop (off + l.length * 4 + (relC r).length))
        rw [e6] at e9
        rw [e5, e8, e9]
        unfold relsV
        rw [List.flatMap_cons, List.flatMap_nil, List.append_nil]
      · rw [List.length_append, List.length_append, List.length_take, List.length_drop, relC_len]
        omega
      · rw [List.length_append]; exact hroom
    · obtain ⟨v', w', e1, e2, e3⟩ := run_append_arg_grows (P := Try.prog) w 77 o.type 113 i0 _ 4 32 Try.underlying77 hi hz0 hz1 hz2 rfl (by omega) ⟨b, off, none⟩ l.length c (relsV l) (relsV_len l) (fun j u hu => by
        have hj : j < l.length * 4 := by have := (List.getElem?_eq_some_iff.1 hu).1; rwa [relsV_len] at this
        rw [Addr.add_lit]
        refine h1.cell' ?_
        rw [← h2, List.getElem?_take, if_pos hj, List.getElem?_drop] at hu
        exact hu) ⟨g, 0, none⟩ 1 c1 (relC r) rfl hnew (by omega) (by unfold maxLen; omega) (by omega)
      have e2' : w'.ownsRow w.heap.size 113 4 v' (l ++ [r]).length (relsV (l ++ [r])) := by rw [List.length_append, relsV_app]; exact e2
      obtain ⟨A', c', rfl, hr, hlo⟩ := rrow_own e2'
      exact ⟨A', c', w', hexec _ _ e1, hr, fun g hg => .inr (hlo g hg), Keeps.grown e3 fun k hk => by cases hk⟩
section
variable {H : Type} {w w' : World} {O : Nat → Prop} {M : Nat} {b : Blk} {t : Sct}
/-- its relays are another row, fields of its own are written -/
theorem ScAt.relayed {A : Option Addr} {c M' : Nat} {t' : Sct} (h : ScAt H w O M b t) (hk : Keeps (fun i => O i ∧ i ≠ b.s ∧ blkOf b.rA ≠ some i) w w') (ha : At w' b.s 79 (scC { b with rA := A, rc := c } t')) (e : t'.v = t.v ∧ t'.f = t.f ∧ t'.since = t.since ∧ t'.line = t.line ∧ t'.help = t.help) (hr : RRow w' A c t'.rel) (hA : ∀ g, blkOf A = some g → blkOf b.rA = some g ∨ w.heap.size ≤ g) (hlim : t'.Lim M') (hM : M ≤ M') :
    ScAt H w' (fun i => O i ∨ (w.heap.size ≤ i ∧ i < w'.heap.size)) M' { b with rA := A, rc := c } t' := by
  obtain ⟨ev, ef, es, el, eh⟩ := e
  obtain ⟨n1, n2, n3, n4, n5, n6, n7, n8, n9⟩ := Blk.ne h.dis
  have hd := h.dis
  unfold Blk.list at hd
  simp only [List.pairwise_cons, List.mem_cons, List.not_mem_nil, or_false, forall_eq_or_imp, forall_eq, Option.some.injEq] at hd
  obtain ⟨⟨d1, d2, d3, d4, d5, d6⟩, ⟨e1, e2, e3, e4, e5⟩, ⟨f1, f2, f3, f4⟩, ⟨g1, g2, g3⟩, ⟨q1, q2⟩, q3, _⟩ := hd
  have lt := fun i hi => h.lt (i := i) hi
  have gl : ∀ g, blkOf A = some g → g < w'.heap.size := fun g hg => by
    rcases hr with ⟨rfl, _⟩ | ⟨g', off, cs, rfl, h1, _⟩
    · cases hg
    · cases hg; exact h1.lt
  have kb : ∀ i, some i ∈ b.list → i ≠ b.s → blkOf b.rA ≠ some i → w'.heap[i]? = w.heap[i]? := fun i h0 h1 h2 => hk.block i ⟨h.own i h0, h1, h2⟩ (lt i h0)
  have mem : ∀ i, some i ∈ Blk.list { b with rA := A, rc := c } → some i ∈ b.list ∨ (w.heap.size ≤ i ∧ i < w'.heap.size) := fun i hi => by
    rcases mem_list.1 hi with h | h | h | h | h | h | h
    · exact .inl (mem_list.2 (.inl h))
    · exact .inl (mem_list.2 (.inr (.inl h)))
    · exact .inl (mem_list.2 (.inr (.inr (.inl h))))
    · exact .inl (mem_list.2 (.inr (.inr (.inr (.inl h)))))
    · exact .inl (mem_list.2 (.inr (.inr (.inr (.inr (.inl h))))))
    · exact .inl (mem_list.2 (.inr (.inr (.inr (.inr (.inr (.inl h)))))))
    · rcases hA i h with h2 | h2
      · exact .inl (mem_list.2 (.inr (.inr (.inr (.inr (.inr (.inr h2)))))))
      · exact .inr ⟨h2, gl i h⟩
  obtain ⟨Y, h1, h2, h3⟩ := h.hum
  have ms : some b.s ∈ b.list := mem_list.2 (.inl rfl)
  have mp : some b.pv ∈ b.list := mem_list.2 (.inr (.inl rfl))
  have mv : some b.bv ∈ b.list := mem_list.2 (.inr (.inr (.inl rfl)))
  have mb : some b.bs ∈ b.list := mem_list.2 (.inr (.inr (.inr (.inl rfl))))
  refine ⟨ha, ?_, ⟨fun i => Y i ∨ (w.heap.size ≤ i ∧ i < w'.heap.size), by rw [ef]; exact h1.apartK (K := fun i => (O i ∨ w.heap.size ≤ i) ∧ i ≠ b.s ∧ blkOf b.rA ≠ some i) ⟨hk.os, hk.tape, hk.output, hk.size, fun i hi hl => hk.block i ⟨hi.1.resolve_right (by omega), hi.2⟩ hl⟩ (fun i hi => ⟨Classical.byContradiction fun ho => hi (h3 i (Nat.lt_of_not_le fun hl => ho (.inr hl)) fun h => ho (.inl h)), fun e => hi (e ▸ h2 _ ms), fun e => hi (h2 _ (mem_list.2 (.inr (.inr (.inr (.inr (.inr (.inr e))))))))⟩) (fun i hi => hi), fun i hi => ?_, fun i hi ho => ?_⟩, ?_, ?_, ?_, hr, ?_, fun i hi => ?_, hlim, ⟨Nat.le_trans h.cnt.1 (by omega), Nat.le_trans h.cnt.2.1 (by omega), Nat.le_trans h.cnt.2.2 (by omega)⟩⟩
  · rw [ev]
    obtain ⟨es, clock, hb2, F, hs, hD⟩ := h.view.2.1
    exact ⟨(kb _ mp (Ne.symm n1) (fun e => (n9 _ e).2.1 rfl)).trans h.view.1, ⟨es, clock, (kb _ mv (Ne.symm n2) (fun e => (n9 _ e).2.2.1 rfl)).trans hb2, F, hs, hD⟩, h.view.2.2⟩
  · rcases mem i hi with h | h
    · exact .inl (h2 i h)
    · exact .inr h
  · by_cases hlt : i < w.heap.size
    · exact .inl (h3 i hlt fun e => ho (.inl e))
    · exact .inr ⟨by omega, hi⟩
  · rw [es]
    obtain ⟨es, clock, hb2, F, hs, hD⟩ := h.since
    exact ⟨es, clock, (kb _ mb (Ne.symm n3) (fun e => (n9 _ e).2.2.2 rfl)).trans hb2, F, hs, hD⟩
  · rw [el]
    exact h.line.keep fun g off e => kb g (mem_list.2 (.inr (.inr (.inr (.inr (.inr (.inl (blk_some e)))))))) (n8 g (blk_some e)).1 (fun e2 => by have := q3 ((blk_some e).trans e2.symm); rw [blk_some e] at this; cases this)
  · rw [eh]
    exact h.help.keep fun g off e => kb g (mem_list.2 (.inr (.inr (.inr (.inr (.inl (blk_some e))))))) (n7 g (blk_some e)).1 (fun e2 => by have := q2 ((blk_some e).trans e2.symm); rw [blk_some e] at this; cases this)
  · have new : ∀ x, some x ∈ b.list → some x = blkOf A → blkOf b.rA = some x := fun x hx e => by
      rcases hA x e.symm with h' | h'
      · exact h'
      · exact absurd (lt _ hx) (by omega)
    unfold Blk.list
    simp only [List.pairwise_cons, List.mem_cons, List.not_mem_nil, or_false, forall_eq_or_imp, forall_eq, Option.some.injEq, List.Pairwise.nil, and_true]
    refine ⟨⟨d1, d2, d3, d4, d5, fun e => d6 (new _ ms e).symm⟩, ⟨e1, e2, e3, e4, fun e => e5 (new _ mp e).symm⟩, ⟨f1, f2, f3, fun e => f4 (new _ mv e).symm⟩, ⟨g1, g2, fun e => g3 (new _ mb e).symm⟩, ⟨q1, fun e => ?_⟩, ⟨fun e => ?_, fun _ h => h.elim⟩⟩
    · cases hh : blkOf b.hA with
      | none => rfl
      | some x =>
        have := new x (mem_list.2 (.inr (.inr (.inr (.inr (.inl hh)))))) (hh ▸ e)
        have := q2 (hh.trans this.symm)
        rw [hh] at this
        exact this
    · cases hh : blkOf b.lA with
      | none => rfl
      | some x =>
        have := new x (mem_list.2 (.inr (.inr (.inr (.inr (.inr (.inl hh))))))) (hh ▸ e)
        have := q3 (hh.trans this.symm)
        rw [hh] at this
        exact this
  · rcases mem i hi with h' | h'
    · exact .inl (h.own i h')
    · exact .inr h'
end
end Go.Proofs.Ytghefmppjdneoaa

namespace Go.Proofs.Ytghefmppjdneoaa
open Go.Proofs Stab Go.Shelf Go.RowKit Go.Lib Go.Sort Go.Maps

/-- a frame as a value -/
structure FrIs (F : List Value) (x : Fr) (A : Option Addr) (c : Nat) : Prop where
  len : F.length = 237
  k : F[0]? = some (.int .i64 x.kind)
  f : F[1]? = some (.int .i64 x.frm)
  s : F[2]? = some (.int .i64 x.seq)
  n : F[3]? = some (.int .i64 x.node)
  r : F[236]? = some (.slice A x.rum.length c)
  one : ∀ v ∈ F, v.oneCell' = true
theorem exec_boxF {ρ : Operand → Value} {o : Oper} {w : World} (t : TypeId) (x : Operand) (ho : o.op = .box t x) (F : List Value) (hx : ρ x = .agg F.toArray) : (execOp ρ o).run Try.prog w = .ok (.value (.pointer (some ⟨w.heap.size, 0, none⟩))) (w.alloc (.cells F.toArray t)) := by
  have hc : (ρ x).cells = F.toArray := by rw [hx]; rfl
  unfold execOp
  simp only [ho, Sem.run_bind, Instr.box, newVar, newRow, run_newObj_alloc, Sem.run_pure, Result.andThen_ok, hc]
theorem exec_loadS {ρ : Operand → Value} {o : Oper} (x : Operand) (ho : o.op = .load 77 x) (b off : Nat) (hx : ρ x = .pointer (some ⟨b, off, none⟩)) {w : World} {v : Value} (hc : w.cell? ⟨b, off, none⟩ = some v) : (execOp ρ o).run Try.prog w = .ok (.value v) w := by
  unfold execOp
  simp only [ho, hx, Sem.run_bind, Sem.run_pure, run_load_slice Try.underlying77 hc, Result.andThen_ok]
theorem exec_one_rel {ρ : Operand → Value} {o : Oper} (x : Operand) (r : Rel) (ho : o.op = .buildSlice 77 1 #[(0, x)]) (hx : ρ x = .agg #[.int .i64 r.seq, .int .i64 r.to_, .int .i64 r.org, .int .i64 r.was]) (w : World) :
    (execOp ρ o).run Try.prog w = .ok (.value (.slice (some ⟨w.heap.size, 0, none⟩) 1 1)) (w.alloc (.cells #[.int .i64 r.seq, .int .i64 r.to_, .int .i64 r.org, .int .i64 r.was] 113)) := by
  unfold execOp
  simp only [ho, List.map_toArray, List.map_cons, List.map_nil, hx]
  go_simp
theorem turn_store1 {P : Program} {ops : Array Oper} {Q : Exit → Act → World → Prop} {S : World → Prop} {W : Act → World → Prop} {i : Nat} {a : Act} {w : World} {o : Oper} (v : Value) (ho : ops.toList[i]? = some o) (hw : Region.wanted o (yielded ops a.tmps) = true) (ty : TypeId) (x y : Operand) (hop : o.op = .store ty x y) (g off : Nat) (hx : a.eval x = .pointer (some ⟨g, off, none⟩)) (hy : a.eval y = v) (hv : (∃ k n, v = .int k n) ∨ (∃ A n c, v = .slice A n c) ∨ ∃ b, v = .bool b) (hi : (P.info? ty).map (·.size) = some 1) (hc : (w.cell? ⟨g, off, none⟩).isSome = true ∧ w.frozen? ⟨g, off, none⟩ = false) (hS : S (w.setCell ⟨g, off, none⟩ v)) (h : W (a.put o.dst undef) (w.setCell ⟨g, off, none⟩ v)) : turnT P ops S Q W i a w :=
  turn_step ho hw fun K hK => by
    have hr : (Instr.storeAt ty (.pointer (some ⟨g, off, none⟩)) v).run P w = .ok () (w.setCell ⟨g, off, none⟩ v) := by
      cases hq : P.info? ty with
      | none => simp [hq] at hi
      | some i =>
        have hs : i.size = 1 := by simpa [hq] using hi
        obtain ⟨v0, hv0⟩ := Option.isSome_iff_exists.1 hc.1
        rcases hv with ⟨k, n, rfl⟩ | ⟨A, n, c, rfl⟩ | ⟨bb, rfl⟩ <;> simp [Instr.storeAt, Instr.sureAddr, storeVar, sizeOf, typeInfo, hq, hs, hv0, hc.2, Value.cells, storeCells, go_sem]
    unfold Oper.wp execOp
    simp only [hop, hx, hy, Sem.run_bind, Sem.run_pure, hr, Result.andThen_ok]
    exact hK _ _ hS h
theorem turn_app_rel {ops : Array Oper} {Q : Exit → Act → World → Prop} {S : World → Prop} {W : Act → World → Prop} {i : Nat} {a : Act} {w : World} {o : Oper} (ho : ops.toList[i]? = some o) (hw : Region.wanted o (yielded ops a.tmps) = true) (x y : Operand) (hop : o.op = .call { callee := .builtin .append, args := #[x, y], argTypes := #[77, 77] }) {g c c1 n : Nat} {A : Option Addr} {l : List Rel} {r : Rel} (hx : a.eval x = .slice A n c) (hn : n = l.length) (hy : a.eval y = .slice (some ⟨g, 0, none⟩) 1 c1)
    (hR : RRow w A c l) (hg : w.rangeAt g 0 (relC r)) (hl : l.length ≤ 1000) (h : ∀ A' c' w', RRow w' A' c' (l ++ [r]) → (∀ g, blkOf A' = some g → blkOf A = some g ∨ w.heap.size ≤ g) → Keeps (fun i => blkOf A ≠ some i) w w' → S w' ∧ W (a.put o.dst (.slice A' (l ++ [r]).length c')) w') : turnT Try.prog ops S Q W i a w := by
  obtain ⟨A', c', w', h1, h2, h3, h4⟩ := exec_app_rel x y hop (hx.trans (by rw [hn])) hy hR hg hl
  obtain ⟨hS, hW⟩ := h A' c' w' h2 h3 h4
  exact turn_put _ _ ho hw h1 hS hW
theorem built_rel (a b c d : Int) : Try.prog.built 113 [(0, .int .i64 a), (1, .int .i64 b), (2, .int .i64 c), (3, .int .i64 d)] = some #[.int .i64 a, .int .i64 b, .int .i64 c, .int .i64 d] := by kernel_rfl
theorem elem_rels : Try.prog.underlying 77 = some (.slice (Try.prog.elem 77)) := by kernel_rfl
theorem size_rels (w : World) : (sizeOf (Try.prog.elem 77)).run Try.prog w = .ok 4 w := by kernel_rfl
theorem RRow.cutLo {w : World} {A : Option Addr} {c k : Nat} {l : List Rel} (h : RRow w A c l) (hk : k ≤ l.length) (hc : k < c ∨ k = 0) : RRow w (cutA A k c 4) (c - k) (l.drop k) := by
  rcases h with ⟨rfl, rfl, rfl⟩ | ⟨g, off, cs, rfl, h1, h2, h3, h4, h5⟩
  · obtain rfl : k = 0 := by simpa using hk
    exact .inl ⟨rfl, rfl, rfl⟩
  · rw [cutA_add]
    by_cases h0 : c = k
    · obtain rfl : k = 0 := by omega
      rw [if_pos h0]
      exact .inr ⟨g, off, cs, rfl, h1, h2, h3, h4, h5⟩
    · rw [if_neg h0]
      refine .inr ⟨g, off + k * 4, cs, rfl, h1, ?_, by omega, by rw [List.length_drop]; omega, by omega⟩
      have h6 := congrArg (List.drop (k * 4)) h2
      rw [List.drop_take, List.drop_drop] at h6
      have h7 : (relsV l).drop (k * 4) = relsV (l.drop k) := by
        have e1 : relsV l = relsV (l.take k) ++ relsV (l.drop k) := by
          conv => lhs; rw [← List.take_append_drop k l]
          unfold relsV
          rw [List.flatMap_append]
        have e2 : (relsV (l.take k)).length = k * 4 := by rw [relsV_len, List.length_take, Nat.min_eq_left hk]
        rw [e1, ← e2, List.drop_left]
      rw [h7] at h6
      rw [← h6, List.length_drop, Nat.sub_mul]
/-- what ask's first drawn region reads beside the relays -/
structure AskS (fq : Nat) (x : Fr) (w : World) : Prop where
  f : w.cell? ⟨fq, 1, none⟩ = some (.int .i64 x.frm)
  s : w.cell? ⟨fq, 2, none⟩ = some (.int .i64 x.seq)
  n : w.cell? ⟨fq, 3, none⟩ = some (.int .i64 x.node)
theorem AskS.of {F : List Value} {x : Fr} {A : Option Addr} {c fq : Nat} {w : World} (hF : FrIs F x A c) (h : At w fq 57 F) : AskS fq x w := ⟨h.cell' hF.f, h.cell' hF.s, h.cell' hF.n⟩
section
variable {H : Type} {w w' w0 : World} {O : Nat → Prop} {M : Nat} {b : Blk} {t : Sct} {s : Nat}
theorem Grew.isNode (h : Grew H w0 w O M s t) (n : Int) : Calls Try.prog 31 #[.pointer (some ⟨s, 0, none⟩), .int .i64 n] w fun e w' => e = .returned (.bool (t.isNode n)) ∧ w' = w := by
  obtain ⟨b', O', rfl, hS, _⟩ := h
  exact isnode_any hS n
theorem Grew.number (h : Grew H w0 w O M s t) (hM : M < 1000000) : Calls Try.prog 24 #[.pointer (some ⟨s, 0, none⟩)] w fun e w' => e = .returned (.int .i64 (t.last + 1)) ∧ Grew H w0 w' O (M + 1) s { t with last := t.last + 1 } := by
  refine h.calls fun b' O' e hS => ?_
  subst e
  refine (number_any hS hM).mono ?_
  rintro e w' ⟨rfl, h1, h2⟩
  exact ⟨rfl, b', O', rfl, h1, fun _ hi => .inl hi, Keeps.ofGrown h2 fun hn => hn (hS.own _ (mem_list.2 (.inl rfl)))⟩
/-- its relays are another row -/
theorem Grew.relays {W : World} {A : Option Addr} {c M' : Nat} {rA : Option Addr} {n rc : Nat} {t' : Sct} (h : Grew H w0 w O M s t) (hc : w.cell? ⟨s, 12, none⟩ = some (.slice rA n rc)) (hk : Keeps (fun i => i ≠ s ∧ blkOf rA ≠ some i) w W) (hW : ∀ cs, At w s 79 cs → ∃ cs', At W s 79 cs' ∧ ∀ v, cs'.set 12 v = cs.set 12 v) (e : t' = { t with rel := t'.rel }) (hr : RRow W A c t'.rel) (hA : ∀ g, blkOf A = some g → blkOf rA = some g ∨ w.heap.size ≤ g) (hl : t'.rel.length ≤ 16) (hM : M ≤ M') :
    Grew H w0 (W.setCell ⟨s, 12, none⟩ (.slice A t'.rel.length c)) O M' s t' := by
  obtain ⟨b', O', rfl, hS, h3, h4⟩ := h
  have hc2 := hS.cell (i := 12) (v := .slice b'.rA t.rel.length b'.rc) rfl
  rw [hc] at hc2
  injection hc2 with hc2
  injection hc2 with e1 _ _
  obtain ⟨_, _, _, _, _, _, _, _, n9⟩ := Blk.ne hS.dis
  obtain ⟨cs', hAt, hset'⟩ := hW _ hS.hd
  have hg : W.grownBy (W.setCell ⟨b'.s, 12, none⟩ (.slice A t'.rel.length c)) (some b'.s) := grown_setCell (World.grownBy.refl _ _) (.inl rfl) _
  have hk2 : Keeps (fun i => i ≠ b'.s ∧ blkOf b'.rA ≠ some i) w (W.setCell ⟨b'.s, 12, none⟩ (.slice A t'.rel.length c)) := (hk.mono fun i hi => by rw [e1]; exact hi).trans (Keeps.ofGrown hg fun h => h.1 rfl)
  have hset := hAt.set 12 (.slice A t'.rel.length c)
  rw [hset'] at hset
  have hcells : scC { b' with rA := A, rc := c } t' = (scC b' t).set 12 (.slice A t'.rel.length c) := by rw [e]; rfl
  rw [← hcells] at hset
  have hS2 := hS.relayed (M' := M') (hk2.mono fun i hi => hi.2) hset (by rw [e]; exact ⟨rfl, rfl, rfl, rfl, rfl⟩) (hr.keep fun g off e2 => hg.block g (hr.lt e2) fun e3 => by
    cases e3
    rcases hA b'.s (blk_some e2) with h | h
    · exact (n9 _ (by rw [← e1]; exact h)).1 rfl
    · have := hS.hd.lt; omega) (fun g hg2 => by rw [← e1]; exact hA g hg2) (by rw [e]; have hl2 := hS.lim.mono hM; exact ⟨hl2.me, hl2.ticks, hl2.last, hl2.seq, hl2.tgt, hl2.help, hl2.line, hl, hl2.since⟩) hM
  refine ⟨{ b' with rA := A, rc := c }, _, rfl, hS2, own_step h4.size (Nat.le_trans hk.size hg.size) h3 fun i hi => hi, keeps_step h4 h3 (hk2.mono fun i hi => ⟨fun e2 => hi (e2 ▸ hS.own _ (mem_list.2 (.inl rfl))), fun e2 => hi (hS.own _ (mem_list.2 (.inr (.inr (.inr (.inr (.inr (.inr e2))))))))⟩)⟩
/-- what the first store has left: the row, the scout's block but for its relays -/
structure AskL (s : Nat) (w W : World) (rA A : Option Addr) (c : Nat) (l : List Rel) (m : Nat) : Prop where
  len : m = l.length
  row : RRow W A c l
  lo : ∀ g, blkOf A = some g → blkOf rA = some g ∨ w.heap.size ≤ g
  kp : Keeps (fun i => i ≠ s ∧ blkOf rA ≠ some i) w W
  at_ : ∀ cs, At w s 79 cs → ∃ cs', At W s 79 cs' ∧ (∀ v, cs'.set 12 v = cs.set 12 v) ∧ cs' = cs.set 12 (.slice A m c)
theorem AskL.of {w4 w5 : World} {rA A : Option Addr} {c m : Nat} {l : List Rel} (hs : w5.heap[s]? = w4.heap[s]?) (hlt : s < w4.heap.size) (hk : Keeps (fun i => blkOf rA ≠ some i) w4 w5) (hr : RRow w5 A c l) (hlo : ∀ g, blkOf A = some g → blkOf rA = some g ∨ w4.heap.size ≤ g) (hne : blkOf rA ≠ some s) (hm : m = l.length) : AskL s w4 (w5.setCell ⟨s, 12, none⟩ (.slice A m c)) rA A c l m := by
  have hg : w5.grownBy (w5.setCell ⟨s, 12, none⟩ (.slice A m c)) (some s) := grown_setCell (World.grownBy.refl _ _) (.inl rfl) _
  refine ⟨hm, hr.keep fun g off e => hg.block g (hr.lt e) fun e2 => ?_, hlo, (hk.mono fun i hi => hi.2).trans (Keeps.ofGrown hg fun h => h.1 rfl), fun cs h => ⟨_, At.set (hs.trans h) 12 _, fun v => List.set_set _, rfl⟩⟩
  cases e2
  rcases hlo s (blk_some e) with h | h
  · exact hne h
  · omega
theorem Grew.relrow (h : Grew H w0 w O M s t) : ∃ rA rc, w.cell? ⟨s, 12, none⟩ = some (.slice rA t.rel.length rc) ∧ RRow w rA rc t.rel ∧ (∀ g, blkOf rA = some g → g ≠ s) ∧ ∀ g, blkOf rA = some g → O g ∨ w0.heap.size ≤ g := by
  obtain ⟨b', O', rfl, hS, h3, h4⟩ := h
  refine ⟨b'.rA, b'.rc, hS.cell (i := 12) rfl, hS.rel, fun g hg => ((Blk.ne hS.dis).2.2.2.2.2.2.2.2 g hg).1, fun g hg => ?_⟩
  rcases h3 g (hS.own _ (mem_list.2 (.inr (.inr (.inr (.inr (.inr (.inr hg)))))))) with h | h
  · exact .inl h
  · exact .inr h.1
theorem ask_no {t : Sct} {x : Fr} (h : t.isNode x.node = false ∨ x.node = x.frm) : t.ask x = (t, []) := by unfold Sct.ask; rw [if_pos h]
theorem ask_yes {t : Sct} {x : Fr} (h1 : t.isNode x.node = true) (h2 : x.node ≠ x.frm) : t.ask x = ({ t with last := t.last + 1, rel := (t.rel ++ [(⟨t.last + 1, x.node, x.frm, x.seq⟩ : Rel)]).drop ((t.rel ++ [(⟨t.last + 1, x.node, x.frm, x.seq⟩ : Rel)]).length - 16) }, [⟨x.node, 1, 0, t.last + 1, 0, []⟩]) := by
  unfold Sct.ask
  rw [if_neg]
  rintro (h | h)
  · rw [h1] at h; cases h
  · exact h2 h
theorem AskL.cell {w4 W : World} {rA A : Option Addr} {c m : Nat} {l : List Rel} (h : AskL s w4 W rA A c l m) (hG : Grew H w0 w4 O M s t) : W.cell? ⟨s, 12, none⟩ = some (.slice A m c) ∧ s < W.heap.size ∧ W.frozen? ⟨s, 12, none⟩ = false := by
  obtain ⟨b', O', rfl, hS, _⟩ := hG
  obtain ⟨cs', h1, _, h2⟩ := h.at_ _ hS.hd
  refine ⟨h1.cell' ?_, h1.lt, h1.frozen _⟩
  rw [h2, List.getElem?_set_self (show 12 < 14 by decide)]
theorem AskL.final {w4 W w7 : World} {rA A : Option Addr} {c m M' n rc kc : Nat} {l : List Rel} (h : AskL s w4 W rA A c l m) (hG : Grew H w0 w4 O M s t) (hb : Behind W w7) (hc : w4.cell? ⟨s, 12, none⟩ = some (.slice rA n rc)) (hM : M ≤ M') (hk : kc < c ∨ kc = 0) (hm : m - kc ≤ 16) (hkl : kc = l.length - 16) : Grew H w0 (w7.setCell ⟨s, 12, none⟩ (.slice (cutA A kc c 4) (m - kc) (c - kc))) O M' s { t with rel := l.drop (l.length - 16) } := by
  have hb' : Below W.heap.size W w7 := hb
  have hr : RRow w7 (cutA A kc c 4) (c - kc) (l.drop kc) := (h.row.below hb').cutLo (by omega) hk
  have hl : (l.drop kc).length = m - kc := by rw [List.length_drop, h.len]
  have hlt := (h.cell hG).2.1
  rw [← hkl, ← hl]
  refine hG.relays (W := w7) (t' := { t with rel := l.drop kc }) hc ((h.kp).trans (Keeps.ofBelow hb')) (fun cs hcs => ?_) rfl hr (fun g hg => h.lo g (by rwa [cutA_blk] at hg)) (by show (l.drop kc).length ≤ 16; omega) hM
  obtain ⟨cs', h1, h2, _⟩ := h.at_ cs hcs
  exact ⟨cs', h1.below hb' h1.lt, h2⟩
theorem exec_max {ρ : Operand → Value} {o : Oper} (x y : Operand) (ts : Array TypeId) (ho : o.op = .call { callee := .builtin .max, args := #[x, y], argTypes := ts }) (a b c : Int) (hx : ρ x = .int .i64 a) (hy : ρ y = .int .i64 b) (hc : max a b = c) (w : World) : (execOp ρ o).run Try.prog w = .ok (.value (.int .i64 c)) w := by
  subst hc
  unfold execOp
  simp only [ho, resolve, invoke, builtin, Sem.run_bind, Sem.run_pure, Result.andThen_ok, List.map_toArray, List.map_cons, List.map_nil, hx, hy]
  go_simp
set_option maxRecDepth 100000 in
set_option maxHeartbeats 2000000 in
theorem ask_aux (h : ScAt H w O M b t) (hO : ∀ i, O i → i < w.heap.size) (hM : M < 1000000) {F : List Value} {x : Fr} {A : Option Addr} {c : Nat} (hF : FrIs F x A c) : Calls Try.prog 35 #[.pointer (some ⟨b.s, 0, none⟩), .agg F.toArray] w fun e w' => ∃ v, e = .returned v ∧ Bares w' v (t.ask x).2 ∧ Grew H w w' O (M + 1) b.s (t.ask x).1 := by
  obtain ⟨W1, hW1⟩ : ∃ W1, W1 = w.alloc (.cells F.toArray 57) := ⟨_, rfl⟩
  have hA1 : At W1 w.heap.size 57 F := by rw [hW1]; exact At.new _ _ _
  have hb1 : Below w.heap.size w W1 := by rw [hW1]; exact (Below.refl _ _).alloc (Nat.le_refl _) _
  obtain ⟨s, hs⟩ : ∃ s, s = b.s := ⟨_, rfl⟩
  have HG1 := Lib.hid (show Grew H W1 W1 O M s t by have := Grew.refl (h.below hb1); rwa [← hs] at this)
  rw [← hs]
  obtain ⟨fq, hfq⟩ : ∃ fq, fq = w.heap.size := ⟨_, rfl⟩
  rw [← hfq] at hA1
  have HFQ := Lib.hid (show ¬ O fq ∧ fq < W1.heap.size ∧ s ≠ fq from ⟨fun ho => by have := hO fq ho; omega, hA1.lt, by rw [hs, hfq]; have := h.hd.lt; omega⟩)
  have HB1 := Lib.hid hb1
  have HA1 := Lib.hid hA1
  have HW1 := Lib.hid (And.intro hW1 hfq)
  have HF := Lib.hid hF
  have HIN := Lib.hid (HG1.out.isNode x.node)
  have HNM := Lib.hid (HG1.out.number hM)
  have k3 := hA1.cell' hF.n
  have k1 := hA1.cell' hF.f
  clear h hO hW1 hA1 hb1 hs hfq hF
  go_enter Try.func35, Try.ntmps35
  go_wp2_with (first
    | ((with_reducible refine wpList_to (.pointer (some ⟨w.heap.size, 0, none⟩)) (w.alloc (.cells F.toArray 57)) (by with_unfolding_all rfl) (exec_boxF _ _ (by with_unfolding_all rfl) F (by with_unfolding_all rfl)) ?_); rw [← HW1.out.1, ← HW1.out.2]))
  cases hin : t.isNode x.node
  · rw [hin] at HIN
    have HE := Lib.hid (ask_no (t := t) (x := x) (.inl hin))
    clear hin
    refine HIN.out.mono ?_
    rintro e w2 ⟨rfl, rfl⟩
    go_wp2_with fail
    go_ret
    rw [HE.out]
    exact ⟨_, rfl, .inl ⟨rfl, rfl⟩, (HG1.out.mono (Nat.le_succ _)).behind HB1.out⟩
  · rw [hin] at HIN
    refine HIN.out.mono ?_
    rintro e w2 ⟨rfl, e2⟩
    have e3 := e2.symm
    clear e2
    subst e3
    by_cases hfr : x.node = x.frm
    · have HE := Lib.hid (ask_no (t := t) (x := x) (.inr hfr))
      rw [← hfr] at k1
      clear hin hfr
      go_wp2_with fail
      go_ret
      rw [HE.out]
      exact ⟨_, rfl, .inl ⟨rfl, rfl⟩, (HG1.out.mono (Nat.le_succ _)).behind HB1.out⟩
    · have HE := Lib.hid (ask_yes hin hfr)
      have HNF := Lib.hid hfr
      clear hin
      go_wp2_with fail
      refine HNM.out.mono ?_
      rintro e w3 ⟨rfl, hG3⟩
      have hA3 : At w3 fq 57 F := (hG3.keeps.block fq HFQ.out.1 HFQ.out.2.1).trans HA1.out
      obtain ⟨rA, rc, hc12, hR3, hrs, hrO⟩ := hG3.relrow
      obtain ⟨n, hn⟩ : ∃ n, n = t.rel.length := ⟨_, rfl⟩
      have hc12' : w3.cell? ⟨s, 12, none⟩ = some (.slice rA n rc) := by rw [hn]; exact hc12
      have HSD := Lib.hid (show AskS fq x w3.drew from ⟨(AskS.of HF.out hA3).f, (AskS.of HF.out hA3).s, (AskS.of HF.out hA3).n⟩)
      have HC12 := Lib.hid (show w3.drew.cell? ⟨s, 12, none⟩ = some (.slice rA n rc) from hc12')
      obtain ⟨w4, hw4⟩ : ∃ w4, w4 = w3.drew.alloc (.cells #[.int .i64 (t.last + 1), .int .i64 x.node, .int .i64 x.frm, .int .i64 x.seq] 113) := ⟨_, rfl⟩
      have hb4 : Below w3.heap.size w3 w4 := by rw [hw4]; exact (Below.refl _ _).drew.alloc (Nat.le_refl _) _
      have hA4 := hA3.below hb4 hA3.lt
      have hS4 := AskS.of HF.out hA4
      have hc12 : w4.cell? ⟨s, 12, none⟩ = some (.slice rA n rc) := (World.cell?_of_block (hb4.block s hG3.lt)).trans hc12'
      have hrel4 : w4.rangeAt w3.heap.size 0 (relC (⟨t.last + 1, x.node, x.frm, x.seq⟩ : Rel)) := fun j v hv => by
        rw [Nat.zero_add, hw4]
        have := (At.newA w3.drew 113 (C := #[.int .i64 (t.last + 1), .int .i64 x.node, .int .i64 x.frm, .int .i64 x.seq]) (cs := relC (⟨t.last + 1, x.node, x.frm, x.seq⟩ : Rel)) rfl).cell' hv
        exact this
      have hl16 := hG3.lim.rel
      have hs4 : fq ≠ s := Ne.symm HFQ.out.2.2
      have hfr4 : ∀ g, blkOf rA = some g → g ≠ fq := fun g hg e => by
        subst e
        rcases hrO g hg with h | h
        · exact HFQ.out.1 h
        · have := HFQ.out.2.1; omega
      have HG3 := Lib.hid hG3
      have HR4 := Lib.hid (hR3.below hb4)
      have HREL := Lib.hid hrel4
      have HN := Lib.hid hn
      have HLL := Lib.hid (show t.rel.length ≤ 16 from hl16)
      have HS4 := Lib.hid hS4
      have HC4 := Lib.hid hc12
      have HG4 := Lib.hid (hG3.on hb4)
      have HA4 := Lib.hid hA4
      have HRS := Lib.hid (And.intro hs4 (And.intro hfr4 hrs))
      have HW4 := Lib.hid hw4
      clear hG3 hR3 hrel4 hn hl16 hS4 hc12 hc12' hA3 hA4 hrs hrO hs4 hfr4 hb4 hw4 HIN HNM k1 k3 hfr
      go_wp2_with fail
      refine wp_region_tree (.quiet 0 (.quiet 1 (.quiet 5 (.quiet 6 (.quiet 7 (.quiet 8 (.quiet 9 (.quiet 10 (.quiet 11 (.quiet 12 (.quiet 2 (.quiet 3 (.two 4 (.one 13 (.one 14 (.quiet 15 (.quiet 16 (.one 17 .done))))) 13 (.one 4 (.one 14 (.quiet 15 (.quiet 16 (.one 17 .done)))))))))))))))))) (AskS fq x) (by kernel_rfl) (by kernel_rfl) (fun _ _ d _ _ h => by cases d <;> exact h) (by kernel_rfl) (by decide) HSD.out ?_
      iterate 12 (
        first
          | (refine wpT_val (.pointer (some ⟨s, 0, none⟩)) (by with_unfolding_all rfl) (by with_unfolding_all rfl) (fun w _ => exec_nil _ (by with_unfolding_all rfl) s 0 (by with_unfolding_all rfl) w) ?_; simp only [Act.put, List.setIfInBounds_toArray, List.set_cons_zero, List.set_cons_succ])
          | (refine wpT_val (.pointer (some ⟨s, 12, none⟩)) (by with_unfolding_all rfl) (by with_unfolding_all rfl) (fun w _ => exec_s8 _ (by with_unfolding_all rfl) s (by with_unfolding_all rfl) w) ?_; simp only [Act.put, List.setIfInBounds_toArray, List.set_cons_zero, List.set_cons_succ])
          | (refine wpT_val (.agg #[.int .i64 (t.last + 1), .int .i64 x.node, .int .i64 x.frm, .int .i64 x.seq]) (by with_unfolding_all rfl) (by with_unfolding_all rfl) (fun w _ => exec_build 113 #[(0, .tmp 25), (1, .tmp 27), (2, .tmp 29), (3, .tmp 31)] _ (by with_unfolding_all rfl) (built_at' (built_rel (t.last + 1) x.node x.frm x.seq) (by with_unfolding_all rfl)) w) ?_; simp only [Act.put, List.setIfInBounds_toArray, List.set_cons_zero, List.set_cons_succ])
          | (refine wpT_q (by with_unfolding_all rfl) (by kernel_rfl) ?_
             first
              | go_big_quiet_skip
              | ((with_reducible refine wpQuiet_load1 (.int .i64 x.frm) (by with_unfolding_all rfl) 3 _ (by with_unfolding_all rfl) .i64 Try.underlying3 fq (1) (by with_unfolding_all rfl) (fun w h => h.f) ?_); simp only [Act.put, List.setIfInBounds_toArray, List.set_cons_zero, List.set_cons_succ])
              | ((with_reducible refine wpQuiet_load1 (.int .i64 x.seq) (by with_unfolding_all rfl) 3 _ (by with_unfolding_all rfl) .i64 Try.underlying3 fq (2) (by with_unfolding_all rfl) (fun w h => h.s) ?_); simp only [Act.put, List.setIfInBounds_toArray, List.set_cons_zero, List.set_cons_succ])
              | ((with_reducible refine wpQuiet_load1 (.int .i64 x.node) (by with_unfolding_all rfl) 3 _ (by with_unfolding_all rfl) .i64 Try.underlying3 fq (3) (by with_unfolding_all rfl) (fun w h => h.n) ?_); simp only [Act.put, List.setIfInBounds_toArray, List.set_cons_zero, List.set_cons_succ])
              | (go_big_quiet_step (exact fun _ => rfl))
             refine wpT_qnil ?_))
      refine ⟨?_, ?_⟩
      · refine turn_put (.slice rA n rc) w3.drew (by with_unfolding_all rfl) (by with_unfolding_all rfl) (exec_loadS _ (by with_unfolding_all rfl) s 12 (by with_unfolding_all rfl) HC12.out) HSD.out ?_
        simp only [Act.put, List.setIfInBounds_toArray, List.set_cons_zero, List.set_cons_succ]
        refine turn_put (.slice (some ⟨w3.drew.heap.size, 0, none⟩) 1 1) w4 (by with_unfolding_all rfl) (by with_unfolding_all rfl) (by rw [HW4.out]; exact exec_one_rel (.tmp 32) (⟨t.last + 1, x.node, x.frm, x.seq⟩ : Rel) (by with_unfolding_all rfl) (by with_unfolding_all rfl) _) HS4.out ?_
        simp only [Act.put, List.setIfInBounds_toArray, List.set_cons_zero, List.set_cons_succ]
        rw [show w3.drew.heap.size = w3.heap.size from rfl]
        refine turn_app_rel (by with_unfolding_all rfl) (by with_unfolding_all rfl) (.tmp 24) (.tmp 33) (by with_unfolding_all rfl) (by with_unfolding_all rfl) HN.out (by with_unfolding_all rfl) HR4.out HREL.out (by have := HLL.out; omega) ?_
        intro A5 c5 w5 hR5 hlo5 hK5
        have hA5 : At w5 fq 57 F := (hK5.block fq (fun e => HRS.out.2.1 fq e rfl) HA4.out.lt).trans HA4.out
        refine ⟨AskS.of HF.out hA5, ?_⟩
        simp only [Act.put, List.setIfInBounds_toArray, List.set_cons_zero, List.set_cons_succ]
        have hs5 : w5.heap[s]? = w4.heap[s]? := hK5.block s (fun e => HRS.out.2.2 s e rfl) HG4.out.lt
        have HC5 := Lib.hid (show (w5.cell? ⟨s, 12, none⟩).isSome = true ∧ w5.frozen? ⟨s, 12, none⟩ = false from ⟨by rw [World.cell?_of_block (a := ⟨s, 12, none⟩) hs5, HC4.out]; rfl, by rw [World.frozen?_of_block (a := ⟨s, 12, none⟩) hs5]; exact HG4.out.frozen 12⟩)
        have HSS := Lib.hid (show ∀ v, AskS fq x (w5.setCell ⟨s, 12, none⟩ v) from fun v => AskS.of HF.out (hA5.far (p := ⟨s, 12, none⟩) (Ne.symm HRS.out.1) v))
        obtain ⟨m5, hm5⟩ : ∃ m5, m5 = (t.rel ++ [(⟨t.last + 1, x.node, x.frm, x.seq⟩ : Rel)]).length := ⟨_, rfl⟩
        have HSL := Lib.hid (show AskL s w4 (w5.setCell ⟨s, 12, none⟩ (.slice A5 m5 c5)) rA A5 c5 (t.rel ++ [(⟨t.last + 1, x.node, x.frm, x.seq⟩ : Rel)]) m5 from AskL.of hs5 HG4.out.lt hK5 hR5 hlo5 (fun e => HRS.out.2.2 s e rfl) hm5)
        rw [← hm5]
        have HA6 := Lib.hid (hA5.far (p := ⟨s, 12, none⟩) (Ne.symm HRS.out.1) (.slice A5 m5 c5))
        clear hm5 hR5 hlo5 hK5 hA5 hs5
        iterate 2 (
          first
            | (refine wpT_val (.pointer (some ⟨s, 0, none⟩)) (by with_unfolding_all rfl) (by with_unfolding_all rfl) (fun w _ => exec_nil _ (by with_unfolding_all rfl) s 0 (by with_unfolding_all rfl) w) ?_; simp only [Act.put, List.setIfInBounds_toArray, List.set_cons_zero, List.set_cons_succ])
            | (refine wpT_val (.pointer (some ⟨s, 12, none⟩)) (by with_unfolding_all rfl) (by with_unfolding_all rfl) (fun w _ => exec_s8 _ (by with_unfolding_all rfl) s (by with_unfolding_all rfl) w) ?_; simp only [Act.put, List.setIfInBounds_toArray, List.set_cons_zero, List.set_cons_succ])
            | (refine wpT_q (by with_unfolding_all rfl) (by kernel_rfl) ?_
               first
                | go_big_quiet_skip
                | (go_big_quiet_step (exact fun _ => rfl))
               refine wpT_qnil ?_))
        refine turn_store1 (.slice A5 m5 c5) (by with_unfolding_all rfl) (by with_unfolding_all rfl) 77 _ _ (by with_unfolding_all rfl) s 12 (by with_unfolding_all rfl) (by with_unfolding_all rfl) (.inr (.inl ⟨_, _, _, rfl⟩)) (by kernel_rfl) HC5.out (HSS.out _) ?_
        simp only [Act.put]
        refine wpT_done ?_
        clear HC5 HSS HREL HR4
        obtain ⟨w6, hw6⟩ : ∃ w6, w6 = w5.setCell ⟨s, 12, none⟩ (.slice A5 m5 c5) := ⟨_, rfl⟩
        rw [← hw6] at HSL HA6 ⊢
        clear hw6
        have hm17 : m5 ≤ 17 := by rw [HSL.out.len, List.length_append]; have := HLL.out; simp only [List.length_singleton]; omega
        have hmc := HSL.out.row.len
        rw [← HSL.out.len] at hmc
        obtain ⟨kc, hkc⟩ : ∃ kc, kc = m5 - 16 := ⟨_, rfl⟩
        have hmx : max ((m5 : Int) - 16) 0 = (kc : Int) := by omega
        have hkm : kc ≤ m5 := by omega
        have HKC := Lib.hid hkc
        have HMC := Lib.hid (And.intro hmc hm17)
        have HMX := Lib.hid hmx
        have HKM := Lib.hid hkm
        have HSB := Lib.hid (run_subI (m5 : Int) 16 (by omega) (by omega))
        have HC6 := Lib.hid (show ∀ W, Behind w6 W → W.cell? ⟨s, 12, none⟩ = some (.slice A5 m5 c5) from fun W hW => (World.cell?_of_block (a := ⟨s, 12, none⟩) (Below.block hW s (HSL.out.cell HG4.out).2.1)).trans (HSL.out.cell HG4.out).1)
        clear hmx hkm hkc hmc
        go_wp2_with fail
        refine wp_region_then (Behind w6) 15 (by kernel_rfl) (by kernel_rfl) (by kernel_rfl) (by kernel_rfl) (by decide) (Below.refl _ _).drew ?_
        simp only [List.take_succ_cons, List.take_zero, List.drop_succ_cons, List.drop_zero]
        iterate 15 (first
          | go_big_quiet_skip
          | ((with_reducible refine wpQuiet_val (.pointer (some ⟨s, 0, none⟩)) (by with_unfolding_all rfl) (fun w _ => exec_nil _ (by with_unfolding_all rfl) s 0 (by with_unfolding_all rfl) w) ?_); simp only [Act.put, List.setIfInBounds_toArray, List.set_cons_zero, List.set_cons_succ])
          | ((with_reducible refine wpQuiet_val (.pointer (some ⟨s, 12, none⟩)) (by with_unfolding_all rfl) (fun w _ => exec_s8 _ (by with_unfolding_all rfl) s (by with_unfolding_all rfl) w) ?_); simp only [Act.put, List.setIfInBounds_toArray, List.set_cons_zero, List.set_cons_succ])
          | ((with_reducible refine wpQuiet_loadS (.slice A5 m5 c5) (by with_unfolding_all rfl) 77 _ _ (by with_unfolding_all rfl) Try.underlying77 s (12) (by with_unfolding_all rfl) (fun w h => HC6.out w h) ?_); simp only [Act.put, List.setIfInBounds_toArray, List.set_cons_zero, List.set_cons_succ])
          | ((with_reducible refine wpQuiet_bin (by with_unfolding_all rfl) .sub 3 _ _ _ (by with_unfolding_all rfl) (.int .i64 (m5 : Int)) (.int .i64 16) (.int .i64 ((m5 : Int) - 16)) (by with_unfolding_all rfl) (by with_unfolding_all rfl) (fun w => run_guardI w _ _ _ _ _) (fun w => HSB.out w) ?_); simp only [Act.put, List.setIfInBounds_toArray, List.set_cons_zero, List.set_cons_succ])
          | ((with_reducible refine wpQuiet_val (.int .i64 (kc : Int)) (by with_unfolding_all rfl) (fun w _ => exec_max _ _ _ (by with_unfolding_all rfl) _ _ _ (by with_unfolding_all rfl) (by with_unfolding_all rfl) HMX.out w) ?_); simp only [Act.put, List.setIfInBounds_toArray, List.set_cons_zero, List.set_cons_succ])
          | ((with_reducible refine wpQuiet_val (.slice (cutA A5 kc c5 4) (m5 - kc) (c5 - kc)) (by with_unfolding_all rfl) (fun w _ => exec_slice_l elem_rels size_rels _ _ (by with_unfolding_all rfl) A5 m5 c5 kc (by with_unfolding_all rfl) (by with_unfolding_all rfl) HKM.out w) ?_); simp only [Act.put, List.setIfInBounds_toArray, List.set_cons_zero, List.set_cons_succ])
          | (go_big_quiet_step (exact fun _ => rfl)))
        with_reducible refine wpQuiet_nil ?_
        intro w7 hw7
        have c12 := HC6.out w7 hw7
        have f12 : w7.frozen? ⟨s, 12, none⟩ = false := (World.frozen?_of_block (a := ⟨s, 12, none⟩) (Below.block hw7 s (HSL.out.cell HG4.out).2.1)).trans (HSL.out.cell HG4.out).2.2
        have hA7 := At.below HA6.out (show Below w6.heap.size w6 w7 from hw7) HA6.out.lt
        have HF8 := Lib.hid (HSL.out.final (M' := M + 1) (kc := kc) HG4.out hw7 HC4.out (by omega) (by have := HKC.out; have := HMC.out; omega) (by have := HKC.out; have := HMC.out; omega) (by rw [HSL.out.len] at HKC; exact HKC.out))
        have HA8 := Lib.hid (hA7.far (p := ⟨s, 12, none⟩) (Ne.symm HRS.out.1) (.slice (cutA A5 kc c5 4) (m5 - kc) (c5 - kc)))
        have n3 := HA8.out.cell' HF.out.n
        clear hw7 HC6 hA7 HSL HA6
        go_wp2_with fail
        refine (frame_any x.node 1 (t.last + 1) 0 _).mono ?_
        rintro e w9 ⟨rfl, hb9⟩
        obtain ⟨SC, hSC⟩ : ∃ SC, SC = bareC ⟨x.node, 1, 0, t.last + 1, 0, []⟩ := ⟨_, rfl⟩
        rw [← hSC]
        have HSC := Lib.hid hSC
        have HF9 := Lib.hid (HF8.out.on hb9)
        clear hSC hb9 c12 f12 n3 HF8 HA8
        go_wp2_with (first
          | (with_reducible refine wpList_to (.slice (some ⟨w9.heap.size, 0, none⟩) 1 1) (w9.alloc (.cells SC.toArray 59)) (by with_unfolding_all rfl) (exec_one_sent _ _ (by with_unfolding_all rfl) HSC.out (by with_unfolding_all rfl) _) ?_))
        go_ret
        rw [HE.out]
        refine ⟨_, rfl, .inr ⟨w9.heap.size, 0, 1, rfl, by simp, fun j v hv => ?_, by simp⟩, (HF9.out.on ((Below.refl _ _).alloc (Nat.le_refl _) _)).behind HB1.out⟩
        rw [List.flatMap_cons, List.flatMap_nil, List.append_nil, ← HSC.out] at hv
        rw [Nat.zero_add]
        exact (At.new w9 _ SC).cell' hv
      · refine turn_put (.slice (some ⟨w3.drew.heap.size, 0, none⟩) 1 1) w4 (by with_unfolding_all rfl) (by with_unfolding_all rfl) (by rw [HW4.out]; exact exec_one_rel (.tmp 32) (⟨t.last + 1, x.node, x.frm, x.seq⟩ : Rel) (by with_unfolding_all rfl) (by with_unfolding_all rfl) _) HS4.out ?_
        simp only [Act.put, List.setIfInBounds_toArray, List.set_cons_zero, List.set_cons_succ]
        rw [show w3.drew.heap.size = w3.heap.size from rfl]
        refine turn_put (.slice rA n rc) w4 (by with_unfolding_all rfl) (by with_unfolding_all rfl) (exec_loadS _ (by with_unfolding_all rfl) s 12 (by with_unfolding_all rfl) HC4.out) HS4.out ?_
        simp only [Act.put, List.setIfInBounds_toArray, List.set_cons_zero, List.set_cons_succ]
        refine turn_app_rel (by with_unfolding_all rfl) (by with_unfolding_all rfl) (.tmp 24) (.tmp 33) (by with_unfolding_all rfl) (by with_unfolding_all rfl) HN.out (by with_unfolding_all rfl) HR4.out HREL.out (by have := HLL.out; omega) ?_
        intro A5 c5 w5 hR5 hlo5 hK5
        have hA5 : At w5 fq 57 F := (hK5.block fq (fun e => HRS.out.2.1 fq e rfl) HA4.out.lt).trans HA4.out
        refine ⟨AskS.of HF.out hA5, ?_⟩
        simp only [Act.put, List.setIfInBounds_toArray, List.set_cons_zero, List.set_cons_succ]
        have hs5 : w5.heap[s]? = w4.heap[s]? := hK5.block s (fun e => HRS.out.2.2 s e rfl) HG4.out.lt
        have HC5 := Lib.hid (show (w5.cell? ⟨s, 12, none⟩).isSome = true ∧ w5.frozen? ⟨s, 12, none⟩ = false from ⟨by rw [World.cell?_of_block (a := ⟨s, 12, none⟩) hs5, HC4.out]; rfl, by rw [World.frozen?_of_block (a := ⟨s, 12, none⟩) hs5]; exact HG4.out.frozen 12⟩)
        have HSS := Lib.hid (show ∀ v, AskS fq x (w5.setCell ⟨s, 12, none⟩ v) from fun v => AskS.of HF.out (hA5.far (p := ⟨s, 12, none⟩) (Ne.symm HRS.out.1) v))
        obtain ⟨m5, hm5⟩ : ∃ m5, m5 = (t.rel ++ [(⟨t.last + 1, x.node, x.frm, x.seq⟩ : Rel)]).length := ⟨_, rfl⟩
        have HSL := Lib.hid (show AskL s w4 (w5.setCell ⟨s, 12, none⟩ (.slice A5 m5 c5)) rA A5 c5 (t.rel ++ [(⟨t.last + 1, x.node, x.frm, x.seq⟩ : Rel)]) m5 from AskL.of hs5 HG4.out.lt hK5 hR5 hlo5 (fun e => HRS.out.2.2 s e rfl) hm5)
        rw [← hm5]
        have HA6 := Lib.hid (hA5.far (p := ⟨s, 12, none⟩) (Ne.symm HRS.out.1) (.slice A5 m5 c5))
        clear hm5 hR5 hlo5 hK5 hA5 hs5
        iterate 2 (
          first
            | (refine wpT_val (.pointer (some ⟨s, 0, none⟩)) (by with_unfolding_all rfl) (by with_unfolding_all rfl) (fun w _ => exec_nil _ (by with_unfolding_all rfl) s 0 (by with_unfolding_all rfl) w) ?_; simp only [Act.put, List.setIfInBounds_toArray, List.set_cons_zero, List.set_cons_succ])
            | (refine wpT_val (.pointer (some ⟨s, 12, none⟩)) (by with_unfolding_all rfl) (by with_unfolding_all rfl) (fun w _ => exec_s8 _ (by with_unfolding_all rfl) s (by with_unfolding_all rfl) w) ?_; simp only [Act.put, List.setIfInBounds_toArray, List.set_cons_zero, List.set_cons_succ])
            | (refine wpT_q (by with_unfolding_all rfl) (by kernel_rfl) ?_
               first
                | go_big_quiet_skip
                | (go_big_quiet_step (exact fun _ => rfl))
               refine wpT_qnil ?_))
        refine turn_store1 (.slice A5 m5 c5) (by with_unfolding_all rfl) (by with_unfolding_all rfl) 77 _ _ (by with_unfolding_all rfl) s 12 (by with_unfolding_all rfl) (by with_unfolding_all rfl) (.inr (.inl ⟨_, _, _, rfl⟩)) (by kernel_rfl) HC5.out (HSS.out _) ?_
        simp only [Act.put]
        refine wpT_done ?_
        clear HC5 HSS HREL HR4
        obtain ⟨w6, hw6⟩ : ∃ w6, w6 = w5.setCell ⟨s, 12, none⟩ (.slice A5 m5 c5) := ⟨_, rfl⟩
        rw [← hw6] at HSL HA6 ⊢
        clear hw6
        have hm17 : m5 ≤ 17 := by rw [HSL.out.len, List.length_append]; have := HLL.out; simp only [List.length_singleton]; omega
        have hmc := HSL.out.row.len
        rw [← HSL.out.len] at hmc
        obtain ⟨kc, hkc⟩ : ∃ kc, kc = m5 - 16 := ⟨_, rfl⟩
        have hmx : max ((m5 : Int) - 16) 0 = (kc : Int) := by omega
        have hkm : kc ≤ m5 := by omega
        have HKC := Lib.hid hkc
        have HMC := Lib.hid (And.intro hmc hm17)
        have HMX := Lib.hid hmx
        have HKM := Lib.hid hkm
        have HSB := Lib.hid (run_subI (m5 : Int) 16 (by omega) (by omega))
        have HC6 := Lib.hid (show ∀ W, Behind w6 W → W.cell? ⟨s, 12, none⟩ = some (.slice A5 m5 c5) from fun W hW => (World.cell?_of_block (a := ⟨s, 12, none⟩) (Below.block hW s (HSL.out.cell HG4.out).2.1)).trans (HSL.out.cell HG4.out).1)
        clear hmx hkm hkc hmc
        go_wp2_with fail
        refine wp_region_then (Behind w6) 15 (by kernel_rfl) (by kernel_rfl) (by kernel_rfl) (by kernel_rfl) (by decide) (Below.refl _ _).drew ?_
        simp only [List.take_succ_cons, List.take_zero, List.drop_succ_cons, List.drop_zero]
        iterate 15 (first
          | go_big_quiet_skip
          | ((with_reducible refine wpQuiet_val (.pointer (some ⟨s, 0, none⟩)) (by with_unfolding_all rfl) (fun w _ => exec_nil _ (by with_unfolding_all rfl) s 0 (by with_unfolding_all rfl) w) ?_); simp only [Act.put, List.setIfInBounds_toArray, List.set_cons_zero, List.set_cons_succ])
          | ((with_reducible refine wpQuiet_val (.pointer (some ⟨s, 12, none⟩)) (by with_unfolding_all rfl) (fun w _ => exec_s8 _ (by with_unfolding_all rfl) s (by with_unfolding_all rfl) w) ?_); simp only [Act.put, List.setIfInBounds_toArray, List.set_cons_zero, List.set_cons_succ])
          | ((with_reducible refine wpQuiet_loadS (.slice A5 m5 c5) (by with_unfolding_all rfl) 77 _ _ (by with_unfolding_all rfl) Try.underlying77 s (12) (by with_unfolding_all rfl) (fun w h => HC6.out w h) ?_); simp only [Act.put, List.setIfInBounds_toArray, List.set_cons_zero, List.set_cons_succ])
          | ((with_reducible refine wpQuiet_bin (by with_unfolding_all rfl) .sub 3 _ _ _ (by with_unfolding_all rfl) (.int .i64 (m5 : Int)) (.int .i64 16) (.int .i64 ((m5 : Int) - 16)) (by with_unfolding_all rfl) (by with_unfolding_all rfl) (fun w => run_guardI w _ _ _ _ _) (fun w => HSB.out w) ?_); simp only [Act.put, List.setIfInBounds_toArray, List.set_cons_zero, List.set_cons_succ])
          | ((with_reducible refine wpQuiet_val (.int .i64 (kc : Int)) (by with_unfolding_all rfl) (fun w _ => exec_max _ _ _ (by with_unfolding_all rfl) _ _ _ (by with_unfolding_all rfl) (by with_unfolding_all rfl) HMX.out w) ?_); simp only [Act.put, List.setIfInBounds_toArray, List.set_cons_zero, List.set_cons_succ])
          | ((with_reducible refine wpQuiet_val (.slice (cutA A5 kc c5 4) (m5 - kc) (c5 - kc)) (by with_unfolding_all rfl) (fun w _ => exec_slice_l elem_rels size_rels _ _ (by with_unfolding_all rfl) A5 m5 c5 kc (by with_unfolding_all rfl) (by with_unfolding_all rfl) HKM.out w) ?_); simp only [Act.put, List.setIfInBounds_toArray, List.set_cons_zero, List.set_cons_succ])
          | (go_big_quiet_step (exact fun _ => rfl)))
        with_reducible refine wpQuiet_nil ?_
        intro w7 hw7
        have c12 := HC6.out w7 hw7
        have f12 : w7.frozen? ⟨s, 12, none⟩ = false := (World.frozen?_of_block (a := ⟨s, 12, none⟩) (Below.block hw7 s (HSL.out.cell HG4.out).2.1)).trans (HSL.out.cell HG4.out).2.2
        have hA7 := At.below HA6.out (show Below w6.heap.size w6 w7 from hw7) HA6.out.lt
        have HF8 := Lib.hid (HSL.out.final (M' := M + 1) (kc := kc) HG4.out hw7 HC4.out (by omega) (by have := HKC.out; have := HMC.out; omega) (by have := HKC.out; have := HMC.out; omega) (by rw [HSL.out.len] at HKC; exact HKC.out))
        have HA8 := Lib.hid (hA7.far (p := ⟨s, 12, none⟩) (Ne.symm HRS.out.1) (.slice (cutA A5 kc c5 4) (m5 - kc) (c5 - kc)))
        have n3 := HA8.out.cell' HF.out.n
        clear hw7 HC6 hA7 HSL HA6
        go_wp2_with fail
        refine (frame_any x.node 1 (t.last + 1) 0 _).mono ?_
        rintro e w9 ⟨rfl, hb9⟩
        obtain ⟨SC, hSC⟩ : ∃ SC, SC = bareC ⟨x.node, 1, 0, t.last + 1, 0, []⟩ := ⟨_, rfl⟩
        rw [← hSC]
        have HSC := Lib.hid hSC
        have HF9 := Lib.hid (HF8.out.on hb9)
        clear hSC hb9 c12 f12 n3 HF8 HA8
        go_wp2_with (first
          | (with_reducible refine wpList_to (.slice (some ⟨w9.heap.size, 0, none⟩) 1 1) (w9.alloc (.cells SC.toArray 59)) (by with_unfolding_all rfl) (exec_one_sent _ _ (by with_unfolding_all rfl) HSC.out (by with_unfolding_all rfl) _) ?_))
        go_ret
        rw [HE.out]
        refine ⟨_, rfl, .inr ⟨w9.heap.size, 0, 1, rfl, by simp, fun j v hv => ?_, by simp⟩, (HF9.out.on ((Below.refl _ _).alloc (Nat.le_refl _) _)).behind HB1.out⟩
        rw [List.flatMap_cons, List.flatMap_nil, List.append_nil, ← HSC.out] at hv
        rw [Nat.zero_add]
        exact (At.new w9 _ SC).cell' hv
end
end Go.Proofs.Ytghefmppjdneoaa
