/- Regions that draw their order, where now and then two operations may come up: walked along a tree of orders. -/
import Derived.Test.YtepnepgjlnoabaaMix
namespace Go.Proofs.Ytepnepgjlnoabaa
open Go.RowKit

/-- which operation comes next: a quiet one; one alone; either of two -/
inductive Sched where
  | done : Sched
  | quiet : Nat → Sched → Sched
  | one : Nat → Sched → Sched
  | two : Nat → Sched → Nat → Sched → Sched
  | three : Nat → Sched → Nat → Sched → Nat → Sched → Sched
namespace Sched
def len : Sched → Nat
  | done => 0
  | quiet _ s => s.len + 1
  | one _ s => s.len + 1
  | two _ s _ t => max s.len t.len + 1
  | three _ s _ t _ u => max s.len (max t.len u.len) + 1
/-- the operations one behind the other: (index, quiet) -/
def row : List (Nat × Bool) → Sched → Sched
  | [], s => s
  | (i, true) :: r, s => quiet i (row r s)
  | (i, false) :: r, s => one i (row r s)
def ok (md : Region.Mode) (ops : Array Oper) : Sched → Array Bool → Bool
  | done, L => (Region.ready md ops L).isEmpty
  | quiet i s, L => Region.free md ops L i && (Region.ready md ops L).contains i && ok md ops s (L.setIfInBounds i true)
  | one i s, L => (Region.ready md ops L == [i]) && ok md ops s (L.setIfInBounds i true)
  | two i s j t, L => (Region.ready md ops L == [i, j]) && ok md ops s (L.setIfInBounds i true) && ok md ops t (L.setIfInBounds j true)
  | three i s j t k u, L => (Region.ready md ops L == [i, j, k]) && ok md ops s (L.setIfInBounds i true) && ok md ops t (L.setIfInBounds j true) && ok md ops u (L.setIfInBounds k true)
end Sched
section
variable {P : Program} {ops : Array Oper} {Q : Exit → Act → World → Prop} {S : World → Prop}
def turnT (P : Program) (ops : Array Oper) (S : World → Prop) (Q : Exit → Act → World → Prop) (W : Act → World → Prop) (i : Nat) (a : Act) (w : World) : Prop :=
  ∃ o, ops[i]? = some o ∧ ∀ K : Act → World → Prop, (∀ a w, S w → W a w → K a w) → if Region.wanted o (yielded ops a.tmps) then o.wp P a w K Q else K (a.put o.dst undef) w
def wpT (P : Program) (ops : Array Oper) (S : World → Prop) (Q : Exit → Act → World → Prop) : Sched → Act → World → Prop
  | .done, a, w => Q .normal a w
  | .quiet i s, a, w => ∃ o v, ops[i]? = some o ∧ YieldsIf P ops S o v a ∧ wpT P ops S Q s (a.put o.dst v) w
  | .one i s, a, w => turnT P ops S Q (wpT P ops S Q s) i a w
  | .two i s j t, a, w => turnT P ops S Q (wpT P ops S Q s) i a w ∧ turnT P ops S Q (wpT P ops S Q t) j a w
  | .three i s j t k u, a, w => turnT P ops S Q (wpT P ops S Q s) i a w ∧ turnT P ops S Q (wpT P ops S Q t) j a w ∧ turnT P ops S Q (wpT P ops S Q u) k a w
theorem wpAnyH_of_tree {md : Region.Mode} (hs : Region.noSelect ops = true) (hQ : ∀ c a d v w, Q (.panic c) (Act.put a d v) w → Q (.panic c) a w) : ∀ (s : Sched) (fuel : Nat) (L : Array Bool) (a : Act) (w : World),
    s.ok md ops L = true → s.len ≤ fuel → S w → wpT P ops S Q s a w → wpAnyH P md ops Q S fuel L a w
  | .done, fuel, L, a, w, hm, _, _, h => wpAnyH_done (by simpa [Sched.ok, List.isEmpty_iff] using hm) h fuel
  | .quiet i s, 0, L, a, w, _, hf, _, _ => absurd hf (by simp [Sched.len])
  | .one i s, 0, L, a, w, _, hf, _, _ => absurd hf (by simp [Sched.len])
  | .two i s j t, 0, L, a, w, _, hf, _, _ => absurd hf (by simp [Sched.len])
  | .three i s j t k u, 0, L, a, w, _, hf, _, _ => absurd hf (by simp [Sched.len])
  | .quiet i s, fuel + 1, L, a, w, hm, hf, hS, h => by
    obtain ⟨o, v, ho, hy, hr⟩ := h
    simp only [Sched.ok, Bool.and_eq_true] at hm
    exact wpAnyH_take ho hs hm.1.1 hm.1.2 (fun c a w h => hQ c a _ _ w h) hy hS (wpAnyH_of_tree hs hQ s fuel _ _ _ hm.2 (by simpa [Sched.len] using hf) hS hr)
  | .one i s, fuel + 1, L, a, w, hm, hf, hS, h => by
    obtain ⟨o, ho, hr⟩ := h
    simp only [Sched.ok, Bool.and_eq_true, beq_iff_eq] at hm
    refine wpAnyH_ready (rs := [i]) hm.1 (by simp) (AllReadyH.cons ho (fun K hK => ?_) AllReadyH.nil)
    exact hr K (fun a' w' hS' h' => hK.out a' w' hS' (fun hS' => wpAnyH_of_tree hs hQ s fuel _ _ _ hm.2 (by simpa [Sched.len] using hf) hS' h'))
  | .two i s j t, fuel + 1, L, a, w, hm, hf, hS, h => by
    obtain ⟨⟨o, ho, hr⟩, o2, ho2, hr2⟩ := h
    simp only [Sched.ok, Bool.and_eq_true, beq_iff_eq] at hm
    simp only [Sched.len] at hf
    refine wpAnyH_ready (rs := [i, j]) hm.1.1 (by simp) (AllReadyH.cons ho (fun K hK => ?_) (AllReadyH.cons ho2 (fun K hK => ?_) AllReadyH.nil))
    · exact hr K (fun a' w' hS' h' => hK.out a' w' hS' (fun hS' => wpAnyH_of_tree hs hQ s fuel _ _ _ hm.1.2 (by omega) hS' h'))
    · exact hr2 K (fun a' w' hS' h' => hK.out a' w' hS' (fun hS' => wpAnyH_of_tree hs hQ t fuel _ _ _ hm.2 (by omega) hS' h'))
  | .three i s j t k u, fuel + 1, L, a, w, hm, hf, hS, h => by
    obtain ⟨⟨o, ho, hr⟩, ⟨o2, ho2, hr2⟩, o3, ho3, hr3⟩ := h
    simp only [Sched.ok, Bool.and_eq_true, beq_iff_eq] at hm
    simp only [Sched.len] at hf
    refine wpAnyH_ready (rs := [i, j, k]) hm.1.1.1 (by simp) (AllReadyH.cons ho (fun K hK => ?_) (AllReadyH.cons ho2 (fun K hK => ?_) (AllReadyH.cons ho3 (fun K hK => ?_) AllReadyH.nil)))
    · exact hr K (fun a' w' hS' h' => hK.out a' w' hS' (fun hS' => wpAnyH_of_tree hs hQ s fuel _ _ _ hm.1.1.2 (by omega) hS' h'))
    · exact hr2 K (fun a' w' hS' h' => hK.out a' w' hS' (fun hS' => wpAnyH_of_tree hs hQ t fuel _ _ _ hm.1.2 (by omega) hS' h'))
    · exact hr3 K (fun a' w' hS' h' => hK.out a' w' hS' (fun hS' => wpAnyH_of_tree hs hQ u fuel _ _ _ hm.2 (by omega) hS' h'))
theorem wp_region_tree {id : Nat} {a : Act} {w : World} (s : Sched) (S : World → Prop) (hm : P.follows .mixedOrders = true) (hs : Region.noSelect ops = true) (hQ : ∀ c a d v w, Q (.panic c) (Act.put a d v) w → Q (.panic c) a w)
    (ho : s.ok .any ops (Array.replicate ops.size false) = true) (hl : s.len ≤ ops.size) (hS : S w.drew) (h : wpT P ops S Q s a w.drew) : (Code.region id ops true).wp P Q a w :=
  wp_region_held_drew (S := S) hm hS (fun _ => wpAnyH_of_tree hs hQ s _ _ _ _ ho hl hS h)
variable {i : Nat} {s : Sched} {a : Act} {w : World} {o : Oper} {W : Act → World → Prop}
theorem wpT_done (h : Q .normal a w) : wpT P ops S Q .done a w := h
/-- quiet operations -/
theorem wpT_val (v : Value) (ho : ops.toList[i]? = some o) (hw : Region.wanted o (yielded ops a.tmps) = true) (hv : ∀ w, S w → (execOp a.eval o).run P w = .ok (.value v) w) (h : wpT P ops S Q s (a.put o.dst v) w) : wpT P ops S Q (.quiet i s) a w :=
  ⟨o, v, nth ho, .inl ⟨hw, hv⟩, h⟩
theorem wpT_not (ho : ops.toList[i]? = some o) (hw : Region.wanted o (yielded ops a.tmps) = false) (h : wpT P ops S Q s (a.put o.dst undef) w) : wpT P ops S Q (.quiet i s) a w :=
  ⟨o, undef, nth ho, .inr ⟨hw, rfl⟩, h⟩
theorem wpT_loadAll (ho : ops.toList[i]? = some o) (hw : Region.wanted o (yielded ops a.tmps) = true) (ty : TypeId) (x : Operand) (hop : o.op = .load ty x) (b off : Nat) (hx : a.eval x = .pointer (some ⟨b, off, none⟩)) (cs : List Value) (d : TypeDesc)
    (hS : ∀ w, S w → w.rangeAt b off cs) (hu : P.underlying ty = some d) (hd : d.isRow = true) (hi : (P.info? ty).map (·.size) = some cs.length)
    (h : wpT P ops S Q s (a.put o.dst (.agg cs.toArray)) w) : wpT P ops S Q (.quiet i s) a w :=
  ⟨o, _, nth ho, yieldsIf_load_mid hw ty x hop b off hx cs d hS hu hd hi, h⟩
theorem wpT_load1 (v : Value) (ho : ops.toList[i]? = some o) (hw : Region.wanted o (yielded ops a.tmps) = true) (ty : TypeId) (x : Operand) (hop : o.op = .load ty x) (k : IntKind) (hu : P.underlying ty = some (.int k)) (b off : Nat) (hx : a.eval x = .pointer (some ⟨b, off, none⟩))
    (hS : ∀ w, S w → w.cell? ⟨b, off, none⟩ = some v) (h : wpT P ops S Q s (a.put o.dst v) w) : wpT P ops S Q (.quiet i s) a w :=
  wpT_val v ho hw (fun w hC => by
    unfold execOp
    simp only [hop, hx, Sem.run_bind, Sem.run_pure, run_load_int hu (hS w hC), Result.andThen_ok]) h
theorem wpT_bin (ho : ops.toList[i]? = some o) (hw : Region.wanted o (yielded ops a.tmps) = true) (op : BinOp) (ty : TypeId) (x y : Operand) (yt : TypeId) (hop : o.op = .binOp op ty x y yt) (vx vy v : Value) (hx : a.eval x = vx) (hy : a.eval y = vy)
    (hg : ∀ w, (eqGuard op ty x y vx vy).run P w = .ok () w) (hb : ∀ w, (binOp op ty vx vy).run P w = .ok v w) (h : wpT P ops S Q s (a.put o.dst v) w) : wpT P ops S Q (.quiet i s) a w :=
  wpT_val v ho hw (fun w _ => by
    unfold execOp
    simp only [hop, hx, hy, Sem.run_bind, Sem.run_pure, hg, Result.andThen_ok, hb]) h
/-- operations that come up by themselves -/
theorem turn_step (ho : ops.toList[i]? = some o) (hw : Region.wanted o (yielded ops a.tmps) = true) (h : ∀ K : Act → World → Prop, (∀ a w, S w → W a w → K a w) → o.wp P a w K Q) : turnT P ops S Q W i a w :=
  ⟨o, nth ho, fun K hK => by rw [if_pos hw]; exact h K hK⟩
theorem turn_skip (ho : ops.toList[i]? = some o) (hw : Region.wanted o (yielded ops a.tmps) = false) (hS : S w) (h : W (a.put o.dst undef) w) : turnT P ops S Q W i a w :=
  ⟨o, nth ho, fun K hK => by rw [if_neg (by rw [hw]; simp)]; exact hK _ _ hS h⟩
theorem turn_put (v : Value) (w' : World) (ho : ops.toList[i]? = some o) (hw : Region.wanted o (yielded ops a.tmps) = true) (hv : (execOp a.eval o).run P w = .ok (.value v) w') (hS : S w') (h : W (a.put o.dst v) w') : turnT P ops S Q W i a w :=
  turn_step ho hw fun K hK => by
    unfold Oper.wp
    rw [hv]
    exact hK _ _ hS h
theorem turn_call (f : FuncId) (args : List Value) (R : Value → World → Prop) (ho : ops.toList[i]? = some o) (hw : Region.wanted o (yielded ops a.tmps) = true) (hv : (execOp a.eval o).run P w = .ok (.enter f args.toArray) w)
    (hc : Calls P f args.toArray w fun e w' => ∃ v, e = .returned v ∧ S w' ∧ R v w') (h : ∀ v w', S w' → R v w' → W (a.put o.dst v) w') : turnT P ops S Q W i a w :=
  turn_step ho hw fun K hK => by
    unfold Oper.wp
    rw [hv]
    exact hc.mono fun e w' ⟨v, he, hS, hR⟩ => by
      subst he
      exact hK _ _ hS (h v w' hS hR)
end
end Go.Proofs.Ytepnepgjlnoabaa
