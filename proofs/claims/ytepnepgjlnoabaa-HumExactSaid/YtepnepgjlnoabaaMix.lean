/- Regions that draw their order, walked in one order: quiet operations (one value in every world of a class) come up as soon as they may, the others one by one. -/
import Derived.Test.YtepnepgjlnoabaaRegD
import Derived.Deep.RegionHeld3
namespace Go.Proofs.Ytepnepgjlnoabaa
open Go.RowKit

/-- the order is one in which quiet operations may be taken first, and the others are alone when they come up -/
def mixB (md : Region.Mode) (ops : Array Oper) : List (Nat × Bool) → Array Bool → Bool
  | [], listed => (Region.ready md ops listed).isEmpty
  | (i, true) :: r, listed => Region.free md ops listed i && (Region.ready md ops listed).contains i && mixB md ops r (listed.setIfInBounds i true)
  | (i, false) :: r, listed => (Region.ready md ops listed == [i]) && mixB md ops r (listed.setIfInBounds i true)
section
variable {P : Program} {ops : Array Oper} {Q : Exit → Act → World → Prop} {S : World → Prop}
def wpMix (P : Program) (ops : Array Oper) (S : World → Prop) (Q : Exit → Act → World → Prop) : List (Nat × Bool) → Act → World → Prop
  | [], a, w => Q .normal a w
  | (i, true) :: r, a, w => ∃ o v, ops[i]? = some o ∧ YieldsIf P ops S o v a ∧ wpMix P ops S Q r (a.put o.dst v) w
  | (i, false) :: r, a, w => ∃ o, ops[i]? = some o ∧ ∀ K : Act → World → Prop, (∀ a w, S w → wpMix P ops S Q r a w → K a w) → if Region.wanted o (yielded ops a.tmps) then o.wp P a w K Q else K (a.put o.dst undef) w
theorem wpAnyH_of_mix {md : Region.Mode} (hs : Region.noSelect ops = true) (hQ : ∀ c a d v w, Q (.panic c) (Act.put a d v) w → Q (.panic c) a w) : ∀ (ord : List (Nat × Bool)) (fuel : Nat) (listed : Array Bool) (a : Act) (w : World),
    mixB md ops ord listed = true → ord.length ≤ fuel → S w → wpMix P ops S Q ord a w → wpAnyH P md ops Q S fuel listed a w
  | [], fuel, listed, a, w, hm, _, _, h => wpAnyH_done (by simpa [mixB, List.isEmpty_iff] using hm) h fuel
  | (i, true) :: r, 0, listed, a, w, _, hf, _, _ => absurd hf (by simp)
  | (i, false) :: r, 0, listed, a, w, _, hf, _, _ => absurd hf (by simp)
  | (i, true) :: r, fuel + 1, listed, a, w, hm, hf, hS, h => by
    obtain ⟨o, v, ho, hy, hr⟩ := h
    simp only [mixB, Bool.and_eq_true] at hm
    exact wpAnyH_take ho hs hm.1.1 hm.1.2 (fun c a w h => hQ c a _ _ w h) hy hS (wpAnyH_of_mix hs hQ r fuel _ _ _ hm.2 (by simpa using hf) hS hr)
  | (i, false) :: r, fuel + 1, listed, a, w, hm, hf, hS, h => by
    obtain ⟨o, ho, hr⟩ := h
    simp only [mixB, Bool.and_eq_true, beq_iff_eq] at hm
    refine wpAnyH_ready (rs := [i]) hm.1 (by simp) (AllReadyH.cons ho (fun K hK => ?_) AllReadyH.nil)
    exact hr K (fun a' w' hS' h' => hK.out a' w' hS' (fun hS' => wpAnyH_of_mix hs hQ r fuel _ _ _ hm.2 (by simpa using hf) hS' h'))
theorem wp_region_mix {id : Nat} {a : Act} {w : World} (ord : List (Nat × Bool)) (S : World → Prop) (hm : P.follows .mixedOrders = true) (hs : Region.noSelect ops = true) (hQ : ∀ c a d v w, Q (.panic c) (Act.put a d v) w → Q (.panic c) a w)
    (ho : mixB .any ops ord (Array.replicate ops.size false) = true) (hl : ord.length ≤ ops.size) (hS : S w.drew) (h : wpMix P ops S Q ord a w.drew) : (Code.region id ops true).wp P Q a w :=
  wp_region_held_drew (S := S) hm hS (fun _ => wpAnyH_of_mix hs hQ ord _ _ _ _ ho hl hS h)
theorem nth {i : Nat} {o : Oper} (h : ops.toList[i]? = some o) : ops[i]? = some o := by rwa [Array.getElem?_toList] at h
variable {i : Nat} {r : List (Nat × Bool)} {a : Act} {w : World} {o : Oper}
theorem wpMix_nil (h : Q .normal a w) : wpMix P ops S Q [] a w := h
theorem wpMix_val (v : Value) (ho : ops.toList[i]? = some o) (hw : Region.wanted o (yielded ops a.tmps) = true) (hv : ∀ w, S w → (execOp a.eval o).run P w = .ok (.value v) w) (h : wpMix P ops S Q r (a.put o.dst v) w) : wpMix P ops S Q ((i, true) :: r) a w :=
  ⟨o, v, nth ho, .inl ⟨hw, hv⟩, h⟩
theorem wpMix_not (ho : ops.toList[i]? = some o) (hw : Region.wanted o (yielded ops a.tmps) = false) (h : wpMix P ops S Q r (a.put o.dst undef) w) : wpMix P ops S Q ((i, true) :: r) a w :=
  ⟨o, undef, nth ho, .inr ⟨hw, rfl⟩, h⟩
theorem wpMix_loadAll (ho : ops.toList[i]? = some o) (hw : Region.wanted o (yielded ops a.tmps) = true) (ty : TypeId) (x : Operand) (hop : o.op = .load ty x) (b off : Nat) (hx : a.eval x = .pointer (some ⟨b, off, none⟩)) (cs : List Value) (d : TypeDesc)
    (hS : ∀ w, S w → w.rangeAt b off cs) (hu : P.underlying ty = some d) (hd : d.isRow = true) (hi : (P.info? ty).map (·.size) = some cs.length)
    (h : wpMix P ops S Q r (a.put o.dst (.agg cs.toArray)) w) : wpMix P ops S Q ((i, true) :: r) a w :=
  ⟨o, _, nth ho, yieldsIf_load_mid hw ty x hop b off hx cs d hS hu hd hi, h⟩
theorem wpMix_load1 (v : Value) (ho : ops.toList[i]? = some o) (hw : Region.wanted o (yielded ops a.tmps) = true) (ty : TypeId) (x : Operand) (hop : o.op = .load ty x) (k : IntKind) (hu : P.underlying ty = some (.int k)) (b off : Nat) (hx : a.eval x = .pointer (some ⟨b, off, none⟩))
    (hS : ∀ w, S w → w.cell? ⟨b, off, none⟩ = some v) (h : wpMix P ops S Q r (a.put o.dst v) w) : wpMix P ops S Q ((i, true) :: r) a w :=
  wpMix_val v ho hw (fun w hC => by
    unfold execOp
    simp only [hop, hx, Sem.run_bind, Sem.run_pure, run_load_int hu (hS w hC), Result.andThen_ok]) h
theorem wpMix_bin (ho : ops.toList[i]? = some o) (hw : Region.wanted o (yielded ops a.tmps) = true) (op : BinOp) (ty : TypeId) (x y : Operand) (yt : TypeId) (hop : o.op = .binOp op ty x y yt) (vx vy v : Value) (hx : a.eval x = vx) (hy : a.eval y = vy)
    (hg : ∀ w, (eqGuard op ty x y vx vy).run P w = .ok () w) (hb : ∀ w, (binOp op ty vx vy).run P w = .ok v w) (h : wpMix P ops S Q r (a.put o.dst v) w) : wpMix P ops S Q ((i, true) :: r) a w :=
  wpMix_val v ho hw (fun w _ => by
    unfold execOp
    simp only [hop, hx, hy, Sem.run_bind, Sem.run_pure, hg, Result.andThen_ok, hb]) h
theorem wpMix_step (ho : ops.toList[i]? = some o) (hw : Region.wanted o (yielded ops a.tmps) = true) (h : ∀ K : Act → World → Prop, (∀ a w, S w → wpMix P ops S Q r a w → K a w) → o.wp P a w K Q) : wpMix P ops S Q ((i, false) :: r) a w :=
  ⟨o, nth ho, fun K hK => by rw [if_pos hw]; exact h K hK⟩
theorem wpMix_skip (ho : ops.toList[i]? = some o) (hw : Region.wanted o (yielded ops a.tmps) = false) (hS : S w) (h : wpMix P ops S Q r (a.put o.dst undef) w) : wpMix P ops S Q ((i, false) :: r) a w :=
  ⟨o, nth ho, fun K hK => by rw [if_neg (by rw [hw]; simp)]; exact hK _ _ hS h⟩
/-- an operation that changes the world -/
theorem wpMix_put (v : Value) (w' : World) (ho : ops.toList[i]? = some o) (hw : Region.wanted o (yielded ops a.tmps) = true) (hv : (execOp a.eval o).run P w = .ok (.value v) w') (hS : S w') (h : wpMix P ops S Q r (a.put o.dst v) w') : wpMix P ops S Q ((i, false) :: r) a w :=
  wpMix_step ho hw fun K hK => by
    unfold Oper.wp
    rw [hv]
    exact hK _ _ hS h
/-- a call -/
theorem wpMix_call (f : FuncId) (args : List Value) (R : Value → World → Prop) (ho : ops.toList[i]? = some o) (hw : Region.wanted o (yielded ops a.tmps) = true) (hv : (execOp a.eval o).run P w = .ok (.enter f args.toArray) w)
    (hc : Calls P f args.toArray w fun e w' => ∃ v, e = .returned v ∧ S w' ∧ R v w') (h : ∀ v w', S w' → R v w' → wpMix P ops S Q r (a.put o.dst v) w') : wpMix P ops S Q ((i, false) :: r) a w :=
  wpMix_step ho hw fun K hK => by
    unfold Oper.wp
    rw [hv]
    exact hc.mono fun e w' ⟨v, he, hS, hR⟩ => by
      subst he
      exact hK _ _ hS (h v w' hS hR)
end
end Go.Proofs.Ytepnepgjlnoabaa
