/- Regions that draw their order, where one variable is made at any time: the others walked in one order, each in every world of a class. -/
import Derived.Test.YtefbllhpibfojaaDoorGrpD
namespace Go.Proofs.YtefbllhpibfojaaDoor
open Go.RowKit

/-- the order is one in which quiet operations may be taken first, the others come up alone; the operation A, apart from all of them, may come up at any time; behind all of them it comes up alone -/
def mixAB (md : Region.Mode) (ops : Array Oper) (A : Nat) (oA : Oper) : List (Nat × Bool) → Array Bool → Bool
  | [], L => Region.ready md ops L == [A]
  | (i, true) :: r, L => (match ops[i]? with | some o => oA.apart ops o | none => false) && i != A && Region.free md ops L i && (Region.ready md ops L).contains i && Region.free md ops (L.setIfInBounds A true) i && (Region.ready md ops (L.setIfInBounds A true)).contains i && mixAB md ops A oA r (L.setIfInBounds i true)
  | (i, false) :: r, L => (match ops[i]? with | some o => oA.apart ops o | none => false) && i != A && (Region.ready md ops L).all (fun j => j == i || j == A) && (Region.ready md ops L).contains i && (Region.ready md ops (L.setIfInBounds A true) == [i]) && mixAB md ops A oA r (L.setIfInBounds i true)
def listAll : List (Nat × Bool) → Array Bool → Array Bool
  | [], L => L
  | (i, _) :: r, L => listAll r (L.setIfInBounds i true)
section
variable {P : Program} {ops : Array Oper} {Q : Exit → Act → World → Prop} {S : World → Prop}
/-- what an operation that isn't quiet yields, where it ends -/
def Eff (P : Program) (a : Act) (o : Oper) (w : World) (R : Value → World → Prop) : Prop :=
  (∃ v w', (execOp a.eval o).run P w = .ok (.value v) w' ∧ R v w') ∨ ∃ f args, (execOp a.eval o).run P w = .ok (.enter f args) w ∧ Calls P f args w fun e w' => ∃ v, e = .returned v ∧ R v w'
theorem Eff.wpOp {i : Nat} {o : Oper} {a : Act} {w : World} {R : Value → World → Prop} {K : Act → World → Prop} (ho : ops[i]? = some o) (hw : Region.wanted o (yielded ops a.tmps) = true) (h : Eff P a o w R) (hK : ∀ v w', R v w' → K (a.put o.dst v) w') : Go.wpOp P ops Q i K a w := by
  refine wpOp_step ho fun K' hKK => ?_
  rw [if_pos hw]
  unfold Oper.wp
  rcases h with ⟨v, w', hr, hR⟩ | ⟨f, args, hr, hc⟩
  · rw [hr]
    exact hKK _ _ (hK v w' hR)
  · rw [hr]
    exact hc.mono fun e w' ⟨v, he, hR⟩ => by
      subst he
      exact hKK _ _ (hK v w' hR)
/-- the variable that is made at any time: at its block, as it was made -/
def Made (g0 : Nat) (t : TypeId) (Z : List Value) (u : Value) (w : World) : Prop := ∃ g, u = .pointer (some ⟨g, 0, none⟩) ∧ g0 ≤ g ∧ At w g t Z
theorem Made.below {g0 : Nat} {t : TypeId} {Z : List Value} {u : Value} {w w' : World} (h : Made g0 t Z u w) (hb : Below w.heap.size w w') : Made g0 t Z u w' := by
  obtain ⟨g, h1, h2, h3⟩ := h
  exact ⟨g, h1, h2, h3.below hb h3.lt⟩
def wpMixU (P : Program) (ops : Array Oper) (S : World → Prop) (E : (World → Prop) → Act → Prop) : List (Nat × Bool) → (World → Prop) → Act → Prop
  | [], F, a => E F a
  | (i, true) :: r, F, a => ∃ o v, ops[i]? = some o ∧ YieldsIf P ops S o v a ∧ wpMixU P ops S E r F (a.put o.dst v)
  | (i, false) :: r, F, a => ∃ o, ∃ R : Value → World → Prop, ops[i]? = some o ∧ Region.wanted o (yielded ops a.tmps) = true ∧ (∀ v w w', R v w → Below w.heap.size w w' → R v w') ∧
      (∀ w, S w → F w → Eff P a o w fun v w' => Below w.heap.size w w' ∧ R v w') ∧ ∀ v, (∃ w, R v w) → wpMixU P ops S E r (fun w => F w ∧ R v w) (a.put o.dst v)
variable {g0 : Nat} {t : TypeId} {Z : List Value} {A : Nat} {oA : Oper} {md : Region.Mode} {ord2 : List (Nat × Bool)}
def MixE (P : Program) (ops : Array Oper) (S : World → Prop) (Q : Exit → Act → World → Prop) (g0 : Nat) (t : TypeId) (Z : List Value) (dA : Option Tmp) (ord2 : List (Nat × Bool)) (F : World → Prop) (a : Act) : Prop :=
  ∀ u w, S w → F w → Made g0 t Z u w → wpMix P ops S Q ord2 (a.put dA u) w
theorem mix_done (hs : Region.noSelect ops = true) (hQ : ∀ c a d v w, Q (.panic c) (Act.put a d v) w → Q (.panic c) a w) (hA : ops[A]? = some oA) (hUp : ∀ w w', S w → Below w.heap.size w w' → S w') (u : Value) : ∀ (ord : List (Nat × Bool)) (fuel : Nat) (L : Array Bool) (F : World → Prop) (a : Act) (w : World),
    mixAB md ops A oA ord L = true → mixB md ops ord2 ((listAll ord L).setIfInBounds A true) = true → ord.length + ord2.length ≤ fuel → (∀ w w', F w → Below w.heap.size w w' → F w') → S w → F w → Made g0 t Z u w →
    wpMixU P ops S (MixE P ops S Q g0 t Z oA.dst ord2) ord F a → wpAnyH P md ops Q S fuel (L.setIfInBounds A true) (a.put oA.dst u) w
  | [], fuel, L, F, a, w, _, hm2, hf, _, hS, hF, hM, h => wpAnyH_of_mix hs hQ ord2 fuel _ _ _ hm2 (by simpa using hf) hS (h u w hS hF hM)
  | (i, true) :: r, 0, L, F, a, w, _, _, hf, _, _, _, _, _ => absurd hf (by simp)
  | (i, false) :: r, 0, L, F, a, w, _, _, hf, _, _, _, _, _ => absurd hf (by simp)
  | (i, true) :: r, fuel + 1, L, F, a, w, hm, hm2, hf, hFu, hS, hF, hM, h => by
    obtain ⟨o, v, ho, hy, hr⟩ := h
    simp only [mixAB, ho, Bool.and_eq_true, bne_iff_ne] at hm
    obtain ⟨⟨⟨⟨⟨⟨hap, hne⟩, h1⟩, h2⟩, h3⟩, h4⟩, h5⟩ := hm
    obtain ⟨p1, p2, p3⟩ := Oper.apart_spec hap
    have hsel := Region.noSelect_spec hs i o
    refine wpAnyH_take ho hs h3 h4 (fun c a w h => hQ c a _ _ w h) (hy.of_same (execOp_put o (fun cs b => hsel cs b ho) a oA.dst u p1) (wanted_put o a oA.dst u p1)) hS ?_
    rw [Array.setIfInBounds_comm _ _ (Ne.symm hne), Act.put_comm a u v p2]
    exact mix_done hs hQ hA hUp u r fuel (L.setIfInBounds i true) F _ w h5 hm2 (by simp at hf; omega) hFu hS hF hM hr
  | (i, false) :: r, fuel + 1, L, F, a, w, hm, hm2, hf, hFu, hS, hF, hM, h => by
    obtain ⟨o, R, ho, hw, hRu, he, hr⟩ := h
    simp only [mixAB, ho, Bool.and_eq_true, bne_iff_ne, beq_iff_eq] at hm
    obtain ⟨⟨⟨⟨⟨hap, hne⟩, h1⟩, h2⟩, h3⟩, h5⟩ := hm
    obtain ⟨p1, p2, p3⟩ := Oper.apart_spec hap
    have hsel := Region.noSelect_spec hs i o
    refine wpAnyH_all (rs := [i]) h3 (by simp) (fun j hj => ?_)
    obtain rfl := List.mem_singleton.1 hj
    have hE : Eff P (a.put oA.dst u) o w fun v w' => Below w.heap.size w w' ∧ R v w' := by
      have := he w hS hF
      unfold Eff at this ⊢
      rw [execOp_put o (fun cs b => hsel cs b ho) a oA.dst u p1]
      exact this
    refine hE.wpOp ho (by rw [wanted_put o a oA.dst u p1]; exact hw) (fun v w' ⟨hb, hR⟩ => ⟨hUp _ _ hS hb, ?_⟩)
    rw [Array.setIfInBounds_comm _ _ (Ne.symm hne), Act.put_comm a u v p2]
    exact mix_done hs hQ hA hUp u r fuel (L.setIfInBounds j true) _ _ w' h5 hm2 (by simp at hf; omega) (fun w w' hx hb => ⟨hFu _ _ hx.1 hb, hRu _ _ _ hx.2 hb⟩) (hUp _ _ hS hb) ⟨hFu _ _ hF hb, hR⟩ (hM.below hb) (hr v ⟨w', hR⟩)
theorem mix_pending (hs : Region.noSelect ops = true) (hQ : ∀ c a d v w, Q (.panic c) (Act.put a d v) w → Q (.panic c) a w) (hA : ops[A]? = some oA) (hUp : ∀ w w', S w → Below w.heap.size w w' → S w') (hwA : ∀ T, Region.wanted oA (yielded ops T) = true)
    (hrA : ∀ a w, (execOp (Act.eval a) oA).run P w = .ok (.value (.pointer (some ⟨w.heap.size, 0, none⟩))) (w.alloc (.cells Z.toArray t))) (hg0 : ∀ w, S w → g0 ≤ w.heap.size) : ∀ (ord : List (Nat × Bool)) (fuel : Nat) (L : Array Bool) (F : World → Prop) (a : Act) (w : World),
    mixAB md ops A oA ord L = true → mixB md ops ord2 ((listAll ord L).setIfInBounds A true) = true → ord.length + ord2.length + 1 ≤ fuel → (∀ w w', F w → Below w.heap.size w w' → F w') → S w → F w →
    wpMixU P ops S (MixE P ops S Q g0 t Z oA.dst ord2) ord F a → wpAnyH P md ops Q S fuel L a w
  | [], 0, L, F, a, w, _, _, hf, _, _, _, _ => absurd hf (by simp)
  | (i, true) :: r, 0, L, F, a, w, _, _, hf, _, _, _, _ => absurd hf (by simp)
  | (i, false) :: r, 0, L, F, a, w, _, _, hf, _, _, _, _ => absurd hf (by simp)
  | [], fuel + 1, L, F, a, w, hm, hm2, hf, hFu, hS, hF, h => by
    have hm1 := hm
    simp only [mixAB, beq_iff_eq] at hm
    refine wpAnyH_all (rs := [A]) hm (by simp) (fun j hj => ?_)
    obtain rfl := List.mem_singleton.1 hj
    have hb : Below w.heap.size w (w.alloc (.cells Z.toArray t)) := (Below.refl _ _).alloc (Nat.le_refl _) _
    refine Eff.wpOp (R := fun v w' => v = .pointer (some ⟨w.heap.size, 0, none⟩) ∧ w' = w.alloc (.cells Z.toArray t)) hA (hwA _) (.inl ⟨_, _, hrA a w, rfl, rfl⟩) ?_
    rintro v w' ⟨rfl, rfl⟩
    exact ⟨hUp _ _ hS hb, mix_done hs hQ hA hUp _ [] fuel L F a _ hm1 hm2 (by simp at hf ⊢; omega) hFu (hUp _ _ hS hb) (hFu _ _ hF hb) ⟨_, rfl, hg0 w hS, At.newA w t rfl⟩ h⟩
  | (i, true) :: r, fuel + 1, L, F, a, w, hm, hm2, hf, hFu, hS, hF, h => by
    obtain ⟨o, v, ho, hy, hr⟩ := h
    simp only [mixAB, ho, Bool.and_eq_true, bne_iff_ne] at hm
    obtain ⟨⟨⟨⟨⟨⟨hap, hne⟩, h1⟩, h2⟩, h3⟩, h4⟩, h5⟩ := hm
    exact wpAnyH_take ho hs h1 h2 (fun c a w h => hQ c a _ _ w h) hy hS (mix_pending hs hQ hA hUp hwA hrA hg0 r fuel (L.setIfInBounds i true) F _ w h5 hm2 (by simp at hf; omega) hFu hS hF hr)
  | (i, false) :: r, fuel + 1, L, F, a, w, hm, hm2, hf, hFu, hS, hF, h => by
    have h' := h
    have hm1 := hm
    obtain ⟨o, R, ho, hw, hRu, he, hr⟩ := h
    simp only [mixAB, ho, Bool.and_eq_true, bne_iff_ne, beq_iff_eq] at hm
    obtain ⟨⟨⟨⟨⟨hap, hne⟩, h1⟩, h2⟩, h3⟩, h5⟩ := hm
    refine wpAnyH_all rfl (fun e => by rw [e] at h2; simp at h2) (fun j hj => ?_)
    have hj' := List.all_eq_true.1 h1 j hj
    simp only [Bool.or_eq_true, beq_iff_eq] at hj'
    by_cases hji : j = i
    · subst hji
      refine (he w hS hF).wpOp ho hw (fun v w' ⟨hb, hR⟩ => ⟨hUp _ _ hS hb, ?_⟩)
      exact mix_pending hs hQ hA hUp hwA hrA hg0 r fuel (L.setIfInBounds j true) _ _ w' h5 hm2 (by simp at hf; omega) (fun w w' hx hb => ⟨hFu _ _ hx.1 hb, hRu _ _ _ hx.2 hb⟩) (hUp _ _ hS hb) ⟨hFu _ _ hF hb, hR⟩ (hr v ⟨w', hR⟩)
    · obtain rfl : j = A := by rcases hj' with h | h; exact absurd h hji; exact h
      have hb : Below w.heap.size w (w.alloc (.cells Z.toArray t)) := (Below.refl _ _).alloc (Nat.le_refl _) _
      refine Eff.wpOp (R := fun v w' => v = .pointer (some ⟨w.heap.size, 0, none⟩) ∧ w' = w.alloc (.cells Z.toArray t)) hA (hwA _) (.inl ⟨_, _, hrA a w, rfl, rfl⟩) ?_
      rintro v w' ⟨rfl, rfl⟩
      exact ⟨hUp _ _ hS hb, mix_done hs hQ hA hUp _ ((i, false) :: r) fuel L F a _ hm1 hm2 (by simp at hf ⊢; omega) hFu (hUp _ _ hS hb) (hFu _ _ hF hb) ⟨_, rfl, hg0 w hS, At.newA w t rfl⟩ h'⟩
theorem wp_region_mixA {id : Nat} {a : Act} {w : World} (A : Nat) (oA : Oper) (ord ord2 : List (Nat × Bool)) (S : World → Prop) (g0 : Nat) (t : TypeId) (Z : List Value) (hA : ops.toList[A]? = some oA) (hwA : ∀ T, Region.wanted oA (yielded ops T) = true)
    (hrA : ∀ a w, (execOp (Act.eval a) oA).run P w = .ok (.value (.pointer (some ⟨w.heap.size, 0, none⟩))) (w.alloc (.cells Z.toArray t))) (hUp : ∀ w w', S w → Below w.heap.size w w' → S w') (hg0 : ∀ w, S w → g0 ≤ w.heap.size)
    (hm : P.follows .mixedOrders = true) (hs : Region.noSelect ops = true) (hQ : ∀ c a d v w, Q (.panic c) (Act.put a d v) w → Q (.panic c) a w)
    (ho : mixAB .any ops A oA ord (Array.replicate ops.size false) = true) (ho2 : mixB .any ops ord2 ((listAll ord (Array.replicate ops.size false)).setIfInBounds A true) = true) (hl : ord.length + ord2.length + 1 ≤ ops.size) (hS : S w.drew)
    (h : wpMixU P ops S (MixE P ops S Q g0 t Z oA.dst ord2) ord (fun _ => True) a) : (Code.region id ops true).wp P Q a w :=
  wp_region_held_drew (S := S) hm hS (fun _ => mix_pending hs hQ (nth hA) hUp hwA hrA hg0 ord _ _ (fun _ => True) _ _ ho ho2 hl (fun _ _ _ _ => trivial) hS trivial h)
variable {i : Nat} {r : List (Nat × Bool)} {a : Act} {w : World} {o : Oper} {E : (World → Prop) → Act → Prop} {F : World → Prop}
theorem wpMixU_val (v : Value) (ho : ops.toList[i]? = some o) (hw : Region.wanted o (yielded ops a.tmps) = true) (hv : ∀ w, S w → (execOp a.eval o).run P w = .ok (.value v) w) (h : wpMixU P ops S E r F (a.put o.dst v)) : wpMixU P ops S E ((i, true) :: r) F a :=
  ⟨o, v, nth ho, .inl ⟨hw, hv⟩, h⟩
theorem wpMixU_loadAll (ho : ops.toList[i]? = some o) (hw : Region.wanted o (yielded ops a.tmps) = true) (ty : TypeId) (x : Operand) (hop : o.op = .load ty x) (b off : Nat) (hx : a.eval x = .pointer (some ⟨b, off, none⟩)) (cs : List Value) (d : TypeDesc)
    (hS : ∀ w, S w → w.rangeAt b off cs) (hu : P.underlying ty = some d) (hd : d.isRow = true) (hi : (P.info? ty).map (·.size) = some cs.length)
    (h : wpMixU P ops S E r F (a.put o.dst (.agg cs.toArray))) : wpMixU P ops S E ((i, true) :: r) F a :=
  ⟨o, _, nth ho, yieldsIf_load_mid hw ty x hop b off hx cs d hS hu hd hi, h⟩
/-- an operation that yields a value of a kind that depends on the world -/
theorem wpMixU_put (R : Value → World → Prop) (ho : ops.toList[i]? = some o) (hw : Region.wanted o (yielded ops a.tmps) = true) (hR : ∀ v w w', R v w → Below w.heap.size w w' → R v w')
    (hv : ∀ w, S w → F w → ∃ v w', (execOp a.eval o).run P w = .ok (.value v) w' ∧ Below w.heap.size w w' ∧ R v w') (h : ∀ v, (∃ w, R v w) → wpMixU P ops S E r (fun w => F w ∧ R v w) (a.put o.dst v)) : wpMixU P ops S E ((i, false) :: r) F a :=
  ⟨o, R, nth ho, hw, hR, fun w hS hF => by obtain ⟨v, w', h1, h2⟩ := hv w hS hF; exact .inl ⟨v, w', h1, h2⟩, h⟩
/-- a call that answers one value in every world of the class -/
theorem wpMixU_call (f : FuncId) (args : List Value) (v : Value) (ho : ops.toList[i]? = some o) (hw : Region.wanted o (yielded ops a.tmps) = true) (hv : ∀ w, (execOp a.eval o).run P w = .ok (.enter f args.toArray) w)
    (hc : ∀ w, S w → F w → Calls P f args.toArray w fun e w' => e = .returned v ∧ Below w.heap.size w w') (h : wpMixU P ops S E r (fun w => F w ∧ v = v) (a.put o.dst v)) : wpMixU P ops S E ((i, false) :: r) F a :=
  ⟨o, fun x _ => x = v, nth ho, hw, fun _ _ _ h _ => h, fun w hS hF => .inr ⟨f, args.toArray, hv w, (hc w hS hF).mono fun e w' ⟨h1, h2⟩ => ⟨v, h1, h2, rfl⟩⟩, fun x ⟨_, hx⟩ => by rw [hx]; exact h⟩
end
end Go.Proofs.YtefbllhpibfojaaDoor
