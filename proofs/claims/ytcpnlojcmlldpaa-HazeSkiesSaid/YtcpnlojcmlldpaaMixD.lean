/- Drawn regions where one operation floats: what it yields is known by a lasting fact. -/
import Derived.Test.YtcpnlojcmlldpaaMixC
namespace Go.Proofs.Ytcpnlojcmlldpaa
open Go.RowKit

section
variable {P : Program} {ops : Array Oper} {Q : Exit → Act → World → Prop} {S : World → Prop}
variable {M : Value → World → Prop} {G : World → Prop} {A : Nat} {oA : Oper} {md : Region.Mode} {ord2 : List (Nat × Bool)}
def MixF (P : Program) (ops : Array Oper) (S : World → Prop) (Q : Exit → Act → World → Prop) (M : Value → World → Prop) (dA : Option Tmp) (ord2 : List (Nat × Bool)) (F : World → Prop) (a : Act) : Prop :=
  ∀ u w, S w → F w → M u w → wpMix P ops S Q ord2 (a.put dA u) w
theorem mix_doneF (hs : Region.noSelect ops = true) (hQ : ∀ c a d v w, Q (.panic c) (Act.put a d v) w → Q (.panic c) a w) (hA : ops[A]? = some oA) (hUp : ∀ w w', S w → Below w.heap.size w w' → S w') (hMu : ∀ u w w', M u w → Below w.heap.size w w' → M u w') (u : Value) : ∀ (ord : List (Nat × Bool)) (fuel : Nat) (L : Array Bool) (F : World → Prop) (a : Act) (w : World),
    mixAB md ops A oA ord L = true → mixB md ops ord2 ((listAll ord L).setIfInBounds A true) = true → ord.length + ord2.length ≤ fuel → (∀ w w', F w → Below w.heap.size w w' → F w') → S w → F w → M u w →
    wpMixU P ops S (MixF P ops S Q M oA.dst ord2) ord F a → wpAnyH P md ops Q S fuel (L.setIfInBounds A true) (a.put oA.dst u) w
  | [], fuel, L, F, a, w, _, hm2, hf, _, hS, hF, hM, h => wpAnyH_of_mix hs hQ ord2 fuel _ _ _ hm2 (by simpa using hf) hS (h u w hS hF hM)
  | (i, true) :: r, 0, L, F, a, w, _, _, hf, _, _, _, _, _ => absurd hf (by simp)
  | (i, false) :: r, 0, L, F, a, w, _, _, hf, _, _, _, _, _ => absurd hf (by simp)
  | (i, true) :: r, fuel + 1, L, F, a, w, hm, hm2, hf, hFu, hS, hF, hM, h => by
    obtain ⟨o, v, ho, hy, hr⟩ := h
    simp only [mixAB, ho, Bool.and_eq_true, bne_iff_ne] at hm
    obtain ⟨⟨⟨⟨⟨⟨hap, hne⟩, h1⟩, h2⟩, h3⟩, h4⟩, h5⟩ := hm
    obtain ⟨p1, p2, p3⟩ := Oper.apart_spec hap
    have hsel := Region.noSelect_spec hs i o
    refine wpAnyH_take ho hs h3 h4 (fun c a w h => hQ c a _ _ w h) (hy.of_same (execOp_put o (fun cs b => hsel cs b ho) a oA.dst u p1) (wanted_put o a oA.dst u p1)) hS ?_
    rw [Array.setIfInBounds_comm _ _ (Ne.symm hne), Act.put_comm a u v p2]
    exact mix_doneF hs hQ hA hUp hMu u r fuel (L.setIfInBounds i true) F _ w h5 hm2 (by simp at hf; omega) hFu hS hF hM hr
  | (i, false) :: r, fuel + 1, L, F, a, w, hm, hm2, hf, hFu, hS, hF, hM, h => by
    obtain ⟨o, R, ho, hw, hRu, he, hr⟩ := h
    simp only [mixAB, ho, Bool.and_eq_true, bne_iff_ne, beq_iff_eq] at hm
    obtain ⟨⟨⟨⟨⟨hap, hne⟩, h1⟩, h2⟩, h3⟩, h5⟩ := hm
    obtain ⟨p1, p2, p3⟩ := Oper.apart_spec hap
    have hsel := Region.noSelect_spec hs i o
    refine wpAnyH_all (rs := [i]) h3 (by simp) (fun j hj => ?_)
    obtain rfl := List.mem_singleton.1 hj
    have hE : Eff P (a.put oA.dst u) o w fun v w' => Below w.heap.size w w' ∧ R v w' := by
      have := he w hS hF
      unfold Eff at this ⊢
      rw [execOp_put o (fun cs b => hsel cs b ho) a oA.dst u p1]
      exact this
    refine hE.wpOp ho (by rw [wanted_put o a oA.dst u p1]; exact hw) (fun v w' ⟨hb, hR⟩ => ⟨hUp _ _ hS hb, ?_⟩)
    rw [Array.setIfInBounds_comm _ _ (Ne.symm hne), Act.put_comm a u v p2]
    exact mix_doneF hs hQ hA hUp hMu u r fuel (L.setIfInBounds j true) _ _ w' h5 hm2 (by simp at hf; omega) (fun w w' hx hb => ⟨hFu _ _ hx.1 hb, hRu _ _ _ hx.2 hb⟩) (hUp _ _ hS hb) ⟨hFu _ _ hF hb, hR⟩ (hMu _ _ _ hM hb) (hr v ⟨w', hR⟩)
theorem mix_pendingF (hs : Region.noSelect ops = true) (hQ : ∀ c a d v w, Q (.panic c) (Act.put a d v) w → Q (.panic c) a w) (hA : ops[A]? = some oA) (hUp : ∀ w w', S w → Below w.heap.size w w' → S w') (hMu : ∀ u w w', M u w → Below w.heap.size w w' → M u w') (hwA : ∀ T, Region.wanted oA (yielded ops T) = true) : ∀ (ord : List (Nat × Bool)) (fuel : Nat) (L : Array Bool) (F : World → Prop) (a : Act) (w : World),
    mixAB md ops A oA ord L = true → mixB md ops ord2 ((listAll ord L).setIfInBounds A true) = true → ord.length + ord2.length + 1 ≤ fuel → (∀ w w', F w → Below w.heap.size w w' → F w') → (∀ w, F w → G w) → S w → F w → (∀ w, S w → G w → ∃ v w', (execOp (Act.eval a) oA).run P w = .ok (.value v) w' ∧ Below w.heap.size w w' ∧ M v w') →
    wpMixU P ops S (MixF P ops S Q M oA.dst ord2) ord F a → wpAnyH P md ops Q S fuel L a w
  | [], 0, L, F, a, w, _, _, hf, _, _, _, _, _, _ => absurd hf (by simp)
  | (i, true) :: r, 0, L, F, a, w, _, _, hf, _, _, _, _, _, _ => absurd hf (by simp)
  | (i, false) :: r, 0, L, F, a, w, _, _, hf, _, _, _, _, _, _ => absurd hf (by simp)
  | [], fuel + 1, L, F, a, w, hm, hm2, hf, hFu, hFG, hS, hF, hrA, h => by
    have hm1 := hm
    simp only [mixAB, beq_iff_eq] at hm
    refine wpAnyH_all (rs := [A]) hm (by simp) (fun j hj => ?_)
    obtain rfl := List.mem_singleton.1 hj
    obtain ⟨v0, w0, hrun, hb, hMv⟩ := hrA w hS (hFG w hF)
    refine Eff.wpOp (R := fun v w' => v = v0 ∧ w' = w0) hA (hwA _) (.inl ⟨_, _, hrun, rfl, rfl⟩) ?_
    rintro v w' ⟨e1, e2⟩
    subst e1 e2
    exact ⟨hUp _ _ hS hb, mix_doneF hs hQ hA hUp hMu _ [] fuel L F a _ hm1 hm2 (by simp at hf ⊢; omega) hFu (hUp _ _ hS hb) (hFu _ _ hF hb) hMv h⟩
  | (i, true) :: r, fuel + 1, L, F, a, w, hm, hm2, hf, hFu, hFG, hS, hF, hrA, h => by
    obtain ⟨o, v, ho, hy, hr⟩ := h
    have hs0 := hs
    simp only [mixAB, ho, Bool.and_eq_true, bne_iff_ne] at hm
    obtain ⟨⟨⟨⟨⟨⟨hap, hne⟩, h1⟩, h2⟩, h3⟩, h4⟩, h5⟩ := hm
    exact wpAnyH_take ho hs h1 h2 (fun c a w h => hQ c a _ _ w h) hy hS (mix_pendingF hs hQ hA hUp hMu hwA r fuel (L.setIfInBounds i true) F _ w h5 hm2 (by simp at hf; omega) hFu hFG hS hF (fun w hs hg => by rw [execOp_put oA (fun cs b => Region.noSelect_spec hs0 A oA cs b hA) a o.dst v (Oper.apart_spec hap).2.2]; exact hrA w hs hg) hr)
  | (i, false) :: r, fuel + 1, L, F, a, w, hm, hm2, hf, hFu, hFG, hS, hF, hrA, h => by
    have h' := h
    have hm1 := hm
    obtain ⟨o, R, ho, hw, hRu, he, hr⟩ := h
    have hs0 := hs
    simp only [mixAB, ho, Bool.and_eq_true, bne_iff_ne, beq_iff_eq] at hm
    obtain ⟨⟨⟨⟨⟨hap, hne⟩, h1⟩, h2⟩, h3⟩, h5⟩ := hm
    refine wpAnyH_all rfl (fun e => by rw [e] at h2; simp at h2) (fun j hj => ?_)
    have hj' := List.all_eq_true.1 h1 j hj
    simp only [Bool.or_eq_true, beq_iff_eq] at hj'
    by_cases hji : j = i
    · subst hji
      refine (he w hS hF).wpOp ho hw (fun v w' ⟨hb, hR⟩ => ⟨hUp _ _ hS hb, ?_⟩)
      exact mix_pendingF hs hQ hA hUp hMu hwA r fuel (L.setIfInBounds j true) _ _ w' h5 hm2 (by simp at hf; omega) (fun w w' hx hb => ⟨hFu _ _ hx.1 hb, hRu _ _ _ hx.2 hb⟩) (fun w hx => hFG w hx.1) (hUp _ _ hS hb) ⟨hFu _ _ hF hb, hR⟩ (fun w hs hg => by rw [execOp_put oA (fun cs b => Region.noSelect_spec hs0 A oA cs b hA) a o.dst v (Oper.apart_spec hap).2.2]; exact hrA w hs hg) (hr v ⟨w', hR⟩)
    · obtain rfl : j = A := by rcases hj' with h | h; exact absurd h hji; exact h
      obtain ⟨v0, w0, hrun, hb, hMv⟩ := hrA w hS (hFG w hF)
      refine Eff.wpOp (R := fun v w' => v = v0 ∧ w' = w0) hA (hwA _) (.inl ⟨_, _, hrun, rfl, rfl⟩) ?_
      rintro v w' ⟨e1, e2⟩
      subst e1 e2
      exact ⟨hUp _ _ hS hb, mix_doneF hs hQ hA hUp hMu _ ((i, false) :: r) fuel L F a _ hm1 hm2 (by simp at hf ⊢; omega) hFu (hUp _ _ hS hb) (hFu _ _ hF hb) hMv h'⟩
theorem wp_region_mixF {id : Nat} {a : Act} {w : World} (A : Nat) (oA : Oper) (ord ord2 : List (Nat × Bool)) (S : World → Prop) (M : Value → World → Prop) (G : World → Prop) (hA : ops.toList[A]? = some oA) (hwA : ∀ T, Region.wanted oA (yielded ops T) = true)
    (hrA : ∀ w, S w → G w → ∃ v w', (execOp a.eval oA).run P w = .ok (.value v) w' ∧ Below w.heap.size w w' ∧ M v w') (hUp : ∀ w w', S w → Below w.heap.size w w' → S w') (hMu : ∀ u w w', M u w → Below w.heap.size w w' → M u w')
    (hm : P.follows .mixedOrders = true) (hs : Region.noSelect ops = true) (hQ : ∀ c a d v w, Q (.panic c) (Act.put a d v) w → Q (.panic c) a w)
    (ho : mixAB .any ops A oA ord (Array.replicate ops.size false) = true) (ho2 : mixB .any ops ord2 ((listAll ord (Array.replicate ops.size false)).setIfInBounds A true) = true) (hl : ord.length + ord2.length + 1 ≤ ops.size) (hS : S w.drew) (hGu : ∀ w w', G w → Below w.heap.size w w' → G w') (hG : G w.drew)
    (h : wpMixU P ops S (MixF P ops S Q M oA.dst ord2) ord G a) : (Code.region id ops true).wp P Q a w :=
  wp_region_held_drew (S := S) hm hS (fun _ => mix_pendingF hs hQ (nth hA) hUp hMu hwA ord _ _ G _ _ ho ho2 hl hGu (fun _ h => h) hS hG hrA h)
end
end Go.Proofs.Ytcpnlojcmlldpaa
