/- Layer 12, the plain law of ScoutFinds: what a tick does with the words of the silent. -/
import Derived.Test.YtghefmppjdneoaaFinDM
namespace Go.Proofs.Ytghefmppjdneoaa
open Go.Proofs Stab Go.Shelf Go.RowKit Go.Lib Go.Sort Go.Maps

section
variable {t u : Sct} {i n : Int} {S : Int → Bool} {b : Int}
/-- who is gone stays gone -/
theorem Rz.gone {n : Int} (h : Rz n S t u) {k : Int} {a : Mem} (ha : t.v k = some a) (hs : a.s = 2) : ∃ c, u.v k = some c ∧ c.s = 2 := by
  rcases h.v k with ⟨h1, _⟩ | ⟨m, s, h1, h2, h3, _⟩
  · exact ⟨a, h1.trans ha, hs⟩
  · rw [ha] at h1
    cases h1
    omega
theorem age1_words (h : Wds t n S 8) (hf : Fit t i n) (m : Mem) (hm : t.v m.n ≠ none) (h1 : m.s = 1 → S m.n = true) : Rz n S t (t.age1 m) := by
  unfold Sct.age1
  split
  · rename_i hc
    exact h.turn hf (h1 hc.2.1) ((hf.dom m.n).1 (Option.isSome_iff_ne_none.2 hm)) (.inr rfl)
  · exact Rz.refl _ _ _
/-- who is silent for long is held for gone -/
theorem age_fold (hi : 1 ≤ i ∧ i ≤ n) (hw : Wds t n S 8) : ∀ (l : List Mem) (u : Sct), (∀ m ∈ l, t.v m.n = some m) → Rz n S t u → Alike t u → Fit u i n → Wds u n S 8 →
    Rz n S t (l.foldl Sct.age1 u) ∧ Fit (l.foldl Sct.age1 u) i n ∧ Wds (l.foldl Sct.age1 u) n S 8 ∧ ∀ m ∈ l, m.s = 1 → m.n ≠ i → 8 ≤ t.ticks - (t.since m.n).getD 0 → ∃ c, (l.foldl Sct.age1 u).v m.n = some c ∧ c.s = 2
  | [], u, _, h1, _, h3, h4 => ⟨h1, h3, h4, fun m hm => by cases hm⟩
  | m :: l, u, hl, h1, h2, h3, h4 => by
    rw [List.foldl_cons]
    have hm := hl m List.mem_cons_self
    have hum : u.v m.n ≠ none := by
      rcases h1.v m.n with ⟨e, _⟩ | ⟨_, _, _, _, _, _, e, _⟩
      · rw [e, hm]; exact fun h => by cases h
      · rw [e]; exact fun h => by cases h
    have hS : m.s = 1 → S m.n = true := fun hs => by
      rcases (hw.v m.n m hm).2 with e | ⟨e, _⟩
      · omega
      · exact e
    have k1 := age1_words h4 h3 m hum hS
    have kf := (h3.age1 hi m).fit
    obtain ⟨g1, g2, g3, g4⟩ := age_fold hi hw l (u.age1 m) (fun x hx => hl x (List.mem_cons_of_mem _ hx)) (h1.trans k1) (h2.trans (alike_age1 u m)) kf (h4.rz (by omega) k1)
    refine ⟨g1, g2, g3, fun x hx hs hne h8 => ?_⟩
    rcases List.mem_cons.1 hx with rfl | hx
    · -- this one
      have hdone : ∃ c, (u.age1 x).v x.n = some c ∧ c.s = 2 := by
        rcases h1.v x.n with ⟨e1, e2⟩ | ⟨m', s, e1, e2, e3, e4, e5, _⟩
        · unfold Sct.age1
          rw [if_pos ⟨by rw [h3.meq]; exact hne, hs, by rw [h1.ticks, e2]; exact h8⟩]
          have hg := h3.sane x.n x (e1.trans hm)
          have hgg := (Mem.good_iff x).1 hg.2
          have eg : u.getM x.n = x := by unfold Sct.getM; rw [e1, hm]; rfl
          have hG : (⟨x.n, x.i, 2⟩ : Mem).good = true := (Mem.good_iff _).2 ⟨hgg.1, hgg.2.1, hgg.2.2.1, hgg.2.2.2.1, by show (0 : Int) ≤ 2; omega, by show (2 : Int) ≤ 3; omega⟩
          have ht : takes u.v ⟨x.n, x.i, 2⟩ = true := by
            unfold takes
            rw [hG, Bool.true_and]
            show (match u.v x.n with | some was => _ | none => true) = true
            rw [e1, hm]
            exact (Mem.above_iff _ _).2 ⟨hG, hg.2, rfl, by unfold Mem.height; show x.i * 4 + x.s < x.i * 4 + 2; omega⟩
          unfold Sct.turn Sct.learn
          rw [eg, if_pos ht]
          refine ⟨⟨x.n, x.i, 2⟩, ?_, rfl⟩
          show upd u.v ⟨x.n, x.i, 2⟩ x.n = _
          unfold upd
          rw [if_pos rfl]
        · rw [hm] at e1
          cases e1
          have hs2 : s = 2 := by omega
          exact k1.gone e5 hs2
      obtain ⟨c, hc1, hc2⟩ := hdone
      -- it stays so
      have hr : Rz n S (u.age1 x) (l.foldl Sct.age1 (u.age1 x)) := by
        have := age_rz hi hw l (u.age1 x) (fun y hy => hl y (List.mem_cons_of_mem _ hy)) (h1.trans k1) kf (h4.rz (by omega) k1)
        exact this
      exact hr.gone hc1 hc2
    · exact g4 x hx hs hne h8
where
  age_rz {i n : Int} {S : Int → Bool} {t : Sct} (hi : 1 ≤ i ∧ i ≤ n) (hw : Wds t n S 8) : ∀ (l : List Mem) (u : Sct), (∀ m ∈ l, t.v m.n = some m) → Rz n S t u → Fit u i n → Wds u n S 8 → Rz n S u (l.foldl Sct.age1 u)
    | [], u, _, _, _, _ => Rz.refl _ _ u
    | m :: l, u, hl, h1, h3, h4 => by
      rw [List.foldl_cons]
      have hm := hl m List.mem_cons_self
      have hum : u.v m.n ≠ none := by
        rcases h1.v m.n with ⟨e, _⟩ | ⟨_, _, _, _, _, _, e, _⟩
        · rw [e, hm]; exact fun h => by cases h
        · rw [e]; exact fun h => by cases h
      have hS : m.s = 1 → S m.n = true := fun hs => by
        rcases (hw.v m.n m hm).2 with e | ⟨e, _⟩
        · omega
        · exact e
      have k1 := age1_words h4 h3 m hum hS
      exact k1.trans (age_rz hi hw l _ (fun x hx => hl x (List.mem_cons_of_mem _ hx)) (h1.trans k1) (h3.age1 hi m).fit (h4.rz (by omega) k1))
theorem Wds.age (h : Wds t n S 8) (hf : Fit t i n) (hi : 1 ≤ i ∧ i ≤ n) (hn : n ≤ 6) (hSi : S i = false) : Rz n S t t.age ∧ Wds t.age n S 7 := by
  have hl : ∀ m ∈ Go.Proofs.Ytghefmppjdneoaa.all t.v, t.v m.n = some m := by
    intro m hm
    unfold Go.Proofs.Ytghefmppjdneoaa.all at hm
    obtain ⟨k, _, hk⟩ := List.mem_filterMap.1 hm
    rw [(hf.sane k m hk).1]
    exact hk
  obtain ⟨g1, g2, g3, g4⟩ := age_fold hi h _ t hl (Rz.refl _ _ t) (Alike.refl t) hf h
  refine ⟨g1, g3.v, g3.f, fun k m hm hs => ?_⟩
  have hm' : ((Go.Proofs.Ytghefmppjdneoaa.all t.v).foldl Sct.age1 t).v k = some m := hm
  show ∃ q, ((Go.Proofs.Ytghefmppjdneoaa.all t.v).foldl Sct.age1 t).since k = some q ∧ q ≤ ((Go.Proofs.Ytghefmppjdneoaa.all t.v).foldl Sct.age1 t).ticks ∧ ((Go.Proofs.Ytghefmppjdneoaa.all t.v).foldl Sct.age1 t).ticks - q ≤ 7
  rw [g1.ticks]
  rcases g1.v k with ⟨e1, e2⟩ | ⟨m', s, e1, e2, e3, e4, e5, e6⟩
  · rw [e2]
    rw [hm'] at e1
    obtain ⟨q, q1, q2, q3⟩ := h.since k m e1.symm hs
    refine ⟨q, q1, q2, ?_⟩
    have hnk := (hf.sane k m e1.symm).1
    have hdk := (hf.dom k).1 (by rw [← e1]; rfl)
    have hne : m.n ≠ i := by
      intro e
      rcases (h.v k m e1.symm).2 with e0 | ⟨e0, _⟩
      · omega
      · rw [← hnk, e, hSi] at e0; cases e0
    have hin : m ∈ Go.Proofs.Ytghefmppjdneoaa.all t.v := by
      unfold Go.Proofs.Ytghefmppjdneoaa.all
      exact List.mem_filterMap.2 ⟨k, by unfold nodes; simp; omega, e1.symm⟩
    by_cases h8 : 8 ≤ t.ticks - q
    · obtain ⟨c, c1, c2⟩ := g4 m hin hs hne (by rw [hnk, q1]; exact h8)
      rw [hnk, hm'] at c1
      cases c1
      omega
    · omega
  · rw [hm'] at e5
    cases e5
    have hs1 : s = 1 := hs
    exact ⟨_, e6 hs1, Int.le_refl _, by omega⟩
end
end Go.Proofs.Ytghefmppjdneoaa
