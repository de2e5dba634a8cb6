/- Layer 12, the plain law of ScoutReturns: a tick. -/
import Derived.Test.YtghefmppjdneoaaRetBM
namespace Go.Proofs.Ytghefmppjdneoaa
open Go.Proofs Stab Go.Shelf Go.RowKit Go.Lib Go.Sort Go.Maps

theorem age_none {t : Sct} (h : ∀ m ∈ all t.v, m.s ≠ 1) : t.age = t := by
  unfold Sct.age
  suffices ∀ (l : List Mem), (∀ m ∈ l, m.s ≠ 1) → l.foldl Sct.age1 t = t from this _ h
  intro l
  induction l with
  | nil => exact fun _ => rfl
  | cons a l ih =>
    intro hl
    have e : Sct.age1 t a = t := by
      unfold Sct.age1
      rw [if_neg]
      rintro ⟨_, h, _⟩
      exact hl a List.mem_cons_self h
    rw [List.foldl_cons, e]
    exact ih fun m hm => hl m (List.mem_cons_of_mem _ hm)
section
variable {w n i : Int} {f : Bool} {R R' : Int → Nat} {t u : Sct}
/-- nobody is doubted -/
theorem Rok.noDoubt (h : Rok w n f R i t) : ∀ k m, t.v k = some m → m.s = 0 ∨ (m.s = 2 ∧ k = w ∧ i ≠ w ∧ m = ⟨w, 0, 2⟩) := by
  intro k m hm
  by_cases hk : k = w
  · subst hk
    by_cases hi : i = k
    · rw [h.me hi] at hm
      cases hm
      exact .inl rfl
    · rcases h.him hi with hv | ⟨_, hv⟩
      · rw [hv] at hm
        cases hm
        exact .inr ⟨rfl, rfl, hi, rfl⟩
      · rw [hv] at hm
        cases hm
        exact .inl rfl
  · exact .inl (h.oth k m hm hk).2
/-- what a tick asks, told -/
theorem Rok.ends (h : Rok w n f R i t) {a : Sct} (hv : a.v = t.v) (hs : Std a i n) (ht : a.ticks = R' i) (hf : ∀ k r, a.f k = some r → WordR w f r.m) (l : List Fr) :
    Rok w n f R' i (a.age.tell l).1 ∧ (∀ y ∈ (a.age.tell l).2, (∀ m ∈ y.rum, WordR w f m) ∧ y.rum.length ≤ 6) ∧ (a.age.tell l).1.v = t.v ∧ a.age = a := by
  have he : a.age = a := age_none fun m hm => by
    unfold Go.Proofs.Ytghefmppjdneoaa.all at hm
    obtain ⟨k, _, hk⟩ := List.mem_filterMap.1 hm
    rw [hv] at hk
    rcases h.noDoubt k m hk with e | ⟨e, _⟩ <;> omega
  rw [he]
  obtain ⟨f1, f2⟩ := told_pred (t := a) (W := WordR w f) hf l
  have ha := alike_tell a l
  have hm := tell_me a l
  have hv2 : (a.tell l).1.v = t.v := by rw [hm]; exact hv
  exact ⟨⟨hs.alike ha (hs.fit.tell l).fit, ha.ticks.trans ht, by rw [hv2]; exact h.oth, by rw [hv2]; exact h.me, by rw [hv2]; exact h.him, f1⟩, f2, hv2, rfl⟩
theorem Rok.tick (h : Rok w n f R i t) (hw : 1 ≤ w ∧ w ≤ n) (hn : n ≤ 6) (hi : 1 ≤ i ∧ i ≤ n) (hR : R' i = R i + 1) (hg : t.ticks % 4 = 0 ∨ (0 < t.tgt → t.got = true)) (d : Int) :
    Rok w n f R' i (t.tick d).1 ∧ (∀ y ∈ (t.tick d).2, (∀ m ∈ y.rum, WordR w f m) ∧ y.rum.length ≤ 6) ∧ (t.tick d).1.v = t.v ∧
      (R i % 16 = 12 → i ≠ w → t.v w = some ⟨w, 0, 2⟩ → ∃ y ∈ (t.tick d).2, y.to_ = w ∧ y.kind = 1 ∧ y.frm = i ∧ (⟨w, 0, 2⟩ : Mem) ∈ y.rum) := by
  have hq : t.ticks + 1 = (R i + 1 : Nat) := by rw [h.ticks]; rfl
  have h' := h.std.later
  have hT := h.std.tick hi hn h.ticks d
  have htk := hT.ticks
  rcases (show (R i + 1) % 4 = 1 ∨ (R i + 1) % 4 = 2 ∨ (R i + 1) % 4 = 3 ∨ (R i + 1) % 4 = 0 by omega) with h1 | h1 | h1 | h1
  · -- a round begins
    rw [tick_1 h.std.left hq h1]
    have hF := (h'.fit.ask1 hi d).fit
    obtain ⟨a1, a2, a3, a4, a5, a6, a7, a8⟩ := ask1_facts { t with ticks := t.ticks + 1 } d
    obtain ⟨b1, b2, b3, b4, b5, b6⟩ := h'.choose hi hn d
    have hch : (Sct.choose { t with ticks := t.ticks + 1 } d).2.v = t.v ∧ (∀ k r, (Sct.choose { t with ticks := t.ticks + 1 } d).2.f k = some r → WordR w f r.m) ∧ (R i % 16 = 12 → i ≠ w → t.v w = some ⟨w, 0, 2⟩ → (Sct.choose { t with ticks := t.ticks + 1 } d).1 = w ∧ (Sct.choose { t with ticks := t.ticks + 1 } d).2.f w = some ⟨⟨w, 0, 2⟩, 5⟩) := by
      have hfar : ∀ x ∈ Sct.far { t with ticks := t.ticks + 1 }, x = w ∧ i ≠ w ∧ t.v w = some ⟨w, 0, 2⟩ := by
        intro x hx
        unfold Sct.far at hx
        obtain ⟨m, hm, rfl⟩ := List.mem_map.1 hx
        have ⟨hm1, hm2⟩ := List.mem_filter.1 hm
        simp only [Bool.and_eq_true, decide_eq_true_eq] at hm2
        unfold Go.Proofs.Ytghefmppjdneoaa.all at hm1
        obtain ⟨k, _, hk⟩ := List.mem_filterMap.1 hm1
        have hk : t.v k = some m := hk
        rcases h.noDoubt k m hk with e | ⟨_, rfl, e2, rfl⟩
        · omega
        · exact ⟨rfl, e2, hk⟩
      have hr : Sct.round { t with ticks := t.ticks + 1 } = ((R i / 4 + 1 : Nat) : Int) := by
        unfold Sct.round
        show (t.ticks + 1).tdiv 4 + 1 = _
        rw [hq, Int.tdiv_eq_ediv_of_nonneg (by omega)]
        omega
      unfold Sct.choose
      split
      · rename_i hc
        have hnx : (Sct.next { t with ticks := t.ticks + 1 } d).2.v = t.v ∧ (Sct.next { t with ticks := t.ticks + 1 } d).2.f = t.f := by
          unfold Sct.next
          split <;> exact ⟨rfl, rfl⟩
        refine ⟨hnx.1, fun k r hr => h.f k r (by rw [← hnx.2]; exact hr), fun q1 q2 q3 => ?_⟩
        exfalso
        rcases hc with e | e
        · rw [hr, Int.tmod_eq_emod_of_nonneg (by omega)] at e
          omega
        · have : w ∈ Sct.far { t with ticks := t.ticks + 1 } := by
            unfold Sct.far
            refine List.mem_map.2 ⟨⟨w, 0, 2⟩, List.mem_filter.2 ⟨?_, ?_⟩, rfl⟩
            · unfold Go.Proofs.Ytghefmppjdneoaa.all
              exact List.mem_filterMap.2 ⟨w, by unfold nodes; simp; omega, q3⟩
            · have hm : t.me = i := h.std.fit.meq
              simp only [Bool.and_eq_true, decide_eq_true_eq, Bool.not_eq_true', decide_eq_false_iff_not]
              exact ⟨fun e => q2 (hm.symm.trans e.symm), by omega⟩
          rw [e] at this
          cases this
      · rename_i hc
        have hne : Sct.far { t with ticks := t.ticks + 1 } ≠ [] := fun e => hc (.inr e)
        have hlen : 0 < (Sct.far { t with ticks := t.ticks + 1 }).length := List.length_pos_iff.2 hne
        have hfa : Sct.farAt { t with ticks := t.ticks + 1 } ∈ Sct.far { t with ticks := t.ticks + 1 } := by
          unfold Sct.farAt
          rw [hr, Int.tdiv_eq_ediv_of_nonneg (by omega), Int.tmod_eq_emod_of_nonneg (by omega)]
          have hlt : ((((R i / 4 + 1 : Nat) : Int) / 4) % ((Sct.far { t with ticks := t.ticks + 1 }).length : Int)).toNat < (Sct.far { t with ticks := t.ticks + 1 }).length := by
            have := Int.emod_lt_of_pos (((R i / 4 + 1 : Nat) : Int) / 4) (show (0 : Int) < ((Sct.far { t with ticks := t.ticks + 1 }).length : Int) by omega)
            have := Int.emod_nonneg (((R i / 4 + 1 : Nat) : Int) / 4) (show ((Sct.far { t with ticks := t.ticks + 1 }).length : Int) ≠ 0 by omega)
            omega
          rw [List.getD_eq_getElem?_getD, List.getElem?_eq_getElem hlt]
          exact List.getElem_mem _
        obtain ⟨e1, e2, e3⟩ := hfar _ hfa
        have hgm : Sct.getM { t with ticks := t.ticks + 1 } (Sct.farAt { t with ticks := t.ticks + 1 }) = ⟨w, 0, 2⟩ := by
          rw [e1]
          exact getM_of (t := { t with ticks := t.ticks + 1 }) e3
        refine ⟨rfl, fun k r hr => ?_, fun _ _ _ => ⟨e1, ?_⟩⟩
        · have hr : Hm.push1 5 t.f (Sct.getM { t with ticks := t.ticks + 1 } (Sct.farAt { t with ticks := t.ticks + 1 })) k = some r := hr
          rw [hgm] at hr
          rcases push_f hr with e | e
          · exact h.f k r e
          · rw [e]; exact .inl ⟨2, .inr rfl, rfl⟩
        · show Hm.push1 5 t.f (Sct.getM { t with ticks := t.ticks + 1 } (Sct.farAt { t with ticks := t.ticks + 1 })) w = _
          rw [hgm]
          unfold Hm.push1
          rw [if_pos (good_w hw hn (.inl rfl) (.inr (.inr rfl)))]
          exact if_pos rfl
    obtain ⟨c1, c2, c3⟩ := hch
    have hS : Std (Sct.ask1 { t with ticks := t.ticks + 1 } d).1 i n := by
      have hh : (Sct.ask1 { t with ticks := t.ticks + 1 } d).1.help = [] ∧ (Sct.ask1 { t with ticks := t.ticks + 1 } d).1.rel = (Sct.choose { t with ticks := t.ticks + 1 } d).2.rel := by
        unfold Sct.ask1
        dsimp only
        split <;> exact ⟨rfl, rfl⟩
      exact ⟨hF, (h'.fit.ask1 hi d).left.trans h.std.left, by rw [a7]; exact b1, by rw [hh.1]; exact fun x hx => (by cases hx), by rw [hh.1]; exact Nat.zero_le 2, by rw [a6]; exact b2, by rw [a6]; exact b3, by rw [hh.2, b4]; exact h.std.rel, by rw [hh.2, b4]; exact h.std.rlen⟩
    obtain ⟨k1, k2, k3, k4⟩ := h.ends (R' := R') (a1.trans c1) hS (by rw [a4, b6, hR]; exact hq) (by rw [a2]; exact c2) (Sct.ask1 { t with ticks := t.ticks + 1 } d).2
    refine ⟨k1, k2, k3, fun q1 q2 q3 => ?_⟩
    obtain ⟨c4, c5⟩ := c3 q1 q2 q3
    rw [k4]
    have hl : ∃ z, (Sct.ask1 { t with ticks := t.ticks + 1 } d).2 = [z] ∧ z.to_ = w ∧ z.kind = 1 := by
      unfold Sct.ask1
      dsimp only
      rw [if_pos (by rw [c4]; omega)]
      exact ⟨_, rfl, c4, rfl⟩
    obtain ⟨z, z1, z2, z3⟩ := hl
    rw [z1]
    unfold Sct.tell
    rw [List.foldl_cons, List.foldl_nil, tell1_eq]
    refine ⟨_, List.mem_append_right _ (List.mem_singleton.2 rfl), z2, z3, hS.fit.meq, ?_⟩
    exact List.mem_map.2 ⟨⟨⟨w, 0, 2⟩, 5⟩, told_all (k := w) (by unfold nodes; simp; omega) (by show (Sct.ask1 { t with ticks := t.ticks + 1 } d).1.f w = _; rw [a2]; exact c5), rfl⟩
  · rw [tick_2 h.std.left hq h1]
    obtain ⟨k1, k2, k3, _⟩ := h.ends (R' := R') (a := { t with ticks := t.ticks + 1 }) rfl h' (by rw [hR]; exact hq) h.f []
    exact ⟨k1, k2, k3, fun q1 => by omega⟩
  · rw [tick_3 h.std.left hq h1]
    have hS : Std (Sct.ask3 { t with ticks := t.ticks + 1 }).1 i n ∧ (Sct.ask3 { t with ticks := t.ticks + 1 }).1.v = t.v ∧ (Sct.ask3 { t with ticks := t.ticks + 1 }).1.f = t.f ∧ (Sct.ask3 { t with ticks := t.ticks + 1 }).1.ticks = t.ticks + 1 := by
      have hF := h'.fit.ask3
      unfold Sct.ask3 at hF ⊢
      dsimp only at hF ⊢
      split
      · rename_i hc
        rw [if_pos hc] at hF
        exact ⟨⟨hF.fit, h.std.left, h.std.tgt, fun x hx => h'.peers x (near_sub _ x hx), near_two _, h.std.line, h.std.llen, h.std.rel, h.std.rlen⟩, rfl, rfl, rfl⟩
      · exact ⟨h', rfl, rfl, rfl⟩
    obtain ⟨s1, s2, s3, s4⟩ := hS
    obtain ⟨k1, k2, k3, _⟩ := h.ends (R' := R') s2 s1 (by rw [s4, hR]; exact hq) (by rw [s3]; exact h.f) (Sct.ask3 { t with ticks := t.ticks + 1 }).2
    exact ⟨k1, k2, k3, fun q1 => by omega⟩
  · rw [tick_0 h.std.left hq h1]
    have e : Sct.ask0 { t with ticks := t.ticks + 1 } = { t with ticks := t.ticks + 1 } := by
      unfold Sct.ask0
      rw [if_neg]
      rintro ⟨hc, _⟩
      have hwt : t.waits = true := hc
      unfold Sct.waits at hwt
      simp only [Bool.and_eq_true, decide_eq_true_eq, Bool.not_eq_true'] at hwt
      have ht := h.ticks
      rcases hg with e | e
      · omega
      · have := e hwt.1
        rw [hwt.2] at this
        cases this
    rw [e]
    obtain ⟨k1, k2, k3, _⟩ := h.ends (R' := R') (a := { t with ticks := t.ticks + 1 }) rfl h' (by rw [hR]; exact hq) h.f []
    exact ⟨k1, k2, k3, fun q1 => by omega⟩
end
end Go.Proofs.Ytghefmppjdneoaa
