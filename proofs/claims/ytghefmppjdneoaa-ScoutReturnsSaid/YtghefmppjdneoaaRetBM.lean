/- Layer 12, the plain law of ScoutReturns: a frame. -/
import Derived.Test.YtghefmppjdneoaaRetAM
namespace Go.Proofs.Ytghefmppjdneoaa
open Go.Proofs Stab Go.Shelf Go.RowKit Go.Lib Go.Sort Go.Maps

section
variable {w n i : Int} {f : Bool} {R : Int → Nat} {t u : Sct}
theorem Rok.rumours (hw : 1 ≤ w ∧ w ≤ n) (hn : n ≤ 6) (hi : i ≠ w) : ∀ (l : List Mem) {t : Sct}, Rok w n f R i t → (∀ m ∈ l, WordR w f m) → Rok w n f R i (l.foldl Sct.rumour t) ∧ (t.v w = some ⟨w, 1, 0⟩ → (l.foldl Sct.rumour t).v w = some ⟨w, 1, 0⟩) ∧ ((⟨w, 1, 0⟩ : Mem) ∈ l → (l.foldl Sct.rumour t).v w = some ⟨w, 1, 0⟩)
  | [], t, h, _ => ⟨h, fun e => e, fun e => by cases e⟩
  | m :: l, t, h, hl => by
    rw [List.foldl_cons]
    obtain ⟨h1, h2, h3⟩ := h.rumour hw hn hi (hl m List.mem_cons_self)
    obtain ⟨k1, k2, k3⟩ := Rok.rumours hw hn hi l h1 fun x hx => hl x (List.mem_cons_of_mem _ hx)
    refine ⟨k1, fun e => k2 (h2 e), fun e => ?_⟩
    rcases List.mem_cons.1 e with e | e
    · exact k2 (h3 e.symm)
    · exact k3 e
theorem Rok.selfRumours (hw : 1 ≤ w ∧ w ≤ n) (hn : n ≤ 6) : ∀ (l : List Mem) {f : Bool} {t : Sct}, Rok w n f R w t → (∀ m ∈ l, WordR w f m) → ∃ g, (g = f ∨ (f = false ∧ g = true)) ∧ Rok w n g R w (l.foldl Sct.rumour t) ∧ ((⟨w, 0, 2⟩ : Mem) ∈ l → g = true ∧ (l.foldl Sct.rumour t).f w = some ⟨⟨w, 1, 0⟩, 5⟩) ∧ (t.f w = some ⟨⟨w, 1, 0⟩, 5⟩ → (l.foldl Sct.rumour t).f w = some ⟨⟨w, 1, 0⟩, 5⟩)
  | [], f, t, h, _ => ⟨f, .inl rfl, h, fun e => (by cases e), fun e => e⟩
  | m :: l, f, t, h, hl => by
    rw [List.foldl_cons]
    obtain ⟨g, hg, h1, h2, h3⟩ := h.selfRumour hw hn (hl m List.mem_cons_self)
    obtain ⟨g', hg', k1, k2, k3⟩ := Rok.selfRumours hw hn l h1 fun x hx => (hl x (List.mem_cons_of_mem _ hx)).up hg
    refine ⟨g', ?_, k1, fun e => ?_, fun e => k3 (h3 e)⟩
    · rcases hg with rfl | ⟨e1, e2⟩
      · exact hg'
      · rcases hg' with e | ⟨e, _⟩
        · exact .inr ⟨e1, e.trans e2⟩
        · rw [e2] at e; cases e
    · rcases List.mem_cons.1 e with e | e
      · obtain ⟨q1, q2⟩ := h2 (by rw [← e])
        refine ⟨?_, k3 q2⟩
        rcases hg' with e | ⟨e, _⟩
        · exact e.trans q1
        · rw [q1] at e; cases e
      · exact k2 e
/-- ahead of a frame's words -/
theorem Rok.pushed (h : Rok w n f R i t) (hi : 1 ≤ i ∧ i ≤ n) {x : Int} (hx : Oth n i x) : Rok w n f R i (if (t.getM x).s ≠ 0 then { t with f := Hm.push1 5 t.f (t.getM x) } else t) := by
  split
  · rename_i hs
    refine h.told ⟨rfl, rfl, rfl, rfl, rfl, rfl, rfl, rfl, rfl, rfl, rfl⟩ rfl (h.std.alike ⟨rfl, rfl, rfl, rfl, rfl, rfl, rfl, rfl, rfl, rfl, rfl⟩ (h.std.fit.congr rfl rfl rfl rfl h.std.fit.tgt)) fun k r hr => ?_
    obtain ⟨c, hc⟩ := Option.isSome_iff_exists.1 ((h.std.fit.dom x).2 ⟨hx.1, hx.2.1⟩)
    rcases push_f hr with e | e
    · exact h.f k r e
    · rw [e]
      rw [getM_of hc] at hs ⊢
      by_cases hxw : x = w
      · subst hxw
        rcases h.him (fun e => hx.2.2 e.symm) with hv | ⟨hf, hv⟩
        · rw [hv] at hc
          cases hc
          exact .inl ⟨2, .inr rfl, rfl⟩
        · rw [hv] at hc
          cases hc
          exact .inr ⟨hf, rfl⟩
      · exact absurd (h.oth x c hc hxw).2 hs
  · exact h
theorem told_all {g : Hm.St} {r : Rum} {k : Int} (hk : k ∈ nodes) (h : g k = some r) : r ∈ Hm.told 6 g := by
  have hm : r ∈ Hm.all g := List.mem_filterMap.2 ⟨k, hk, h⟩
  have hl : (Hm.sorted g).length ≤ 6 := by
    unfold Hm.sorted
    rw [(S_perm _ _).length_eq]
    unfold Hm.all
    exact Nat.le_trans (List.length_filterMap_le _ _) (by unfold nodes; decide)
  unfold Hm.told
  rw [List.take_of_length_le (by exact hl)]
  unfold Hm.sorted
  exact (S_perm _ _).symm.subset hm
theorem Rok.hear (h : Rok w n f R i t) (hw : 1 ≤ w ∧ w ≤ n) (hn : n ≤ 6) (hi : 1 ≤ i ∧ i ≤ n) {x : Fr} (hx : FrOk n x) (hto : x.to_ = i) (hr : ∀ m ∈ x.rum, WordR w f m) :
    ∃ g, (g = f ∨ (f = false ∧ g = true ∧ i = w)) ∧ Rok w n g R i (t.hear x).1 ∧ (∀ y ∈ (t.hear x).2, (∀ m ∈ y.rum, WordR w g m) ∧ y.rum.length ≤ 6) ∧
      (i ≠ w → t.v w = some ⟨w, 1, 0⟩ → (t.hear x).1.v w = some ⟨w, 1, 0⟩) ∧ (i ≠ w → (⟨w, 1, 0⟩ : Mem) ∈ x.rum → (t.hear x).1.v w = some ⟨w, 1, 0⟩) ∧
      (i = w → x.kind = 1 → (⟨w, 0, 2⟩ : Mem) ∈ x.rum → ∃ y ∈ (t.hear x).2, y.to_ = x.frm ∧ y.frm = w ∧ (⟨w, 1, 0⟩ : Mem) ∈ y.rum) := by
  have hH := h.std.hear hi hx hto
  have hfo : Oth n i x.frm := by rw [← hto]; exact hx.frm
  have hk : t.hear x = hearK (Go.Proofs.Ytghefmppjdneoaa.heard t x) x := hear_eq t x (isNode_of h.std.fit hfo)
  have hS := h.std.harked x
  have hP := h.pushed hi hfo
  have hpv : (if (t.getM x.frm).s ≠ 0 then { t with f := Hm.push1 5 t.f (t.getM x.frm) } else t).v = t.v := by split <;> rfl
  obtain ⟨a, l, e, e1, e2, e3, e4⟩ := hearK_tell (u := Go.Proofs.Ytghefmppjdneoaa.heard t x) hS.left hx.kind
  obtain ⟨u, hu⟩ : ∃ u, u = Go.Proofs.Ytghefmppjdneoaa.heard t x := ⟨_, rfl⟩
  have hmain : ∃ g, (g = f ∨ (f = false ∧ g = true ∧ i = w)) ∧ Rok w n g R i u ∧ (i ≠ w → t.v w = some ⟨w, 1, 0⟩ → u.v w = some ⟨w, 1, 0⟩) ∧ (i ≠ w → (⟨w, 1, 0⟩ : Mem) ∈ x.rum → u.v w = some ⟨w, 1, 0⟩) ∧ (i = w → (⟨w, 0, 2⟩ : Mem) ∈ x.rum → u.f w = some ⟨⟨w, 1, 0⟩, 5⟩) := by
    rw [hu]
    unfold Go.Proofs.Ytghefmppjdneoaa.heard
    generalize (if (t.getM x.frm).s ≠ 0 then { t with f := Hm.push1 5 t.f (t.getM x.frm) } else t) = t2 at hP hpv
    by_cases hiw : i = w
    · subst hiw
      obtain ⟨g, hg, k1, k2, _⟩ := hP.selfRumours hw hn x.rum hr
      exact ⟨g, by rcases hg with e | ⟨e1, e2⟩; exact .inl e; exact .inr ⟨e1, e2, rfl⟩, k1, fun e => absurd rfl e, fun e => absurd rfl e, fun _ hm => (k2 hm).2⟩
    · obtain ⟨k1, k2, k3⟩ := Rok.rumours hw hn hiw x.rum hP hr
      exact ⟨f, .inl rfl, k1, fun _ hv => k2 (by rw [hpv]; exact hv), fun _ hm => k3 hm, fun e => absurd e hiw⟩
  obtain ⟨g, hg, hu1, hu2, hu3, hu4⟩ := hmain
  rw [← hu] at e e1 e2 e3 e4
  rw [hk, ← hu] at hH ⊢
  rw [e] at hH ⊢
  obtain ⟨f1, f2⟩ := told_pred (t := a) (W := WordR w g) (by rw [e2]; exact hu1.f) l
  have ha := tell_me a l
  have hv : (a.tell l).1.v = u.v := by rw [ha]; exact e1
  refine ⟨g, hg, ⟨hH.std, hH.ticks.trans h.ticks, by rw [hv]; exact hu1.oth, by rw [hv]; exact hu1.me, by rw [hv]; exact hu1.him, f1⟩, f2, fun q1 q2 => by rw [hv]; exact hu2 q1 q2, fun q1 q2 => by rw [hv]; exact hu3 q1 q2, fun q1 q2 q3 => ?_⟩
  have hfu := hu4 q1 q3
  have hul : u.left = false := hu1.std.left
  rw [← e, hearK_1 hul q2]
  unfold Sct.tell
  rw [List.foldl_cons, List.foldl_nil, tell1_eq]
  refine ⟨_, List.mem_append_right _ (List.mem_singleton.2 rfl), rfl, by show u.me = w; rw [hu1.std.fit.meq, q1], ?_⟩
  exact List.mem_map.2 ⟨⟨⟨w, 1, 0⟩, 5⟩, told_all (k := w) (by unfold nodes; simp; omega) hfu, rfl⟩
end
end Go.Proofs.Ytghefmppjdneoaa
