/- Layer 12, the plain law of ScoutReturns: what is told of one who returns. -/
import Derived.Test.YtghefmppjdneoaaFinKM
namespace Go.Proofs.Ytghefmppjdneoaa
open Go.Proofs Stab Go.Shelf Go.RowKit Go.Lib Go.Sort Go.Maps

/-- what is told of it: that it is gone; and, once it has heard that, that it is there again -/
def WordR (w : Int) (f : Bool) (m : Mem) : Prop := (∃ s, (s = 1 ∨ s = 2) ∧ m = ⟨w, 0, s⟩) ∨ (f = true ∧ m = ⟨w, 1, 0⟩)
theorem WordR.up {w : Int} {f g : Bool} {m : Mem} (h : WordR w f m) (hg : g = f ∨ (f = false ∧ g = true)) : WordR w g m := by
  rcases hg with rfl | ⟨rfl, rfl⟩
  · exact h
  · rcases h with e | ⟨e, _⟩
    · exact .inl e
    · cases e
/-- a scout of a camp to which w returns -/
structure Rok (w n : Int) (f : Bool) (R : Int → Nat) (i : Int) (t : Sct) : Prop where
  std : Std t i n
  ticks : t.ticks = R i
  oth : ∀ k m, t.v k = some m → k ≠ w → m.i = 0 ∧ m.s = 0
  me : i = w → t.v w = some ⟨w, if f = true then 1 else 0, 0⟩
  him : i ≠ w → t.v w = some ⟨w, 0, 2⟩ ∨ (f = true ∧ t.v w = some ⟨w, 1, 0⟩)
  f : ∀ k r, t.f k = some r → WordR w f r.m
/-- what is told on, of whatever is told -/
theorem told_pred {W : Mem → Prop} {t : Sct} (hf : ∀ k r, t.f k = some r → W r.m) (l : List Fr) : (∀ k r, (t.tell l).1.f k = some r → W r.m) ∧ ∀ x ∈ (t.tell l).2, (∀ m ∈ x.rum, W m) ∧ x.rum.length ≤ 6 := by
  have hall : ∀ (f : Hm.St), (∀ k r, f k = some r → W r.m) → ∀ r ∈ Hm.told 6 f, W r.m := by
    intro f hf r hr
    unfold Hm.told at hr
    have hr := List.mem_of_mem_take hr
    unfold Hm.sorted at hr
    have hr := (S_perm _ _).subset hr
    unfold Hm.all at hr
    obtain ⟨k, _, hk⟩ := List.mem_filterMap.1 hr
    exact hf k r hk
  have hrest : ∀ (f : Hm.St), (∀ k r, f k = some r → W r.m) → ∀ k r, Hm.rest 6 f k = some r → W r.m := by
    intro f hf
    have : ∀ (l : List Rum) (g : Hm.St), (∀ r ∈ l, W r.m) → (∀ k r, g k = some r → W r.m) → ∀ k r, l.foldl Hm.tell g k = some r → W r.m := by
      intro l
      induction l with
      | nil => exact fun g _ hg => hg
      | cons a l ih =>
        intro g hl hg
        rw [List.foldl_cons]
        refine ih _ (fun r hr => hl r (List.mem_cons_of_mem _ hr)) fun k r hk => ?_
        unfold Hm.tell at hk
        split at hk
        · split at hk
          · cases hk
          · cases hk
            exact hl a List.mem_cons_self
        · exact hg k r hk
    exact this _ f (hall f hf) hf
  have : ∀ (l : List Fr) (a : Sct × List Fr), (∀ k r, a.1.f k = some r → W r.m) → (∀ x ∈ a.2, (∀ m ∈ x.rum, W m) ∧ x.rum.length ≤ 6) → (∀ k r, (l.foldl Sct.tell1 a).1.f k = some r → W r.m) ∧ ∀ x ∈ (l.foldl Sct.tell1 a).2, (∀ m ∈ x.rum, W m) ∧ x.rum.length ≤ 6 := by
    intro l
    induction l with
    | nil => exact fun a h1 h2 => ⟨h1, h2⟩
    | cons x l ih =>
      intro a h1 h2
      rw [List.foldl_cons]
      refine ih _ ?_ ?_
      · rw [tell1_eq]
        exact hrest _ h1
      · rw [tell1_eq]
        intro y hy
        rcases List.mem_append.1 hy with hy | hy
        · exact h2 y hy
        · rw [List.mem_singleton.1 hy]
          refine ⟨fun m hm => ?_, ?_⟩
          · obtain ⟨r, hr, rfl⟩ := List.mem_map.1 hm
            exact hall _ h1 r hr
          · show ((Hm.told 6 a.1.f).map _).length ≤ 6
            rw [List.length_map]
            unfold Hm.told
            rw [List.length_take]
            exact Nat.min_le_left _ _
  exact this l (t, []) hf fun x hx => by cases hx
section
variable {w n i : Int} {f : Bool} {R : Int → Nat} {t u : Sct}
/-- only what is told on differs -/
theorem Rok.told (h : Rok w n f R i t) (ha : Alike t u) (hv : u.v = t.v) (hs : Std u i n) (hf : ∀ k r, u.f k = some r → WordR w f r.m) : Rok w n f R i u :=
  ⟨hs, ha.ticks.trans h.ticks, by rw [hv]; exact h.oth, by rw [hv]; exact h.me, by rw [hv]; exact h.him, hf⟩
theorem good_w (hw : 1 ≤ w ∧ w ≤ n) (hn : n ≤ 6) {a s : Int} (ha : a = 0 ∨ a = 1) (hs : s = 0 ∨ s = 1 ∨ s = 2) : (⟨w, a, s⟩ : Mem).good = true := (Mem.good_iff _).2 ⟨hw.1, by show w ≤ 6; omega, by show 0 ≤ a; omega, by show a ≤ 1073741824; omega, by show 0 ≤ s; omega, by show s ≤ 3; omega⟩
/-- another one hears such a word -/
theorem Rok.rumour (h : Rok w n f R i t) (hw : 1 ≤ w ∧ w ≤ n) (hn : n ≤ 6) (hi : i ≠ w) {m : Mem} (hm : WordR w f m) : Rok w n f R i (t.rumour m) ∧ (t.v w = some ⟨w, 1, 0⟩ → (t.rumour m).v w = some ⟨w, 1, 0⟩) ∧ (m = ⟨w, 1, 0⟩ → (t.rumour m).v w = some ⟨w, 1, 0⟩) := by
  have hmn : m.n = w := by rcases hm with ⟨_, _, rfl⟩ | ⟨_, rfl⟩ <;> rfl
  have hme : m.n ≠ t.me := by rw [hmn, h.std.fit.meq]; exact fun e => hi e.symm
  have e : t.rumour m = t.learn m := by
    unfold Sct.rumour
    rw [if_neg (by rw [hmn, h.std.fit.neq]; omega), if_pos hme]
  have hA := alike_learn t m
  have hS := h.std.alike hA (h.std.fit.learn (m := m) (by rw [hmn]; exact hw.2) (.inl (by rw [hmn]; exact fun e => hi e.symm))).fit
  rw [e]
  have hg2 : (⟨w, 0, 2⟩ : Mem).good = true := good_w hw hn (.inl rfl) (.inr (.inr rfl))
  have hg1 : (⟨w, 1, 0⟩ : Mem).good = true := good_w hw hn (.inr rfl) (.inl rfl)
  by_cases ht : takes t.v m = true
  · -- it is taken: that it is there again
    have hm1 : f = true ∧ m = ⟨w, 1, 0⟩ ∧ t.v w = some ⟨w, 0, 2⟩ := by
      unfold takes at ht
      rw [Bool.and_eq_true, hmn] at ht
      rcases h.him hi with hv | ⟨hf, hv⟩
      · rw [hv] at ht
        have ha := ((Mem.above_iff m _).1 ht.2).2.2.2
        unfold Mem.height at ha
        rcases hm with ⟨s, hs, rfl⟩ | ⟨hf, rfl⟩
        · have ha : (0 : Int) * 4 + 2 < 0 * 4 + s := ha
          omega
        · exact ⟨hf, rfl, hv⟩
      · rw [hv] at ht
        have ha := ((Mem.above_iff m _).1 ht.2).2.2.2
        unfold Mem.height at ha
        rcases hm with ⟨s, hs, rfl⟩ | ⟨_, rfl⟩
        · have ha : (1 : Int) * 4 + 0 < 0 * 4 + s := ha
          omega
        · exact absurd ha (Int.lt_irrefl _)
    obtain ⟨hf, rfl, hv⟩ := hm1
    have hL : (t.learn ⟨w, 1, 0⟩).v = upd t.v ⟨w, 1, 0⟩ ∧ (t.learn ⟨w, 1, 0⟩).f = Hm.push1 5 t.f ⟨w, 1, 0⟩ := by
      unfold Sct.learn
      rw [if_pos ht]
      exact ⟨rfl, rfl⟩
    have hvw : (t.learn ⟨w, 1, 0⟩).v w = some ⟨w, 1, 0⟩ := by
      rw [hL.1]
      unfold upd
      rw [if_pos rfl]
    refine ⟨⟨hS, hA.ticks.trans h.ticks, fun k c hc hk => ?_, fun e => absurd e hi, fun _ => .inr ⟨hf, hvw⟩, fun k r hr => ?_⟩, fun _ => hvw, fun _ => hvw⟩
    · rw [hL.1] at hc
      unfold upd at hc
      rw [if_neg (show ¬ k = (⟨w, 1, 0⟩ : Mem).n from hk)] at hc
      exact h.oth k c hc hk
    · rw [hL.2] at hr
      rcases push_f hr with e | e
      · exact h.f k r e
      · rw [e]; exact .inr ⟨hf, rfl⟩
  · have e2 : t.learn m = t := by
      unfold Sct.learn
      rw [if_neg ht]
    rw [e2]
    refine ⟨h, fun e => e, fun e => ?_⟩
    subst e
    rcases h.him hi with hv | ⟨_, hv⟩
    · exfalso
      refine ht ?_
      unfold takes
      rw [hg1, Bool.true_and]
      show (match t.v w with | some was => _ | none => true) = true
      rw [hv]
      exact (Mem.above_iff _ _).2 ⟨hg1, hg2, rfl, by unfold Mem.height; show (0 : Int) * 4 + 2 < 1 * 4 + 0; omega⟩
    · exact hv
/-- it itself hears such a word -/
theorem Rok.selfRumour (h : Rok w n f R w t) (hw : 1 ≤ w ∧ w ≤ n) (hn : n ≤ 6) {m : Mem} (hm : WordR w f m) : ∃ g, (g = f ∨ (f = false ∧ g = true)) ∧ Rok w n g R w (t.rumour m) ∧ (m.i = 0 → g = true ∧ (t.rumour m).f w = some ⟨⟨w, 1, 0⟩, 5⟩) ∧ (t.f w = some ⟨⟨w, 1, 0⟩, 5⟩ → (t.rumour m).f w = some ⟨⟨w, 1, 0⟩, 5⟩) := by
  have hmn : m.n = w := by rcases hm with ⟨_, _, rfl⟩ | ⟨_, rfl⟩ <;> rfl
  have hme : m.n = t.me := by rw [hmn, h.std.fit.meq]
  have hg2 : (⟨w, 0, 2⟩ : Mem).good = true := good_w hw hn (.inl rfl) (.inr (.inr rfl))
  have hg1 : (⟨w, 1, 0⟩ : Mem).good = true := good_w hw hn (.inr rfl) (.inl rfl)
  have hg0 : (⟨w, 0, 0⟩ : Mem).good = true := good_w hw hn (.inl rfl) (.inl rfl)
  have hown : t.own = ⟨w, if f = true then 1 else 0, 0⟩ := by
    unfold Sct.own Sct.getM
    rw [h.std.fit.meq, h.me rfl]
    rfl
  have hmg : m.good = true := by
    rcases hm with ⟨s, hs, rfl⟩ | ⟨_, rfl⟩
    · exact good_w hw hn (.inl rfl) (.inr hs)
    · exact hg1
  have hpw : ∀ g : Hm.St, Hm.push1 5 g ⟨w, 1, 0⟩ w = some ⟨⟨w, 1, 0⟩, 5⟩ := fun g => by
    unfold Hm.push1
    rw [if_pos hg1]
    exact if_pos rfl
  cases f with
  | false =>
    obtain ⟨s, hs, rfl⟩ : ∃ s, (s = 1 ∨ s = 2) ∧ m = ⟨w, 0, s⟩ := by
      rcases hm with e | ⟨e, _⟩
      · exact e
      · cases e
    have hown0 : t.own = ⟨w, 0, 0⟩ := hown
    have hv0 : t.v w = some ⟨w, 0, 0⟩ := h.me rfl
    have hna : (⟨w, 0, 0⟩ : Mem).above ⟨w, 0, s⟩ = false := by
      cases hq : (⟨w, 0, 0⟩ : Mem).above ⟨w, 0, s⟩ with
      | false => rfl
      | true =>
        have ha := ((Mem.above_iff _ _).1 hq).2.2.2
        unfold Mem.height at ha
        have ha : (0 : Int) * 4 + s < 0 * 4 + 0 := ha
        omega
    have e : t.rumour ⟨w, 0, s⟩ = t.learn ⟨w, 1, 0⟩ := by
      unfold Sct.rumour
      rw [if_neg (by rw [h.std.fit.neq]; show ¬ n < w; omega), if_neg (fun hne => hne hme), if_neg (by
        rintro (e | e | e)
        · rw [h.std.left] at e; cases e
        · rw [hmg] at e; cases e
        · rw [hown0] at e
          have := congrArg Mem.s e
          have h2 : s = 0 := this
          omega), if_neg (by rw [hown0, hna]; decide), if_pos (by show (0 : Int) < 1073741824; omega), h.std.fit.meq]
      rfl
    have ht : takes t.v ⟨w, 1, 0⟩ = true := by
      unfold takes
      rw [hg1, Bool.true_and]
      show (match t.v w with | some was => _ | none => true) = true
      rw [hv0]
      exact (Mem.above_iff _ _).2 ⟨hg1, hg0, rfl, by unfold Mem.height; show (0 : Int) * 4 + 0 < 1 * 4 + 0; omega⟩
    have hL : (t.learn ⟨w, 1, 0⟩).v = upd t.v ⟨w, 1, 0⟩ ∧ (t.learn ⟨w, 1, 0⟩).f = Hm.push1 5 t.f ⟨w, 1, 0⟩ := by
      unfold Sct.learn
      rw [if_pos ht]
      exact ⟨rfl, rfl⟩
    have hA := alike_learn t ⟨w, 1, 0⟩
    rw [e]
    refine ⟨true, .inr ⟨rfl, rfl⟩, ⟨h.std.alike hA (h.std.fit.learn (m := ⟨w, 1, 0⟩) hw.2 (.inr ⟨rfl, h.std.left⟩)).fit, hA.ticks.trans h.ticks, fun k c hc hk => ?_, fun _ => ?_, fun e => absurd rfl e, fun k r hr => ?_⟩, fun _ => ⟨rfl, by rw [hL.2]; exact hpw _⟩, fun _ => by rw [hL.2]; exact hpw _⟩
    · rw [hL.1] at hc
      unfold upd at hc
      rw [if_neg (show ¬ k = (⟨w, 1, 0⟩ : Mem).n from hk)] at hc
      exact h.oth k c hc hk
    · rw [hL.1]
      unfold upd
      rw [if_pos rfl]
      rfl
    · rw [hL.2] at hr
      rcases push_f hr with e | e
      · exact (h.f k r e).up (.inr ⟨rfl, rfl⟩)
      · rw [e]; exact .inr ⟨rfl, rfl⟩
  | true =>
    have hown1 : t.own = ⟨w, 1, 0⟩ := hown
    rcases hm with ⟨s, hs, rfl⟩ | ⟨_, rfl⟩
    · have hab : (⟨w, 1, 0⟩ : Mem).above ⟨w, 0, s⟩ = true := (Mem.above_iff _ _).2 ⟨hg1, hmg, rfl, by unfold Mem.height; show (0 : Int) * 4 + s < 1 * 4 + 0; omega⟩
      have e : t.rumour ⟨w, 0, s⟩ = { t with f := Hm.push1 5 t.f ⟨w, 1, 0⟩ } := by
        unfold Sct.rumour
        rw [if_neg (by rw [h.std.fit.neq]; show ¬ n < w; omega), if_neg (fun hne => hne hme), if_neg (by
          rintro (e | e | e)
          · rw [h.std.left] at e; cases e
          · rw [hmg] at e; cases e
          · rw [hown1] at e
            have := congrArg Mem.s e
            have h2 : s = 0 := this
            omega), if_pos (by rw [hown1]; exact hab), hown1]
      rw [e]
      refine ⟨true, .inl rfl, h.told ⟨rfl, rfl, rfl, rfl, rfl, rfl, rfl, rfl, rfl, rfl, rfl⟩ rfl (h.std.alike ⟨rfl, rfl, rfl, rfl, rfl, rfl, rfl, rfl, rfl, rfl, rfl⟩ (h.std.fit.congr rfl rfl rfl rfl h.std.fit.tgt)) (fun k r hr => ?_), fun _ => ⟨rfl, hpw _⟩, fun _ => hpw _⟩
      rcases push_f hr with e | e
      · exact h.f k r e
      · rw [e]; exact .inr ⟨rfl, rfl⟩
    · have e : t.rumour ⟨w, 1, 0⟩ = t := by
        unfold Sct.rumour
        rw [if_neg (by rw [h.std.fit.neq]; show ¬ n < w; omega), if_neg (fun hne => hne hme), if_pos (.inr (.inr hown1.symm))]
      rw [e]
      refine ⟨true, .inl rfl, h, fun e => ?_, fun e => e⟩
      have h2 : (1 : Int) = 0 := e
      omega
end
end Go.Proofs.Ytghefmppjdneoaa
