/- Layer 12, the plain law of ScoutFinds: what is told of those who are silent. -/
import Derived.Test.YtghefmppjdneoaaFinCM
namespace Go.Proofs.Ytghefmppjdneoaa
open Go.Proofs Stab Go.Shelf Go.RowKit Go.Lib Go.Sort Go.Maps

/-- a word of a silent one -/
def WordS (n : Int) (S : Int → Bool) (m : Mem) : Prop := S m.n = true ∧ 1 ≤ m.n ∧ m.n ≤ n ∧ m.i = 0 ∧ (m.s = 1 ∨ m.s = 2)
/-- a scout that knows and tells only such words; nobody is doubted for longer than so many ticks -/
structure Wds (t : Sct) (n : Int) (S : Int → Bool) (b : Int) : Prop where
  v : ∀ k m, t.v k = some m → m.i = 0 ∧ (m.s = 0 ∨ (S k = true ∧ (m.s = 1 ∨ m.s = 2)))
  f : ∀ k r, t.f k = some r → WordS n S r.m
  since : ∀ k m, t.v k = some m → m.s = 1 → ∃ q, t.since k = some q ∧ q ≤ t.ticks ∧ t.ticks - q ≤ b
/-- words have come -/
structure Rz (n : Int) (S : Int → Bool) (t u : Sct) : Prop where
  v : ∀ k, (u.v k = t.v k ∧ u.since k = t.since k) ∨ ∃ m s, t.v k = some m ∧ m.s < s ∧ (s = 1 ∨ s = 2) ∧ S k = true ∧ u.v k = some ⟨k, 0, s⟩ ∧ (s = 1 → u.since k = some t.ticks)
  f : ∀ k r, u.f k = some r → t.f k = some r ∨ WordS n S r.m
  ticks : u.ticks = t.ticks
theorem Rz.refl (n : Int) (S : Int → Bool) (t : Sct) : Rz n S t t := ⟨fun _ => .inl ⟨rfl, rfl⟩, fun _ _ h => .inl h, rfl⟩
theorem Rz.trans {n : Int} {S : Int → Bool} {t u w : Sct} (h : Rz n S t u) (k : Rz n S u w) : Rz n S t w := by
  refine ⟨fun x => ?_, fun x r hr => ?_, k.ticks.trans h.ticks⟩
  · rcases h.v x with ⟨h1, h2⟩ | ⟨m, s, h1, h2, h3, h4, h5, h6⟩
    · rcases k.v x with ⟨k1, k2⟩ | ⟨m, s, k1, k2, k3, k4, k5, k6⟩
      · exact .inl ⟨k1.trans h1, k2.trans h2⟩
      · exact .inr ⟨m, s, by rw [← h1]; exact k1, k2, k3, k4, k5, fun e => by rw [← h.ticks]; exact k6 e⟩
    · rcases k.v x with ⟨k1, k2⟩ | ⟨m', s', k1, k2, k3, k4, k5, k6⟩
      · exact .inr ⟨m, s, h1, h2, h3, h4, k1.trans h5, fun e => k2.trans (h6 e)⟩
      · rw [h5] at k1
        cases k1
        have : s < s' := k2
        exact .inr ⟨m, s', h1, by omega, k3, k4, k5, fun e => by rw [← h.ticks]; exact k6 e⟩
  · rcases k.f x r hr with h1 | h1
    · exact h.f x r h1
    · exact .inr h1
section
variable {t u : Sct} {i n : Int} {S : Int → Bool} {b : Int}
theorem Wds.rz (h : Wds t n S b) (hb : 0 ≤ b) (k : Rz n S t u) : Wds u n S b := by
  refine ⟨fun x m hm => ?_, fun x r hr => ?_, fun x m hm hs => ?_⟩
  · rcases k.v x with ⟨k1, _⟩ | ⟨m', s, _, _, k3, k4, k5, _⟩
    · exact h.v x m (by rw [← k1]; exact hm)
    · rw [k5] at hm
      cases hm
      exact ⟨rfl, .inr ⟨k4, k3⟩⟩
  · rcases k.f x r hr with h1 | h1
    · exact h.f x r h1
    · exact h1
  · rw [k.ticks]
    rcases k.v x with ⟨k1, k2⟩ | ⟨m', s, _, _, k3, k4, k5, k6⟩
    · rw [k2]
      exact h.since x m (by rw [← k1]; exact hm) hs
    · rw [k5] at hm
      cases hm
      have hs : s = 1 := hs
      exact ⟨_, k6 hs, Int.le_refl _, by omega⟩
theorem push_f {f : Hm.St} {m : Mem} {x : Int} {r : Rum} (h : Hm.push1 5 f m x = some r) : f x = some r ∨ r.m = m := by
  unfold Hm.push1 at h
  split at h
  · dsimp only at h
    split at h
    · cases h
      exact .inr rfl
    · exact .inl h
  · exact .inl h
/-- such a word is learnt -/
theorem Wds.learn (h : Wds t n S b) (hf : Fit t i n) {m : Mem} (hm : WordS n S m) : Rz n S t (t.learn m) := by
  unfold Sct.learn
  split
  · rename_i ht
    obtain ⟨w1, w2, w3, w4, w5⟩ := hm
    obtain ⟨c, hc⟩ := Option.isSome_iff_exists.1 ((hf.dom m.n).2 ⟨w2, w3⟩)
    unfold takes at ht
    rw [Bool.and_eq_true, hc] at ht
    have ha := (Mem.above_iff m c).1 ht.2
    have hv := h.v m.n c hc
    have hlt : c.s < m.s := by
      have := ha.2.2.2
      unfold Mem.height at this
      omega
    refine ⟨fun k => ?_, fun k r hr => ?_, rfl⟩
    · by_cases hk : k = m.n
      · subst hk
        refine .inr ⟨c, m.s, hc, hlt, w5, w1, ?_, fun e => ?_⟩
        · show upd t.v m m.n = _
          unfold upd
          rw [if_pos rfl]
          cases m
          simp only at w4
          subst w4
          rfl
        · show (if m.s = 1 then Sk.upd t.since m.n t.ticks else t.since) m.n = _
          rw [if_pos e]
          unfold Sk.upd
          rw [if_pos rfl]
      · refine .inl ⟨?_, ?_⟩
        · show upd t.v m k = _
          unfold upd
          rw [if_neg hk]
        · show (if m.s = 1 then Sk.upd t.since m.n t.ticks else t.since) k = _
          split
          · unfold Sk.upd
            rw [if_neg hk]
          · rfl
    · rcases push_f hr with h1 | h1
      · exact .inl h1
      · rw [h1]; exact .inr ⟨w1, w2, w3, w4, w5⟩
  · exact Rz.refl _ _ _
/-- a silent one is held for doubted, for gone -/
theorem Wds.turn (h : Wds t n S b) (hf : Fit t i n) {k : Int} (hk : S k = true) (hd : 1 ≤ k ∧ k ≤ n) {s : Int} (hs : s = 1 ∨ s = 2) : Rz n S t (t.turn k s) := by
  obtain ⟨c, hc⟩ := Option.isSome_iff_exists.1 ((hf.dom k).2 hd)
  have e : t.getM k = c := by unfold Sct.getM; rw [hc]; rfl
  have hn := (hf.sane k c hc).1
  unfold Sct.turn
  rw [e]
  exact h.learn hf ⟨by show S c.n = true; rw [hn]; exact hk, by show 1 ≤ c.n; omega, by show c.n ≤ n; omega, (h.v k c hc).1, hs⟩
theorem Wds.rumour (h : Wds t n S b) (hf : Fit t i n) (hi : S i = false) {m : Mem} (hm : WordS n S m) : Rz n S t (t.rumour m) := by
  unfold Sct.rumour
  have hne : m.n ≠ t.me := by
    rw [hf.meq]
    intro e
    have := hm.1
    rw [e, hi] at this
    cases this
  split
  · exact Rz.refl _ _ _
  · first
      | exact h.learn hf hm
      | (split
         · exact h.learn hf hm
         · rename_i hc; exact absurd hne hc)
theorem Wds.rumours (hb : 0 ≤ b) (hi : S i = false) : ∀ (l : List Mem) {t : Sct}, Wds t n S b → Fit t i n → (∀ m ∈ l, WordS n S m) → Rz n S t (l.foldl Sct.rumour t)
  | [], t, _, _, _ => Rz.refl _ _ t
  | m :: l, t, h, hf, hl => by
    rw [List.foldl_cons]
    have h1 := h.rumour hf hi (hl m List.mem_cons_self)
    exact h1.trans (Wds.rumours hb hi l (h.rz hb h1) (hf.rumour m).fit fun x hx => hl x (List.mem_cons_of_mem _ hx))
/-- what a frame of one who answers tells -/
theorem Wds.heard (hb : 0 ≤ b) (h : Wds t n S b) (hf : Fit t i n) (hi : S i = false) {x : Fr} (hx : S x.frm = false) (hr : ∀ m ∈ x.rum, WordS n S m) : Rz n S t (Go.Proofs.Ytghefmppjdneoaa.heard t x) := by
  unfold Go.Proofs.Ytghefmppjdneoaa.heard
  have hs : (t.getM x.frm).s = 0 := by
    unfold Sct.getM
    cases hv : t.v x.frm with
    | none => rfl
    | some m =>
      rcases (h.v _ m hv).2 with e | ⟨e, _⟩
      · exact e
      · rw [hx] at e; cases e
  rw [if_neg (by rw [hs]; decide)]
  exact Wds.rumours hb hi x.rum h hf hr
/-- what is told on -/
theorem told_words (hf : ∀ k r, t.f k = some r → WordS n S r.m) (l : List Fr) : (∀ k r, (t.tell l).1.f k = some r → WordS n S r.m) ∧ ∀ x ∈ (t.tell l).2, (∀ m ∈ x.rum, WordS n S m) ∧ x.rum.length ≤ 6 := by
  have hall : ∀ (f : Hm.St), (∀ k r, f k = some r → WordS n S r.m) → ∀ r ∈ Hm.told 6 f, WordS n S r.m := by
    intro f hf r hr
    unfold Hm.told at hr
    have hr := List.mem_of_mem_take hr
    unfold Hm.sorted at hr
    have hr := (S_perm _ _).subset hr
    unfold Hm.all at hr
    obtain ⟨k, _, hk⟩ := List.mem_filterMap.1 hr
    exact hf k r hk
  have hrest : ∀ (f : Hm.St), (∀ k r, f k = some r → WordS n S r.m) → ∀ k r, Hm.rest 6 f k = some r → WordS n S r.m := by
    intro f hf
    have : ∀ (l : List Rum) (g : Hm.St), (∀ r ∈ l, WordS n S r.m) → (∀ k r, g k = some r → WordS n S r.m) → ∀ k r, l.foldl Hm.tell g k = some r → WordS n S r.m := by
      intro l
      induction l with
      | nil => exact fun g _ hg => hg
      | cons a l ih =>
        intro g hl hg
        rw [List.foldl_cons]
        refine ih _ (fun r hr => hl r (List.mem_cons_of_mem _ hr)) fun k r hk => ?_
        unfold Hm.tell at hk
        split at hk
        · split at hk
          · cases hk
          · cases hk
            exact hl a List.mem_cons_self
        · exact hg k r hk
    exact this _ f (hall f hf) hf
  have : ∀ (l : List Fr) (a : Sct × List Fr), (∀ k r, a.1.f k = some r → WordS n S r.m) → (∀ x ∈ a.2, (∀ m ∈ x.rum, WordS n S m) ∧ x.rum.length ≤ 6) → (∀ k r, (l.foldl Sct.tell1 a).1.f k = some r → WordS n S r.m) ∧ ∀ x ∈ (l.foldl Sct.tell1 a).2, (∀ m ∈ x.rum, WordS n S m) ∧ x.rum.length ≤ 6 := by
    intro l
    induction l with
    | nil => exact fun a h1 h2 => ⟨h1, h2⟩
    | cons x l ih =>
      intro a h1 h2
      rw [List.foldl_cons]
      refine ih _ ?_ ?_
      · rw [tell1_eq]
        exact hrest _ h1
      · rw [tell1_eq]
        intro y hy
        rcases List.mem_append.1 hy with hy | hy
        · exact h2 y hy
        · rw [List.mem_singleton.1 hy]
          refine ⟨fun m hm => ?_, ?_⟩
          · obtain ⟨r, hr, rfl⟩ := List.mem_map.1 hm
            exact hall _ h1 r hr
          · show ((Hm.told 6 a.1.f).map _).length ≤ 6
            rw [List.length_map]
            unfold Hm.told
            rw [List.length_take]
            exact Nat.min_le_left _ _
  exact this l (t, []) hf fun x hx => by cases hx
end
end Go.Proofs.Ytghefmppjdneoaa
