/- Layer 12, the plain law of camps: a round; ScoutFinds. -/
import Derived.Test.YtghefmppjdneoaaFinJM
namespace Go.Proofs.Ytghefmppjdneoaa
open Go.Proofs Stab Go.Shelf Go.RowKit Go.Lib Go.Sort Go.Maps

/-- a camp ahead of a round: no frame is under way, who was asked and answers has answered -/
structure Calmed (n : Nat) (S : Int → Bool) (P : Bool → Int → Sct → Prop) (f : Bool) (C : Cmp) : Prop where
  sc : ∀ i, 1 ≤ i → i ≤ (n : Int) → S i = false → P f i (C.X i) ∧ ((C.X i).ticks % 4 = 0 ∨ (0 < (C.X i).tgt → S (C.X i).tgt = false → (C.X i).got = true))
  net : C.net = []
  rl : ∀ i, 1 ≤ i → i ≤ (n : Int) → (C.X i).rel.length ≤ 16
/-- while they tick -/
structure Ticking (n : Nat) (S : Int → Bool) (Q : Bool → Int → Sct → Prop) (G : Bool → Fr → Prop) (f : Bool) (C D : Cmp) (j : Nat) : Prop where
  sc : ∀ i, 1 ≤ i → i ≤ (j : Int) → S i = false → Q f i (D.X i) ∧ Waits S (D.X i) i D.net
  rest : ∀ i, (i < 1 ∨ (j : Int) < i ∨ S i = true) → D.X i = C.X i
  fr : ∀ x ∈ D.net, FrS n S G f x
  rel : ∀ i, (D.X i).rel = (C.X i).rel
  wts : wts D.net ≤ 8 * j
section
variable {n : Nat} {S : Int → Bool} {w : Int} {P Q : Bool → Int → Sct → Prop} {G : Bool → Fr → Prop} {f : Bool} {C : Cmp}
theorem Calmed.ticking (L : Law n S w P Q G) (hn : n ≤ 6) (h : Calmed n S P f C) (d : Int) : ∀ j, j ≤ n → Ticking n S Q G f C (tickUp S d j C) j
  | 0, _ => ⟨fun i h1 h2 => by omega, fun _ _ => rfl, fun x hx => (by have hx : x ∈ C.net := hx; rw [h.net] at hx; cases hx), fun _ => rfl, (by show Go.Proofs.Ytghefmppjdneoaa.wts C.net ≤ 8 * 0; rw [h.net]; exact Nat.zero_le _)⟩
  | j + 1, hj => by
    have ih := Calmed.ticking L hn h d j (by omega)
    by_cases hS : S ((j + 1 : Nat) : Int) = true
    · have e : tickUp S d (j + 1) C = tickUp S d j C := by
        show (if S ((j + 1 : Nat) : Int) = true then _ else _) = _
        rw [if_pos hS]
      rw [e]
      refine ⟨fun i h1 h2 hSi => ?_, fun i hi => ?_, ih.fr, ih.rel, Nat.le_trans ih.wts (by omega)⟩
      · have : i ≠ ((j + 1 : Nat) : Int) := fun e => by rw [e, hS] at hSi; cases hSi
        exact ih.sc i h1 (by omega) hSi
      · exact ih.rest i (by rcases hi with h | h | h; exact .inl h; exact .inr (.inl (by omega)); exact .inr (.inr h))
    · have hS' : S ((j + 1 : Nat) : Int) = false := by
        cases hq : S ((j + 1 : Nat) : Int) with
        | true => exact absurd hq hS
        | false => rfl
      obtain ⟨D, hD⟩ : ∃ D, D = tickUp S d j C := ⟨_, rfl⟩
      rw [← hD] at ih
      have e : tickUp S d (j + 1) C = ⟨setX D.X ((j + 1 : Nat) : Int) ((D.X ((j + 1 : Nat) : Int)).tick (wrap64 (d + ((j + 1 : Nat) : Int)))).1, D.net ++ ((D.X ((j + 1 : Nat) : Int)).tick (wrap64 (d + ((j + 1 : Nat) : Int)))).2⟩ := by
        show (if S ((j + 1 : Nat) : Int) = true then _ else _) = _
        rw [if_neg hS, hD]
      rw [e]
      have hX : D.X ((j + 1 : Nat) : Int) = C.X ((j + 1 : Nat) : Int) := ih.rest _ (.inr (.inl (by omega)))
      rw [hX]
      generalize wrap64 (d + ((j + 1 : Nat) : Int)) = q
      have hi : 1 ≤ ((j + 1 : Nat) : Int) ∧ ((j + 1 : Nat) : Int) ≤ (n : Int) := ⟨by omega, by omega⟩
      obtain ⟨k1, k2⟩ := h.sc _ hi.1 hi.2 hS'
      obtain ⟨hstd, R, hR⟩ := L.std k1
      have hT := hstd.tick hi (by omega) hR q
      obtain ⟨t1, t2⟩ := L.tick q hi hS' k1 k2
      refine ⟨fun i h1 h2 hSi => ?_, fun i hi2 => ?_, fun x hx => ?_, fun i => ?_, ?_⟩
      · dsimp only
        by_cases hij : i = ((j + 1 : Nat) : Int)
        · subst hij
          rw [setX_eq]
          refine ⟨t1, fun ht hSt => ?_⟩
          rcases hT.wait with ⟨w1, w2, w3, w4⟩ | ⟨_, w2 | ⟨x, hx, x1, x2, x3⟩⟩
          · rw [w2] at ht hSt
            rw [w4]
            exact .inl (k2.resolve_left w1 ht hSt)
          · omega
          · exact .inr ⟨x, List.mem_append_right _ hx, .inl ⟨x1, x2, (hT.fr x hx).2.1, x3⟩⟩
        · rw [setX_ne hij]
          obtain ⟨i1, i2⟩ := ih.sc i h1 (by omega) hSi
          refine ⟨i1, fun ht hSt => ?_⟩
          rcases i2 ht hSt with e | ⟨y, hy, hp⟩
          · exact .inl e
          · exact .inr ⟨y, List.mem_append_left _ hy, hp⟩
      · dsimp only
        have hij : i ≠ ((j + 1 : Nat) : Int) := by
          intro e
          rcases hi2 with h | h | h
          · omega
          · omega
          · rw [e, hS'] at h; cases h
        rw [setX_ne hij]
        exact ih.rest i (by rcases hi2 with h | h | h; exact .inl h; exact .inr (.inl (by omega)); exact .inr (.inr h))
      · rcases List.mem_append.1 hx with hx | hx
        · exact ih.fr x hx
        · obtain ⟨f1, f2, f3⟩ := hT.fr x hx
          exact ⟨f1, by rw [f2]; exact hS', fun hk => by omega, t2 x hx⟩
      · dsimp only
        by_cases hij : i = ((j + 1 : Nat) : Int)
        · rw [hij, setX_eq, hT.rel]
        · rw [setX_ne hij]
          exact ih.rel i
      · dsimp only
        rw [wts_app]
        have := hT.wts
        have := ih.wts
        omega
/-- what a round makes of a camp -/
theorem Calmed.round (L : Law n S w P Q G) (hn : n ≤ 6) (h : Calmed n S P f C) (d : Int) :
    (∀ k, ∃ g, Stage n S Q G g (run S k (tickUp S d n C))) ∧ ∃ K g, K ≤ 144 ∧ (run S K (tickUp S d n C)).net = [] ∧ Calmed n S Q g (run S K (tickUp S d n C)) ∧ ∀ i, S i = true → (run S K (tickUp S d n C)).X i = C.X i := by
  have hT := h.ticking L hn d n (Nat.le_refl n)
  have hSt : Stage n S Q G f (tickUp S d n C) := ⟨hT.sc, hT.fr, fun i h1 h2 => by rw [hT.rel]; exact h.rl i h1 h2⟩
  refine ⟨fun k => ?_, ?_⟩
  · obtain ⟨g, h1, _⟩ := hSt.run L k
    exact ⟨g, h1⟩
  · obtain ⟨g, h1, h2, h3⟩ := hSt.run L (phi n (tickUp S d n C))
    have hnet : (run S (phi n (tickUp S d n C)) (tickUp S d n C)).net = [] := by
      rcases h2 with e | e
      · exact e
      · have h0 : phi n (run S (phi n (tickUp S d n C)) (tickUp S d n C)) = 0 := by omega
        unfold phi at h0
        cases hq : (run S (wts (tickUp S d n C).net + relS (tickUp S d n C).X n) (tickUp S d n C)).net with
        | nil => exact hq
        | cons x r =>
          rw [hq] at h0
          have : wts (x :: r) = wt x + wts r := rfl
          have := wt_pos x
          omega
    have hphi : phi n (tickUp S d n C) ≤ 144 := by
      have h4 := hT.wts
      have h5 := relS_le (X := (tickUp S d n C).X) (j := n) hSt.rl
      unfold phi
      omega
    refine ⟨_, g, hphi, hnet, ⟨fun i i1 i2 i3 => ?_, hnet, h1.rl⟩, fun i hi => (h3 i hi).trans (hT.rest i (.inr (.inr hi)))⟩
    obtain ⟨k1, k2⟩ := h1.sc i i1 i2 i3
    refine ⟨k1, .inr fun ht hS => ?_⟩
    rcases k2 ht hS with e | ⟨y, hy, _⟩
    · exact e
    · rw [hnet] at hy; cases hy
end
/-- the law of ScoutFinds -/
theorem fin_law {n : Nat} (hn : n ≤ 6) (S : Int → Bool) (w : Int) (R b : Nat) : Law n S w (fun _ i t => Sok t i n S R b) (fun _ i t => Sok t i n S (R + 1) (b - 1)) (fun _ x => Gok n S x) where
  std := fun h => ⟨h.std, R, h.ticks⟩
  std' := fun h => h.std
  tick := fun d hi hS h hg => h.tick hi (by omega) hS hg d
  hear := fun hi hS h hx hto hxS hxn hG => ⟨_, .inl rfl, h.hear hi (by omega) hS hx hto hxS hxn hG⟩
  up := fun _ h => h
  upG := fun h => h
/-- a camp of which some are silent from now on -/
theorem fin_silent {n : Nat} (S : Int → Bool) {t : Sct} {i : Int} {R b : Nat} (h : Sok t i n (fun _ => false) R b) : Sok t i n S R 72 := by
  have hv : ∀ k m, t.v k = some m → m.i = 0 ∧ m.s = 0 := fun k m hm => by
    have := h.wds.v k m hm
    rcases this.2 with e | ⟨e, _⟩
    · exact ⟨this.1, e⟩
    · cases e
  refine ⟨h.std, ⟨fun k m hm => ⟨(hv k m hm).1, .inl (hv k m hm).2⟩, fun k r hr => ?_, fun k m hm hs => ?_⟩, h.ticks, fun k hk _ => ?_⟩
  · have := (h.wds.f k r hr).1
    cases this
  · have := (hv k m hm).2
    omega
  · obtain ⟨m, hm⟩ := Option.isSome_iff_exists.1 ((h.std.fit.dom k).2 ⟨hk.1, hk.2.1⟩)
    rw [pot_none (by rw [getM_of hm]; exact (hv k m hm).2)]
    split
    · have := Int.emod_nonneg t.ticks (show (4 : Int) ≠ 0 by omega)
      omega
    · have hl : t.line1.length ≤ 4 := by
        unfold Sct.line1
        exact Nat.le_trans (List.length_filter_le _ _) h.std.llen
      have hc : cnt t k ≤ 9 := by
        unfold cnt
        split
        · rename_i hmem
          have := List.idxOf_lt_length_of_mem hmem
          omega
        · omega
      have := wn_bound hc (q := (t.ticks % 16).toNat) (by
        have := Int.emod_lt_of_pos t.ticks (show (0 : Int) < 16 by omega)
        have := Int.emod_nonneg t.ticks (show (16 : Int) ≠ 0 by omega)
        omega)
      omega
/-- what is known in the end -/
theorem fin_end {n : Nat} {S : Int → Bool} {t : Sct} {i : Int} {R : Nat} (h : Sok t i n S R 0) (hSi : S i = false) : ∀ m ∈ all t.v, (1 ≤ m.n ∧ m.n ≤ (n : Int)) ∧ m.i = 0 ∧ m.s = if S m.n = true then 2 else 0 := by
  intro m hm
  unfold all at hm
  obtain ⟨k, _, hk⟩ := List.mem_filterMap.1 hm
  have hs := (h.std.fit.sane k m hk).1
  have hd := (h.std.fit.dom k).1 (by rw [hk]; rfl)
  have hv := h.wds.v k m hk
  subst hs
  refine ⟨hd, hv.1, ?_⟩
  by_cases hS : S m.n = true
  · rw [if_pos hS]
    have hne : m.n ≠ i := fun e => by rw [e, hSi] at hS; cases hS
    have h0 : pot t m.n = 0 := Nat.le_zero.1 (h.pot m.n ⟨hd.1, hd.2, hne⟩ hS)
    have := pot_zero h.std.fit h.wds hd h0
    rw [getM_of hk] at this
    exact this
  · rw [if_neg hS]
    rcases hv.2 with e | ⟨e, _⟩
    · exact e
    · exact absurd e hS
theorem fin_fresh {n : Nat} {i : Int} (hi : 1 ≤ i ∧ i ≤ (n : Int)) (hn : n ≤ 6) : Sok (Sct.fresh i n) i n (fun _ => false) 0 0 := by
  refine ⟨Std.fresh hi (by omega), ⟨fun k m hm => ?_, fun k r hr => (by cases hr), fun k m hm hs => ?_⟩, rfl, fun k _ h => by cases h⟩
  · have hm : upTo n k = some m := hm
    unfold upTo at hm
    split at hm
    · cases hm
      exact ⟨rfl, .inl rfl⟩
    · cases hm
  · have hm : upTo n k = some m := hm
    unfold upTo at hm
    split at hm
    · cases hm
      cases hs
    · cases hm
end Go.Proofs.Ytghefmppjdneoaa
