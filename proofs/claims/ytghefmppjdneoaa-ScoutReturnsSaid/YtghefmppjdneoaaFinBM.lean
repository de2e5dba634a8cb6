/- Layer 12, the plain law of camps: a tick, a frame, whatever is told. -/
import Derived.Test.YtghefmppjdneoaaFinAM
namespace Go.Proofs.Ytghefmppjdneoaa
open Go.Proofs Stab Go.Shelf Go.RowKit Go.Lib Go.Sort Go.Maps

def fld (x : Fr) : Int × Int × Int × Int := (x.to_, x.kind, x.seq, x.node)
theorem fld_eq {x y : Fr} (h : fld x = fld y) : x.to_ = y.to_ ∧ x.kind = y.kind ∧ x.seq = y.seq ∧ x.node = y.node := by
  unfold fld at h
  simp only [Prod.mk.injEq] at h
  exact h
theorem told_of {t : Sct} {l : List Fr} {x : Fr} (hx : x ∈ (t.tell l).2) : (∃ y ∈ l, fld x = fld y) ∧ x.frm = t.me := by
  have ⟨h1, h2⟩ := tell_map t l
  have hm : fld x ∈ (t.tell l).2.map fld := List.mem_map.2 ⟨x, hx, rfl⟩
  rw [show (t.tell l).2.map fld = l.map fld from h1] at hm
  obtain ⟨y, hy, e⟩ := List.mem_map.1 hm
  exact ⟨⟨y, hy, e.symm⟩, h2 x hx⟩
theorem told_for {t : Sct} {l : List Fr} {y : Fr} (hy : y ∈ l) : ∃ x ∈ (t.tell l).2, fld x = fld y := by
  have ⟨h1, _⟩ := tell_map t l
  have hm : fld y ∈ l.map fld := List.mem_map.2 ⟨y, hy, rfl⟩
  rw [← show (t.tell l).2.map fld = l.map fld from h1] at hm
  obtain ⟨x, hx, e⟩ := List.mem_map.1 hm
  exact ⟨x, hx, e⟩
theorem told_wts (t : Sct) (l : List Fr) : wts (t.tell l).2 = wts l := wts_map (tell_map t l).1
/-- what a tick makes of a scout -/
structure Ticked (t u : Sct) (l : List Fr) (i n : Int) : Prop where
  std : Std u i n
  ticks : u.ticks = t.ticks + 1
  rel : u.rel = t.rel
  fr : ∀ x ∈ l, FrOk n x ∧ x.frm = i ∧ (x.kind = 1 ∨ x.kind = 3)
  wts : wts l ≤ 8
  wait : (t.ticks % 4 ≠ 0 ∧ u.tgt = t.tgt ∧ u.seq = t.seq ∧ u.got = t.got) ∨ (t.ticks % 4 = 0 ∧ (u.tgt = 0 ∨ ∃ x ∈ l, x.to_ = u.tgt ∧ x.kind = 1 ∧ x.seq = u.seq))
section
variable {t : Sct} {i n : Int}
theorem frok_of {x y : Fr} (hi : 1 ≤ i ∧ i ≤ n) (ho : Oth n i y.to_) (hk : y.kind = 1 ∨ y.kind = 2 ∨ y.kind = 3) (e : fld x = fld y) (hf : x.frm = i) : FrOk n x := by
  have ⟨e1, e2, _, _⟩ := fld_eq e
  unfold Oth at ho
  exact ⟨by rw [e1]; exact ⟨ho.1, ho.2.1⟩, by rw [hf, e1]; exact ⟨hi.1, hi.2, fun h => ho.2.2 h.symm⟩, by rw [e2]; exact hk⟩
theorem Std.later (h : Std t i n) : Std { t with ticks := t.ticks + 1 } i n :=
  ⟨h.fit.congr rfl rfl rfl rfl h.fit.tgt, h.left, h.tgt, h.help, h.hlen, h.line, h.llen, h.rel, h.rlen⟩
/-- what was asked is told, and who is silent for long is held for gone -/
theorem Std.aged (h : Std t i n) (hi : 1 ≤ i ∧ i ≤ n) (l : List Fr) : Std (t.age.tell l).1 i n ∧ Alike t (t.age.tell l).1 := by
  have h1 : Alike t (t.age.tell l).1 := (alike_age t).trans (alike_tell _ l)
  exact ⟨h.alike h1 ((h.fit.age hi).fit.tell l).fit, h1⟩
theorem near_two (t : Sct) : t.near.length ≤ 2 := by
  unfold Sct.near
  rw [List.length_take]
  omega
theorem near_sub (t : Sct) : ∀ x ∈ t.near, x ∈ t.peers := by
  intro x hx
  unfold Sct.near at hx
  have hx := List.mem_of_mem_take hx
  have ha : ∀ y ∈ t.around, y ∈ t.peers := by
    intro y hy
    unfold Sct.around at hy
    rcases List.mem_append.1 hy with h | h
    · exact List.mem_of_mem_drop h
    · exact List.mem_of_mem_take h
  split at hx
  · exact ha x (List.mem_of_mem_tail hx)
  · exact ha x hx
theorem Std.tick (h : Std t i n) (hi : 1 ≤ i ∧ i ≤ n) (hn : n ≤ 6) {R : Nat} (hR : t.ticks = R) (d : Int) : Ticked t (t.tick d).1 (t.tick d).2 i n := by
  have hq : t.ticks + 1 = (R + 1 : Nat) := by rw [hR]; rfl
  have h' := h.later
  rcases (show (R + 1) % 4 = 1 ∨ (R + 1) % 4 = 2 ∨ (R + 1) % 4 = 3 ∨ (R + 1) % 4 = 0 by omega) with h1 | h1 | h1 | h1
  · rw [tick_1 h.left hq h1]
    obtain ⟨c1, c2, c3, c4, c5, c6⟩ := h'.choose hi hn d
    have hF := h'.fit.ask1 hi d
    have hne : (Sct.choose { t with ticks := t.ticks + 1 } d).1 ≠ i := (h'.fit.choose hi d).1
    obtain ⟨a, ha⟩ : ∃ a, a = Sct.ask1 { t with ticks := t.ticks + 1 } d := ⟨_, rfl⟩
    rw [← ha] at hF ⊢
    unfold Sct.ask1 at ha
    generalize Sct.choose { t with ticks := t.ticks + 1 } d = c at c1 c2 c3 c4 c5 c6 hne ha
    dsimp only at ha
    have hS : Std a.1 i n ∧ a.1.ticks = t.ticks + 1 ∧ a.1.rel = t.rel ∧ ((a.1.tgt = 0 ∧ a.2 = []) ∨ ∃ y, a.2 = [y] ∧ y.to_ = a.1.tgt ∧ y.kind = 1 ∧ y.seq = a.1.seq ∧ Oth n i y.to_) := by
      split at ha
      · rename_i hp
        subst ha
        exact ⟨⟨hF.fit, hF.left.trans h.left, c1, fun x hx => (by cases hx), Nat.zero_le 2, c2, c3, by show ∀ r ∈ c.2.rel, _; rw [c4]; exact h.rel, by show c.2.rel.length ≤ 16; rw [c4]; exact h.rlen⟩, c6, c4, .inr ⟨_, rfl, rfl, rfl, rfl, by show 1 ≤ c.1; have : 0 < c.1 := hp; omega, c1.2, hne⟩⟩
      · rename_i hp
        subst ha
        have h0 : ¬ 0 < c.1 := hp
        exact ⟨⟨hF.fit, hF.left.trans h.left, c1, fun x hx => (by cases hx), Nat.zero_le 2, c2, c3, by show ∀ r ∈ c.2.rel, _; rw [c4]; exact h.rel, by show c.2.rel.length ≤ 16; rw [c4]; exact h.rlen⟩, c6, c4, .inl ⟨by show c.1 = 0; omega, rfl⟩⟩
    obtain ⟨hS, e1, e2, e3⟩ := hS
    obtain ⟨k1, k2⟩ := hS.aged hi a.2
    refine ⟨k1, k2.ticks.trans e1, k2.rel.trans e2, fun x hx => ?_, ?_, .inr ⟨by omega, ?_⟩⟩
    · obtain ⟨⟨y, hy, e⟩, hf⟩ := told_of hx
      rw [(alike_age a.1).me, hS.fit.meq] at hf
      rcases e3 with ⟨_, e4⟩ | ⟨z, e4, z1, z2, z3, z4⟩
      · rw [e4] at hy; cases hy
      · rw [e4] at hy
        rw [List.mem_singleton.1 hy] at e
        exact ⟨frok_of hi z4 (.inl z2) e hf, hf, .inl ((fld_eq e).2.1.trans z2)⟩
    · rw [told_wts]
      rcases e3 with ⟨_, e4⟩ | ⟨z, e4, z1, z2, z3, z4⟩
      · rw [e4]; exact Nat.zero_le 8
      · rw [e4]
        unfold Go.Proofs.Ytghefmppjdneoaa.wts wt
        rw [List.map_singleton, if_pos z2]
        decide
    · rw [k2.tgt, k2.seq]
      rcases e3 with ⟨e3, _⟩ | ⟨z, e4, z1, z2, z3, z4⟩
      · exact .inl e3
      · obtain ⟨x, hx, e⟩ := told_for (t := a.1.age) (l := a.2) (y := z) (by rw [e4]; exact List.mem_singleton.2 rfl)
        have ⟨f1, f2, f3, _⟩ := fld_eq e
        exact .inr ⟨x, hx, f1.trans z1, f2.trans z2, f3.trans z3⟩
  · rw [tick_2 h.left hq h1]
    obtain ⟨k1, k2⟩ := h'.aged hi []
    exact ⟨k1, k2.ticks, k2.rel, fun x hx => (by cases hx), Nat.zero_le 8, .inl ⟨by omega, k2.tgt, k2.seq, k2.got⟩⟩
  · rw [tick_3 h.left hq h1]
    obtain ⟨a, ha⟩ : ∃ a, a = Sct.ask3 { t with ticks := t.ticks + 1 } := ⟨_, rfl⟩
    have hF := h'.fit.ask3
    rw [← ha] at hF ⊢
    have hS : Std a.1 i n ∧ a.1.ticks = t.ticks + 1 ∧ a.1.rel = t.rel ∧ a.1.tgt = t.tgt ∧ a.1.seq = t.seq ∧ a.1.got = t.got ∧ a.2 = a.1.help.map fun n => ⟨n, 3, 0, a.1.seq, a.1.tgt, []⟩ := by
      unfold Sct.ask3 at ha
      dsimp only at ha
      split at ha
      · subst ha
        exact ⟨⟨hF.fit, h.left, h.tgt, fun x hx => h'.peers x (near_sub _ x hx), near_two _, h.line, h.llen, h.rel, h.rlen⟩, rfl, rfl, rfl, rfl, rfl, rfl⟩
      · subst ha
        exact ⟨h', rfl, rfl, rfl, rfl, rfl, rfl⟩
    obtain ⟨hS, e1, e2, e3, e4, e5, e6⟩ := hS
    obtain ⟨k1, k2⟩ := hS.aged hi a.2
    refine ⟨k1, k2.ticks.trans e1, k2.rel.trans e2, fun x hx => ?_, ?_, .inl ⟨by omega, k2.tgt.trans e3, k2.seq.trans e4, k2.got.trans e5⟩⟩
    · obtain ⟨⟨y, hy, e⟩, hf⟩ := told_of hx
      rw [(alike_age a.1).me, hS.fit.meq] at hf
      rw [e6] at hy
      obtain ⟨z, hz, rfl⟩ := List.mem_map.1 hy
      exact ⟨frok_of hi (hS.help z hz) (.inr (.inr rfl)) e hf, hf, .inr (fld_eq e).2.1⟩
    · rw [told_wts, e6]
      unfold Go.Proofs.Ytghefmppjdneoaa.wts
      rw [List.map_map]
      have : ((fun x => wt x) ∘ fun n => (⟨n, 3, 0, a.1.seq, a.1.tgt, []⟩ : Fr)) = fun _ => 4 := rfl
      rw [show (wt ∘ fun n => (⟨n, 3, 0, a.1.seq, a.1.tgt, []⟩ : Fr)) = fun _ => 4 from rfl, List.map_const', List.sum_replicate_nat]
      have := hS.hlen
      omega
  · rw [tick_0 h.left hq h1]
    obtain ⟨a, ha⟩ : ∃ a, a = Sct.ask0 { t with ticks := t.ticks + 1 } := ⟨_, rfl⟩
    have hF := h'.fit.ask0 hi
    have hA : Alike { t with ticks := t.ticks + 1 } a := by
      rw [ha]
      unfold Sct.ask0
      split
      · exact alike_learn _ _
      · exact Alike.refl _
    rw [← ha] at hF ⊢
    have hS := h'.alike hA hF.fit
    obtain ⟨k1, k2⟩ := hS.aged hi []
    have k3 := hA.trans k2
    exact ⟨k1, k3.ticks, k3.rel, fun x hx => (by cases hx), Nat.zero_le 8, .inl ⟨by omega, k3.tgt, k3.seq, k3.got⟩⟩
end
end Go.Proofs.Ytghefmppjdneoaa
