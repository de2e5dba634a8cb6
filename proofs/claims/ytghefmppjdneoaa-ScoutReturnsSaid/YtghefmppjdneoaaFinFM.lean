/- Layer 12, the plain law of ScoutFinds: how long it takes until a silent one is held for gone. -/
import Derived.Test.YtghefmppjdneoaaFinEM
namespace Go.Proofs.Ytghefmppjdneoaa
open Go.Proofs Stab Go.Shelf Go.RowKit Go.Lib Go.Sort Go.Maps

/-- ticks until the next round that asks in turn for sure has asked -/
def wq (q : Nat) : Nat := if q = 0 then 1 else if q ≤ 4 then 5 - q else if q ≤ 8 then 9 - q else 17 - q
/-- ticks until so many have asked -/
def wn : Nat → Nat → Nat
  | 0, _ => 0
  | c + 1, q => wq q + wn c ((q + wq q) % 16)
theorem wn_ask (c : Nat) {q : Nat} (hq : q = 0 ∨ q = 4 ∨ q = 8) : wn (c + 1) q = 1 + wn c (q + 1) := by
  rcases hq with rfl | rfl | rfl <;> rfl
theorem wn_skip' : ∀ q ∈ [1, 2, 3, 5, 6, 7, 9, 10, 11, 12, 13, 14, 15], wq q = 1 + wq ((q + 1) % 16) ∧ (q + wq q) % 16 = ((q + 1) % 16 + wq ((q + 1) % 16)) % 16 := by decide
theorem wn_skip (c : Nat) {q : Nat} (hq : q < 16) (h : ¬ (q = 0 ∨ q = 4 ∨ q = 8)) : wn (c + 1) q = 1 + wn (c + 1) ((q + 1) % 16) := by
  have ⟨h1, h2⟩ := wn_skip' q (by simp; omega)
  show wq q + wn c ((q + wq q) % 16) = 1 + (wq ((q + 1) % 16) + wn c (((q + 1) % 16 + wq ((q + 1) % 16)) % 16))
  rw [h1, ← h1, h2]
  omega
theorem wn_succ : ∀ (c q : Nat), wn c q ≤ wn (c + 1) q
  | 0, q => Nat.zero_le _
  | c + 1, q => by
    show wq q + wn c ((q + wq q) % 16) ≤ wq q + wn (c + 1) ((q + wq q) % 16)
    exact Nat.add_le_add_left (wn_succ c _) _
theorem wn_mono {c c' : Nat} (h : c ≤ c') (q : Nat) : wn c q ≤ wn c' q := by
  induction h with
  | refl => exact Nat.le_refl _
  | step _ ih => exact Nat.le_trans ih (wn_succ _ _)
theorem wn_nine : ∀ q ∈ [0, 1, 2, 3, 4, 5, 6, 7, 8, 9, 10, 11, 12, 13, 14, 15], wn 9 q ≤ 60 := by decide
theorem wn_bound {c q : Nat} (hc : c ≤ 9) (hq : q < 16) : wn c q ≤ 60 := Nat.le_trans (wn_mono hc q) (wn_nine q (by simp; omega))
/-- so many rounds until one is asked in turn -/
def cnt (t : Sct) (k : Int) : Nat := if k ∈ t.line1 then t.line1.idxOf k + 1 else t.line1.length + 5
/-- ticks until one who is silent is held for gone -/
def pot (t : Sct) (k : Int) : Nat :=
  if (t.getM k).s = 2 then 0
  else if (t.getM k).s = 1 then (8 - (t.ticks - (t.since k).getD 0)).toNat
  else if t.tgt = k ∧ t.got = false ∧ t.ticks % 4 ≠ 0 then (12 - t.ticks % 4).toNat
  else 12 + wn (cnt t k) (t.ticks % 16).toNat
theorem cnt_pos (t : Sct) (k : Int) : ∃ c, cnt t k = c + 1 := by
  unfold cnt
  split
  · exact ⟨_, rfl⟩
  · exact ⟨_, rfl⟩
theorem idx_filter (p q : Int → Bool) (hpq : ∀ x, q x = true → p x = true) {k : Int} (hk : q k = true) : ∀ l : List Int, (l.filter q).idxOf k ≤ (l.filter p).idxOf k
  | [] => Nat.le_refl _
  | a :: l => by
    have ih := idx_filter p q hpq hk l
    rw [List.filter_cons, List.filter_cons]
    by_cases hq : q a = true
    · rw [if_pos hq, if_pos (hpq a hq), List.idxOf_cons, List.idxOf_cons]
      cases a == k
      · exact Nat.succ_le_succ ih
      · exact Nat.le_refl _
    · rw [if_neg hq]
      have hne : a ≠ k := fun e => hq (e ▸ hk)
      by_cases hp : p a = true
      · rw [if_pos hp, List.idxOf_cons, show (a == k) = false from beq_eq_false_iff_ne.2 hne]
        exact Nat.le_succ_of_le ih
      · rw [if_neg hp]
        exact ih
theorem len_filter (p q : Int → Bool) (hpq : ∀ x, q x = true → p x = true) : ∀ l : List Int, (l.filter q).length ≤ (l.filter p).length
  | [] => Nat.le_refl _
  | a :: l => by
    have ih := len_filter p q hpq l
    rw [List.filter_cons, List.filter_cons]
    by_cases hq : q a = true
    · rw [if_pos hq, if_pos (hpq a hq), List.length_cons, List.length_cons]
      omega
    · rw [if_neg hq]
      split
      · rw [List.length_cons]; omega
      · exact ih
section
variable {t u : Sct} {i n : Int} {S : Int → Bool} {b : Int}
theorem mem_peers_iff (hf : Fit t i n) (hn : n ≤ 6) {x : Int} : x ∈ t.peers ↔ x ≠ i ∧ ∃ m, t.v x = some m ∧ m.s ≤ 1 := by
  unfold Sct.peers present
  rw [List.mem_filter, List.mem_map, hf.meq]
  constructor
  · rintro ⟨⟨m, hm, rfl⟩, h⟩
    obtain ⟨h1, h2⟩ := List.mem_filter.1 hm
    unfold Go.Proofs.Ytghefmppjdneoaa.all at h1
    obtain ⟨k, _, hk⟩ := List.mem_filterMap.1 h1
    have hs := (hf.sane k m hk).1
    subst hs
    exact ⟨by simpa using h, m, hk, of_decide_eq_true h2⟩
  · rintro ⟨h1, m, h2, h3⟩
    have hs := (hf.sane x m h2).1
    have hd := (hf.dom x).1 (by rw [h2]; rfl)
    refine ⟨⟨m, List.mem_filter.2 ⟨?_, decide_eq_true h3⟩, hs⟩, by simpa using h1⟩
    unfold Go.Proofs.Ytghefmppjdneoaa.all
    exact List.mem_filterMap.2 ⟨x, by unfold nodes; simp; omega, h2⟩
theorem cnt_le (hl : u.line = t.line) (hp : ∀ x, x ∈ u.peers → x ∈ t.peers) {k : Int} (hk : k ∈ u.peers) : cnt u k ≤ cnt t k := by
  have hq : ∀ x : Int, decide (x ∈ u.peers) = true → decide (x ∈ t.peers) = true := fun x hx => decide_eq_true (hp x (of_decide_eq_true hx))
  have hm : k ∈ u.line1 ↔ k ∈ t.line1 := by
    unfold Sct.line1
    rw [List.mem_filter, List.mem_filter, hl]
    exact ⟨fun ⟨a, _⟩ => ⟨a, decide_eq_true (hp k hk)⟩, fun ⟨a, _⟩ => ⟨a, decide_eq_true hk⟩⟩
  unfold cnt
  by_cases hc : k ∈ t.line1
  · rw [if_pos hc, if_pos (hm.2 hc)]
    unfold Sct.line1
    rw [hl]
    exact Nat.succ_le_succ (idx_filter _ _ hq (decide_eq_true hk) t.line)
  · rw [if_neg hc, if_neg fun h => hc (hm.1 h)]
    unfold Sct.line1
    rw [hl]
    exact Nat.add_le_add_right (len_filter _ _ hq t.line) 5
theorem getM_of {k : Int} {m : Mem} (h : t.v k = some m) : t.getM k = m := by unfold Sct.getM; rw [h]; rfl
theorem getM_s {k : Int} (hf : Fit t i n) (h : Wds t n S b) (hk : 1 ≤ k ∧ k ≤ n) : (t.getM k).s = 0 ∨ (t.getM k).s = 1 ∨ (t.getM k).s = 2 := by
  obtain ⟨m, hm⟩ := Option.isSome_iff_exists.1 ((hf.dom k).2 hk)
  rw [getM_of hm]
  rcases (h.v k m hm).2 with e | ⟨_, e | e⟩
  · exact .inl e
  · exact .inr (.inl e)
  · exact .inr (.inr e)
/-- words that come don't make it later -/
theorem pot_rz (hf : Fit t i n) (hfu : Fit u i n) (hn : n ≤ 6) (hw : Wds t n S b) (_hwu : Wds u n S b) (hr : Rz n S t u) (hl : u.line = t.line) (ht : u.tgt = t.tgt) {k : Int} (hk : Oth n i k) (hg : u.tgt = k → u.got = t.got) : pot u k ≤ pot t k := by
  unfold Oth at hk
  obtain ⟨m, hm⟩ := Option.isSome_iff_exists.1 ((hf.dom k).2 ⟨hk.1, hk.2.1⟩)
  have hp : ∀ x, x ∈ u.peers → x ∈ t.peers := by
    intro x hx
    obtain ⟨h1, c, h2, h3⟩ := (mem_peers_iff hfu hn).1 hx
    refine (mem_peers_iff hf hn).2 ⟨h1, ?_⟩
    rcases hr.v x with ⟨e, _⟩ | ⟨m', s, e1, e2, e3, _, e5, _⟩
    · exact ⟨c, by rw [← e]; exact h2, h3⟩
    · rw [e5] at h2
      cases h2
      have h3 : s ≤ 1 := h3
      exact ⟨m', e1, by omega⟩
  rcases hr.v k with ⟨e, e'⟩ | ⟨m', s, e1, e2, e3, _, e5, e6⟩
  · have eg : u.getM k = t.getM k := by unfold Sct.getM; rw [e]
    unfold pot
    rw [eg, e', hr.ticks, ht]
    by_cases h2 : (t.getM k).s = 2
    · rw [if_pos h2, if_pos h2]; exact Nat.le_refl _
    · rw [if_neg h2, if_neg h2]
      by_cases h1 : (t.getM k).s = 1
      · rw [if_pos h1, if_pos h1]; exact Nat.le_refl _
      · rw [if_neg h1, if_neg h1]
        have hg' : (t.tgt = k ∧ u.got = false ∧ t.ticks % 4 ≠ 0) ↔ (t.tgt = k ∧ t.got = false ∧ t.ticks % 4 ≠ 0) := by
          constructor
          · rintro ⟨a, b, c⟩
            exact ⟨a, by rw [← hg (ht.trans a)]; exact b, c⟩
          · rintro ⟨a, b, c⟩
            exact ⟨a, by rw [hg (ht.trans a)]; exact b, c⟩
        by_cases hc : t.tgt = k ∧ t.got = false ∧ t.ticks % 4 ≠ 0
        · rw [if_pos hc, if_pos (hg'.2 hc)]; exact Nat.le_refl _
        · rw [if_neg hc, if_neg fun h => hc (hg'.1 h)]
          refine Nat.add_le_add_left (wn_mono (cnt_le hl hp ?_) _) _
          refine (mem_peers_iff hfu hn).2 ⟨hk.2.2, m, e.trans hm, ?_⟩
          rw [getM_of hm] at h1 h2
          rcases (hw.v k m hm).2 with e0 | ⟨_, e0 | e0⟩
          · omega
          · omega
          · omega
  · have eg : (u.getM k).s = s := by rw [getM_of e5]
    have et : (t.getM k).s = m'.s := by rw [getM_of e1]
    rcases e3 with rfl | rfl
    · have h0 : m'.s = 0 := by
        rcases (hw.v k m' e1).2 with e0 | ⟨_, e0 | e0⟩ <;> omega
      unfold pot
      rw [eg, et, h0, if_neg (by omega), if_pos rfl, if_neg (by omega), if_neg (by omega), e6 rfl, hr.ticks]
      show (8 - (t.ticks - t.ticks)).toNat ≤ _
      rw [Int.sub_self]
      split
      · have := Int.emod_lt_of_pos t.ticks (show (0 : Int) < 4 by omega)
        omega
      · omega
    · unfold pot
      rw [eg, if_pos rfl]
      exact Nat.zero_le _
/-- where it has come to nothing, it is held for gone -/
theorem pot_zero (hf : Fit t i n) (hw : Wds t n S 7) {k : Int} (hk : 1 ≤ k ∧ k ≤ n) (h : pot t k = 0) : (t.getM k).s = 2 := by
  obtain ⟨m, hm⟩ := Option.isSome_iff_exists.1 ((hf.dom k).2 hk)
  unfold pot at h
  by_cases h2 : (t.getM k).s = 2
  · exact h2
  · rw [if_neg h2] at h
    by_cases h1 : (t.getM k).s = 1
    · rw [if_pos h1] at h
      rw [getM_of hm] at h1
      obtain ⟨q, q1, q2, q3⟩ := hw.since k m hm h1
      rw [q1] at h
      have h : (8 - (t.ticks - q)).toNat = 0 := h
      omega
    · rw [if_neg h1] at h
      split at h
      · have := Int.emod_lt_of_pos t.ticks (show (0 : Int) < 4 by omega)
        omega
      · omega
end
end Go.Proofs.Ytghefmppjdneoaa
