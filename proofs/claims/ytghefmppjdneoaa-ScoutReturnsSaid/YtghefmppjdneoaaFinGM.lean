/- Layer 12, the plain law of ScoutFinds: each tick brings it nearer. -/
import Derived.Test.YtghefmppjdneoaaFinFM
namespace Go.Proofs.Ytghefmppjdneoaa
open Go.Proofs Stab Go.Shelf Go.RowKit Go.Lib Go.Sort Go.Maps

section
variable {t u : Sct} {i n : Int} {S : Int → Bool} {b : Int}
theorem peers_rz (hf : Fit t i n) (hfu : Fit u i n) (hn : n ≤ 6) (hr : Rz n S t u) : ∀ x, x ∈ u.peers → x ∈ t.peers := by
  intro x hx
  obtain ⟨h1, c, h2, h3⟩ := (mem_peers_iff hfu hn).1 hx
  refine (mem_peers_iff hf hn).2 ⟨h1, ?_⟩
  rcases hr.v x with ⟨e, _⟩ | ⟨m', s, e1, e2, e3, _, e5, _⟩
  · exact ⟨c, by rw [← e]; exact h2, h3⟩
  · rw [e5] at h2
    cases h2
    have h3 : s ≤ 1 := h3
    exact ⟨m', e1, by omega⟩
theorem Wds.later (h : Wds t n S 7) : Wds { t with ticks := t.ticks + 1 } n S 8 :=
  ⟨h.v, h.f, fun k m hm hs => by
    obtain ⟨q, q1, q2, q3⟩ := h.since k m hm hs
    exact ⟨q, q1, by show q ≤ t.ticks + 1; omega, by show t.ticks + 1 - q ≤ 8; omega⟩⟩
/-- behind what a tick asks -/
theorem fin_of (hf : Fit t i n) (hw : Wds t n S 8) (hi : 1 ≤ i ∧ i ≤ n) (hn : n ≤ 6) (hSi : S i = false) (l : List Fr) :
    Wds (t.age.tell l).1 n S 7 ∧ (∀ x ∈ (t.age.tell l).2, (∀ m ∈ x.rum, WordS n S m) ∧ x.rum.length ≤ 6) ∧ ∀ k, Oth n i k → pot (t.age.tell l).1 k ≤ pot t k := by
  obtain ⟨h1, h2⟩ := hw.age hf hi hn hSi
  obtain ⟨h3, h4⟩ := told_words (t := t.age) h2.f l
  have hA := alike_age t
  have hfa := (hf.age hi).fit
  refine ⟨?_, h4, fun k hk => ?_⟩
  · have e := tell_me t.age l
    generalize (t.age.tell l).1.f = F at e h3
    rw [e]
    exact ⟨h2.v, h3, h2.since⟩
  · have e := tell_me t.age l
    generalize (t.age.tell l).1.f = F at e
    rw [e]
    exact pot_rz hf hfa hn hw (hw.rz (by omega) h1) h1 hA.line hA.tgt hk (fun _ => hA.got)
/-- a tick that asks nobody for himself -/
theorem pot_later (hf : Fit t i n) (hw : Wds t n S 7) {R : Nat} (hR : t.ticks = R) (h1 : R % 4 = 1 ∨ R % 4 = 2) {k : Int} (hk : 1 ≤ k ∧ k ≤ n) : pot { t with ticks := t.ticks + 1 } k < pot t k ∨ pot { t with ticks := t.ticks + 1 } k = 0 := by
  obtain ⟨m, hm⟩ := Option.isSome_iff_exists.1 ((hf.dom k).2 hk)
  unfold pot
  show (if (t.getM k).s = 2 then 0 else if (t.getM k).s = 1 then (8 - (t.ticks + 1 - (t.since k).getD 0)).toNat else if t.tgt = k ∧ t.got = false ∧ (t.ticks + 1) % 4 ≠ 0 then (12 - (t.ticks + 1) % 4).toNat else 12 + wn (cnt t k) ((t.ticks + 1) % 16).toNat) < _ ∨ (if (t.getM k).s = 2 then 0 else if (t.getM k).s = 1 then (8 - (t.ticks + 1 - (t.since k).getD 0)).toNat else if t.tgt = k ∧ t.got = false ∧ (t.ticks + 1) % 4 ≠ 0 then (12 - (t.ticks + 1) % 4).toNat else 12 + wn (cnt t k) ((t.ticks + 1) % 16).toNat) = 0
  by_cases h2 : (t.getM k).s = 2
  · rw [if_pos h2]; exact .inr rfl
  · rw [if_neg h2, if_neg h2]
    by_cases h3 : (t.getM k).s = 1
    · rw [if_pos h3, if_pos h3]
      rw [getM_of hm] at h3
      obtain ⟨q, q1, q2, q3⟩ := hw.since k m hm h3
      rw [q1]
      refine .inl ?_
      show (8 - (t.ticks + 1 - q)).toNat < (8 - (t.ticks - q)).toNat
      omega
    · rw [if_neg h3, if_neg h3]
      refine .inl ?_
      by_cases hc : t.tgt = k ∧ t.got = false
      · rw [if_pos ⟨hc.1, hc.2, by omega⟩, if_pos ⟨hc.1, hc.2, by omega⟩]
        omega
      · rw [if_neg fun h => hc ⟨h.1, h.2.1⟩, if_neg fun h => hc ⟨h.1, h.2.1⟩]
        obtain ⟨c, e⟩ := cnt_pos t k
        rw [e, show (t.ticks % 16).toNat = R % 16 by omega, show ((t.ticks + 1) % 16).toNat = (R % 16 + 1) % 16 by omega]
        have := wn_skip c (q := R % 16) (by omega) (by omega)
        omega
/-- what a tick asks in turn -/
theorem pot_next (hf : Fit t i n) (hi : 1 ≤ i ∧ i ≤ n) (hn : n ≤ 6) {k : Int} (hk : Oth n i k) {m : Mem} (hm : t.v k = some m) (hs : m.s = 0) (d : Int) {x : Int} {r : List Int} (he : t.nextLine d = x :: r) (hx : x ≠ k) {a : Sct} (hav : a.v = t.v) (ham : a.me = t.me) (hal : a.line = r) : cnt a k + 1 ≤ cnt t k := by
  have hp : a.peers = t.peers := by unfold Sct.peers; rw [hav, ham]
  have hkp : k ∈ t.peers := (mem_peers_iff hf hn).2 ⟨hk.2.2, m, hm, by omega⟩
  have hsub : ∀ y ∈ t.nextLine d, y ∈ t.peers := by
    intro y hy
    unfold Sct.nextLine at hy
    split at hy
    · exact (mixR_perm _ _).subset hy
    · unfold Sct.line1 at hy
      exact of_decide_eq_true (List.mem_filter.1 hy).2
  have hl1 : a.line1 = r := by
    unfold Sct.line1
    rw [hal, hp, List.filter_eq_self]
    intro y hy
    exact decide_eq_true (hsub y (by rw [he]; exact List.mem_cons_of_mem _ hy))
  unfold cnt
  rw [hl1]
  have hkx : (x == k) = false := beq_eq_false_iff_ne.2 hx
  unfold Sct.nextLine at he
  split at he
  · rename_i h0
    rw [h0]
    have hmem : k ∈ x :: r := by rw [← he]; exact (mixR_perm _ _).symm.subset hkp
    have hkr : k ∈ r := by
      rcases List.mem_cons.1 hmem with e | e
      · exact absurd e.symm hx
      · exact e
    rw [if_pos hkr, if_neg List.not_mem_nil]
    have h5 : t.peers.length ≤ 5 := by
      refine oth_len hi hn (fun y hy => ?_) ?_
      · obtain ⟨h1, c, h2, _⟩ := (mem_peers_iff hf hn).1 hy
        have := (hf.dom y).1 (by rw [h2]; rfl)
        exact ⟨this.1, this.2, h1⟩
      · unfold Sct.peers present
        refine List.Nodup.sublist List.filter_sublist ?_
        exact List.Nodup.sublist (List.Sublist.map _ List.filter_sublist) (all_nodup (v := t.v) fun k m hk => (hf.sane k m hk).1)
    have hlen := (mixR_perm t.peers d).length_eq
    rw [he, List.length_cons] at hlen
    have := List.idxOf_lt_length_of_mem hkr
    show _ + 1 + 1 ≤ 0 + 5
    omega
  · rw [he]
    by_cases hkr : k ∈ r
    · rw [if_pos hkr, if_pos (List.mem_cons_of_mem _ hkr), List.idxOf_cons, hkx]
      exact Nat.le_refl _
    · rw [if_neg hkr, if_neg (by
        intro h
        rcases List.mem_cons.1 h with e | e
        · exact hx e.symm
        · exact hkr e), List.length_cons]
      omega
end
end Go.Proofs.Ytghefmppjdneoaa
