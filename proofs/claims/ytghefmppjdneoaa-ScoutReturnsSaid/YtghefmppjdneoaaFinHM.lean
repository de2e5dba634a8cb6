/- Layer 12, the plain law of ScoutFinds: a tick, whole. -/
import Derived.Test.YtghefmppjdneoaaFinGM
namespace Go.Proofs.Ytghefmppjdneoaa
open Go.Proofs Stab Go.Shelf Go.RowKit Go.Lib Go.Sort Go.Maps

section
variable {t u : Sct} {i n : Int} {S : Int → Bool} {b : Int}
theorem ask1_facts (t : Sct) (d : Int) : (t.ask1 d).1.v = (t.choose d).2.v ∧ (t.ask1 d).1.f = (t.choose d).2.f ∧ (t.ask1 d).1.since = (t.choose d).2.since ∧ (t.ask1 d).1.ticks = (t.choose d).2.ticks ∧ (t.ask1 d).1.me = (t.choose d).2.me ∧ (t.ask1 d).1.line = (t.choose d).2.line ∧ (t.ask1 d).1.tgt = (t.choose d).1 ∧ (t.ask1 d).1.got = false := by
  unfold Sct.ask1
  dsimp only
  split <;> exact ⟨rfl, rfl, rfl, rfl, rfl, rfl, rfl, rfl⟩
theorem pot_two {k : Int} (h : (t.getM k).s = 2) : pot t k = 0 := by unfold pot; rw [if_pos h]
theorem pot_one {k : Int} (h : (t.getM k).s = 1) : pot t k = (8 - (t.ticks - (t.since k).getD 0)).toNat := by unfold pot; rw [if_neg (by omega), if_pos h]
theorem pot_none {k : Int} (h : (t.getM k).s = 0) : pot t k = if t.tgt = k ∧ t.got = false ∧ t.ticks % 4 ≠ 0 then (12 - t.ticks % 4).toNat else 12 + wn (cnt t k) (t.ticks % 16).toNat := by unfold pot; rw [if_neg (by omega), if_neg (by omega)]
/-- who is known to be gone, or doubted, and what is asked doesn't change that -/
theorem pot_kept (hf : Fit t i n) (hw : Wds t n S 7) {k : Int} (hk : 1 ≤ k ∧ k ≤ n) {a : Sct} (hv : a.v k = t.v k) (hs : a.since k = t.since k) (ht : a.ticks = t.ticks + 1) (h : (t.getM k).s ≠ 0) : pot a k < pot t k ∨ pot a k = 0 := by
  obtain ⟨m, hm⟩ := Option.isSome_iff_exists.1 ((hf.dom k).2 hk)
  have e : a.getM k = t.getM k := by unfold Sct.getM; rw [hv]
  rcases getM_s hf hw hk with h0 | h1 | h2
  · exact absurd h0 h
  · rw [pot_one h1, pot_one (by rw [e]; exact h1), ht, hs]
    rw [getM_of hm] at h1
    obtain ⟨q, q1, q2, q3⟩ := hw.since k m hm h1
    rw [q1]
    refine .inl ?_
    show (8 - (t.ticks + 1 - q)).toNat < (8 - (t.ticks - q)).toNat
    omega
  · exact .inr (pot_two (by rw [e]; exact h2))
/-- what a tick asks: nothing is learnt by that, and who is gone may be told of -/
theorem choose_words (hf : Fit t i n) (hw : Wds t n S b) (d : Int) : (t.choose d).2.v = t.v ∧ (t.choose d).2.since = t.since ∧ (t.choose d).2.ticks = t.ticks ∧ (t.choose d).2.me = t.me ∧ ∀ k r, (t.choose d).2.f k = some r → t.f k = some r ∨ WordS n S r.m := by
  unfold Sct.choose
  split
  · unfold Sct.next
    split <;> exact ⟨rfl, rfl, rfl, rfl, fun k r h => .inl h⟩
  · refine ⟨rfl, rfl, rfl, rfl, fun k r h => ?_⟩
    have h : Hm.push1 5 t.f (t.getM t.farAt) k = some r := h
    unfold Sct.farAt at h
    rw [List.getD_eq_getElem?_getD] at h
    cases hg : t.far[((t.round.tdiv 4).tmod t.far.length).toNat]? with
    | none =>
      rw [hg] at h
      have h0 : t.v 0 = none := by
        cases hv : t.v 0 with
        | none => rfl
        | some m => have := (hf.dom 0).1 (by rw [hv]; rfl); omega
      have hz : t.getM ((none : Option Int).getD 0) = Mem.zero := by unfold Sct.getM; show (t.v 0).getD _ = _; rw [h0]; rfl
      rw [hz] at h
      unfold Hm.push1 at h
      rw [if_neg (by decide)] at h
      exact .inl h
    | some x =>
      rw [hg] at h
      have hx := List.mem_of_getElem? hg
      unfold Sct.far at hx
      obtain ⟨m, hm, rfl⟩ := List.mem_map.1 hx
      have ⟨hm1, hm2⟩ := List.mem_filter.1 hm
      simp only [Bool.and_eq_true, decide_eq_true_eq] at hm2
      unfold Go.Proofs.Ytghefmppjdneoaa.all at hm1
      obtain ⟨y, _, hy⟩ := List.mem_filterMap.1 hm1
      have hs := (hf.sane y m hy).1
      have hd := (hf.dom y).1 (by rw [hy]; rfl)
      have hv := hw.v y m hy
      rcases push_f h with h1 | h1
      · exact .inl h1
      · refine .inr ?_
        rw [h1, show ((some m.n : Option Int).getD 0) = m.n from rfl, hs, getM_of hy]
        rcases hv.2 with e | ⟨e, e2⟩
        · omega
        · exact ⟨by rw [hs]; exact e, by omega, by omega, hv.1, e2⟩
theorem turn_exact (hf : Fit t i n) {k : Int} {m : Mem} (hm : t.v k = some m) (hs : m.s = 0) : (t.turn k 1).v k = some ⟨m.n, m.i, 1⟩ := by
  have ⟨s1, s2⟩ := hf.sane k m hm
  have hg := (Mem.good_iff m).1 s2
  have hG : (⟨m.n, m.i, 1⟩ : Mem).good = true := (Mem.good_iff _).2 ⟨hg.1, hg.2.1, hg.2.2.1, hg.2.2.2.1, by show (0 : Int) ≤ 1; omega, by show (1 : Int) ≤ 3; omega⟩
  have ht : takes t.v ⟨m.n, m.i, 1⟩ = true := by
    unfold takes
    rw [hG, Bool.true_and]
    show (match t.v m.n with | some was => _ | none => true) = true
    rw [show t.v m.n = some m by rw [s1]; exact hm]
    show (Mem.mk m.n m.i 1).above m = true
    exact (Mem.above_iff _ _).2 ⟨hG, s2, rfl, by unfold Mem.height; show m.i * 4 + m.s < m.i * 4 + 1; omega⟩
  unfold Sct.turn Sct.learn
  rw [getM_of hm, if_pos ht]
  show upd t.v ⟨m.n, m.i, 1⟩ k = _
  unfold upd
  rw [if_pos s1.symm]
theorem fin_tick (h : Std t i n) (hw : Wds t n S 7) {R : Nat} (hR : t.ticks = R) (hi : 1 ≤ i ∧ i ≤ n) (hn : n ≤ 6) (hSi : S i = false) (hg : t.ticks % 4 = 0 ∨ (0 < t.tgt → S t.tgt = false → t.got = true)) (d : Int) :
    Wds (t.tick d).1 n S 7 ∧ (∀ x ∈ (t.tick d).2, (∀ m ∈ x.rum, WordS n S m) ∧ x.rum.length ≤ 6) ∧ ∀ k, Oth n i k → pot (t.tick d).1 k < pot t k ∨ pot (t.tick d).1 k = 0 := by
  have hq : t.ticks + 1 = (R + 1 : Nat) := by rw [hR]; rfl
  have h' := h.later
  have hw' := hw.later
  have hend : ∀ (a : Sct), Fit a i n → Wds a n S 8 → (∀ k, Oth n i k → pot a k < pot t k ∨ pot a k = 0) → ∀ l, Wds (a.age.tell l).1 n S 7 ∧ (∀ x ∈ (a.age.tell l).2, (∀ m ∈ x.rum, WordS n S m) ∧ x.rum.length ≤ 6) ∧ ∀ k, Oth n i k → pot (a.age.tell l).1 k < pot t k ∨ pot (a.age.tell l).1 k = 0 := by
    intro a hf ha hp l
    obtain ⟨h1, h2, h3⟩ := fin_of hf ha hi hn hSi l
    refine ⟨h1, h2, fun k hk => ?_⟩
    have := h3 k hk
    rcases hp k hk with h4 | h4
    · exact .inl (by omega)
    · exact .inr (by omega)
  rcases (show (R + 1) % 4 = 1 ∨ (R + 1) % 4 = 2 ∨ (R + 1) % 4 = 3 ∨ (R + 1) % 4 = 0 by omega) with h1 | h1 | h1 | h1
  · rw [tick_1 h.left hq h1]
    have hF := (h'.fit.ask1 hi d).fit
    obtain ⟨a1, a2, a3, a4, a5, a6, a7, a8⟩ := ask1_facts { t with ticks := t.ticks + 1 } d
    obtain ⟨c1, c2, c3, c4, c5⟩ := choose_words h'.fit hw' d
    have hfar : ∀ k m, t.v k = some m → m.s = 0 → 1 ≤ k → k ≤ n → (Sct.choose { t with ticks := t.ticks + 1 } d).1 = k → ∃ r, t.nextLine d = k :: r := by
      intro k m hm hs hk1 hk2 he
      unfold Sct.choose at he
      split at he
      · unfold Sct.next at he
        have e : Sct.nextLine { t with ticks := t.ticks + 1 } d = t.nextLine d := rfl
        rw [e] at he
        cases hnl : t.nextLine d with
        | nil => rw [hnl] at he; have he : (0 : Int) = k := he; omega
        | cons x r => rw [hnl] at he; have he : x = k := he; exact ⟨r, by rw [he]⟩
      · have he : Sct.farAt { t with ticks := t.ticks + 1 } = k := he
        unfold Sct.farAt at he
        rw [List.getD_eq_getElem?_getD] at he
        cases hgg : (Sct.far { t with ticks := t.ticks + 1 })[(((Sct.round { t with ticks := t.ticks + 1 }).tdiv 4).tmod (Sct.far { t with ticks := t.ticks + 1 }).length).toNat]? with
        | none => rw [hgg] at he; have he : (0 : Int) = k := he; omega
        | some x =>
          rw [hgg] at he
          have he : x = k := he
          have hx := List.mem_of_getElem? hgg
          unfold Sct.far at hx
          obtain ⟨m', hm', rfl⟩ := List.mem_map.1 hx
          have ⟨hm1, hm2⟩ := List.mem_filter.1 hm'
          simp only [Bool.and_eq_true, decide_eq_true_eq] at hm2
          unfold Go.Proofs.Ytghefmppjdneoaa.all at hm1
          obtain ⟨y, _, hy⟩ := List.mem_filterMap.1 hm1
          have hy : t.v y = some m' := hy
          have hs' := (h.fit.sane y m' hy).1
          rw [← hs', he, hm] at hy
          cases hy
          omega
    have hline : (∃ x r, t.nextLine d = x :: r ∧ (Sct.choose { t with ticks := t.ticks + 1 } d).1 = x ∧ (Sct.choose { t with ticks := t.ticks + 1 } d).2.line = r) ∨ t.nextLine d = [] ∨ (R % 16 = 12 ∧ (Sct.choose { t with ticks := t.ticks + 1 } d).2.line = t.line) := by
      unfold Sct.choose
      split
      · unfold Sct.next
        have e : Sct.nextLine { t with ticks := t.ticks + 1 } d = t.nextLine d := rfl
        rw [e]
        cases hnl : t.nextLine d with
        | nil => exact .inr (.inl rfl)
        | cons x r => exact .inl ⟨x, r, rfl, rfl, rfl⟩
      · rename_i hc
        refine .inr (.inr ⟨?_, rfl⟩)
        have hr : Sct.round { t with ticks := t.ticks + 1 } = ((R / 4 + 1 : Nat) : Int) := by
          unfold Sct.round
          show (t.ticks + 1).tdiv 4 + 1 = _
          rw [hq, Int.tdiv_eq_ediv_of_nonneg (by omega)]
          omega
        rw [hr, Int.tmod_eq_emod_of_nonneg (by omega)] at hc
        have hc1 : ((R / 4 + 1 : Nat) : Int) % 4 = 0 := Classical.byContradiction fun e => hc (.inl e)
        omega
    refine hend _ hF ⟨by rw [a1, c1]; exact hw'.v, fun k r hr => ?_, by rw [a1, a3, a4, c1, c2, c3]; exact hw'.since⟩ (fun k hk => ?_) _
    · rw [a2] at hr
      rcases c5 k r hr with e | e
      · exact hw'.f k r e
      · exact e
    · obtain ⟨m, hm⟩ := Option.isSome_iff_exists.1 ((h.fit.dom k).2 ⟨hk.1, hk.2.1⟩)
      by_cases h0 : (t.getM k).s = 0
      · have hgA : (Sct.getM (Sct.ask1 { t with ticks := t.ticks + 1 } d).1 k).s = 0 := by
          unfold Sct.getM
          rw [a1, c1]
          exact h0
        have hs0 : m.s = 0 := by rw [getM_of hm] at h0; exact h0
        rw [pot_none hgA, pot_none h0, a7, a8, a4, c3]
        show (if _ ∧ false = false ∧ (t.ticks + 1) % 4 ≠ 0 then (12 - (t.ticks + 1) % 4).toNat else 12 + wn _ ((t.ticks + 1) % 16).toNat) < _ ∨ _
        rw [if_neg (c := t.tgt = k ∧ t.got = false ∧ t.ticks % 4 ≠ 0) (by omega)]
        refine .inl ?_
        obtain ⟨c, ec⟩ := cnt_pos t k
        by_cases hck : (Sct.choose { t with ticks := t.ticks + 1 } d).1 = k
        · rw [if_pos ⟨hck, rfl, by omega⟩]
          have := cnt_pos t k
          rw [ec]
          have : 1 ≤ wn (c + 1) (t.ticks % 16).toNat := by
            show 1 ≤ wq _ + _
            have : 1 ≤ wq (t.ticks % 16).toNat := by unfold wq; split; omega; split; omega; split; omega; omega
            omega
          omega
        · rw [if_neg fun e => hck e.1]
          rw [show (t.ticks % 16).toNat = R % 16 by omega, show ((t.ticks + 1) % 16).toNat = (R % 16 + 1) % 16 by omega]
          rcases hline with ⟨x, r, e1, e2, e3⟩ | e1 | ⟨e1, e2⟩
          · have hc1 : cnt (Sct.ask1 { t with ticks := t.ticks + 1 } d).1 k + 1 ≤ cnt t k := pot_next h.fit hi hn hk hm hs0 d e1 (fun e => hck (e2.trans e)) (a1.trans c1) (a5.trans c4) (a6.trans e3)
            rw [ec] at hc1 ⊢
            by_cases h12 : R % 16 = 12
            · have := wn_skip c (q := R % 16) (by omega) (by omega)
              have := wn_mono (show cnt (Sct.ask1 { t with ticks := t.ticks + 1 } d).1 k ≤ c + 1 by omega) ((R % 16 + 1) % 16)
              omega
            · have := wn_ask c (q := R % 16) (by omega)
              have := wn_mono (show cnt (Sct.ask1 { t with ticks := t.ticks + 1 } d).1 k ≤ c by omega) ((R % 16 + 1) % 16)
              have e16 : (R % 16 + 1) % 16 = R % 16 + 1 := by omega
              rw [e16] at this ⊢
              omega
          · -- somebody can be asked
            exfalso
            have hkp : k ∈ t.peers := (mem_peers_iff h.fit hn).2 ⟨hk.2.2, m, hm, by omega⟩
            unfold Sct.nextLine at e1
            split at e1
            · have := (mixR_perm t.peers d).length_eq
              rw [e1] at this
              have := List.length_pos_of_mem hkp
              simp at *
              omega
            · rename_i hne
              exact hne e1
          · have hc1 : cnt (Sct.ask1 { t with ticks := t.ticks + 1 } d).1 k ≤ cnt t k := by
              refine cnt_le (a6.trans e2) (fun x hx => ?_) ?_
              · unfold Sct.peers at hx ⊢
                rw [a1, a5, c1, c4] at hx
                exact hx
              · unfold Sct.peers
                rw [a1, a5, c1, c4]
                exact (mem_peers_iff h.fit hn).2 ⟨hk.2.2, m, hm, by omega⟩
            rw [ec] at hc1 ⊢
            have := wn_skip c (q := R % 16) (by omega) (by omega)
            have := wn_mono hc1 ((R % 16 + 1) % 16)
            omega
      · exact pot_kept h.fit hw ⟨hk.1, hk.2.1⟩ (by rw [a1, c1]) (by rw [a3, c2]) (by rw [a4, c3]) h0
  · rw [tick_2 h.left hq h1]
    exact hend _ h'.fit hw' (fun k hk => pot_later h.fit hw hR (by omega) ⟨hk.1, hk.2.1⟩) []
  · rw [tick_3 h.left hq h1]
    have hF := h'.fit.ask3.fit
    refine hend _ hF ?_ (fun k hk => ?_) _
    · unfold Sct.ask3
      dsimp only
      split
      · exact ⟨hw'.v, hw'.f, hw'.since⟩
      · exact hw'
    · have e : pot (Sct.ask3 { t with ticks := t.ticks + 1 }).1 k = pot { t with ticks := t.ticks + 1 } k := by
        unfold Sct.ask3
        dsimp only
        split <;> rfl
      rw [e]
      exact pot_later h.fit hw hR (by omega) ⟨hk.1, hk.2.1⟩
  · rw [tick_0 h.left hq h1]
    have hF := (h'.fit.ask0 hi).fit
    have hrz : Rz n S { t with ticks := t.ticks + 1 } (Sct.ask0 { t with ticks := t.ticks + 1 }) ∧ (Sct.ask0 { t with ticks := t.ticks + 1 }).line = t.line ∧ (Sct.ask0 { t with ticks := t.ticks + 1 }).tgt = t.tgt ∧ (Sct.ask0 { t with ticks := t.ticks + 1 }).got = t.got ∧ (∀ k m, t.tgt = k → t.got = false → 1 ≤ k → t.v k = some m → m.s = 0 → (Sct.ask0 { t with ticks := t.ticks + 1 }).v k = some ⟨m.n, m.i, 1⟩) := by
      have hA : Alike { t with ticks := t.ticks + 1 } (Sct.ask0 { t with ticks := t.ticks + 1 }) := by
        unfold Sct.ask0
        split
        · exact alike_learn _ _
        · exact Alike.refl _
      refine ⟨?_, hA.line, hA.tgt, hA.got, ?_⟩
      · unfold Sct.ask0
        split
        · rename_i hc
          have hwt : t.waits = true := hc.1
          unfold Sct.waits at hwt
          simp only [Bool.and_eq_true, decide_eq_true_eq, Bool.not_eq_true'] at hwt
          have hS : S t.tgt = true := by
            cases hq : S t.tgt with
            | true => rfl
            | false => have := hg.resolve_left (by omega) hwt.1 hq; rw [hwt.2] at this; cases this
          exact hw'.turn h'.fit hS ⟨by show 1 ≤ t.tgt; omega, h.tgt.2⟩ (.inl rfl)
        · exact Rz.refl _ _ _
      · intro k m e1 e2 e3 e4 e5
        have hwt : Sct.waits { t with ticks := t.ticks + 1 } = true := by
          unfold Sct.waits
          show (decide (0 < t.tgt) && !t.got) = true
          rw [e2, decide_eq_true (by omega)]
          rfl
        have hst : Sct.stateOf { t with ticks := t.ticks + 1 } t.tgt = 0 := by
          unfold Sct.stateOf
          show (match t.v t.tgt with | some m => m.s | none => 3) = 0
          rw [e1, e4]
          exact e5
        unfold Sct.ask0
        rw [if_pos ⟨hwt, hst⟩]
        have e6 := turn_exact h'.fit (k := t.tgt) (by rw [e1]; exact e4) e5
        rw [← e1]
        exact e6
    obtain ⟨r1, r2, r3, r4, r5⟩ := hrz
    have hwA := hw'.rz (by omega) r1
    refine hend _ hF hwA (fun k hk => ?_) []
    obtain ⟨m, hm⟩ := Option.isSome_iff_exists.1 ((h.fit.dom k).2 ⟨hk.1, hk.2.1⟩)
    rcases r1.v k with ⟨e1, e2⟩ | ⟨m', s, e1, e2, e3, _, e5, e6⟩
    · by_cases h0 : (t.getM k).s = 0
      · have hs0 : m.s = 0 := by rw [getM_of hm] at h0; exact h0
        have hgA : (Sct.getM (Sct.ask0 { t with ticks := t.ticks + 1 }) k).s = 0 := by
          unfold Sct.getM
          rw [e1]
          exact h0
        rw [pot_none hgA, pot_none h0, r1.ticks]
        show (if _ ∧ _ ∧ (t.ticks + 1) % 4 ≠ 0 then (12 - (t.ticks + 1) % 4).toNat else 12 + wn _ ((t.ticks + 1) % 16).toNat) < _ ∨ _
        rw [if_neg (by omega), if_neg]
        · refine .inl ?_
          have hc1 : cnt (Sct.ask0 { t with ticks := t.ticks + 1 }) k ≤ cnt t k := by
            refine cnt_le r2 (fun x hx => peers_rz h'.fit hF hn r1 x hx) ?_
            exact (mem_peers_iff hF hn).2 ⟨hk.2.2, m, e1.trans hm, by omega⟩
          obtain ⟨c, ec⟩ := cnt_pos t k
          rw [ec] at hc1 ⊢
          rw [show (t.ticks % 16).toNat = R % 16 by omega, show ((t.ticks + 1) % 16).toNat = (R % 16 + 1) % 16 by omega]
          have := wn_skip c (q := R % 16) (by omega) (by omega)
          have := wn_mono hc1 ((R % 16 + 1) % 16)
          omega
        · rintro ⟨q1, q2, _⟩
          have := r5 k m q1 q2 hk.1 hm hs0
          rw [e1, show ({ t with ticks := t.ticks + 1 } : Sct).v k = t.v k from rfl, hm] at this
          injection this with this
          have := congrArg Mem.s this
          have h1 : m.s = 1 := this
          omega
      · exact pot_kept h.fit hw ⟨hk.1, hk.2.1⟩ e1 e2 r1.ticks h0
    · have e1 : t.v k = some m' := e1
      rcases e3 with rfl | rfl
      · have h0 : m'.s = 0 := by rcases (hw.v k m' e1).2 with e0 | ⟨_, e0 | e0⟩ <;> omega
        rw [pot_one (by rw [getM_of e5]), pot_none (by rw [getM_of e1]; exact h0), e6 rfl, r1.ticks]
        refine .inl ?_
        show (8 - (t.ticks + 1 - (t.ticks + 1))).toNat < _
        rw [Int.sub_self]
        split
        · have := Int.emod_lt_of_pos t.ticks (show (0 : Int) < 4 by omega)
          omega
        · omega
      · exact .inr (pot_two (by rw [getM_of e5]))
end
end Go.Proofs.Ytghefmppjdneoaa
