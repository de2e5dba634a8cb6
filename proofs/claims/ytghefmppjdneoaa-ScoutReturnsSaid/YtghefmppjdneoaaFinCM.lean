/- Layer 12, the plain law of camps: a frame comes, whatever it tells. -/
import Derived.Test.YtghefmppjdneoaaFinBM
namespace Go.Proofs.Ytghefmppjdneoaa
open Go.Proofs Stab Go.Shelf Go.RowKit Go.Lib Go.Sort Go.Maps

/-- what a frame makes of a scout -/
structure Heard (t u : Sct) (x : Fr) (l : List Fr) (i n : Int) : Prop where
  std : Std u i n
  ticks : u.ticks = t.ticks
  tgt : u.tgt = t.tgt
  seq : u.seq = t.seq
  line : u.line = t.line
  got : u.got = t.got ∨ (u.got = true ∧ x.kind = 2 ∧ x.seq = t.seq ∧ x.node = t.tgt)
  hit : x.kind = 2 → x.frm = t.tgt → x.seq = t.seq → x.node = t.tgt → u.got = true
  fr : ∀ y ∈ l, FrOk n y ∧ y.frm = i ∧ (y.kind = 2 → y.node = i ∨ (x.kind = 2 ∧ y.node = x.frm))
  ans : x.kind = 1 → ∃ y ∈ l, y.to_ = x.frm ∧ y.kind = 2 ∧ y.seq = x.seq ∧ y.node = i
  wts : wts l + u.rel.length + 1 ≤ wt x + t.rel.length
section
variable {t : Sct} {i n : Int}
theorem isNode_of {x : Int} (h : Fit t i n) (ho : Oth n i x) : t.isNode x = true := by
  unfold Sct.isNode
  unfold Oth at ho
  rw [h.neq, h.meq]
  simp [ho]
theorem of_isNode {x : Int} (h : Fit t i n) (ho : t.isNode x = true) : Oth n i x := by
  unfold Sct.isNode at ho
  rw [h.neq, h.meq] at ho
  simp only [Bool.and_eq_true, decide_eq_true_eq, Bool.not_eq_true', decide_eq_false_iff_not] at ho
  exact ⟨ho.1.1, ho.1.2, ho.2⟩
theorem Std.harked (h : Std t i n) (x : Fr) : Std (Go.Proofs.Ytghefmppjdneoaa.heard t x) i n := by
  refine h.alike (alike_heard t x) ?_
  unfold Go.Proofs.Ytghefmppjdneoaa.heard
  have h1 : Onw t (if (t.getM x.frm).s ≠ 0 then { t with f := Hm.push1 5 t.f (t.getM x.frm) } else t) i n := by
    split
    · exact Onw.congr h.fit rfl rfl rfl rfl rfl
    · exact Onw.refl h.fit
  exact (onw_foldl Sct.rumour (fun t a ht => ht.rumour a) x.rum h1.fit).fit
theorem filter_two {α : Type} (p : α → Bool) (l : List α) : (l.filter p).length + (l.filter fun x => !p x).length = l.length := by
  induction l with
  | nil => rfl
  | cons a l ih =>
    rw [List.filter_cons, List.filter_cons]
    cases p a
    · simp only [Bool.false_eq_true, if_false, Bool.not_false, if_true, List.length_cons]; omega
    · simp only [if_true, Bool.not_true, Bool.false_eq_true, if_false, List.length_cons]; omega
theorem Std.hear (h : Std t i n) (hi : 1 ≤ i ∧ i ≤ n) {x : Fr} (hx : FrOk n x) (hto : x.to_ = i) : Heard t (t.hear x).1 x (t.hear x).2 i n := by
  have hfo : Oth n i x.frm := by rw [← hto]; exact hx.frm
  have hk : t.hear x = hearK (Go.Proofs.Ytghefmppjdneoaa.heard t x) x := hear_eq t x (isNode_of h.fit hfo)
  have hS := h.harked x
  have hA := alike_heard t x
  obtain ⟨u, hu⟩ : ∃ u, u = Go.Proofs.Ytghefmppjdneoaa.heard t x := ⟨_, rfl⟩
  rw [hk]
  rw [← hu] at hS hA ⊢
  have hl : u.left = false := hS.left
  clear hk hu
  rcases hx.kind with h1 | h1 | h1
  · rw [hearK_1 hl h1]
    have hT := alike_tell u [⟨x.frm, 2, 0, x.seq, u.me, []⟩]
    have hB := hA.trans hT
    refine ⟨hS.alike hT (hS.fit.tell _).fit, hB.ticks, hB.tgt, hB.seq, hB.line, .inl hB.got, fun h2 => by omega, fun y hy => ?_, fun _ => ?_, ?_⟩
    · obtain ⟨⟨z, hz, e⟩, hf⟩ := told_of hy
      rw [hS.fit.meq] at hf
      rw [List.mem_singleton.1 hz] at e
      exact ⟨frok_of hi hfo (.inr (.inl rfl)) e hf, hf, fun _ => .inl ((fld_eq e).2.2.2.trans hS.fit.meq)⟩
    · obtain ⟨y, hy, e⟩ := told_for (t := u) (l := [⟨x.frm, 2, 0, x.seq, u.me, []⟩]) (List.mem_singleton.2 rfl)
      have ⟨f1, f2, f3, f4⟩ := fld_eq e
      exact ⟨y, hy, f1, f2, f3, f4.trans hS.fit.meq⟩
    · rw [told_wts, hB.rel]
      unfold wt
      rw [if_pos h1]
      show Go.Proofs.Ytghefmppjdneoaa.wts [(⟨x.frm, 2, 0, x.seq, u.me, []⟩ : Fr)] + t.rel.length + 1 ≤ 2 + t.rel.length
      rw [show Go.Proofs.Ytghefmppjdneoaa.wts [(⟨x.frm, 2, 0, x.seq, u.me, []⟩ : Fr)] = 1 from rfl]
      omega
  · rw [hearK_2 hl h1]
    have hout : (u.ack x).2 = (u.rel.filter (Sct.mine x)).map fun r => ⟨r.org, 2, 0, r.was, x.frm, []⟩ := by
      unfold Sct.ack
      dsimp only
      split <;> rfl
    have hrel : (u.ack x).1.rel = u.rel.filter fun r => !Sct.mine x r := by
      unfold Sct.ack
      dsimp only
      split <;> rfl
    have hsame : (u.ack x).1.ticks = u.ticks ∧ (u.ack x).1.tgt = u.tgt ∧ (u.ack x).1.seq = u.seq ∧ (u.ack x).1.line = u.line ∧ (u.ack x).1.help = u.help ∧ (u.ack x).1.me = u.me ∧ (u.ack x).1.nodes = u.nodes ∧ (u.ack x).1.v = u.v ∧ (u.ack x).1.left = u.left := by
      unfold Sct.ack
      dsimp only
      split <;> exact ⟨rfl, rfl, rfl, rfl, rfl, rfl, rfl, rfl, rfl⟩
    obtain ⟨s1, s2, s3, s4, s5, s6, s7, s8, s9⟩ := hsame
    have hgot : (u.ack x).1.got = u.got ∨ ((u.ack x).1.got = true ∧ x.seq = u.seq ∧ x.node = u.tgt) := by
      unfold Sct.ack
      dsimp only
      split
      · rename_i hc
        exact .inr ⟨rfl, hc.2.1, hc.2.2.1⟩
      · exact .inl rfl
    have hhit : x.frm = u.tgt → x.seq = u.seq → x.node = u.tgt → (u.ack x).1.got = true := by
      intro a1 a2 a3
      unfold Sct.ack
      dsimp only
      rw [if_pos ⟨by unfold Oth at hfo; omega, a2, a3, .inl a1⟩]
    have hSk : Std (u.ack x).1 i n := ⟨hS.fit.congr s6 s7 s8 s9 (by rw [s2]; exact hS.fit.tgt), s9.trans hl, by rw [s2]; exact hS.tgt, by rw [s5]; exact hS.help, by rw [s5]; exact hS.hlen, by rw [s4]; exact hS.line, by rw [s4]; exact hS.llen, by rw [hrel]; exact fun r hr => hS.rel r (List.mem_filter.1 hr).1, by rw [hrel]; exact Nat.le_trans (List.length_filter_le _ _) hS.rlen⟩
    have hT := alike_tell (u.ack x).1 (u.ack x).2
    refine ⟨hSk.alike hT (hSk.fit.tell _).fit, hT.ticks.trans (s1.trans hA.ticks), hT.tgt.trans (s2.trans hA.tgt), hT.seq.trans (s3.trans hA.seq), hT.line.trans (s4.trans hA.line), ?_, fun _ a1 a2 a3 => ?_, fun y hy => ?_, fun h2 => by omega, ?_⟩
    · rw [hT.got]
      rcases hgot with e | ⟨e1, e2, e3⟩
      · exact .inl (e.trans hA.got)
      · exact .inr ⟨e1, h1, e2.trans hA.seq, e3.trans hA.tgt⟩
    · rw [hT.got]
      exact hhit (a1.trans hA.tgt.symm) (a2.trans hA.seq.symm) (a3.trans hA.tgt.symm)
    · obtain ⟨⟨z, hz, e⟩, hf⟩ := told_of hy
      rw [hSk.fit.meq] at hf
      rw [hout] at hz
      obtain ⟨r, hr, rfl⟩ := List.mem_map.1 hz
      have ho := (hS.rel r (List.mem_filter.1 hr).1).2
      exact ⟨frok_of hi ho (.inr (.inl rfl)) e hf, hf, fun _ => .inr ⟨h1, (fld_eq e).2.2.2⟩⟩
    · rw [told_wts, hT.rel, hrel, hout]
      unfold Go.Proofs.Ytghefmppjdneoaa.wts
      rw [List.map_map, show (wt ∘ fun r : Rel => (⟨r.org, 2, 0, r.was, x.frm, []⟩ : Fr)) = fun _ => 1 from rfl, List.map_const', List.sum_replicate_nat]
      have h2 := filter_two (Sct.mine x) u.rel
      rw [hA.rel] at h2 ⊢
      unfold wt
      rw [if_neg (by omega), if_neg (by omega)]
      omega
  · rw [hearK_3 hl h1]
    have hT := alike_tell (u.ask x).1 (u.ask x).2
    have hK : Std (u.ask x).1 i n ∧ (u.ask x).1.ticks = u.ticks ∧ (u.ask x).1.tgt = u.tgt ∧ (u.ask x).1.seq = u.seq ∧ (u.ask x).1.line = u.line ∧ (u.ask x).1.got = u.got ∧ (∀ y ∈ (u.ask x).2, Oth n i y.to_ ∧ y.kind = 1) ∧ Go.Proofs.Ytghefmppjdneoaa.wts (u.ask x).2 + (u.ask x).1.rel.length ≤ 3 + u.rel.length := by
      unfold Sct.ask
      split
      · exact ⟨hS, rfl, rfl, rfl, rfl, rfl, fun y hy => (by cases hy), by show 0 + u.rel.length ≤ _; omega⟩
      · rename_i hc
        have hn : u.isNode x.node = true := by
          cases hq : u.isNode x.node with
          | true => rfl
          | false => exact absurd (.inl hq) hc
        have ho := of_isNode hS.fit hn
        refine ⟨⟨hS.fit.congr rfl rfl rfl rfl hS.fit.tgt, hl, hS.tgt, hS.help, hS.hlen, hS.line, hS.llen, fun r hr => ?_, ?_⟩, rfl, rfl, rfl, rfl, rfl, fun y hy => ?_, ?_⟩
        · rcases List.mem_append.1 (List.mem_of_mem_drop hr) with hr | hr
          · exact hS.rel r hr
          · rw [List.mem_singleton.1 hr]
            exact ⟨ho, hfo⟩
        · show ((u.rel ++ _).drop _).length ≤ 16
          rw [List.length_drop]
          omega
        · rw [List.mem_singleton.1 hy]
          exact ⟨ho, rfl⟩
        · show 2 + ((u.rel ++ _).drop _).length ≤ _
          rw [List.length_drop, List.length_append, List.length_singleton]
          omega
    obtain ⟨hSk, s1, s2, s3, s4, s5, s6, s7⟩ := hK
    refine ⟨hSk.alike hT (hSk.fit.tell _).fit, hT.ticks.trans (s1.trans hA.ticks), hT.tgt.trans (s2.trans hA.tgt), hT.seq.trans (s3.trans hA.seq), hT.line.trans (s4.trans hA.line), .inl (hT.got.trans (s5.trans hA.got)), fun h2 => by omega, fun y hy => ?_, fun h2 => by omega, ?_⟩
    · obtain ⟨⟨z, hz, e⟩, hf⟩ := told_of hy
      rw [hSk.fit.meq] at hf
      have ⟨z1, z2⟩ := s6 z hz
      exact ⟨frok_of hi z1 (.inl z2) e hf, hf, fun hk2 => by have := (fld_eq e).2.1; omega⟩
    · rw [told_wts, hT.rel, ← hA.rel]
      unfold wt
      rw [if_neg (by omega), if_pos h1]
      omega
end
end Go.Proofs.Ytghefmppjdneoaa
