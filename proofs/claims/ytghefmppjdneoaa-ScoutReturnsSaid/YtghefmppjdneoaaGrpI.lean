/- Layer 12, the texts ScL to ScR joined: what the functions that a scout reaches do with memory, each told once. -/
import Derived.Test.YtghefmppjdneoaaGrpH
namespace Go.Proofs.Ytghefmppjdneoaa
open Go.Proofs Stab Go.Shelf Go.RowKit Go.Lib Go.Sort Go.Maps

theorem IRow.tail {w : World} {g off c : Nat} {x : Int} {r : List Int} (h : IRow w (some ⟨g, off, none⟩) c (x :: r)) : IRow w (some ⟨g, off + 1, none⟩) (c - 1) r := by
  rcases h with ⟨h, _⟩ | ⟨g', off', cs, h0, h1, h2, h3, h4, h5⟩
  · cases h
  · injection h0 with h0
    injection h0 with e1 e2
    subst e1
    subst e2
    simp only [List.length_cons] at h2 h4
    refine .inr ⟨g, off + 1, cs, rfl, h1, ?_, by omega, by omega, by omega⟩
    have h6 := congrArg List.tail h2
    rw [← List.drop_one, List.drop_take, List.drop_drop, Nat.add_sub_cancel] at h6
    exact h6
theorem IRow.nul {w : World} {g off c : Nat} {l : List Int} (h : IRow w (some ⟨g, off, none⟩) c l) : IRow w (some ⟨g, off, none⟩) 0 [] := by
  rcases h with ⟨h, _⟩ | ⟨g', off', cs, h0, h1, h2, h3, h4, h5⟩
  · cases h
  · injection h0 with h0
    injection h0 with e1 e2
    subst e1
    subst e2
    exact .inr ⟨g, off, cs, rfl, h1, rfl, by omega, Nat.le_refl _, Nat.zero_le _⟩
section
variable {H : Type} {w w' : World} {O : Nat → Prop} {M : Nat} {b : Blk} {t : Sct}
theorem ScAt.lineGrew (h : ScAt H w O M b t) {W : World} {A : Option Addr} {c : Nat} {l : List Int} (hk : Keeps (fun i => i ≠ b.s ∧ blkOf b.lA ≠ some i) w W) (ha : At W b.s 79 ((scC b t).set 10 (.slice A l.length c))) (hr : IRow W A c l) (hA : ∀ g, blkOf A = some g → blkOf b.lA = some g ∨ w.heap.size ≤ g) (hl : l.length ≤ 6) : Grew H w W O M b.s { t with line := l } :=
  ⟨{ b with lA := A, lc := c }, _, rfl, h.lined (A := A) (c := c) (l := l) hk ha hr hA hl, fun _ hi => hi, hk.mono fun _ hi => ⟨fun e => hi (h.own _ (mem_list.2 (.inl e))), fun e => hi (h.own _ (mem_list.2 (.inr (.inr (.inr (.inr (.inr (.inl e))))))))⟩⟩
set_option maxRecDepth 100000 in
theorem next_any (h : ScAt H w O M b t) (d : Int) (hd : -9223372036854775808 ≤ d ∧ d ≤ 9223372036854775807) : Calls Try.prog 46 #[.pointer (some ⟨b.s, 0, none⟩), .int .i64 d] w fun e w' => e = .returned (.int .i64 (t.next d).1) ∧ Grew H w w' O M b.s (t.next d).2 := by
  have HFin := Lib.hid (fun W A c l => h.lineGrew (W := W) (A := A) (c := c) (l := l))
  have HP := Lib.hid (peers_any h)
  have HLn := Lib.hid h.line
  have HLl := Lib.hid h.lim.line
  have c10 := h.cell (i := 10) (v := .slice b.lA t.line.length b.lc) rfl
  have HH := Lib.hid h.hd
  have HD := Lib.hid hd
  have hsl := h.hd.lt
  have HNe := Lib.hid (show ∀ g, blkOf b.lA = some g → g ≠ b.s ∧ g < w.heap.size from fun g hg => ⟨((Blk.ne h.dis).2.2.2.2.2.2.2.1 g hg).1, h.lt (mem_list.2 (.inr (.inr (.inr (.inr (.inr (.inl hg)))))))⟩)
  obtain ⟨cs, hcs⟩ : ∃ cs, cs = scC b t := ⟨_, rfl⟩
  have HCL := Lib.hid (show cs.length = 14 by rw [hcs]; rfl)
  obtain ⟨P, hP⟩ : ∃ P, P = t.peers := ⟨_, rfl⟩
  have HPL := Lib.hid (peers_len t)
  have HN := Lib.hid (show t.nextLine d = if (t.line.filter fun n => decide (n ∈ P)) = [] then mixR P d else t.line.filter fun n => decide (n ∈ P) by rw [hP]; rfl)
  have HNx := Lib.hid (show t.next d = match t.nextLine d with | [] => (0, { t with line := [] }) | x :: r => (x, { t with line := r }) from rfl)
  obtain ⟨s, hs⟩ : ∃ s, s = b.s := ⟨_, rfl⟩
  obtain ⟨lA, hlA⟩ : ∃ lA, lA = b.lA := ⟨_, rfl⟩
  obtain ⟨lc, hlc⟩ : ∃ lc, lc = b.lc := ⟨_, rfl⟩
  obtain ⟨ln, hln⟩ : ∃ ln, ln = t.line := ⟨_, rfl⟩
  obtain ⟨n, hn⟩ : ∃ n, n = ln.length := ⟨_, rfl⟩
  rw [← hs, ← hlA, ← hcs] at HFin
  rw [← hs, ← hP] at HP
  rw [← hlA, ← hlc, ← hln] at HLn
  rw [← hln, ← hn] at HLl
  rw [← hs, ← hlA, ← hlc, ← hln, ← hn] at c10
  rw [← hs, ← hcs] at HH
  rw [← hs] at hsl
  rw [← hs, ← hlA] at HNe
  rw [← hP] at HPL
  rw [← hln] at HN
  have HNn := Lib.hid hn
  rw [← hs]
  clear h hd hcs hP hs hlA hlc hln hn
  go_enter Try.func46, Try.ntmps46
  go_wp2_with fail
  refine HP.out.mono ?_
  rintro e w1 ⟨A0, c0, rfl, hR0, hlo0, hb1⟩
  have c10' : w1.cell? ⟨s, 10, none⟩ = some (.slice lA n lc) := (World.cell?_of_block (hb1.block s hsl)).trans c10
  have hs1 : s < w1.heap.size := Nat.lt_of_lt_of_le hsl hb1.size
  obtain ⟨k, hk⟩ : ∃ k, k = P.length := ⟨_, rfl⟩
  have HK := Lib.hid hk
  rw [← hk]
  have HR0 := Lib.hid hR0
  have HLO := Lib.hid hlo0
  have HB1 := Lib.hid hb1
  clear hR0 hlo0 hb1 HP c10 hk hsl
  go_wp2_with fail
  have hbW : Below w.heap.size w (w1.alloc (.cells #[.slice A0 k c0] 23)) := HB1.out.alloc HB1.out.size _
  have hb1W : Below w1.heap.size w1 (w1.alloc (.cells #[.slice A0 k c0] 23)) := (Below.refl _ _).alloc (Nat.le_refl _) _
  have hAq : At (w1.alloc (.cells #[.slice A0 k c0] 23)) w1.heap.size 23 [.slice A0 k c0] := At.newA _ _ rfl
  obtain ⟨W1, hW1⟩ : ∃ W1, W1 = w1.alloc (.cells #[.slice A0 k c0] 23) := ⟨_, rfl⟩
  rw [← hW1] at hbW hb1W hAq ⊢
  obtain ⟨q, hq⟩ : ∃ q, q = w1.heap.size := ⟨_, rfl⟩
  rw [← hq] at hAq hs1 ⊢
  have hqw : w.heap.size ≤ q := by rw [hq]; exact HB1.out.size
  have HRL := Lib.hid (HLn.out.keep fun g off e => hbW.block g (HLn.out.lt e))
  have HRP := Lib.hid (HR0.out.keep fun g off e => hb1W.block g (HR0.out.lt e))
  have HBW := Lib.hid hbW
  have HQ := Lib.hid hAq
  have hqW := hAq.lt
  have HC := Lib.hid ((World.cell?_of_block (hb1W.block s (by omega))).trans c10')
  clear hbW hb1W hAq hW1 hq c10'
  have hd := del_row (fun x => !decide (x ∈ P)) 64 #[.pointer (some ⟨q, 0, none⟩)] eg_next1 HRL.out (by have := HLl.out; have := HNn.out; omega) fun x W hW =>
    next1_any x ((World.cell?_of_block (hW.block q hqW fun e => by have := (HNe.out q e.symm).2; omega)).trans (by rw [← HK.out]; exact HQ.out.cell' rfl)) (HRP.out.keep fun g off e => hW.block g (HRP.out.lt e) fun e2 => by have := (HNe.out g e2.symm).2; have := HLO.out g (blk_some e); omega) (by have := HPL.out; omega)
  rw [show (ln.filter fun x => !(!decide (x ∈ P))) = ln.filter fun x => decide (x ∈ P) from List.filter_congr fun x _ => by rw [Bool.not_not], ← HNn.out] at hd
  refine hd.mono ?_
  clear hd
  rintro e w2 ⟨rfl, hR2, hg2⟩
  obtain ⟨L1, hL1⟩ : ∃ L1, L1 = ln.filter fun x => decide (x ∈ P) := ⟨_, rfl⟩
  rw [← hL1] at hR2 HN ⊢
  have HL1 := Lib.hid (show L1.length ≤ 6 from by rw [hL1]; have := List.length_filter_le (fun x => decide (x ∈ P)) ln; have := HLl.out; have := HNn.out; omega)
  have HG2 := Lib.hid hg2
  have hnl : some s ≠ blkOf lA := fun e => (HNe.out s e.symm).1 rfl
  have hnq : some q ≠ blkOf lA := fun e => by have := (HNe.out q e.symm).2; omega
  have hH2 : At w2 s 79 cs := (HH.out.below HBW.out (Nat.lt_of_lt_of_le HH.out.lt (Nat.le_refl _))).grown hg2 hnl
  have f10 := hH2.frozen 10
  have c10 := (World.cell?_of_block (hg2.block s (Nat.lt_of_lt_of_le HH.out.lt HBW.out.size) hnl)).trans HC.out
  have cq : w2.cell? ⟨q, 0, none⟩ = some (.slice A0 k c0) := (HQ.out.grown hg2 hnq).cell' rfl
  have hq2 := (HQ.out.grown hg2 hnq).lt
  have hs2 := hH2.lt
  have hsq : s ≠ q := by omega
  have HK2 := Lib.hid (show Keeps (fun i => i ≠ s ∧ blkOf lA ≠ some i) w w2 from (Keeps.ofBelow HBW.out).trans (Keeps.grown hg2 fun k hk hK => hK.2 hk))
  have HH2 := Lib.hid hH2
  clear hL1 hH2 hg2
  have ht : ∀ x r A c W, t.nextLine d = x :: r → Keeps (fun i => i ≠ s ∧ blkOf lA ≠ some i) w W → At W s 79 (cs.set 10 (.slice A r.length c)) → IRow W A c r → (∀ g, blkOf A = some g → blkOf lA = some g ∨ w.heap.size ≤ g) → r.length ≤ 6 → Value.int .i64 x = .int .i64 (t.next d).1 ∧ Grew H w W O M s (t.next d).2 := fun x r A c W e hk ha hr hA hl => by
    rw [HNx.out, e]
    exact ⟨rfl, HFin.out W A c r hk ha hr hA hl⟩
  have HT := Lib.hid ht
  clear ht
  have HW := Lib.hid (show ∀ v v', Keeps (fun i => i ≠ s ∧ blkOf lA ≠ some i) w ((w2.setCell ⟨s, 10, none⟩ v).setCell ⟨s, 10, none⟩ v') ∧ At ((w2.setCell ⟨s, 10, none⟩ v).setCell ⟨s, 10, none⟩ v') s 79 (cs.set 10 v') ∧ ∀ A c l, IRow w2 A c l → (∀ g, blkOf A = some g → g ≠ s) → IRow ((w2.setCell ⟨s, 10, none⟩ v).setCell ⟨s, 10, none⟩ v') A c l from fun v v' => by
    have hg : w2.grownBy ((w2.setCell ⟨s, 10, none⟩ v).setCell ⟨s, 10, none⟩ v') (some s) := grown_setCell (grown_setCell (World.grownBy.refl _ _) (.inl rfl) _) (.inl rfl) _
    refine ⟨HK2.out.trans (Keeps.ofGrown hg fun e => e.1 rfl), ?_, fun A c l hr hA => hr.keep fun g off e => hg.block g (hr.lt e) fun e2 => hA g (blk_some e) (Option.some.inj e2)⟩
    have := (HH2.out.set 10 v).set 10 v'
    rwa [List.set_set] at this)
  cases hL : L1 with
  | cons x r =>
    rw [hL] at hR2 HN HL1
    have HE := Lib.hid (show t.nextLine d = x :: r from by rw [HN.out, if_neg (by simp)])
    clear hL
    have hR3 := hR2
    rcases hR3 with ⟨_, h, _⟩ | ⟨g, off, cs', rfl, _⟩
    · cases h
    have cx : w2.cell? ⟨g, off, none⟩ = some (.int .i64 x) := (hR2.cell (i := 0) (by simp)).1
    have hgs : g ≠ s := (HNe.out g rfl).1
    have HR2 := Lib.hid hR2
    obtain ⟨m, hm⟩ : ∃ m, m = r.length := ⟨_, rfl⟩
    have hm6 : m ≤ 5 := by have := HL1.out; simp only [List.length_cons] at this; omega
    have hlc : m + 1 ≤ lc := by
      rcases hR2 with ⟨h, _⟩ | ⟨_, _, _, _, _, _, _, h, _⟩
      · cases h
      · simp only [List.length_cons] at h; omega
    rw [List.length_cons, ← hm]
    have HM := Lib.hid hm
    clear hR2 hm
    by_cases hl1 : lc = 1
    · subst hl1
      obtain rfl : m = 0 := by omega
      obtain rfl : r = [] := List.length_eq_zero_iff.1 HM.out.symm
      go_wp2_with fail
      go_ret
      obtain ⟨k1, k2, k3⟩ := HW.out (.slice (some ⟨g, off, none⟩) 1 1) (.slice (some ⟨g, off, none⟩) 0 0)
      obtain ⟨e, hG⟩ := HT.out x [] (some ⟨g, off, none⟩) 0 _ HE.out k1 k2 (k3 _ _ _ HR2.out.nul fun g' hg' => by cases hg'; exact hgs) (fun g' hg' => .inl hg') (Nat.zero_le _)
      exact ⟨congrArg Ending.returned e, hG⟩
    · go_wp2_with fail
      go_ret
      obtain ⟨k1, k2, k3⟩ := HW.out (.slice (some ⟨g, off, none⟩) (m + 1) lc) (.slice (some ⟨g, off + 1, none⟩) m (lc - 1))
      obtain ⟨e, hG⟩ := HT.out x r (some ⟨g, off + 1, none⟩) (lc - 1) _ HE.out k1 (by rw [← HM.out]; exact k2) (k3 _ _ _ HR2.out.tail fun g' hg' => by cases hg'; exact hgs) (fun g' hg' => .inl hg') (by rw [← HM.out]; omega)
      exact ⟨congrArg Ending.returned e, hG⟩
  | nil =>
    rw [hL] at hR2 HN HL1
    have HE := Lib.hid (show t.nextLine d = mixR P d from by rw [HN.out, if_pos rfl])
    clear hL
    have HR2 := Lib.hid hR2
    clear hR2
    rw [List.length_nil]
    cases hP : P with
    | nil =>
      rw [hP] at HE
      obtain rfl : k = 0 := by rw [HK.out, hP]; rfl
      have hmn : mixR [] d = [] := rfl
      rw [hmn] at HE
      have HR := Lib.hid (show IRow w2 A0 c0 [] from by rw [← hP]; exact HRP.out.keep fun g off e => HG2.out.block g (HRP.out.lt e) fun e2 => by have := (HNe.out g e2.symm).2; have := HLO.out g (blk_some e); omega)
      go_wp2_with fail
      refine (mixed_none c0 A0 d _).mono ?_
      rintro e w3 ⟨rfl, rfl⟩
      go_wp2_with fail
      go_ret
      obtain ⟨k1, k2, k3⟩ := HW.out (.slice lA 0 lc) (.slice A0 0 c0)
      refine ⟨?_, ?_⟩
      · rw [HNx.out, HE.out]; rfl
      · rw [HNx.out, HE.out]
        exact HFin.out _ A0 c0 [] k1 k2 (k3 _ _ _ HR.out fun g hg => by have := HLO.out g hg; have := HH.out.lt; omega) (fun g hg => .inr (HLO.out g hg)) (Nat.zero_le _)
    | cons y u =>
      have hk0 : 0 < k := by rw [HK.out, hP]; simp
      obtain ⟨g0, off0, rfl⟩ : ∃ g0 off0, A0 = some ⟨g0, off0, none⟩ := by
        rcases HR0.out with ⟨_, h, _⟩ | ⟨g, o, _, h, _⟩
        · rw [hP] at h; cases h
        · exact ⟨g, o, h⟩
      have hgw := HLO.out g0 rfl
      have hgs : g0 ≠ s := by have := HH.out.lt; omega
      have hgl : some g0 ≠ blkOf lA := fun e => by have := (HNe.out g0 e.symm).2; omega
      have hgr : w2.grownBy (w2.setCell ⟨s, 10, none⟩ (.slice lA 0 lc)) (some s) := grown_setCell (World.grownBy.refl _ _) (.inl rfl) _
      have HR := Lib.hid (show IRow (w2.setCell ⟨s, 10, none⟩ (.slice lA 0 lc)) (some ⟨g0, off0, none⟩) c0 P from (HRP.out.keep fun g off e => HG2.out.block g (HRP.out.lt e) (by cases e; exact hgl)).keep fun g off e => hgr.block g (by cases e; exact Nat.lt_of_lt_of_le (HRP.out.lt rfl) HG2.out.size) (by cases e; intro e2; exact hgs (Option.some.inj e2)))
      have HH3 := Lib.hid (HH2.out.set 10 (.slice lA 0 lc))
      have HK3 := Lib.hid (HK2.out.trans (Keeps.ofGrown (A := fun i => i ≠ s ∧ blkOf lA ≠ some i) hgr fun e => e.1 rfl))
      clear hgr
      go_wp2_with fail
      have hm := mixed_any d HR.out (by rw [← HK.out]; exact hk0) (by have := HPL.out; omega) HD.out
      rw [← HK.out] at hm
      refine hm.mono ?_
      clear hm
      rintro e w4 ⟨rfl, hR4, hg4⟩
      have hl4 : (mixR P d).length = k := by rw [HK.out]; exact (mixR_perm P d).length_eq
      have hH4 := HH3.out.grown hg4 (fun e => hgs (Option.some.inj e).symm)
      have c4 : w4.cell? ⟨s, 10, none⟩ = some (.slice lA 0 lc) := hH4.cell' (by rw [List.getElem?_set_self (by rw [HCL.out]; decide)])
      have f4 := hH4.frozen 10
      have s4 := hH4.lt
      have hK4 : Keeps (fun i => i ≠ s ∧ blkOf lA ≠ some i) w w4 := ⟨hg4.os.trans HK3.out.os, hg4.tape.trans HK3.out.tape, hg4.output.trans HK3.out.output, Nat.le_trans HK3.out.size hg4.size, fun i hi hl => (hg4.block i (Nat.lt_of_lt_of_le hl HK3.out.size) (fun e => by cases e; omega)).trans (HK3.out.block i hi hl)⟩
      have HW4 := Lib.hid (show ∀ v v', Keeps (fun i => i ≠ s ∧ blkOf lA ≠ some i) w ((w4.setCell ⟨s, 10, none⟩ v).setCell ⟨s, 10, none⟩ v') ∧ At ((w4.setCell ⟨s, 10, none⟩ v).setCell ⟨s, 10, none⟩ v') s 79 (cs.set 10 v') ∧ ∀ A c l, IRow w4 A c l → (∀ g, blkOf A = some g → g ≠ s) → IRow ((w4.setCell ⟨s, 10, none⟩ v).setCell ⟨s, 10, none⟩ v') A c l from fun v v' => by
        have hg : w4.grownBy ((w4.setCell ⟨s, 10, none⟩ v).setCell ⟨s, 10, none⟩ v') (some s) := grown_setCell (grown_setCell (World.grownBy.refl _ _) (.inl rfl) _) (.inl rfl) _
        refine ⟨hK4.trans (Keeps.ofGrown hg fun e => e.1 rfl), ?_, fun A c l hr hA => hr.keep fun g off e => hg.block g (hr.lt e) fun e2 => hA g (blk_some e) (Option.some.inj e2)⟩
        have := (hH4.set 10 v).set 10 v'
        rwa [List.set_set, List.set_set] at this)
      cases hX : mixR P d with
      | nil => rw [hX] at hl4; simp at hl4; omega
      | cons x r =>
        rw [hX] at hR4 HE hl4
        have cx : w4.cell? ⟨g0, off0, none⟩ = some (.int .i64 x) := (hR4.cell (i := 0) (by simp)).1
        have HR4 := Lib.hid hR4
        obtain ⟨m, rfl⟩ : ∃ m, k = m + 1 := ⟨k - 1, by omega⟩
        have hm : m = r.length := by simp at hl4; omega
        have hm5 : m ≤ 5 := by have := HPL.out; have := HK.out; omega
        have hc0 : m + 1 ≤ c0 := by
          rcases hR4 with ⟨h, _⟩ | ⟨_, _, _, _, _, _, _, h, _⟩
          · cases h
          · simp only [List.length_cons] at h; omega
        have HM := Lib.hid hm
        clear hX hR4 hg4 hH4 hK4 hm hl4 hP hk0 cq f10 c10
        by_cases hl1 : c0 = 1
        · subst hl1
          obtain rfl : m = 0 := by omega
          obtain rfl : r = [] := List.length_eq_zero_iff.1 HM.out.symm
          go_wp2_with fail
          go_ret
          obtain ⟨k1, k2, k3⟩ := HW4.out (.slice (some ⟨g0, off0, none⟩) 1 1) (.slice (some ⟨g0, off0, none⟩) 0 0)
          obtain ⟨e, hG⟩ := HT.out x [] (some ⟨g0, off0, none⟩) 0 _ HE.out k1 k2 (k3 _ _ _ HR4.out.nul fun g' hg' => by cases hg'; exact hgs) (fun g' hg' => by cases hg'; exact .inr hgw) (Nat.zero_le _)
          exact ⟨congrArg Ending.returned e, hG⟩
        · go_wp2_with fail
          go_ret
          obtain ⟨k1, k2, k3⟩ := HW4.out (.slice (some ⟨g0, off0, none⟩) (m + 1) c0) (.slice (some ⟨g0, off0 + 1, none⟩) m (c0 - 1))
          obtain ⟨e, hG⟩ := HT.out x r (some ⟨g0, off0 + 1, none⟩) (c0 - 1) _ HE.out k1 (by rw [← HM.out]; exact k2) (k3 _ _ _ HR4.out.tail fun g' hg' => by cases hg'; exact hgs) (fun g' hg' => by cases hg'; exact .inr hgw) (by rw [← HM.out]; omega)
          exact ⟨congrArg Ending.returned e, hG⟩
end
end Go.Proofs.Ytghefmppjdneoaa

namespace Go.Proofs.Ytghefmppjdneoaa
open Go.Proofs Stab Go.Shelf Go.RowKit Go.Lib Go.Sort Go.Maps

section
variable {H : Type} {w w' : World} {O : Nat → Prop} {M : Nat} {b : Blk} {t : Sct}
/-- its helpers are another row, fields of its own are written -/
theorem ScAt.helped {A : Option Addr} {c M' : Nat} {t' : Sct} (h : ScAt H w O M b t) (hk : Keeps (fun i => i ≠ b.s) w w') (ha : At w' b.s 79 (scC { b with hA := A, hc := c } t')) (e : t'.v = t.v ∧ t'.f = t.f ∧ t'.since = t.since ∧ t'.line = t.line ∧ t'.rel = t.rel) (hr : IRow w' A c t'.help) (hA : ∀ g, blkOf A = some g → blkOf b.hA = some g ∨ w.heap.size ≤ g) (hlim : t'.Lim M') (hM : M ≤ M') :
    ScAt H w' (fun i => O i ∨ (w.heap.size ≤ i ∧ i < w'.heap.size)) M' { b with hA := A, hc := c } t' := by
  obtain ⟨ev, ef, es, el, er⟩ := e
  obtain ⟨n1, n2, n3, n4, n5, n6, n7, n8, n9⟩ := Blk.ne h.dis
  have hd := h.dis
  unfold Blk.list at hd
  simp only [List.pairwise_cons, List.mem_cons, List.not_mem_nil, or_false, forall_eq_or_imp, forall_eq, Option.some.injEq] at hd
  obtain ⟨⟨d1, d2, d3, d4, d5, d6⟩, ⟨e1, e2, e3, e4, e5⟩, ⟨f1, f2, f3, f4⟩, ⟨g1, g2, g3⟩, ⟨q1, q2⟩, q3, _⟩ := hd
  have lt := fun i hi => h.lt (i := i) hi
  have gl : ∀ g, blkOf A = some g → g < w'.heap.size := fun g hg => by
    rcases hr with ⟨rfl, _⟩ | ⟨g', off, cs, rfl, h1, _⟩
    · cases hg
    · cases hg; exact h1.lt
  have kb : ∀ i, i ≠ b.s → i < w.heap.size → w'.heap[i]? = w.heap[i]? := fun i h1 h3 => hk.block i h1 h3
  have mem : ∀ i, some i ∈ Blk.list { b with hA := A, hc := c } → some i ∈ b.list ∨ (w.heap.size ≤ i ∧ i < w'.heap.size) := fun i hi => by
    rcases mem_list.1 hi with h | h | h | h | h | h | h
    · exact .inl (mem_list.2 (.inl h))
    · exact .inl (mem_list.2 (.inr (.inl h)))
    · exact .inl (mem_list.2 (.inr (.inr (.inl h))))
    · exact .inl (mem_list.2 (.inr (.inr (.inr (.inl h)))))
    · rcases hA i h with h2 | h2
      · exact .inl (mem_list.2 (.inr (.inr (.inr (.inr (.inl h2))))))
      · exact .inr ⟨h2, gl i h⟩
    · exact .inl (mem_list.2 (.inr (.inr (.inr (.inr (.inr (.inl h)))))))
    · exact .inl (mem_list.2 (.inr (.inr (.inr (.inr (.inr (.inr h)))))))
  obtain ⟨Y, h1, h2, h3⟩ := h.hum
  have ms : some b.s ∈ b.list := mem_list.2 (.inl rfl)
  have mp : some b.pv ∈ b.list := mem_list.2 (.inr (.inl rfl))
  have mv : some b.bv ∈ b.list := mem_list.2 (.inr (.inr (.inl rfl)))
  have mb : some b.bs ∈ b.list := mem_list.2 (.inr (.inr (.inr (.inl rfl))))
  refine ⟨ha, ?_, ⟨fun i => Y i ∨ (w.heap.size ≤ i ∧ i < w'.heap.size), by rw [ef]; exact h1.apartK hk (fun i hi => fun e => hi (e ▸ h2 _ ms)) (fun i hi => hi), fun i hi => ?_, fun i hi ho => ?_⟩, ?_, ?_, hr, ?_, ?_, fun i hi => ?_, hlim, ⟨Nat.le_trans h.cnt.1 (by omega), Nat.le_trans h.cnt.2.1 (by omega), Nat.le_trans h.cnt.2.2 (by omega)⟩⟩
  · rw [ev]
    obtain ⟨es, clock, hb2, F, hs, hD⟩ := h.view.2.1
    exact ⟨(kb _ (Ne.symm n1) (lt _ mp)).trans h.view.1, ⟨es, clock, (kb _ (Ne.symm n2) (lt _ mv)).trans hb2, F, hs, hD⟩, h.view.2.2⟩
  · rcases mem i hi with h | h
    · exact .inl (h2 i h)
    · exact .inr h
  · by_cases hlt : i < w.heap.size
    · exact .inl (h3 i hlt fun e => ho (.inl e))
    · exact .inr ⟨by omega, hi⟩
  · rw [es]
    obtain ⟨es, clock, hb2, F, hs, hD⟩ := h.since
    exact ⟨es, clock, (kb _ (Ne.symm n3) (lt _ mb)).trans hb2, F, hs, hD⟩
  · rw [el]
    exact h.line.keep fun g off e => kb g (n8 g (blk_some e)).1 (h.line.lt e)
  · rw [er]
    exact h.rel.keep fun g off e => kb g (n9 g (blk_some e)).1 (h.rel.lt e)
  · have new : ∀ x, some x ∈ b.list → some x = blkOf A → blkOf b.hA = some x := fun x hx e => by
      rcases hA x e.symm with h' | h'
      · exact h'
      · exact absurd (lt _ hx) (by omega)
    unfold Blk.list
    simp only [List.pairwise_cons, List.mem_cons, List.not_mem_nil, or_false, forall_eq_or_imp, forall_eq, Option.some.injEq, List.Pairwise.nil, and_true]
    refine ⟨⟨d1, d2, d3, fun e => d4 (new _ ms e).symm, d5, d6⟩, ⟨e1, e2, fun e => e3 (new _ mp e).symm, e4, e5⟩, ⟨f1, fun e => f2 (new _ mv e).symm, f3, f4⟩, ⟨fun e => g1 (new _ mb e).symm, g2, g3⟩, ⟨fun e => ?_, fun e => ?_⟩, ⟨q3, fun _ h => h.elim⟩⟩
    · cases hh : blkOf b.lA with
      | none => exact e.trans hh
      | some x =>
        have := new x (mem_list.2 (.inr (.inr (.inr (.inr (.inr (.inl hh))))))) (hh.symm.trans e.symm)
        have h2 := q1 (this.trans hh.symm)
        rw [this] at h2
        cases h2
    · cases hh : blkOf b.rA with
      | none => exact e.trans hh
      | some x =>
        have := new x (mem_list.2 (.inr (.inr (.inr (.inr (.inr (.inr hh))))))) (hh.symm.trans e.symm)
        have h2 := q2 (this.trans hh.symm)
        rw [this] at h2
        cases h2
  · rcases mem i hi with h' | h'
    · exact .inl (h.own i h')
    · exact .inr h'
end
end Go.Proofs.Ytghefmppjdneoaa

namespace Go.Proofs.Ytghefmppjdneoaa
open Go.Proofs Stab Go.Shelf Go.RowKit Go.Lib Go.Sort Go.Maps

theorem run_gtrI1 (a b : Int) (h : b < a) (w : World) : (binOp .gtr 3 (.int .i64 a) (.int .i64 b)).run Try.prog w = .ok (.bool true) w := by
  go_simp
theorem run_gtrI0 (a b : Int) (h : a ≤ b) (w : World) : (binOp .gtr 3 (.int .i64 a) (.int .i64 b)).run Try.prog w = .ok (.bool false) w := by
  go_simp
theorem run_geqI1 (a b : Int) (h : b ≤ a) (w : World) : (binOp .geq 3 (.int .i64 a) (.int .i64 b)).run Try.prog w = .ok (.bool true) w := by
  go_simp
theorem run_geqI0 (a b : Int) (h : a < b) (w : World) : (binOp .geq 3 (.int .i64 a) (.int .i64 b)).run Try.prog w = .ok (.bool false) w := by
  go_simp
theorem run_eqlI1 (a : Int) (w : World) : (binOp .eql 3 (.int .i64 a) (.int .i64 a)).run Try.prog w = .ok (.bool true) w := by
  go_simp
theorem run_eqlI0 (a b : Int) (h : a ≠ b) (w : World) : (binOp .eql 3 (.int .i64 a) (.int .i64 b)).run Try.prog w = .ok (.bool false) w := by
  go_simp
theorem run_neqI1 (a b : Int) (h : a ≠ b) (w : World) : (binOp .neq 3 (.int .i64 a) (.int .i64 b)).run Try.prog w = .ok (.bool true) w := by
  go_simp
theorem run_neqI0 (a : Int) (w : World) : (binOp .neq 3 (.int .i64 a) (.int .i64 a)).run Try.prog w = .ok (.bool false) w := by
  go_simp
theorem run_guardI (w : World) (op : BinOp) (x y : Operand) (a b : Int) : (eqGuard op 3 x y (.int .i64 a) (.int .i64 b)).run Try.prog w = .ok () w := by
  unfold eqGuard
  go_simp
theorem row_behind {w w' : World} {B : Nat} {e : TypeId} {size n : Nat} {v : Value} {xs : List Value} (h : w.ownsRow B e size v n xs) (hb : Behind w w') : w'.ownsRow B e size v n xs := by
  refine ⟨h.1, ?_⟩
  rcases h.2 with h2 | ⟨g, cap, cur, h1, h2, h3, h4⟩
  · exact .inl h2
  · exact .inr ⟨g, cap, cur, h1, h2, by rw [hb.block g (Array.getElem?_eq_some_iff.1 h3).1]; exact h3, h4⟩
def farL (me : Int) (l : List Mem) : List Int := (l.filter fun m => !decide (m.n = me) && decide (1 < m.s)).map fun m => m.n
theorem farL_len (me : Int) (l : List Mem) : (farL me l).length ≤ l.length := by
  unfold farL
  rw [List.length_map]
  exact List.length_filter_le _ _
theorem farL_snoc (me : Int) (l : List Mem) (k : Nat) (hk : k < l.length) : farL me (l.take (k + 1)) = farL me (l.take k) ++ (if ¬ l[k].n = me ∧ 1 < l[k].s then [l[k].n] else []) := by
  rw [List.take_succ_eq_append_getElem hk]
  unfold farL
  rw [List.filter_append, List.map_append]
  congr 1
  by_cases h1 : l[k].n = me
  · simp [h1]
  · by_cases h2 : 1 < l[k].s
    · simp [h1, h2]
    · simp [h1, h2]
section
variable {H : Type} {w w' : World} {O : Nat → Prop} {M : Nat} {b : Blk} {t : Sct}
set_option maxRecDepth 100000 in
theorem far_any (h : ScAt H w O M b t) : Calls Try.prog 45 #[.pointer (some ⟨b.s, 0, none⟩)] w fun e w' => ∃ A c, e = .returned (.slice A t.far.length c) ∧ IRow w' A c t.far ∧ (∀ g, blkOf A = some g → w.heap.size ≤ g) ∧ Below w.heap.size w w' := by
  have hs0 := h.hd.lt
  have c0 := h.cell (i := 0) (v := ptrV b.pv) rfl
  have c6 := h.cell (i := 6) (v := .int .i64 t.me) rfl
  have HV := Lib.hid h.view
  obtain ⟨i0, hi, hz0, hz1, hz2⟩ := info_parts info_int
  obtain ⟨s, hs⟩ : ∃ s, s = b.s := ⟨_, rfl⟩
  obtain ⟨pv, hpv⟩ : ∃ pv, pv = b.pv := ⟨_, rfl⟩
  obtain ⟨me, hme⟩ : ∃ me, me = t.me := ⟨_, rfl⟩
  obtain ⟨l, hl⟩ : ∃ l, l = all t.v := ⟨_, rfl⟩
  have HF := Lib.hid (show t.far = farL me l by rw [hme, hl]; rfl)
  rw [← hs, ← hpv] at c0
  rw [← hs, ← hme] at c6
  rw [← hs] at hs0 ⊢
  unfold ptrV at c0
  have HA := Lib.hid (all_any HV.out)
  rw [← hpv, ← hl] at HA
  have hl6 : l.length ≤ 6 := by rw [hl]; exact List.length_filterMap_le _ nodes
  clear h HV hs hpv hme hl
  go_enter Try.func45, Try.ntmps45
  go_wp2_with fail
  refine HA.out.mono ?_
  rintro e w1 ⟨v, rfl, hO, hB⟩
  obtain ⟨A, c, rfl, hM, hlo⟩ := Mems.own hO
  have HM := Lib.hid hM
  have HB := Lib.hid hB
  have c6' := (World.cell?_of_block (hB.block s hs0)).trans c6
  have hs1' : s < w1.heap.size := Nat.lt_of_lt_of_le hs0 hB.size
  have HC6 := Lib.hid c6'
  clear hO hM hB hlo c0 c6 c6' hs0 HA
  go_wp2_with fail
  go_loopw [2, 12] (fun v2 i wr => ∃ k : Nat, k ≤ l.length ∧ i = .int .i64 k ∧ wr.ownsRow w1.heap.size 3 1 v2 (farL me (l.take k)).length (nums (farL me (l.take k))) ∧ Below w1.heap.size w1 wr) (fun _ i _ => l.length - (RowKit.intOf i).toNat)
  case atStart => exact ⟨0, by omega, rfl, World.ownsRow_nil _ _ _ _, Below.refl _ _⟩
  case round =>
    obtain ⟨k, hk, rfl, hO2, hb⟩ := hrel
    by_cases hlt : k < l.length
    · obtain ⟨m, hm⟩ : ∃ m, m = l[k] := ⟨_, rfl⟩
      obtain ⟨g, off, rfl, c0, c1, c2⟩ := HM.out.cellsV (w' := wr) (N := 0) (fun g off e hlt' => hb.block g hlt') hlt rfl
      rw [← hm] at c0 c1 c2
      have HX := Lib.hid hm
      have HO2 := Lib.hid hO2
      have HBr := Lib.hid hb
      have hs1 : w1.heap.size ≤ wr.heap.size := hb.size
      have hsr : s < wr.heap.size := Nat.lt_of_lt_of_le hs1' hs1
      have c6 := (World.cell?_of_block (hb.block s hs1')).trans HC6.out
      have hpl := farL_len me (l.take k)
      rw [List.length_take] at hpl
      have i1 : (0 : Int) ≤ (k : Int) := by omega
      have i2 : (k : Int) < (l.length : Int) := by omega
      have d0 := (memAt wr m).cell' (i := 0) (v := .int .i64 m.n) rfl
      have d2 := (memAt wr m).cell' (i := 2) (v := .int .i64 m.s) rfl
      clear hm hO2 hb
      by_cases hst : m.n = me
      · subst hst
        go_wp2_with fail
        have mixed : Try.prog.follows .mixedOrders = true := by kernel_rfl
        go_big_region_o
        clear mixed
        go_wp2_with fail
        go_roundw
        case rel =>
          refine ⟨k + 1, by omega, by go_num, ?_, ?_⟩
          · rw [farL_snoc m.n l k hlt, ← HX.out, if_neg (fun h => h.1 rfl), List.append_nil]
            exact (HO2.out.alloc _).drew
          · exact (HBr.out.alloc HBr.out.size _).drew
        case measure => simp [RowKit.intOf]; omega
      · by_cases hs2 : 1 < m.s
        · have HGT := Lib.hid (show ∀ w, (binOp .gtr 3 (.int .i64 m.s) (.int .i64 1)).run Try.prog w = .ok (.bool true) w from run_gtrI1 _ _ hs2)
          have HS2 := Lib.hid hs2
          clear hs2
          have HNE := Lib.hid (show ∀ w, (binOp .neq 3 (.int .i64 m.n) (.int .i64 me)).run Try.prog w = .ok (.bool true) w from run_neqI1 _ _ hst)
          have HST := Lib.hid hst
          go_wp2_with fail
          obtain ⟨W1, hW1⟩ : ∃ W1, W1 = wr.alloc (.cells #[.int .i64 m.n, .int .i64 m.i, .int .i64 m.s] 38) := ⟨_, rfl⟩
          rw [← hW1]
          have hAM : At W1 wr.heap.size 38 (cellsM m) := by rw [hW1]; exact memAt wr m
          obtain ⟨q, hq⟩ : ∃ q, q = wr.heap.size := ⟨_, rfl⟩
          rw [← hq] at hAM ⊢
          have hB1 : Below w1.heap.size w1 W1 := by rw [hW1]; exact HBr.out.alloc HBr.out.size _
          have hO3 := HO2.out.alloc (.cells #[.int .i64 m.n, .int .i64 m.i, .int .i64 m.s] 38)
          rw [← hW1] at hO3
          have HO3 := Lib.hid hO3
          clear hO3
          have HS6 := Lib.hid (show ∀ W, Behind W1 W → W.cell? ⟨s, 6, none⟩ = some (.int .i64 me) from fun W h => ((hB1.trans (Below.mono h hB1.size)).cell (p := ⟨s, 6, none⟩) hs1').trans HC6.out)
          have HM0 := Lib.hid (show ∀ W, Behind W1 W → W.cell? ⟨q, 0, none⟩ = some (.int .i64 m.n) from fun W h => (hAM.below h hAM.lt).cell' rfl)
          have HM2 := Lib.hid (show ∀ W, Behind W1 W → W.cell? ⟨q, 2, none⟩ = some (.int .i64 m.s) from fun W h => (hAM.below h hAM.lt).cell' rfl)
          have HB1 := Lib.hid hB1
          clear hq hW1 hAM hB1 hst d0 d2 c0 c1 c2 c6
          refine wp_region_class (Behind W1) (by kernel_rfl) (by kernel_rfl) (Below.refl _ _).drew ?_
          iterate 12 (first
            | go_big_quiet_skip
            | ((with_reducible refine wpQuiet_val (.pointer (some ⟨s, 0, none⟩)) (by with_unfolding_all rfl) (fun w _ => exec_nil _ (by with_unfolding_all rfl) s 0 (by with_unfolding_all rfl) w) ?_); simp only [Act.put, List.setIfInBounds_toArray, List.set_cons_zero, List.set_cons_succ])
            | ((with_reducible refine wpQuiet_val (.pointer (some ⟨s, 6, none⟩)) (by with_unfolding_all rfl) (fun w _ => exec_s2 _ (by with_unfolding_all rfl) s (by with_unfolding_all rfl) w) ?_); simp only [Act.put, List.setIfInBounds_toArray, List.set_cons_zero, List.set_cons_succ])
            | ((with_reducible refine wpQuiet_load1 (.int .i64 m.n) (by with_unfolding_all rfl) 3 _ (by with_unfolding_all rfl) .i64 Try.underlying3 q (0) (by with_unfolding_all rfl) (fun w h => HM0.out w h) ?_); simp only [Act.put, List.setIfInBounds_toArray, List.set_cons_zero, List.set_cons_succ])
            | ((with_reducible refine wpQuiet_load1 (.int .i64 m.s) (by with_unfolding_all rfl) 3 _ (by with_unfolding_all rfl) .i64 Try.underlying3 q (2) (by with_unfolding_all rfl) (fun w h => HM2.out w h) ?_); simp only [Act.put, List.setIfInBounds_toArray, List.set_cons_zero, List.set_cons_succ])
            | ((with_reducible refine wpQuiet_load1 (.int .i64 me) (by with_unfolding_all rfl) 3 _ (by with_unfolding_all rfl) .i64 Try.underlying3 s (6) (by with_unfolding_all rfl) (fun w h => HS6.out w h) ?_); simp only [Act.put, List.setIfInBounds_toArray, List.set_cons_zero, List.set_cons_succ])
            | ((with_reducible refine wpQuiet_bin (by with_unfolding_all rfl) .neq 3 _ _ _ (by with_unfolding_all rfl) (.int .i64 m.n) (.int .i64 me) (.bool true) (by with_unfolding_all rfl) (by with_unfolding_all rfl) (fun w => run_guardI w _ _ _ _ _) (fun w => HNE.out w) ?_); simp only [Act.put, List.setIfInBounds_toArray, List.set_cons_zero, List.set_cons_succ])
            | ((with_reducible refine wpQuiet_bin (by with_unfolding_all rfl) .gtr 3 _ _ _ (by with_unfolding_all rfl) (.int .i64 m.s) (.int .i64 1) (.bool true) (by with_unfolding_all rfl) (by with_unfolding_all rfl) (fun w => run_guardI w _ _ _ _ _) (fun w => HGT.out w) ?_); simp only [Act.put, List.setIfInBounds_toArray, List.set_cons_zero, List.set_cons_succ])
            | (go_big_quiet_step (exact fun _ => rfl)))
          with_reducible refine wpQuiet_nil ?_
          intro wy hwy
          have d0 := HM0.out wy hwy
          have HOy := Lib.hid (row_behind HO3.out hwy)
          have HBy := Lib.hid (show Below w1.heap.size w1 wy from HB1.out.trans (Below.mono hwy HB1.out.size))
          clear HM0 HM2 HS6 hwy
          go_wp2_with (at_builtin; go_loud ((refine wpList_append_own_at _ rfl (.tmp 28) (.tmp 31) 23 rfl w1.heap.size 3 i0 _ 1 8 Try.underlying23 hi hz0 hz1 hz2 rfl (by omega) _ _ _ rfl (HOy.out.alloc _) ⟨_, 0, none⟩ 1 1 [.int .i64 m.n] rfl rfl (one_new_at _ _ _ (by simp)) (by simp [Value.oneCell']) ?_ ?_ ?_ ?_); (focus (unfold maxLen; omega)); (focus omega); (focus (simp; have := HBy.out.size; omega)); intro v9 w9 hO9 hg9 hn9 hat9))
          go_roundw
          case rel =>
            refine ⟨k + 1, by omega, by go_num, ?_, ?_⟩
            · rw [farL_snoc me l k hlt, ← HX.out, if_pos ⟨HST.out, HS2.out⟩, nums, List.map_append, List.length_append]
              exact hO9
            · exact row_below2 (HOy.out.alloc _) (HBy.out.alloc HBy.out.size _) (Nat.le_refl _) (HBy.out.alloc HBy.out.size _).size hg9
          case measure => simp [RowKit.intOf]; omega
        · have HGT := Lib.hid (show ∀ w, (binOp .gtr 3 (.int .i64 m.s) (.int .i64 1)).run Try.prog w = .ok (.bool false) w from run_gtrI0 _ _ (by omega))
          have HS2 := Lib.hid hs2
          clear hs2
          have HNE := Lib.hid (show ∀ w, (binOp .neq 3 (.int .i64 m.n) (.int .i64 me)).run Try.prog w = .ok (.bool true) w from run_neqI1 _ _ hst)
          have HST := Lib.hid hst
          go_wp2_with fail
          obtain ⟨W1, hW1⟩ : ∃ W1, W1 = wr.alloc (.cells #[.int .i64 m.n, .int .i64 m.i, .int .i64 m.s] 38) := ⟨_, rfl⟩
          rw [← hW1]
          have hAM : At W1 wr.heap.size 38 (cellsM m) := by rw [hW1]; exact memAt wr m
          obtain ⟨q, hq⟩ : ∃ q, q = wr.heap.size := ⟨_, rfl⟩
          rw [← hq] at hAM ⊢
          have hB1 : Below w1.heap.size w1 W1 := by rw [hW1]; exact HBr.out.alloc HBr.out.size _
          have hO3 := HO2.out.alloc (.cells #[.int .i64 m.n, .int .i64 m.i, .int .i64 m.s] 38)
          rw [← hW1] at hO3
          have HO3 := Lib.hid hO3
          clear hO3
          have HS6 := Lib.hid (show ∀ W, Behind W1 W → W.cell? ⟨s, 6, none⟩ = some (.int .i64 me) from fun W h => ((hB1.trans (Below.mono h hB1.size)).cell (p := ⟨s, 6, none⟩) hs1').trans HC6.out)
          have HM0 := Lib.hid (show ∀ W, Behind W1 W → W.cell? ⟨q, 0, none⟩ = some (.int .i64 m.n) from fun W h => (hAM.below h hAM.lt).cell' rfl)
          have HM2 := Lib.hid (show ∀ W, Behind W1 W → W.cell? ⟨q, 2, none⟩ = some (.int .i64 m.s) from fun W h => (hAM.below h hAM.lt).cell' rfl)
          have HB1 := Lib.hid hB1
          clear hq hW1 hAM hB1 hst d0 d2 c0 c1 c2 c6
          refine wp_region_class (Behind W1) (by kernel_rfl) (by kernel_rfl) (Below.refl _ _).drew ?_
          iterate 12 (first
            | go_big_quiet_skip
            | ((with_reducible refine wpQuiet_val (.pointer (some ⟨s, 0, none⟩)) (by with_unfolding_all rfl) (fun w _ => exec_nil _ (by with_unfolding_all rfl) s 0 (by with_unfolding_all rfl) w) ?_); simp only [Act.put, List.setIfInBounds_toArray, List.set_cons_zero, List.set_cons_succ])
            | ((with_reducible refine wpQuiet_val (.pointer (some ⟨s, 6, none⟩)) (by with_unfolding_all rfl) (fun w _ => exec_s2 _ (by with_unfolding_all rfl) s (by with_unfolding_all rfl) w) ?_); simp only [Act.put, List.setIfInBounds_toArray, List.set_cons_zero, List.set_cons_succ])
            | ((with_reducible refine wpQuiet_load1 (.int .i64 m.n) (by with_unfolding_all rfl) 3 _ (by with_unfolding_all rfl) .i64 Try.underlying3 q (0) (by with_unfolding_all rfl) (fun w h => HM0.out w h) ?_); simp only [Act.put, List.setIfInBounds_toArray, List.set_cons_zero, List.set_cons_succ])
            | ((with_reducible refine wpQuiet_load1 (.int .i64 m.s) (by with_unfolding_all rfl) 3 _ (by with_unfolding_all rfl) .i64 Try.underlying3 q (2) (by with_unfolding_all rfl) (fun w h => HM2.out w h) ?_); simp only [Act.put, List.setIfInBounds_toArray, List.set_cons_zero, List.set_cons_succ])
            | ((with_reducible refine wpQuiet_load1 (.int .i64 me) (by with_unfolding_all rfl) 3 _ (by with_unfolding_all rfl) .i64 Try.underlying3 s (6) (by with_unfolding_all rfl) (fun w h => HS6.out w h) ?_); simp only [Act.put, List.setIfInBounds_toArray, List.set_cons_zero, List.set_cons_succ])
            | ((with_reducible refine wpQuiet_bin (by with_unfolding_all rfl) .neq 3 _ _ _ (by with_unfolding_all rfl) (.int .i64 m.n) (.int .i64 me) (.bool true) (by with_unfolding_all rfl) (by with_unfolding_all rfl) (fun w => run_guardI w _ _ _ _ _) (fun w => HNE.out w) ?_); simp only [Act.put, List.setIfInBounds_toArray, List.set_cons_zero, List.set_cons_succ])
            | ((with_reducible refine wpQuiet_bin (by with_unfolding_all rfl) .gtr 3 _ _ _ (by with_unfolding_all rfl) (.int .i64 m.s) (.int .i64 1) (.bool false) (by with_unfolding_all rfl) (by with_unfolding_all rfl) (fun w => run_guardI w _ _ _ _ _) (fun w => HGT.out w) ?_); simp only [Act.put, List.setIfInBounds_toArray, List.set_cons_zero, List.set_cons_succ])
            | (go_big_quiet_step (exact fun _ => rfl)))
          with_reducible refine wpQuiet_nil ?_
          intro wy hwy
          have HOy := Lib.hid (row_behind HO3.out hwy)
          have HBy := Lib.hid (show Below w1.heap.size w1 wy from HB1.out.trans (Below.mono hwy HB1.out.size))
          clear HM0 HM2 HS6 hwy
          go_wp2_with fail
          go_roundw
          case rel =>
            refine ⟨k + 1, by omega, by go_num, ?_, HBy.out⟩
            rw [farL_snoc me l k hlt, ← HX.out, if_neg (fun h => by have := HS2.out; omega), List.append_nil]
            exact HOy.out
          case measure => simp [RowKit.intOf]; omega
    · have hkl : k = l.length := by omega
      have HO2 := Lib.hid hO2
      have HBr := Lib.hid hb
      have HKL := Lib.hid hkl
      clear hO2 hkl hb
      go_wp2_with fail
      go_ret
      have hBw : Below w.heap.size w wr := HB.out.trans (HBr.out.mono HB.out.size)
      have h := HO2.out
      rw [HKL.out, List.take_length, ← HF.out] at h
      obtain ⟨A2, c2, e2, hR, hlo⟩ := irow_of h
      exact ⟨A2, c2, congrArg Ending.returned e2, hR, fun g hg => Nat.le_trans HB.out.size (hlo g hg), hBw⟩
end
end Go.Proofs.Ytghefmppjdneoaa

namespace Go.Proofs.Ytghefmppjdneoaa
open Go.Proofs Stab Go.Shelf Go.RowKit Go.Lib Go.Sort Go.Maps

def z8 (n : Nat) : List Value := List.replicate n (.int .u8 0)
def frZ : List Value := z8 32 ++ (.bool false :: (z8 32 ++ (.int .i64 0 :: (z8 64 ++ (.int .i64 0 :: .string ByteArray.empty :: (z8 96 ++ [.int .i64 0, .slice none 0 0, .slice none 0 0, .slice none 0 0]))))))
def frameC (x : Fr) (A : Option Addr) (c : Nat) : List Value := .int .i64 x.kind :: .int .i64 x.frm :: .int .i64 x.seq :: .int .i64 x.node :: (frZ ++ [.slice A x.rum.length c])
def sentC (x : Fr) (A : Option Addr) (c : Nat) : List Value := .int .i64 x.to_ :: frameC x A c
/-- a frame without rumours -/
def bareC (x : Fr) : List Value := sentC x none 0
theorem frZ_len : frZ.length = 232 := by kernel_rfl
theorem frZ_one : ∀ v ∈ frZ, v.oneCell' = true := by
  have h : frZ.all (fun v => v.oneCell') = true := by kernel_rfl
  exact List.all_eq_true.1 h
theorem sentC_len (x : Fr) (A : Option Addr) (c : Nat) : (sentC x A c).length = 238 := by
  unfold sentC frameC
  simp only [List.length_cons, List.length_append, frZ_len, List.length_nil]
theorem sentC_one (x : Fr) (A : Option Addr) (c : Nat) : ∀ v ∈ sentC x A c, v.oneCell' = true := by
  intro v hv
  unfold sentC frameC at hv
  simp only [List.mem_cons, List.mem_append, List.not_mem_nil, or_false] at hv
  rcases hv with rfl | rfl | rfl | rfl | rfl | h | rfl
  · rfl
  · rfl
  · rfl
  · rfl
  · rfl
  · exact frZ_one v h
  · rfl
theorem info_sent : (Try.prog.info? 59).map (·.size) = some 238 := by kernel_rfl
theorem info_frame : (Try.prog.info? 57).map (·.size) = some 237 := by kernel_rfl
theorem zeroSent (w : World) : (zeroValue 59).run Try.prog w = .ok (.agg (bareC ⟨0, 0, 0, 0, 0, []⟩).toArray) w := by kernel_rfl
theorem built_frame (k s n : Int) : Try.prog.built 57 [(0, .int .i64 k), (2, .int .i64 s), (3, .int .i64 n)] = some (frameC ⟨0, k, 0, s, n, []⟩ none 0).toArray := by kernel_rfl
theorem built_sent (t k s n : Int) : Try.prog.built 59 [(0, .int .i64 t), (1, .agg (frameC ⟨0, k, 0, s, n, []⟩ none 0).toArray)] = some (bareC ⟨t, k, 0, s, n, []⟩).toArray := by kernel_rfl
theorem built_at' {P : Program} {t : TypeId} {l l' : List (Nat × Value)} {c : Array Value} (h : P.built t l = some c) (e : l' = l) : P.built t l' = some c := by rw [e]; exact h
set_option maxRecDepth 100000 in
theorem frame_any (t k s n : Int) (w : World) : Calls Try.prog 25 #[.int .i64 t, .int .i64 k, .int .i64 s, .int .i64 n] w fun e w' => e = .returned (.agg (bareC ⟨t, k, 0, s, n, []⟩).toArray) ∧ Below w.heap.size w w' := by
  obtain ⟨Z, hZ⟩ : ∃ Z, Z = bareC ⟨0, 0, 0, 0, 0, []⟩ := ⟨_, rfl⟩
  obtain ⟨FC, hFC⟩ : ∃ FC, FC = frameC ⟨0, k, 0, s, n, []⟩ none 0 := ⟨_, rfl⟩
  obtain ⟨SC, hSC⟩ : ∃ SC, SC = bareC ⟨t, k, 0, s, n, []⟩ := ⟨_, rfl⟩
  have HZ := Lib.hid (show ∀ w, (zeroValue 59).run Try.prog w = .ok (.agg Z.toArray) w by rw [hZ]; exact zeroSent)
  have HF := Lib.hid (show Try.prog.built 57 [(0, .int .i64 k), (2, .int .i64 s), (3, .int .i64 n)] = some FC.toArray by rw [hFC]; exact built_frame k s n)
  have HS := Lib.hid (show Try.prog.built 59 [(0, .int .i64 t), (1, .agg FC.toArray)] = some SC.toArray by rw [hFC, hSC]; exact built_sent t k s n)
  have HZl := Lib.hid (show Z.length = 238 by rw [hZ]; exact sentC_len _ _ _)
  have HSl := Lib.hid (show SC.length = 238 by rw [hSC]; exact sentC_len _ _ _)
  have HS1 := Lib.hid (show ∀ v ∈ SC, v.oneCell' = true by rw [hSC]; exact sentC_one _ _ _)
  rw [← hSC]
  clear hZ hFC hSC
  go_enter Try.func25, Try.ntmps25
  go_wp2_with (first
    | ((with_reducible refine wpList_allocZ 59 Z (by with_unfolding_all rfl) (by with_unfolding_all rfl) HZ.out ?_); intro g w1 hg hat hb; have HAT := Lib.hid hat; have HB := Lib.hid hb; have HG := Lib.hid hg; clear hat hb hg)
    | (with_reducible refine wpList_build FC.toArray (by with_unfolding_all rfl) 57 #[(0, .tmp 10), (2, .tmp 11), (3, .tmp 12)] (by with_unfolding_all rfl) (built_at' HF.out (by with_unfolding_all rfl)) ?_)
    | (with_reducible refine wpList_build SC.toArray (by with_unfolding_all rfl) 59 #[(0, .tmp 9), (1, .tmp 13)] (by with_unfolding_all rfl) (built_at' HS.out (by with_unfolding_all rfl)) ?_)
    | ((with_reducible refine wpList_storeAll (by with_unfolding_all rfl) 59 _ _ (by with_unfolding_all rfl) g (by with_unfolding_all rfl) 59 Z SC HAT.out (by with_unfolding_all rfl) (HSl.out.trans HZl.out.symm) (by rw [HSl.out]; exact info_sent) HS1.out ?_); intro w2 hat2 hg2 _; have HAT2 := Lib.hid hat2; have HB2 := Lib.hid (HB.out.grown hg2 HB.out.size (fun k hk => by cases hk; exact Nat.le_of_eq HG.out.symm)); clear hat2 hg2))
  exact ret_cellAll (p := 8) (ty := 59) (by kernel_rfl) (by with_unfolding_all rfl) g 59 SC _ (by with_unfolding_all rfl) HAT2.out Try.underlying59 rfl (by rw [HSl.out]; exact info_sent) ⟨rfl, HB2.out⟩
end Go.Proofs.Ytghefmppjdneoaa

namespace Go.Proofs.Ytghefmppjdneoaa
open Go.Proofs Stab Go.Shelf Go.RowKit Go.Lib Go.Sort Go.Maps

section
variable {H : Type} {w w' w0 : World} {O : Nat → Prop} {M : Nat} {b : Blk} {t : Sct}
/-- a map's block has no cells -/
theorem map_not_cells {k : TypeId} {R : Value → Option (DataW H × List MemPlace)} {m n x i : Nat} {D : DataW H} {v : Value} (h : w.ownsMap Try.prog k R m n D) (hc : w.cell? ⟨x, i, none⟩ = some v) : x ≠ m := by
  rintro rfl
  obtain ⟨es, clock, hb, _⟩ := h
  unfold World.cell? at hc
  simp [hb] at hc
/-- all that a scout owns is kept -/
theorem ScAt.keeps (h : ScAt H w O M b t) (hk : Keeps O w w') : ScAt H w' O M b t := by
  obtain ⟨p1, p2, p3, p4, p5, p6⟩ := h.parts h.own hk
  obtain ⟨A, h1, h2, h3⟩ := h.hum
  refine ⟨p1, p2, ⟨fun i => A i ∨ (w.heap.size ≤ i ∧ i < w'.heap.size), h1.apartK (K := fun i => ¬ A i) ⟨hk.os, hk.tape, hk.output, hk.size, fun i hi hl => hk.block i (Classical.byContradiction fun ho => hi (h3 i hl ho)) hl⟩ (fun i hi => hi) (fun i hi => hi), fun i hi => .inl (h2 i hi), fun i hi ho => ?_⟩, p3, p4, p5, p6, h.dis, h.own, h.lim, h.cnt⟩
  by_cases hlt : i < w.heap.size
  · exact .inl (h3 i hlt ho)
  · exact .inr ⟨by omega, hi⟩
/-- it owns nothing that isn't there yet -/
theorem ScAt.trim (h : ScAt H w O M b t) : ScAt H w (fun i => O i ∧ i < w.heap.size) M b t := by
  obtain ⟨A, h1, h2, h3⟩ := h.hum
  exact ⟨h.hd, h.view, ⟨A, h1, h2, fun i hi ho => h3 i hi fun ho2 => ho ⟨ho2, hi⟩⟩, h.since, h.line, h.help, h.rel, h.dis, fun i hi => ⟨h.own i hi, h.lt hi⟩, h.lim, h.cnt⟩
theorem Grew.refl (h : ScAt H w O M b t) : Grew H w w O M b.s t := ⟨b, O, rfl, h, fun _ hi => .inl hi, Keeps.refl _ _⟩
theorem Grew.untrim {s : Nat} {n : Nat} (h : Grew H w w' (fun i => O i ∧ i < n) M s t) : Grew H w w' O M s t := by
  obtain ⟨b', O', h1, h2, h3, h4⟩ := h
  refine ⟨b', O', h1, h2, fun i hi => ?_, h4.mono fun i hi ho => hi ho.1⟩
  rcases h3 i hi with h | h
  · exact .inl h.1
  · exact .inr h
theorem Grew.step {w1 : World} {O1 : Nat → Prop} {s : Nat} (hk : Keeps (fun i => ¬ O i) w w1) (hO : ∀ i, O1 i → O i ∨ (w.heap.size ≤ i ∧ i < w1.heap.size)) (h : Grew H w1 w' O1 M s t) : Grew H w w' O M s t := by
  obtain ⟨b', O', h1, h2, h3, h4⟩ := h
  exact ⟨b', O', h1, h2, own_step hk.size h4.size hO h3, keeps_step hk hO h4⟩
variable {s : Nat}
/-- a call that is proved of a scout as it lies, for a scout from a world on -/
theorem Grew.calls {f : FuncId} {args : Array Value} {M' : Nat} {R : Ending → World → Prop} {t' : Sct} (h : Grew H w0 w O M s t)
    (hc : ∀ b' O', b'.s = s → ScAt H w O' M b' t → Calls Try.prog f args w fun e w' => R e w' ∧ Grew H w w' O' M' s t') : Calls Try.prog f args w fun e w' => R e w' ∧ Grew H w0 w' O M' s t' := by
  obtain ⟨b', O', h1, h2, h3, h4⟩ := h
  exact (hc b' O' h1 h2).mono fun e w' ⟨hr, hg⟩ => ⟨hr, hg.step h4 h3⟩
theorem Grew.cell (h : Grew H w0 w O M s t) {i : Nat} {v : Value} (hv : ∀ b, (scC b t)[i]? = some v) : w.cell? ⟨s, i, none⟩ = some v := by
  obtain ⟨b', O', rfl, h2, _⟩ := h
  exact h2.cell (hv b')
theorem Grew.frozen (h : Grew H w0 w O M s t) (i : Nat) : w.frozen? ⟨s, i, none⟩ = false := by
  obtain ⟨b', O', rfl, h2, _⟩ := h
  exact h2.hd.frozen i
theorem Grew.lt (h : Grew H w0 w O M s t) : s < w.heap.size := by
  obtain ⟨b', O', rfl, h2, _⟩ := h
  exact h2.hd.lt
theorem Grew.lim (h : Grew H w0 w O M s t) : t.Lim M := by
  obtain ⟨b', O', rfl, h2, _⟩ := h
  exact h2.lim
theorem Grew.size (h : Grew H w0 w O M s t) : w0.heap.size ≤ w.heap.size := by
  obtain ⟨b', O', rfl, h2, _, h4⟩ := h
  exact h4.size
theorem Grew.mono {M' : Nat} (h : Grew H w0 w O M s t) (hM : M ≤ M') : Grew H w0 w O M' s t := by
  obtain ⟨b', O', h1, h2, h3, h4⟩ := h
  exact ⟨b', O', h1, h2.mono hM, h3, h4⟩
theorem Grew.keeps (h : Grew H w0 w O M s t) : Keeps (fun i => ¬ O i) w0 w := by
  obtain ⟨b', O', h1, h2, h3, h4⟩ := h
  exact h4
theorem Grew.ptrs (h : Grew H w0 w O M s t) : ∃ pv ph : Nat, w.cell? ⟨s, 0, none⟩ = some (.pointer (some ⟨pv, 0, none⟩)) ∧ w.cell? ⟨s, 1, none⟩ = some (.pointer (some ⟨ph, 0, none⟩)) := by
  obtain ⟨b', O', rfl, h2, _⟩ := h
  exact ⟨b'.pv, b'.ph, h2.cell (i := 0) rfl, h2.cell (i := 1) rfl⟩
/-- a field of its own is written -/
theorem Grew.set {M' i : Nat} {v : Value} {t' : Sct} (h : Grew H w0 w O M s t) (hc : ∀ b, scC b t' = (scC b t).set i v) (e : t'.v = t.v ∧ t'.f = t.f ∧ t'.since = t.since ∧ t'.line = t.line ∧ t'.help = t.help ∧ t'.rel = t.rel) (hlim : t.Lim M → t'.Lim M') (hM : M ≤ M') : Grew H w0 (w.setCell ⟨s, i, none⟩ v) O M' s t' := by
  obtain ⟨b', O', rfl, h2, h3, h4⟩ := h
  have hg : w.grownBy (w.setCell ⟨b'.s, i, none⟩ v) (some b'.s) := grown_setCell (World.grownBy.refl _ _) (.inl rfl) _
  have hs : O' b'.s := h2.own _ (mem_list.2 (.inl rfl))
  have hlt := h2.hd.lt
  refine ⟨b', O', rfl, h2.head hg (by rw [hc b']; exact h2.hd.set i v) e (hlim h2.lim) hM, fun i hi => ?_, ?_⟩
  · rcases h3 i hi with h | h
    · exact .inl h
    · exact .inr ⟨h.1, Nat.lt_of_lt_of_le h.2 hg.size⟩
  · exact keeps_step h4 h3 (Keeps.ofGrown hg fun hn => hn hs)
/-- a word is pushed by a scout -/
theorem push_step {pv ph q g c : Nat} {m : Mem} (h : Grew H w0 w O M s t) (hM : M < 1000000) (hL : LearnS s pv ph q m w) (hm : MemsIn w (some ⟨g, 0, none⟩) [m]) (_hg : g < w.heap.size) (hcg : ∃ v, w.cell? ⟨g, 0, none⟩ = some v) : Calls Try.prog 33 #[.pointer (some ⟨ph, 0, none⟩), .slice (some ⟨g, 0, none⟩) 1 c] w fun e w' => ∃ v, e = .returned v ∧ LearnS s pv ph q m w' ∧ (Value.tuple #[] = v ∧ Grew H w0 w' O (M + 1) s { t with f := Hm.push1 5 t.f m }) := by
  obtain ⟨b, O', rfl, hS, h3, h4⟩ := h
  obtain ⟨A, h1, h2, h5⟩ := hS.hum
  have hph : ph = b.ph := by
    have e1 := hL.h
    rw [hS.cell (i := 1) (v := ptrV b.ph) rfl] at e1
    unfold ptrV at e1
    injection e1 with e1
    injection e1 with e1
    injection e1 with e1
    injection e1 with e1
    exact e1.symm
  obtain ⟨F, hF, hf, hFA⟩ := h1.st
  obtain ⟨vg, hvg⟩ := hcg
  have ns : b.s ≠ b.bh := map_not_cells hF.map hL.h
  have nq : q ≠ b.bh := map_not_cells hF.map (hL.m 0 (.int .i64 m.n) rfl)
  have ng : g ≠ b.bh := map_not_cells hF.map hvg
  have hbO : O' b.bh := Classical.byContradiction fun ho => h1.nb (h5 _ hF.blt ho)
  rw [hph]
  refine (push_any h1 (by omega) (some ⟨g, 0, none⟩) c [m] hm (fun g' off _ e => by cases e; exact ng) (by have := hS.cnt.2.1; simp only [List.length_cons, List.length_nil]; omega)).mono ?_
  rintro e w5 ⟨rfl, hH5, hg5⟩
  have hS5 := hS.pushed h2 h5 hH5 (Keeps.ofGrown hg5 h1.nb) (by have := hS.cnt.2.1; simp only [List.length_cons, List.length_nil]; omega) (Nat.le_succ M)
  refine ⟨_, rfl, hph ▸ hL.grown hg5 (by intro e; injection e with e; exact ns e) (by intro e; injection e with e; exact nq e), rfl, { b with nh := b.nh + 1 }, _, rfl, hS5, own_step h4.size hg5.size h3 (fun i hi => hi), keeps_step h4 h3 (Keeps.ofGrown hg5 fun hn => hn hbO)⟩
end
end Go.Proofs.Ytghefmppjdneoaa
