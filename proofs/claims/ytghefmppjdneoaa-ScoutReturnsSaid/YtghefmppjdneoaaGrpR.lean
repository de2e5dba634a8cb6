/- Layer 12, the texts ScZk to ScZp joined: what the functions that a scout reaches do with memory, each told once. -/
import Derived.Test.YtghefmppjdneoaaGrpQ
namespace Go.Proofs.Ytghefmppjdneoaa
open Go.Proofs Stab Go.Shelf Go.RowKit Go.Lib Go.Sort Go.Maps

theorem wpList_app_sent {ops : Array Oper} {Q : Exit → Act → World → Prop} {rest : List Oper} {a : Act} {w : World} {o : Oper} (hw : Region.wanted o (yielded ops a.tmps) = true) (y z : Operand) (hop : o.op = .call { callee := .builtin .append, args := #[y, z], argTypes := #[33, 33] }) {B g c : Nat} {v : Value} {l : List Fr} {f : Fr} (hx : a.eval y = v) (hy : a.eval z = .slice (some ⟨g, 0, none⟩) 1 c)
    (hO : w.ownsRow B 59 238 v l.length (l.flatMap bareC)) (hB : B ≤ w.heap.size) (hg : w.rangeAt g 0 (bareC f)) (hl : l.length ≤ 1000) (h : ∀ v' w', w'.ownsRow B 59 238 v' (l ++ [f]).length ((l ++ [f]).flatMap bareC) → w.grownBy w' v.ownBlock → wpList Try.prog ops Q rest (a.put o.dst v') w') : wpList Try.prog ops Q (o :: rest) a w := by
  obtain ⟨v', w', h1, h2, h3⟩ := exec_app_sent y z hop hx hy hO hB hg hl
  exact wpList_to v' w' hw h1 (h v' w' h2 h3)
def leaveFr (me n : Int) : Fr := ⟨n, 2, 0, 0, me, []⟩
theorem leave_no {t : Sct} (h : t.left = true) : t.leave = (t, []) := by unfold Sct.leave; rw [if_pos h]
theorem leave_yes {t : Sct} (h : t.left = false) : t.leave = Sct.tell { t.turn t.me 3 with left := true } ((Sct.peers { t.turn t.me 3 with left := true }).map (leaveFr (t.turn t.me 3).me)) := by
  unfold Sct.leave
  rw [if_neg (by rw [h]; decide)]
  rfl
section
variable {H : Type} {w w' w0 : World} {O : Nat → Prop} {M : Nat} {b : Blk} {t : Sct} {s : Nat}
theorem Grew.peers (h : Grew H w0 w O M s t) : Calls Try.prog 37 #[.pointer (some ⟨s, 0, none⟩)] w fun e w' => ∃ A c, e = .returned (.slice A t.peers.length c) ∧ IRow w' A c t.peers ∧ (∀ g, blkOf A = some g → w.heap.size ≤ g) ∧ Below w.heap.size w w' := by
  obtain ⟨b', O', rfl, hS, _⟩ := h
  exact peers_any hS
theorem Grew.tellB {w5 : World} (h : Grew H w0 w O M s t) (hb : Below w.heap.size w w5) {v : Value} {l : List Fr} (hl : w5.ownsRow w.heap.size 59 238 v l.length (l.flatMap bareC)) (hll : l.length ≤ 100) : Calls Try.prog 17 #[.pointer (some ⟨s, 0, none⟩), v] w5 fun e w' => ∃ v', e = .returned v' ∧ Told H w0 w' O M s (t.tell l).1 v' (t.tell l).2 :=
  (h.on hb).tellT (Bares.own hl hll)
set_option maxRecDepth 100000 in
set_option maxHeartbeats 4000000 in
theorem leave_any (h : ScAt H w O M b t) (hM : M + 2 < 1000000) :
    Calls Try.prog 14 #[.pointer (some ⟨b.s, 0, none⟩)] w fun e w' => ∃ v, e = .returned v ∧ Told H w w' O (M + 1) b.s t.leave.1 v t.leave.2 := by
  have hG := Grew.refl h
  obtain ⟨s, hs⟩ : ∃ s, s = b.s := ⟨_, rfl⟩
  rw [← hs] at hG ⊢
  have c13 : w.cell? ⟨s, 13, none⟩ = some (.bool t.left) := hG.cell (i := 13) (fun _ => rfl)
  have c6 : w.cell? ⟨s, 6, none⟩ = some (.int .i64 t.me) := hG.cell (i := 6) (fun _ => rfl)
  obtain ⟨lf, hlf⟩ : ∃ lf, lf = t.left := ⟨_, rfl⟩
  obtain ⟨me, hme⟩ : ∃ me, me = t.me := ⟨_, rfl⟩
  rw [← hlf] at c13
  rw [← hme] at c6
  have hb := hG.lim.me
  have HTN := Lib.hid (hG.turn (by omega) t.me 3 (by omega) (by omega))
  rw [← hme] at HTN
  have HL := Lib.hid hlf
  have HG := Lib.hid hG
  have HME := Lib.hid hme
  clear h hs hG hlf hb hme
  go_enter Try.func14, Try.ntmps14
  cases lf
  · have HE := Lib.hid (leave_yes HL.out.symm)
    rw [← HME.out] at HE
    go_wp2_with fail
    refine HTN.out.mono ?_
    rintro e w2 ⟨rfl, hG2⟩
    obtain ⟨tt, htt⟩ : ∃ tt : Sct, tt = { t.turn me 3 with left := true } := ⟨_, rfl⟩
    have p13 : w2.cell? ⟨s, 13, none⟩ = some (.bool (t.turn me 3).left) := hG2.cell (i := 13) (fun _ => rfl)
    obtain ⟨ol, hol⟩ : ∃ ol, ol = (t.turn me 3).left := ⟨_, rfl⟩
    rw [← hol] at p13
    have q13 := hG2.frozen 13
    obtain ⟨w3, hw3⟩ : ∃ w3, w3 = w2.setCell ⟨s, 13, none⟩ (.bool true) := ⟨_, rfl⟩
    have hG3 : Grew H w w3 O (M + 1) s tt := by
      rw [hw3, htt]
      exact hG2.set (fun _ => rfl) ⟨rfl, rfl, rfl, rfl, rfl, rfl⟩ (fun l => ⟨l.me, l.ticks, l.last, l.seq, l.tgt, l.help, l.line, l.rel, l.since⟩) (Nat.le_refl _)
    have hm3 : (t.turn me 3).me = tt.me := by rw [htt]
    rw [← htt, hm3] at HE
    obtain ⟨m3, hme3⟩ : ∃ m3, m3 = tt.me := ⟨_, rfl⟩
    rw [← hme3] at HE
    have HM3 := Lib.hid hme3
    have HW3 := Lib.hid hw3
    have HPE := Lib.hid hG3.peers
    have HG3 := Lib.hid hG3
    obtain ⟨hl, hhl⟩ : ∃ hl, hl = tt.peers := ⟨_, rfl⟩
    have hl6 := peers_len tt
    rw [← hhl] at HE HPE hl6
    clear hG2 htt hol hw3 hG3 hm3 hme3 hhl HTN c13 c6
    go_wp2_with fail
    rw [← HW3.out]
    refine HPE.out.mono ?_
    rintro e z1 ⟨hA, hc, rfl, hIR, hlo, hb1⟩
    obtain ⟨n, hn⟩ : ∃ n, n = hl.length := ⟨_, rfl⟩
    rw [← hn] at hl6 ⊢
    have HIR := Lib.hid hIR
    have HN := Lib.hid hn
    have HG1 := Lib.hid (HG3.out.on hb1)
    clear hIR hlo hb1 hn HPE p13 q13
    go_wp2_with fail
    go_loopw [3, 26] (fun s3 i wr => ∃ k : Nat, k ≤ n ∧ i = .int .i64 k ∧ wr.ownsRow z1.heap.size 59 238 s3 ((hl.take k).map (leaveFr m3)).length (((hl.take k).map (leaveFr m3)).flatMap bareC) ∧ Below z1.heap.size z1 wr) (fun _ i _ => n - (RowKit.intOf i).toNat)
    case atStart => exact ⟨0, by omega, rfl, World.ownsRow_nil _ _ _ _, Below.refl _ _⟩
    case round =>
      obtain ⟨kk, hk, rfl, hO, hb⟩ := hrel
      have HOr := Lib.hid hO
      have HBr := Lib.hid hb
      clear hO hb
      by_cases hlt : kk < n
      · have hkl : kk < hl.length := by rw [← HN.out]; exact hlt
        obtain ⟨x, hx⟩ : ∃ x, x = hl[kk] := ⟨_, rfl⟩
        have hRr := HIR.out.below HBr.out
        obtain ⟨g, off, rfl⟩ : ∃ g off, hA = some ⟨g, off, none⟩ := by
          rcases HIR.out with ⟨_, h, _⟩ | ⟨g, o, _, h, _⟩
          · rw [h] at hkl; cases hkl
          · exact ⟨g, o, h⟩
        have cx := (hRr.cell hkl).1
        rw [← hx] at cx
        have HTK := Lib.hid (show (hl.take (kk + 1)).map (leaveFr m3) = (hl.take kk).map (leaveFr m3) ++ [leaveFr m3 x] by rw [List.take_succ_eq_append_getElem hkl, List.map_append, hx]; rfl)
        have hlen : ((hl.take kk).map (leaveFr m3)).length ≤ 1000 := by rw [List.length_map, List.length_take]; omega
        have HLEN := Lib.hid hlen
        have i1 : (0 : Int) ≤ (kk : Int) := by omega
        have i2 : (kk : Int) < (n : Int) := by omega
        have c6 : wr.cell? ⟨s, 6, none⟩ = some (.int .i64 m3) := by rw [HM3.out]; exact (HG1.out.on HBr.out).cell (i := 6) (fun _ => rfl)
        clear hx hRr hlen
        go_wp2_with fail
        refine (frame_any x 2 0 m3 _).mono ?_
        rintro e w3 ⟨rfl, hb3⟩
        obtain ⟨SC, hSC⟩ : ∃ SC, SC = bareC ⟨x, 2, 0, 0, m3, []⟩ := ⟨_, rfl⟩
        rw [← hSC]
        obtain ⟨w4, hw4⟩ : ∃ w4, w4 = w3.alloc (.cells SC.toArray 59) := ⟨_, rfl⟩
        have hb4 : Below w3.heap.size w3 w4 := by rw [hw4]; exact (Below.refl _ _).alloc (Nat.le_refl _) _
        have hA4 : At w4 w3.heap.size 59 SC := by rw [hw4]; exact At.new _ _ _
        have HB4 := Lib.hid (show Below wr.heap.size wr w4 from hb3.trans (hb4.mono hb3.size))
        have HA4 := Lib.hid hA4
        have HW4 := Lib.hid hw4
        have HSC := Lib.hid hSC
        clear hSC hw4 hb4 hA4 hb3 cx c6
        go_wp2_with (first
          | ((with_reducible refine wpList_to (.slice (some ⟨w3.heap.size, 0, none⟩) 1 1) (w3.alloc (.cells SC.toArray 59)) (by with_unfolding_all rfl) (exec_one_sent _ _ (by with_unfolding_all rfl) HSC.out (by with_unfolding_all rfl) _) ?_); rw [← HW4.out])
          | (at_builtin; (refine wpList_app_sent (by with_unfolding_all rfl) (.tmp 30) (.tmp 37) (by with_unfolding_all rfl) (by with_unfolding_all rfl) (by with_unfolding_all rfl) (row_below3 HOr.out HB4.out) (Nat.le_trans HBr.out.size HB4.out.size) (l := (hl.take kk).map (leaveFr m3)) (f := ⟨x, 2, 0, 0, m3, []⟩) (fun j u hu => by rw [Nat.zero_add]; rw [← HSC.out] at hu; exact HA4.out.cell' hu) HLEN.out ?_); intro v5 w5 hO5 hg5; have HO5 := Lib.hid hO5; have HB5 := Lib.hid (row_below2 (row_below3 HOr.out HB4.out) (HBr.out.trans (HB4.out.mono HBr.out.size)) (Nat.le_refl _) (Nat.le_trans HBr.out.size HB4.out.size) hg5); clear hO5 hg5))
        go_roundw
        case rel => exact ⟨kk + 1, by omega, by go_num, by rw [HTK.out]; exact HO5.out, HB5.out⟩
        case measure => simp [RowKit.intOf]; omega
      · have hkn : kk = n := by omega
        have HKN := Lib.hid hkn
        clear hkn
        have HTL := Lib.hid (HG1.out.tellB HBr.out (l := hl.map (leaveFr m3)) (by have h := HOr.out; rw [HKN.out, HN.out, List.take_length] at h; exact h) (by rw [List.length_map, ← HN.out]; omega))
        go_wp2_with fail
        refine HTL.out.mono ?_
        rintro e w9 ⟨v9, rfl, hT9⟩
        have HT9 := Lib.hid hT9
        clear hT9 HTL
        go_wp2_with fail
        go_ret
        rw [HE.out]
        exact ⟨_, rfl, HT9.out⟩
  · have HE := Lib.hid (leave_no HL.out.symm)
    go_wp2_with fail
    go_ret
    rw [HE.out]
    exact ⟨_, rfl, (HG.out.mono (Nat.le_succ _)).told_nil⟩
end
end Go.Proofs.Ytghefmppjdneoaa

namespace Go.Proofs.Ytghefmppjdneoaa
open Go.Proofs Stab Go.Shelf Go.RowKit Go.Lib Go.Sort Go.Maps

section
variable {H : Type} {w w' w0 : World} {O : Nat → Prop} {M : Nat} {b : Blk} {t : Sct} {s : Nat}
set_option maxRecDepth 100000 in
theorem scall_any (h : ScAt H w O M b t) : Calls Try.prog 10 #[.pointer (some ⟨b.s, 0, none⟩)] w fun e w' => ∃ A c, e = .returned (.slice A (all t.v).length c) ∧ MemsIn w' A (all t.v) ∧ (∀ g, blkOf A = some g → w.heap.size ≤ g) ∧ Below w.heap.size w w' := by
  have c0 := h.cell (i := 0) (v := ptrV b.pv) rfl
  have HA := Lib.hid (all_any h.view)
  obtain ⟨s, hs⟩ : ∃ s, s = b.s := ⟨_, rfl⟩
  obtain ⟨pv, hpv⟩ : ∃ pv, pv = b.pv := ⟨_, rfl⟩
  rw [← hpv] at HA
  rw [← hs, ← hpv] at c0
  rw [← hs]
  unfold ptrV at c0
  clear h hs hpv
  go_enter Try.func10, Try.ntmps10
  go_wp2_with fail
  refine HA.out.mono ?_
  rintro e w1 ⟨v, rfl, hOr, hB⟩
  have hO3 : (∃ m k, v = .slice none m k) ∨ ∃ (g m k : Nat), v = .slice (some ⟨g, 0, none⟩) m k := by
    rcases hOr.2 with ⟨h, _⟩ | ⟨g, cap, cur, fr, h, _⟩
    · exact .inl ⟨_, _, h⟩
    · exact .inr ⟨_, _, _, h⟩
  obtain ⟨A, c, rfl, hM, hlo⟩ := Mems.own hOr
  have HO3 := Lib.hid hO3
  clear hO3
  have HM := Lib.hid (And.intro hM (And.intro hlo hB))
  clear hOr hM hlo hB HA c0
  go_wp2_with fail
  go_ret
  refine ⟨A, c, rfl, HM.out.1, fun g hg => ?_, HM.out.2.2⟩
  cases A with
  | none => cases hg
  | some a =>
    obtain ⟨ab, ao, asp⟩ := a
    cases hg
    cases asp with
    | none => exact (HM.out.2.1 ab ao rfl).1
    | some q =>
      rcases HO3.out with ⟨_, _, h⟩ | ⟨_, _, _, h⟩
      · injection h with h; cases h
      · injection h with h; cases h
set_option maxRecDepth 100000 in
theorem scpres_any (h : ScAt H w O M b t) : Calls Try.prog 18 #[.pointer (some ⟨b.s, 0, none⟩)] w fun e w' => ∃ A c, e = .returned (.slice A (present t.v).length c) ∧ Below w.heap.size w w' := by
  have c0 := h.cell (i := 0) (v := ptrV b.pv) rfl
  have HA := Lib.hid (present_any h.view)
  obtain ⟨s, hs⟩ : ∃ s, s = b.s := ⟨_, rfl⟩
  obtain ⟨pv, hpv⟩ : ∃ pv, pv = b.pv := ⟨_, rfl⟩
  rw [← hpv] at HA
  rw [← hs, ← hpv] at c0
  rw [← hs]
  unfold ptrV at c0
  clear h hs hpv
  go_enter Try.func18, Try.ntmps18
  go_wp2_with fail
  refine HA.out.mono ?_
  rintro e w1 ⟨v, rfl, hrow, hB⟩
  obtain ⟨A, c, rfl, _, _⟩ := irow_of hrow
  have HB := Lib.hid hB
  clear hrow hB HA c0
  go_wp2_with fail
  go_ret
  exact ⟨A, c, rfl, HB.out⟩
set_option maxRecDepth 100000
theorem none_tick (d : Int) (w : World) : Calls Try.prog 12 #[.pointer none, .int .i64 d] w fun e w' => e = .returned (.slice none 0 0) ∧ Below w.heap.size w w' := by
  go_enter Try.func12, Try.ntmps12
  go_wp2_with fail
  go_ret
  exact ⟨rfl, Below.refl _ _⟩
theorem none_leave (w : World) : Calls Try.prog 14 #[.pointer none] w fun e w' => e = .returned (.slice none 0 0) ∧ Below w.heap.size w w' := by
  go_enter Try.func14, Try.ntmps14
  go_wp2_with fail
  go_ret
  exact ⟨rfl, Below.refl _ _⟩
theorem none_tell (v : Value) (w : World) : Calls Try.prog 17 #[.pointer none, v] w fun e w' => e = .returned (.slice none 0 0) ∧ Below w.heap.size w w' := by
  go_enter Try.func17, Try.ntmps17
  go_wp2_with fail
  go_ret
  exact ⟨rfl, Below.refl _ _⟩
theorem none_all (w : World) : Calls Try.prog 10 #[.pointer none] w fun e w' => e = .returned (.slice none 0 0) ∧ Below w.heap.size w w' := by
  go_enter Try.func10, Try.ntmps10
  go_wp2_with fail
  go_ret
  exact ⟨rfl, Below.refl _ _⟩
theorem none_pres (w : World) : Calls Try.prog 18 #[.pointer none] w fun e w' => e = .returned (.slice none 0 0) ∧ Below w.heap.size w w' := by
  go_enter Try.func18, Try.ntmps18
  go_wp2_with fail
  go_ret
  exact ⟨rfl, Below.refl _ _⟩
theorem none_hear {F : List Value} (w : World) : Calls Try.prog 13 #[.pointer none, .agg F.toArray] w fun e w' => e = .returned (.slice none 0 0) ∧ Below w.heap.size w w' := by
  obtain ⟨W1, hW1⟩ : ∃ W1, W1 = w.alloc (.cells F.toArray 57) := ⟨_, rfl⟩
  have HB := Lib.hid (show Below w.heap.size w W1 by rw [hW1]; exact (Below.refl _ _).alloc (Nat.le_refl _) _)
  have HW1 := Lib.hid hW1
  clear hW1
  go_enter Try.func13, Try.ntmps13
  go_wp2_with (first
    | ((with_reducible refine wpList_to (.pointer (some ⟨w.heap.size, 0, none⟩)) (w.alloc (.cells F.toArray 57)) (by with_unfolding_all rfl) (exec_boxF _ _ (by with_unfolding_all rfl) F (by with_unfolding_all rfl)) ?_); rw [← HW1.out]))
  go_ret
  exact ⟨rfl, HB.out⟩
theorem none_me (w : World) : Calls Try.prog 16 #[.pointer none] w fun e w' => e = .returned (memV Mem.zero) ∧ Below w.heap.size w w' := by
  unfold memV
  go_enter Try.func16, Try.ntmps16
  go_wp2_with fail
  exact ret_cellAll (p := 2) (ty := 38) (by kernel_rfl) (by with_unfolding_all rfl) w.heap.size 38 (cellsM Mem.zero) _ (by with_unfolding_all rfl) (memAt w Mem.zero) Try.underlying38 rfl info_memC ⟨rfl, (Below.refl _ _).alloc (Nat.le_refl _) _⟩
end
end Go.Proofs.Ytghefmppjdneoaa

namespace Go.Proofs.Ytghefmppjdneoaa
open Go.Proofs Stab Go.Shelf Go.RowKit Go.Lib Go.Sort Go.Maps

/-- nodes up to k are alive -/
def upTo (k : Int) : Known := fun n => if 1 ≤ n ∧ n ≤ k then some ⟨n, 0, 0⟩ else none
theorem upTo_sane {k : Int} (hk : k ≤ 6) : Sane (upTo k) := by
  intro n m h
  unfold upTo at h
  split at h
  · cases h
    exact ⟨(Mem.good_iff _).2 ⟨by show 1 ≤ n; omega, by show n ≤ 6; omega, by show (0:Int) ≤ 0; decide, by show (0:Int) ≤ 1073741824; decide, by show (0:Int) ≤ 0; decide, by show (0:Int) ≤ 3; decide⟩, rfl⟩
  · cases h
theorem upTo_next {k : Nat} (hk : k < 6) : hear (upTo k) ⟨(k : Int) + 1, 0, 0⟩ = upTo ((k + 1 : Nat) : Int) := by
  have hn : upTo k ((k : Int) + 1) = none := by unfold upTo; rw [if_neg (by omega)]
  have ht : takes (upTo k) ⟨(k : Int) + 1, 0, 0⟩ = true := by
    unfold takes
    have hg : Mem.good ⟨(k : Int) + 1, 0, 0⟩ = true := (Mem.good_iff _).2 ⟨by show (1:Int) ≤ k + 1; omega, by show (k:Int) + 1 ≤ 6; omega, by show (0:Int) ≤ 0; decide, by show (0:Int) ≤ 1073741824; decide, by show (0:Int) ≤ 0; decide, by show (0:Int) ≤ 3; decide⟩
    rw [hg]
    show (true && match upTo k ((k : Int) + 1) with | some was => _ | none => true) = true
    rw [hn]
    rfl
  unfold hear
  rw [if_pos ht]
  funext n
  unfold upd upTo
  show (if n = (k : Int) + 1 then _ else _) = _
  by_cases h : n = (k : Int) + 1
  · rw [if_pos h, if_pos (by omega), h]
  · rw [if_neg h]
    by_cases h2 : 1 ≤ n ∧ n ≤ (k : Int)
    · rw [if_pos h2, if_pos (by omega)]
    · rw [if_neg h2, if_neg (by omega)]
theorem upTo_zero : upTo 0 = fun _ => none := by
  funext n
  unfold upTo
  rw [if_neg (by omega)]
def freshK (me nodes k : Int) : Sct := { Sct.fresh me nodes with v := upTo k }
theorem freshK_all (me nodes : Int) : freshK me nodes nodes = Sct.fresh me nodes := rfl
theorem built_known (p q : Nat) : Try.prog.built 73 [(0, .pointer (some ⟨p, 0, none⟩)), (1, .pointer (some ⟨q, 0, none⟩))] = some #[.pointer (some ⟨p, 0, none⟩), .pointer (some ⟨q, 0, none⟩)] := by kernel_rfl
theorem built_scout (p q bs : Nat) (me nodes : Int) : Try.prog.built 79 [(0, .agg #[.pointer (some ⟨p, 0, none⟩), .pointer (some ⟨q, 0, none⟩)]), (2, .int .i64 me), (3, .int .i64 nodes), (7, .map (some bs))] = some #[.pointer (some ⟨p, 0, none⟩), .pointer (some ⟨q, 0, none⟩), .int .i64 0, .int .i64 0, .bool false, .slice none 0 0, .int .i64 me, .int .i64 nodes, .int .i64 0, .int .i64 0, .slice none 0 0, .map (some bs), .slice none 0 0, .bool false] := by kernel_rfl
section
variable {H : Type} {w : World}
theorem new_no {me nodes : Int} (h : nodes < 1 ∨ 6 < nodes ∨ me < 1 ∨ nodes < me) : Calls Try.prog 11 #[.int .i64 me, .int .i64 nodes] w fun e w' => e = .returned (.pointer none) ∧ Below w.heap.size w w' := by
  by_cases h1 : nodes < 1
  · clear h
    go_enter Try.func11, Try.ntmps11
    go_wp2_with fail
    go_ret
    exact ⟨rfl, Below.refl _ _⟩
  · by_cases h2 : 6 < nodes
    · clear h
      go_enter Try.func11, Try.ntmps11
      go_wp2_with fail
      go_ret
      exact ⟨rfl, Below.refl _ _⟩
    · by_cases h3 : me < 1
      · clear h
        go_enter Try.func11, Try.ntmps11
        go_wp2_with fail
        go_ret
        exact ⟨rfl, Below.refl _ _⟩
      · have h4 : nodes < me := by omega
        clear h
        go_enter Try.func11, Try.ntmps11
        go_wp2_with fail
        go_ret
        exact ⟨rfl, Below.refl _ _⟩
/-- what New lays, at first -/
theorem laid_scout {w1 w2 w3 wS : World} {p bv p2 bh : Nat} {me nodes : Int} (hme : 1 ≤ me ∧ me ≤ nodes ∧ nodes ≤ 6) (hV : ViewAt H w1 p bv 0 (fun _ => none)) (hb1 : Below w.heap.size w w1) (hp : w.heap.size ≤ p ∧ w.heap.size ≤ bv) (hH : HumAt H w2 p2 bh 0 5 (fun _ => none)) (hb2 : Below w1.heap.size w1 w2) (hp2 : w1.heap.size ≤ p2 ∧ w1.heap.size ≤ bh) (h3 : w3 = w2.alloc (.map #[] 0))
    (hS : wS = w3.alloc (.cells #[.pointer (some ⟨p, 0, none⟩), .pointer (some ⟨p2, 0, none⟩), .int .i64 0, .int .i64 0, .bool false, .slice none 0 0, .int .i64 me, .int .i64 nodes, .int .i64 0, .int .i64 0, .slice none 0 0, .map (some w2.heap.size), .slice none 0 0, .bool false] 79)) :
    ScAt H wS (fun i => w.heap.size ≤ i ∧ i < wS.heap.size) 0 ⟨w3.heap.size, p, bv, 0, p2, bh, 0, w2.heap.size, 0, none, 0, none, 0, none, 0⟩ (freshK me nodes 0) ∧ Below w.heap.size w wS := by
  have hb3 : Below w2.heap.size w2 w3 := by rw [h3]; exact (Below.refl _ _).alloc (Nat.le_refl _) _
  have hbS : Below w3.heap.size w3 wS := by rw [hS]; exact (Below.refl _ _).alloc (Nat.le_refl _) _
  have hb3S : Below w2.heap.size w2 wS := hb3.trans (hbS.mono hb3.size)
  have hb2S : Below w1.heap.size w1 wS := hb2.trans (hb3S.mono hb2.size)
  have hbwS : Below w.heap.size w wS := hb1.trans (hb2S.mono hb1.size)
  have hs3 : w3.heap.size = w2.heap.size + 1 := by rw [h3]; simp
  have hsS : wS.heap.size = w3.heap.size + 1 := by rw [hS]; simp
  have hAt : At wS w3.heap.size 79 (scC ⟨w3.heap.size, p, bv, 0, p2, bh, 0, w2.heap.size, 0, none, 0, none, 0, none, 0⟩ (freshK me nodes 0)) := by rw [hS]; exact At.newA _ _ rfl
  have hVS := view_below hV hb2S
  have hHS := hH.below hb3S
  have hlp := hV.1.lt
  have hlb : bv < w1.heap.size := by
    obtain ⟨es, clock, hb, _⟩ := hV.2.1
    exact (Array.getElem?_eq_some_iff.1 hb).1
  have hlp2 := hH.hd.lt
  have hlbh := hH.blt
  have h1 := hb1.size
  have h2 := hb2.size
  refine ⟨⟨hAt, ?_, ⟨fun i => i < wS.heap.size ∧ i ≠ p2 ∧ i ≠ bh, ⟨⟨fun _ => none, hHS, rfl, fun x g r hF => by cases hF⟩, fun h => h.2.1 rfl, fun h => h.2.2 rfl, fun i h => h.1⟩, fun i hi => ?_, fun i hi ho => ?_⟩, ?_, IRow.nil _, IRow.nil _, RRow.nil _, ?_, fun i hi => ?_, ?_, ⟨Nat.zero_le _, Nat.zero_le _, Nat.zero_le _⟩⟩, hbwS⟩
  · show ViewAt H wS p bv 0 (upTo 0)
    rw [upTo_zero]
    exact hVS
  · have : i = w3.heap.size ∨ i = p ∨ i = bv ∨ i = w2.heap.size := by
      rcases mem_list.1 hi with h | h | h | h | h | h | h
      · exact .inl h
      · exact .inr (.inl h)
      · exact .inr (.inr (.inl h))
      · exact .inr (.inr (.inr h))
      · cases h
      · cases h
      · cases h
    omega
  · exact ⟨hi, fun e => ho ⟨by omega, hi⟩, fun e => ho ⟨by omega, hi⟩⟩
  · show wS.ownsMap Try.prog 3 readN w2.heap.size 0 (Sk.mapD (H := H) intD fun _ => none)
    rw [Sk.mapD_none, hS, h3]
    exact (World.ownsMap_made w2 Try.prog 3 readN).kept (row := none) (grown_alloc (World.grownBy.refl _ _) _) (by simp)
  · unfold Blk.list
    simp only [List.pairwise_cons, List.mem_cons, List.not_mem_nil, or_false, forall_eq_or_imp, forall_eq, Option.some.injEq, List.Pairwise.nil, and_true, blkOf, Option.map_none]
    have hpb := hV.2.2.2
    refine ⟨⟨by omega, by omega, by omega, id, id, id⟩, ⟨by omega, by omega, id, id, id⟩, ⟨by omega, id, id, id⟩, ⟨id, id, id⟩, ⟨fun _ => trivial, fun _ => trivial⟩, fun _ => trivial, fun _ h => h.elim⟩
  · have : i = w3.heap.size ∨ i = p ∨ i = bv ∨ i = w2.heap.size := by
      rcases mem_list.1 hi with h | h | h | h | h | h | h
      · exact .inl h
      · exact .inr (.inl h)
      · exact .inr (.inr (.inl h))
      · exact .inr (.inr (.inr h))
      · cases h
      · cases h
      · cases h
    exact ⟨by omega, by omega⟩
  · exact ⟨hme, ⟨Int.le_refl 0, Int.le_refl 0⟩, ⟨Int.le_refl 0, Int.le_refl 0⟩, ⟨Int.le_refl 0, Int.le_refl 0⟩, ⟨Int.le_refl 0, show (0:Int) ≤ 6 by decide⟩, Nat.zero_le _, Nat.zero_le _, Nat.zero_le _, fun n k hk => by cases hk⟩
set_option maxRecDepth 100000 in
set_option maxHeartbeats 1000000 in
theorem new_sc {me nodes : Int} (hme : 1 ≤ me ∧ me ≤ nodes ∧ nodes ≤ 6) : Calls Try.prog 11 #[.int .i64 me, .int .i64 nodes] w fun e w' => ∃ b O, e = .returned (.pointer (some ⟨b.s, 0, none⟩)) ∧ ScAt H w' O 0 b (Sct.fresh me nodes) ∧ Below w.heap.size w w' ∧ ∀ i, O i → w.heap.size ≤ i ∧ i < w'.heap.size := by
  obtain ⟨nn, hnn⟩ : ∃ nn : Nat, nodes = nn := ⟨nodes.toNat, by omega⟩
  subst hnn
  have h1 := hme.1
  have h2 := hme.2.1
  have h3 := hme.2.2
  have HME := Lib.hid hme
  clear hme
  go_enter Try.func11, Try.ntmps11
  go_wp2_with fail
  refine (new_any (H := H) none 0 [] (fun h => absurd h (by simp)) (by decide) (fun m hm => by cases hm)).mono ?_
  rintro e w1 ⟨p, bv, rfl, hV, hb1, hp, hbv⟩
  have HV := Lib.hid (And.intro hV (And.intro hb1 (And.intro hp hbv)))
  clear hV hb1 hp hbv
  go_wp2_with fail
  refine (hum_new (H := H) 5 w1).mono ?_
  rintro e w2 ⟨p2, bh, rfl, hH, hb2, hp2, hbh⟩
  obtain ⟨w3, hw3⟩ : ∃ w3, w3 = w2.alloc (.map #[] 0) := ⟨_, rfl⟩
  obtain ⟨wS, hwS⟩ : ∃ wS, wS = w3.alloc (.cells #[.pointer (some ⟨p, 0, none⟩), .pointer (some ⟨p2, 0, none⟩), .int .i64 0, .int .i64 0, .bool false, .slice none 0 0, .int .i64 me, .int .i64 nn, .int .i64 0, .int .i64 0, .slice none 0 0, .map (some w2.heap.size), .slice none 0 0, .bool false] 79) := ⟨_, rfl⟩
  have hL := laid_scout (w := w) (me := me) (nodes := nn) HME.out HV.out.1 HV.out.2.1 HV.out.2.2 hH hb2 ⟨hp2, hbh⟩ hw3 hwS
  have HL := Lib.hid hL
  have HW3 := Lib.hid hw3
  have HWS := Lib.hid hwS
  clear hH hb2 hp2 hbh hw3 hwS hL
  unfold ptrV
  have hmm : (Instr.makeMap 76 none).run Try.prog w2 = .ok (.map (some w2.heap.size)) (w2.alloc (.map #[] 0)) := rfl
  go_wp2_with fail
  rw [← HW3.out, ← HWS.out]
  have hs3 : w3.heap.size = w2.heap.size + 1 := by rw [HW3.out]; simp
  rw [hs3] at HL
  obtain ⟨s, hs⟩ : ∃ s, s = w2.heap.size + 1 := ⟨_, rfl⟩
  rw [← hs] at HL ⊢
  obtain ⟨bs, hbs⟩ : ∃ bs, bs = w2.heap.size := ⟨_, rfl⟩
  rw [← hbs] at HL ⊢
  clear hs3 hs hbs hmm HV
  go_loopw [31] (fun i wr => ∃ k : Nat, k ≤ nn ∧ i = .int .i64 k ∧ ScAt H wr (fun i => w.heap.size ≤ i ∧ i < wS.heap.size) 0 ⟨s, p, bv, k, p2, bh, 0, bs, 0, none, 0, none, 0, none, 0⟩ (freshK me nn k) ∧ Below w.heap.size w wr ∧ Below wS.heap.size wS wS ∧ wS.heap.size ≤ wr.heap.size) (fun i _ => nn - (RowKit.intOf i).toNat)
  case atStart => exact ⟨0, by omega, rfl, HL.out.1, HL.out.2, Below.refl _ _, Nat.le_refl _⟩
  case round =>
    obtain ⟨k, hk, rfl, hS, hbw, _, hsz⟩ := hrel
    have HS := Lib.hid hS
    have HB := Lib.hid (And.intro hbw hsz)
    by_cases hlt : k < nn
    · have c0 : wr.cell? ⟨s, 0, none⟩ = some (.pointer (some ⟨p, 0, none⟩)) := hS.cell (i := 0) rfl
      obtain ⟨w5, hw5⟩ : ∃ w5, w5 = wr.alloc (.cells #[.int .i64 ((k : Int) + 1), .int .i64 0, .int .i64 0] 38) := ⟨_, rfl⟩
      have hb5 : Below wr.heap.size wr w5 := by rw [hw5]; exact (Below.refl _ _).alloc (Nat.le_refl _) _
      have hM5 : MemsIn w5 (some ⟨wr.heap.size, 0, none⟩) [⟨(k : Int) + 1, 0, 0⟩] := by rw [hw5]; exact mems_laid wr [⟨(k : Int) + 1, 0, 0⟩] _ rfl _ rfl
      have hS5 := hS.below hb5
      have hlb : bv < wr.heap.size := by
        obtain ⟨es, clock, hb, _⟩ := hS.view.2.1
        exact (Array.getElem?_eq_some_iff.1 hb).1
      have hkk : k < 6 := by omega
      have HMG := Lib.hid (merge_any (H := H) (w := w5) (p := p) (b := bv) (N := k) (f := upTo k) hS5.view (some ⟨wr.heap.size, 0, none⟩) 1 [⟨(k : Int) + 1, 0, 0⟩] hM5 (fun g off _ e => by injection e with e; injection e with e; omega) (by simp only [List.length_cons, List.length_nil]; omega) (fun x hx => by rw [List.mem_singleton.1 hx]; exact ⟨by show _ ≤ (k : Int) + 1; omega, by show (k : Int) + 1 ≤ _; omega⟩))
      have HS5 := Lib.hid hS5
      have HB5 := Lib.hid (show Below w.heap.size w w5 from hbw.trans (hb5.mono hbw.size))
      have HZ5 := Lib.hid hb5.size
      have HW5 := Lib.hid hw5
      have HK := Lib.hid hkk
      have i1 : (0 : Int) ≤ (k : Int) := by omega
      have i2 : (k : Int) < (nn : Int) := by omega
      have HLB := Lib.hid (show w.heap.size ≤ bv from (hS.own bv (mem_list.2 (.inr (.inr (.inl rfl))))).1)
      clear hS hbw hsz hw5 hb5 hM5 hS5 hlb hkk
      go_wp2_with fail
      rw [← HW5.out]
      refine HMG.out.mono ?_
      rintro e w6 ⟨v6, rfl, hV6, hg6, _⟩
      rw [merge_one] at hV6
      have hS6 := HS5.out.viewed (M' := 0) hg6 (by rw [upTo_next HK.out] at hV6; exact hV6) (by simp only [List.length_cons, List.length_nil]; have := HK.out; show k + 1 ≤ _; omega) (Nat.le_refl _)
      have HS6 := Lib.hid hS6
      have HB6 := Lib.hid (show Below w.heap.size w w6 ∧ w5.heap.size ≤ w6.heap.size from ⟨Below.ofGrown HB5.out hg6 HB5.out.size HLB.out, hg6.size⟩)
      clear hV6 hg6 hS6 HMG c0
      go_wp2_with fail
      go_roundw
      case rel => exact ⟨k + 1, by omega, by go_num, HS6.out, HB6.out.1, Below.refl _ _, Nat.le_trans HB.out.2 (Nat.le_trans HZ5.out HB6.out.2)⟩
      case measure => simp [RowKit.intOf]; omega
    · have hkn : k = nn := by omega
      have HKN := Lib.hid hkn
      clear hkn hS hbw hsz
      go_wp2_with fail
      go_ret
      refine ⟨⟨s, p, bv, k, p2, bh, 0, bs, 0, none, 0, none, 0, none, 0⟩, fun i => w.heap.size ≤ i ∧ i < wS.heap.size, rfl, ?_, HB.out.1, fun i hi => ⟨hi.1, Nat.lt_of_lt_of_le hi.2 HB.out.2⟩⟩
      have h := HS.out
      rw [show freshK me nn k = Sct.fresh me nn by rw [HKN.out]; rfl] at h
      exact h
end
end Go.Proofs.Ytghefmppjdneoaa

namespace Go.Proofs.Ytghefmppjdneoaa
open Go.Proofs Stab Go.Shelf Go.RowKit Go.Lib Go.Sort Go.Maps

namespace Sct
def tell1I (a : Sct × List Fr) (x : Fr) : Sct × List Fr := ({ a.1 with f := Hm.restI 6 a.1.f }, a.2 ++ [{ x with frm := a.1.me, rum := (Hm.toldI 6 a.1.f).map fun r => r.m }])
def tellI (s : Sct) (l : List Fr) : Sct × List Fr := l.foldl tell1I (s, [])
theorem tell1_I : tell1 = tell1I := by
  funext a x
  unfold tell1 tell1I
  rw [Hm.told_ins, Hm.rest_ins]
theorem tell_I : tell = tellI := by
  funext s l
  unfold tell tellI
  rw [tell1_I]
def tickI (s : Sct) (d : Int) : Sct × List Fr :=
  let t : Sct := { s with ticks := s.ticks + 1 }
  if t.left = true then (t, []) else
    let a : Sct × List Fr := if t.ticks.tmod 4 = 1 then t.ask1 d else if t.ticks.tmod 4 = 3 then t.ask3 else if t.ticks.tmod 4 = 0 then (t.ask0, []) else (t, [])
    a.1.age.tellI a.2
theorem tick_I : tick = tickI := by
  funext s d
  unfold tick tickI
  rw [tell_I]
def hearI (s : Sct) (x : Fr) : Sct × List Fr :=
  if s.isNode x.frm = false then (s, []) else
    let t : Sct := if (s.getM x.frm).s ≠ 0 then { s with f := Hm.push1 5 s.f (s.getM x.frm) } else s
    let u := x.rum.foldl rumour t
    if u.left = true then (u, [])
    else if x.kind = 1 then u.tellI [⟨x.frm, 2, 0, x.seq, u.me, []⟩]
    else if x.kind = 3 then (u.ask x).1.tellI (u.ask x).2
    else if x.kind = 2 then (u.ack x).1.tellI (u.ack x).2
    else (u, [])
theorem hear_I : hear = hearI := by
  funext s x
  unfold hear hearI
  rw [tell_I]
end Sct
def frK (x : Fr) : List Int := [x.to_, x.kind, x.frm, x.seq, x.node]
/-- the example's frame -/
def awFr : Fr := ⟨0, 1, 2, 7, 0, [⟨1, 0, 1⟩]⟩
def aw0 : Sct := Sct.fresh 1 2
def awN : Nat → Sct → Sct
  | 0, s => s
  | n + 1, s => awN n (s.tick 0).1
theorem awN_succ (n : Nat) : ∀ s, awN (n + 1) s = ((awN n s).tick 0).1 := by
  induction n with
  | zero => exact fun s => rfl
  | succ n ih => exact fun s => ih (s.tick 0).1
theorem aw_a : (aw0.tick 0).2.map frK = [[2, 1, 1, 1, 0]] := by rw [Sct.tick_I]; decide +kernel
theorem aw_b : ((awN 1 aw0).tick 0).2 = [] := by
  have h : ((awN 1 aw0).tick 0).2.map frK = [] := by unfold awN awN; rw [Sct.tick_I]; decide +kernel
  exact List.map_eq_nil_iff.1 h
theorem aw_c : ((awN 2 aw0).tick 0).2 = [] := by
  have h : ((awN 2 aw0).tick 0).2.map frK = [] := by unfold awN awN awN; rw [Sct.tick_I]; decide +kernel
  exact List.map_eq_nil_iff.1 h
theorem aw_all : (all (awN 4 aw0).v).map (fun m => [m.n, m.i, m.s]) = [[1, 0, 0], [2, 0, 1]] := by unfold awN awN awN awN awN; rw [Sct.tick_I]; decide +kernel
theorem aw_all2 : all (awN 4 aw0).v = [⟨1, 0, 0⟩, ⟨2, 0, 1⟩] := by unfold awN awN awN awN awN; rw [Sct.tick_I]; decide +kernel
theorem aw_l : ((awN 4 aw0).hear awFr).2.map frK = [[2, 2, 1, 7, 1]] := by unfold awN awN awN awN awN; rw [Sct.tick_I, Sct.hear_I]; decide +kernel
def aw5 : Sct := ((awN 4 aw0).hear awFr).1
theorem aw_me : (awN 8 aw5).own = ⟨1, 1, 0⟩ ∧ (present (awN 8 aw5).v).length = 1 := by unfold aw5 awN awN awN awN awN awN awN awN awN; rw [Sct.tick_I, Sct.hear_I]; decide +kernel
end Go.Proofs.Ytghefmppjdneoaa

namespace Go.Proofs.Ytghefmppjdneoaa
open Go.Proofs Stab Go.Shelf Go.RowKit Go.Lib Go.Sort Go.Maps

theorem frameC_is (x : Fr) (A : Option Addr) (c : Nat) : FrIs (frameC x A c) x A c := by
  refine ⟨?_, rfl, rfl, rfl, rfl, ?_, fun v hv => sentC_one x A c v (List.mem_cons_of_mem _ hv)⟩
  · have := sentC_len x A c
    unfold sentC at this
    simp only [List.length_cons] at this
    omega
  · unfold frameC
    show (frZ ++ [Value.slice A x.rum.length c])[232]? = _
    rw [List.getElem?_append_right (by rw [frZ_len]; exact Nat.le_refl _), frZ_len]
    rfl
theorem built_awFr (A : Option Addr) : Try.prog.built 57 [(0, .int .i64 1), (1, .int .i64 2), (2, .int .i64 7), (14, .slice A 1 1)] = some (frameC awFr A 1).toArray := by kernel_rfl
section
variable {H : Type} {w w' w0 : World} {O : Nat → Prop} {M : Nat} {b : Blk} {t : Sct} {s : Nat}
theorem Sents.zero {B : Nat} {v : Value} (h : Sents w B v []) : ∃ A c, v = .slice A 0 c := by
  obtain ⟨L, A, c, h1, h2, _⟩ := h
  have : L = [] := List.map_eq_nil_iff.1 h1
  subst this
  exact ⟨A, c, h2⟩
/-- one frame, read -/
theorem Sents.one {B : Nat} {v : Value} {l : List Fr} {a b c d e : Int} (h : Sents w B v l) (hl : l.map frK = [[a, b, c, d, e]]) : ∃ g cap, v = .slice (some ⟨g, 0, none⟩) 1 cap ∧ B ≤ g ∧ g < w.heap.size ∧ ∀ w' : World, w'.heap[g]? = w.heap[g]? → w'.cell? ⟨g, 0, none⟩ = some (.int .i64 a) ∧ w'.cell? ⟨g, 1, none⟩ = some (.int .i64 b) ∧ w'.cell? ⟨g, 2, none⟩ = some (.int .i64 c) ∧ w'.cell? ⟨g, 3, none⟩ = some (.int .i64 d) ∧ w'.cell? ⟨g, 4, none⟩ = some (.int .i64 e) := by
  obtain ⟨L, A, cap, h1, h2, h3, h4⟩ := h
  rw [← h1, List.map_map] at hl
  match L, h2, h4, hl with
  | [p], h2, h4, hl =>
    injection hl with hl _
    unfold Function.comp frK at hl
    injection hl with e1 hl
    injection hl with e2 hl
    injection hl with e3 hl
    injection hl with e4 hl
    injection hl with e5 _
    rcases h4 with h4 | ⟨g, rfl, hB, hlt, hr⟩
    · cases h4
    · refine ⟨g, cap, h2, hB, hlt, fun w' hw' => ?_⟩
      have hc : ∀ j u, (fpsC [p])[j]? = some u → w'.cell? ⟨g, j, none⟩ = some u := fun j u hu => by
        have := hr j u hu
        rw [Nat.zero_add] at this
        exact (World.cell?_of_block (a := ⟨g, j, none⟩) hw').trans this
      have hp : fpsC [p] = sentC p.x p.A p.c := by unfold fpsC; rw [List.flatMap_cons, List.flatMap_nil, List.append_nil]; rfl
      rw [hp] at hc
      exact ⟨by rw [← e1]; exact hc 0 _ rfl, by rw [← e2]; exact hc 1 _ rfl, by rw [← e3]; exact hc 2 _ rfl, by rw [← e4]; exact hc 3 _ rfl, by rw [← e5]; exact hc 4 _ rfl⟩
theorem Told.zero {v : Value} (h : Told H w w' O M s t v []) : ∃ A c, v = .slice A 0 c := by
  obtain ⟨_, _, _, _, _, _, _, _, _, h⟩ := h
  exact h.zero
theorem Told.step {w1 : World} {O1 : Nat → Prop} {v : Value} {l : List Fr} (hk : Keeps (fun i => ¬ O i) w w1) (hO : ∀ i, O1 i → O i ∨ (w.heap.size ≤ i ∧ i < w1.heap.size)) (h : Told H w1 w' O1 M s t v l) : Told H w w' O M s t v l := by
  obtain ⟨b', O', B1, h1, h2, h3, h4, h5, h6⟩ := h
  exact ⟨b', O', B1, h1, h2, own_step hk.size h4.size hO h3, keeps_step hk hO h4, Nat.le_trans hk.size h5, h6⟩
theorem Grew.tick (h : Grew H w0 w O M s t) (hM : M + 12 < 1000000) (d : Int) (hd : -9223372036854775808 ≤ d ∧ d ≤ 9223372036854775807) :
    Calls Try.prog 12 #[.pointer (some ⟨s, 0, none⟩), .int .i64 d] w fun e w' => ∃ v, e = .returned v ∧ Told H w0 w' O (M + 10) s (t.tick d).1 v (t.tick d).2 := by
  obtain ⟨b', O', rfl, h2, h3, h4⟩ := h
  exact (tick_any h2 hM d hd).mono fun e w' ⟨v, he, hT⟩ => ⟨v, he, hT.step h4 h3⟩
/-- a scout anew from a world on, its blocks told -/
theorem Told.root {v : Value} {l : List Fr} (h : Told H w0 w O M s t v l) : ∃ O1 B1, Grew H w w O1 M s t ∧ (∀ i, O1 i → i < B1) ∧ w0.heap.size ≤ B1 ∧ Sents w B1 v l ∧ (∀ i, O1 i → O i ∨ (w0.heap.size ≤ i ∧ i < w.heap.size)) ∧ Keeps (fun i => ¬ O i) w0 w := by
  obtain ⟨b', O', B1, h1, h2, h3, h4, h5, h6, h7⟩ := h
  exact ⟨O', B1, ⟨b', O', h1, h2, fun i hi => .inl hi, Keeps.refl _ _⟩, h6, h5, h7, h3, h4⟩
theorem Grew.reroot {w1 : World} (h : Grew H w0 w O M s t) (hb : Below w.heap.size w w1) : ∃ O2, Grew H w1 w1 O2 M s t ∧ (∀ i, O2 i → i < w.heap.size) ∧ (∀ i, O2 i → O i ∨ (w0.heap.size ≤ i ∧ i < w1.heap.size)) ∧ Keeps (fun i => ¬ O i) w0 w1 := by
  obtain ⟨b', O', rfl, h2, h3, h4⟩ := h
  refine ⟨fun i => O' i ∧ i < w.heap.size, ⟨b', _, rfl, h2.trim.below hb, fun i hi => .inl hi, Keeps.refl _ _⟩, fun i hi => hi.2, fun i hi => ?_, h4.trans (Keeps.ofBelow hb)⟩
  rcases h3 i hi.1 with h | h
  · exact .inl h
  · exact .inr ⟨h.1, Nat.lt_of_lt_of_le h.2 hb.size⟩
theorem Grew.all (h : Grew H w0 w O M s t) : Calls Try.prog 10 #[.pointer (some ⟨s, 0, none⟩)] w fun e w' => ∃ A c, e = .returned (.slice A (Go.Proofs.Ytghefmppjdneoaa.all t.v).length c) ∧ MemsIn w' A (Go.Proofs.Ytghefmppjdneoaa.all t.v) ∧ (∀ g, blkOf A = some g → w.heap.size ≤ g) ∧ Below w.heap.size w w' := by
  obtain ⟨b', O', rfl, hS, _⟩ := h
  exact scall_any hS
theorem Grew.pres (h : Grew H w0 w O M s t) : Calls Try.prog 18 #[.pointer (some ⟨s, 0, none⟩)] w fun e w' => ∃ A c, e = .returned (.slice A (present t.v).length c) ∧ Below w.heap.size w w' := by
  obtain ⟨b', O', rfl, hS, _⟩ := h
  exact scpres_any hS
theorem Grew.hear (h : Grew H w0 w O M s t) {F : List Value} {x : Fr} {A : Option Addr} {c : Nat} (hM : M + x.rum.length + 3 < 1000000) (hF : FrIs F x A c) (hR : MemsIn w A x.rum) (hRO : 0 < x.rum.length → ∀ g, blkOf A = some g → ¬ O g ∧ g < w0.heap.size) (hR64 : ∀ m ∈ x.rum, -9223372036854775808 ≤ m.n ∧ m.n ≤ 9223372036854775807) (h64 : -9223372036854775808 ≤ x.frm ∧ x.frm ≤ 9223372036854775807) :
    Calls Try.prog 13 #[.pointer (some ⟨s, 0, none⟩), .agg F.toArray] w fun e w' => ∃ v, e = .returned v ∧ Told H w0 w' O (M + x.rum.length + 2) s (t.hear x).1 v (t.hear x).2 := by
  obtain ⟨b', O', rfl, h2, h3, h4⟩ := h
  refine (hear_aux h2.trim (fun _ hi => hi.2) hM hF hR (fun h0 g hg ho => ?_) hR64 h64).mono fun e w' ⟨v, he, hT⟩ => ⟨v, he, hT.untrim.step h4 h3⟩
  rcases h3 g ho.1 with h | h
  · exact (hRO h0 g hg).1 h
  · have := (hRO h0 g hg).2; omega
end
set_option maxRecDepth 100000 in
set_option maxHeartbeats 4000000 in
theorem awake_any {H : Type} (w : World) : Calls Try.prog 7 #[] w fun e w' => e = .returned (.bool true) ∧ Below w.heap.size w w' := by
  go_enter Try.func7, Try.ntmps7
  go_wp2_with fail
  refine (new_sc (H := H) (me := 1) (nodes := 2) (by omega)).mono ?_
  rintro e w1 ⟨b, O, rfl, hS, hb1, hO⟩
  obtain ⟨s, hs⟩ : ∃ s, s = b.s := ⟨_, rfl⟩
  have hG := Grew.refl hS
  rw [← hs] at hG ⊢
  have HG := Lib.hid hG
  have HB1 := Lib.hid (And.intro hb1 hO)
  clear hS hb1 hO hs hG
  go_wp2_with fail
  refine (new_no (me := 3) (nodes := 2) (by omega)).mono ?_
  rintro e w2 ⟨rfl, hb2⟩
  have HG2 := Lib.hid (HG.out.on hb2)
  have HKB := Lib.hid (show ∀ W, Keeps (fun i => ¬ O i) w1 W → Below w.heap.size w W from fun W hK => by
    have h1 := HB1.out.1
    exact ⟨hK.os.trans h1.os, hK.tape.trans h1.tape, hK.output.trans h1.output, Nat.le_trans h1.size hK.size, fun i hi => (hK.block i (fun ho => by have := (HB1.out.2 i ho).1; omega) (Nat.lt_of_lt_of_le hi h1.size)).trans (h1.block i hi)⟩)
  clear hb2
  go_wp2_with fail
  refine (HG2.out.tick (by omega) 0 (by omega)).mono ?_
  rintro e wa ⟨va, rfl, hTa⟩
  obtain ⟨O1, B1, hGa, hO1, hB1, hSa, hOO, hKa⟩ := hTa.root
  obtain ⟨ga, capa, rfl, hga1, hga2, hra⟩ := hSa.one aw_a
  have HGa := Lib.hid (show Grew H wa wa O1 10 s (awN 1 aw0) from hGa)
  have HRA := Lib.hid (And.intro hra (And.intro (show ¬ O1 ga from fun ho => by have := hO1 ga ho; omega) hga2))
  have HKa := Lib.hid (show ∀ W, Keeps (fun i => ¬ O1 i) wa W → Below w.heap.size w W from fun W hK => HKB.out W (keeps_step hKa hOO hK))
  clear hTa hGa hO1 hB1 hSa hOO hKa hga1 hga2 hra HKB
  go_wp2_with fail
  refine (HGa.out.tick (by omega) 0 (by omega)).mono ?_
  rintro e wb ⟨vb, rfl, hTb⟩
  rw [aw_b] at hTb
  obtain ⟨Ab, cb, rfl⟩ := hTb.zero
  have HGb := Lib.hid (show Grew H wa wb O1 20 s (awN 2 aw0) from hTb.grew)
  clear hTb
  go_wp2_with fail
  refine (HGb.out.tick (by omega) 0 (by omega)).mono ?_
  rintro e wc ⟨vc, rfl, hTc⟩
  rw [aw_c] at hTc
  obtain ⟨Ac, cc, rfl⟩ := hTc.zero
  have HGc := Lib.hid (show Grew H wa wc O1 30 s (awN 3 aw0) from hTc.grew)
  clear hTc HGb
  go_wp2_with fail
  refine (HGc.out.tick (by omega) 0 (by omega)).mono ?_
  rintro e wd ⟨vd, rfl, hTd⟩
  have HGd := Lib.hid (show Grew H wa wd O1 40 s (awN 4 aw0) from hTd.grew)
  clear hTd HGc
  go_wp2_with fail
  have hal := HGd.out.all
  rw [aw_all2] at hal
  refine hal.mono ?_
  rintro e we ⟨Am, cm, rfl, hMm, _, hbe⟩
  obtain ⟨gm, om, rfl, hgm, hrm⟩ := hMm (by simp)
  have HGe := Lib.hid (HGd.out.on hbe)
  have hcm := hrm 1 (by simp) 2 (.int .i64 1) rfl
  obtain ⟨a0, a1, a2, a3, a4⟩ := HRA.out.1 we (HGe.out.keeps.block ga HRA.out.2.1 HRA.out.2.2)
  clear hal hMm hgm hrm hbe HGd
  go_wp2_with fail
  rw [show ((((Try.zeroCells57.setIfInBounds 0 (.int .i64 1)).setIfInBounds 1 (.int .i64 2)).setIfInBounds 2 (.int .i64 7)).setIfInBounds 236 (.slice (some ⟨we.heap.size, 0, none⟩) 1 1)) = (frameC awFr (some ⟨we.heap.size, 0, none⟩) 1).toArray from by kernel_rfl]
  obtain ⟨wf, hwf⟩ : ∃ wf, wf = we.alloc (.cells #[.int .i64 1, .int .i64 0, .int .i64 1] 38) := ⟨_, rfl⟩
  have hbf : Below we.heap.size we wf := by rw [hwf]; exact (Below.refl _ _).alloc (Nat.le_refl _) _
  have hMf : MemsIn wf (some ⟨we.heap.size, 0, none⟩) awFr.rum := by rw [hwf]; exact mems_laid we [⟨1, 0, 1⟩] _ rfl _ rfl
  have hlf : we.heap.size < wf.heap.size := by rw [hwf]; simp
  obtain ⟨O2, hG2, hlt2, hOO2, hK2⟩ := HGe.out.reroot hbf
  rw [← hwf]
  have HKf := Lib.hid (show ∀ W, Keeps (fun i => ¬ O2 i) wf W → Below w.heap.size w W from fun W hK => HKa.out W (keeps_step hK2 hOO2 hK))
  have HHR := Lib.hid (hG2.hear (x := awFr) (c := 1) (by show 40 + 1 + 3 < 1000000; omega) (frameC_is awFr (some ⟨we.heap.size, 0, none⟩) 1) hMf (fun _ g hg => by cases hg; exact ⟨fun ho => Nat.lt_irrefl _ (hlt2 _ ho), hlf⟩) (fun m hm => by cases hm with | head => exact ⟨by decide, by decide⟩ | tail _ h => cases h) ⟨by decide, by decide⟩)
  clear hwf hbf hMf hlf hG2 hlt2 hOO2 hK2 HGe hcm a0 a1 a2 a3 a4
  refine HHR.out.mono ?_
  rintro e wg ⟨vg, rfl, hTg⟩
  obtain ⟨O3, B3, hGg, hO3, hB3, hSg, hOO3, hKg⟩ := hTg.root
  obtain ⟨gl, capl, rfl, hgl1, hgl2, hrl⟩ := hSg.one aw_l
  have HGg := Lib.hid (show Grew H wg wg O3 43 s aw5 from hGg)
  have HRL := Lib.hid (And.intro hrl (And.intro (show ¬ O3 gl from fun ho => by have := hO3 gl ho; omega) hgl2))
  have HKg := Lib.hid (show ∀ W, Keeps (fun i => ¬ O3 i) wg W → Below w.heap.size w W from fun W hK => HKf.out W (keeps_step hKg hOO3 hK))
  clear hTg hGg hO3 hB3 hSg hOO3 hKg hgl1 hgl2 hrl HHR HKf
  go_wp2_with fail
  go_loopw [7] (fun i wr => ∃ k : Nat, k ≤ 8 ∧ i = .int .i64 k ∧ Grew H wg wr O3 (43 + 10 * k) s (awN k aw5)) (fun i _ => 8 - (RowKit.intOf i).toNat)
  case atStart => exact ⟨0, by omega, rfl, HGg.out⟩
  case round =>
    obtain ⟨k, hk, rfl, hG⟩ := hrel
    have HGr := Lib.hid hG
    clear hG
    by_cases hlt : k < 8
    · have hkk : (k : Int) < 8 := by omega
      go_wp2_with fail
      refine (HGr.out.tick (by omega) 0 (by omega)).mono ?_
      rintro e w9 ⟨v9, rfl, hT9⟩
      have HG9 := Lib.hid (show Grew H wg w9 O3 (43 + 10 * (k + 1)) s (awN (k + 1) aw5) by rw [awN_succ]; exact hT9.grew)
      clear hT9
      go_wp2_with fail
      go_roundw
      case rel => exact ⟨k + 1, by omega, by go_num, HG9.out⟩
      case measure => simp [RowKit.intOf]; omega
    · obtain rfl : k = 8 := by omega
      obtain ⟨a0, a1, a2, a3, a4⟩ := HRL.out.1 wr (HGr.out.keeps.block gl HRL.out.2.1 HRL.out.2.2)
      have hme := HGr.out.getMe
      rw [aw_me.1] at hme
      unfold memV at hme
      have HME := Lib.hid hme
      clear hme
      go_wp2_with fail
      refine HME.out.mono ?_
      rintro e w5 ⟨rfl, hb5⟩
      have HG5 := Lib.hid (HGr.out.on hb5)
      have hpr := HG5.out.pres
      rw [aw_me.2] at hpr
      have HPR := Lib.hid hpr
      clear hpr hb5 HME a0 a1 a2 a3 a4
      go_wp2_with fail
      refine HPR.out.mono ?_
      rintro e w6 ⟨Ap, cp, rfl, hb6⟩
      have HB6 := Lib.hid (HKg.out w6 (HG5.out.on hb6).keeps)
      clear hb6 HPR
      go_wp2_with fail
      go_ret
      exact ⟨rfl, HB6.out⟩
end Go.Proofs.Ytghefmppjdneoaa

namespace Go.Proofs.Ytghefmppjdneoaa
open Go.Proofs Stab Go.Shelf Go.RowKit Go.Lib Go.Sort Go.Maps

theorem S_nil' {α : Type} (le : α → α → Bool) : S le [] = [] := List.eq_nil_of_length_eq_zero (by rw [(S_perm le []).length_eq]; rfl)
namespace Hm
theorem all_none : all (fun _ => none) = [] := by unfold all; rfl
theorem told_none (q : Int) : told q (fun _ => none) = [] := by
  unfold told sorted
  rw [all_none, S_nil', List.take_nil]
theorem rest_none (q : Int) : rest q (fun _ => none) = fun _ => none := by
  unfold rest
  rw [told_none]; rfl
end Hm
/-- everybody is alive, nothing is to be told, who was asked has answered -/
structure Calm (t : Sct) (me n : Int) (r : Nat) (line : List Int) : Prop where
  v : t.v = upTo n
  f : t.f = fun _ => none
  left : t.left = false
  rel : t.rel = []
  since : t.since = fun _ => none
  help : t.help = []
  me : t.me = me
  nodes : t.nodes = n
  ticks : t.ticks = r
  line : t.line = line
  ok : t.tgt ≤ 0 ∨ t.got = true
/-- the others -/
def others (me n : Int) : List Int := (present (upTo n)).filter fun k => !decide (k = me)
theorem all_upTo {n : Int} {m : Mem} : m ∈ all (upTo n) ↔ 1 ≤ m.n ∧ m.n ≤ n ∧ m.n ≤ 6 ∧ m.i = 0 ∧ m.s = 0 := by
  unfold all
  rw [List.mem_filterMap]
  constructor
  · rintro ⟨x, hx, h⟩
    unfold upTo at h
    split at h
    · rename_i hc
      cases h
      have : x ≤ 6 := by unfold nodes at hx; simp at hx; omega
      exact ⟨hc.1, hc.2, this, rfl, rfl⟩
    · cases h
  · rintro ⟨h1, h2, h3, h4, h5⟩
    refine ⟨m.n, by unfold nodes; simp; omega, ?_⟩
    unfold upTo
    rw [if_pos ⟨h1, h2⟩]
    cases m
    simp_all
theorem mem_others {me n k : Int} (hn : n ≤ 6) : k ∈ others me n ↔ 1 ≤ k ∧ k ≤ n ∧ k ≠ me := by
  unfold others present
  rw [List.mem_filter, List.mem_map]
  constructor
  · rintro ⟨⟨m, hm, rfl⟩, h⟩
    have := all_upTo.1 (List.mem_filter.1 hm).1
    refine ⟨this.1, this.2.1, ?_⟩
    simpa using h
  · rintro ⟨h1, h2, h3⟩
    refine ⟨⟨⟨k, 0, 0⟩, List.mem_filter.2 ⟨all_upTo.2 ⟨h1, h2, Int.le_trans h2 hn, rfl, rfl⟩, decide_eq_true (Int.le_of_lt Int.zero_lt_one)⟩, rfl⟩, by simp [h3]⟩
/-- all the others, each once -/
theorem others_lens : ∀ n ∈ [2, 3, 4, 5, 6], ∀ me ∈ [1, 2, 3, 4, 5, 6], me ≤ n → (others me n).length + 1 = n.toNat ∧ (others me n).Nodup := by decide +kernel
theorem others_len {me n : Int} (hn : 2 ≤ n ∧ n ≤ 6) (hme : 1 ≤ me ∧ me ≤ n) : (others me n).length + 1 = n.toNat ∧ (others me n).Nodup :=
  others_lens n (by simp; omega) me (by simp; omega) hme.2
namespace Calm
variable {t : Sct} {me n : Int} {r : Nat} {line : List Int}
theorem peers (h : Calm t me n r line) : t.peers = others me n := by
  unfold Sct.peers others
  rw [h.v, h.me]
theorem age {t : Sct} (hv : t.v = upTo n) : t.age = t := by
  unfold Sct.age
  suffices ∀ (l : List Mem), (∀ m ∈ l, m.s = 0) → l.foldl Sct.age1 t = t from this _ fun m hm => (all_upTo.1 (by rw [hv] at hm; exact hm)).2.2.2.2
  intro l
  induction l with
  | nil => exact fun _ => rfl
  | cons a l ih =>
    intro hl
    have e : Sct.age1 t a = t := by
      unfold Sct.age1
      rw [if_neg]
      rintro ⟨_, h, _⟩
      rw [hl a List.mem_cons_self] at h
      cases h
    rw [List.foldl_cons, e]
    exact ih fun m hm => hl m (List.mem_cons_of_mem _ hm)
theorem tell0 {t : Sct} : t.tell [] = (t, []) := rfl
theorem tell1 {t : Sct} (hf : t.f = fun _ => none) (x : Fr) : t.tell [x] = (t, [{ x with frm := t.me, rum := [] }]) := by
  unfold Sct.tell
  rw [List.foldl_cons, List.foldl_nil, tell1_eq]
  simp only [hf, Hm.rest_none, Hm.told_none, List.nil_append, List.map_nil]
  cases t
  simp only at hf
  subst hf
  rfl
theorem far (h : Calm t me n r line) : t.far = [] := by
  unfold Sct.far
  rw [h.v, List.map_eq_nil_iff, List.filter_eq_nil_iff]
  intro m hm
  have := (all_upTo.1 hm).2.2.2.2
  simp [this]
theorem waits (h : Calm t me n r line) : t.waits = false := by
  unfold Sct.waits
  rcases h.ok with h | h
  · rw [decide_eq_false (by omega)]; rfl
  · rw [h]; simp
theorem tick' (h : Calm t me n r line) : Calm { t with ticks := t.ticks + 1 } me n (r + 1) line :=
  ⟨h.v, h.f, h.left, h.rel, h.since, h.help, h.me, h.nodes, by show t.ticks + 1 = _; rw [h.ticks]; rfl, h.line, h.ok⟩
/-- a tick that asks nobody -/
theorem tick_quiet (h : Calm t me n r line) (hr : r % 4 ≠ 0) (d : Int) : t.tick d = ({ t with ticks := t.ticks + 1 }, []) := by
  have hq : t.ticks + 1 = (r + 1 : Nat) := by rw [h.ticks]; rfl
  have h' := h.tick'
  rcases (show (r + 1) % 4 = 2 ∨ (r + 1) % 4 = 3 ∨ (r + 1) % 4 = 0 by omega) with h1 | h1 | h1
  · rw [tick_2 h.left hq h1, age h'.v, tell0]
  · rw [tick_3 h.left hq h1]
    have e : Sct.ask3 { t with ticks := t.ticks + 1 } = ({ t with ticks := t.ticks + 1 }, []) := by
      unfold Sct.ask3
      rw [h'.waits]
      simp only [Bool.false_eq_true, if_false]
      rw [show ({ t with ticks := t.ticks + 1 } : Sct).help = [] from h.help]
      rfl
    rw [e, age h'.v, tell0]
  · rw [tick_0 h.left hq h1]
    have e : Sct.ask0 { t with ticks := t.ticks + 1 } = { t with ticks := t.ticks + 1 } := by
      unfold Sct.ask0
      rw [h'.waits]
      rw [if_neg (by simp)]
    rw [e, age h'.v, tell0]
/-- a tick that asks -/
theorem tick_asks (h : Calm t me n r line) (hr : r % 4 = 0) (hl : ∀ x ∈ line, x ∈ others me n) (d : Int) {x : Int} {rest : List Int} (hx : (if line = [] then mixR (others me n) d else line) = x :: rest) (h0 : 0 < x) :
    t.tick d = ({ t with ticks := t.ticks + 1, tgt := x, seq := t.last + 1, got := false, help := [], last := t.last + 1, line := rest }, [⟨x, 1, me, t.last + 1, 0, []⟩]) := by
  have hq : t.ticks + 1 = (r + 1 : Nat) := by rw [h.ticks]; rfl
  have h' := h.tick'
  rw [tick_1 h.left hq (by omega)]
  have e1 : Sct.line1 { t with ticks := t.ticks + 1 } = line := by
    unfold Sct.line1
    rw [h'.peers, h'.line, List.filter_eq_self]
    intro x hx
    simp [hl x hx]
  have e2 : Sct.next { t with ticks := t.ticks + 1 } d = (x, { t with ticks := t.ticks + 1, line := rest }) := by
    unfold Sct.next Sct.nextLine
    rw [e1, h'.peers, hx]
  have e3 : Sct.choose { t with ticks := t.ticks + 1 } d = (x, { t with ticks := t.ticks + 1, line := rest }) := by
    unfold Sct.choose
    rw [if_pos (.inr h'.far), e2]
  have e4 : Sct.ask1 { t with ticks := t.ticks + 1 } d = ({ t with ticks := t.ticks + 1, tgt := x, seq := t.last + 1, got := false, help := [], last := t.last + 1, line := rest }, [⟨x, 1, 0, t.last + 1, 0, []⟩]) := by
    unfold Sct.ask1
    rw [e3]
    simp only [h0, if_true]
  rw [e4]
  simp only
  rw [age (n := n) (by exact h.v), tell1 (by exact h.f)]
  simp only [h.me]
/-- who was asked answers -/
theorem answered (h : Calm t me n r line) (hn : n ≤ 6) (hr : r % 4 = 0) (hl : ∀ x ∈ line, x ∈ others me n) (d : Int) {x : Int} {rest : List Int} (hx : (if line = [] then mixR (others me n) d else line) = x :: rest) (ho : x ∈ others me n) (y : Int) :
    ∃ u, (t.tick d).1.hear ⟨y, 2, x, t.last + 1, x, []⟩ = (u, []) ∧ Calm u me n (r + 1) rest := by
  have ⟨o1, o2, o3⟩ := (mem_others hn).1 ho
  rw [h.tick_asks hr hl d hx (by omega)]
  have hN : Sct.isNode { t with ticks := t.ticks + 1, tgt := x, seq := t.last + 1, got := false, help := [], last := t.last + 1, line := rest } x = true := by
    unfold Sct.isNode
    simp [h.nodes, h.me, o2, o3]
    omega
  rw [hear_eq _ _ hN]
  have hg : (Sct.getM { t with ticks := t.ticks + 1, tgt := x, seq := t.last + 1, got := false, help := [], last := t.last + 1, line := rest } x).s = 0 := by
    unfold Sct.getM
    simp only [h.v]
    unfold upTo
    rw [if_pos ⟨o1, o2⟩]
    rfl
  rw [if_neg (by simp only [hg]; decide)]
  simp only [List.foldl_nil]
  rw [hearK_2 (by exact h.left) rfl, ack_yes (by show 0 < x; omega) rfl rfl (.inl rfl)]
  simp only [h.rel]
  refine ⟨_, tell0, h.v, h.f, h.left, rfl, h.since, rfl, h.me, h.nodes, by show t.ticks + 1 = _; rw [h.ticks]; rfl, rfl, .inr rfl⟩
end Calm
theorem calm_fresh {me n : Int} : Calm (Sct.fresh me n) me n 0 [] := ⟨rfl, rfl, rfl, rfl, rfl, rfl, rfl, rfl, rfl, rfl, .inl (Int.le_refl 0)⟩
/-- who is asked, so many have been asked in this turn: some of the others, each once -/
def Asked (me n : Int) (k : Nat) (asked line : List Int) : Prop := asked.length = k ∧ ((k = 0 ∧ line = []) ∨ (0 < k ∧ (asked ++ line).Perm (others me n)))
theorem Asked.zero {me n : Int} : Asked me n 0 [] [] := ⟨rfl, .inl ⟨rfl, rfl⟩⟩
theorem Asked.line {me n : Int} {k : Nat} {a l : List Int} (h : Asked me n k a l) : ∀ x ∈ l, x ∈ others me n := by
  intro x hx
  rcases h.2 with ⟨_, h⟩ | ⟨_, h⟩
  · rw [h] at hx; cases hx
  · exact h.subset (List.mem_append_right _ hx)
theorem Asked.step {me n : Int} {k : Nat} {a l : List Int} (hn : 2 ≤ n ∧ n ≤ 6) (hme : 1 ≤ me ∧ me ≤ n) (h : Asked me n k a l) (hk : (k : Int) < n - 1) (d : Int) :
    ∃ x rest, (if l = [] then mixR (others me n) d else l) = x :: rest ∧ x ∈ others me n ∧ x ∉ a ∧ Asked me n (k + 1) (x :: a) rest := by
  have ⟨hL, hN⟩ := others_len hn hme
  have hP : (a ++ (if l = [] then mixR (others me n) d else l)).Perm (others me n) := by
    rcases h.2 with ⟨h1, h2⟩ | ⟨h1, h2⟩
    · rw [if_pos h2]
      have : a = [] := List.eq_nil_of_length_eq_zero (by rw [h.1, h1])
      rw [this, List.nil_append]
      exact mixR_perm _ _
    · rw [if_neg]
      · exact h2
      · intro e
        have := h2.length_eq
        rw [e, List.append_nil, h.1] at this
        omega
  generalize (if l = [] then mixR (others me n) d else l) = q at hP
  cases q with
  | nil =>
    have := hP.length_eq
    rw [List.append_nil, h.1] at this
    omega
  | cons x rest =>
    refine ⟨x, rest, rfl, hP.subset (List.mem_append_right _ List.mem_cons_self), ?_, by rw [List.length_cons, h.1], .inr ⟨by omega, ?_⟩⟩
    · have hND := hP.nodup_iff.2 hN
      intro hx
      exact (List.nodup_append.1 hND).2.2 x hx x List.mem_cons_self rfl
    · refine (List.Perm.trans ?_ hP)
      rw [List.cons_append]
      exact (List.perm_middle).symm
theorem Asked.done {me n : Int} {k : Nat} {a l : List Int} (hn : 2 ≤ n ∧ n ≤ 6) (hme : 1 ≤ me ∧ me ≤ n) (h : Asked me n k a l) (hk : (k : Int) = n - 1) : l = [] := by
  have ⟨hL, _⟩ := others_len hn hme
  rcases h.2 with ⟨_, h2⟩ | ⟨_, h2⟩
  · exact h2
  · have := h2.length_eq
    rw [List.length_append, h.1] at this
    exact List.eq_nil_of_length_eq_zero (by omega)
end Go.Proofs.Ytghefmppjdneoaa
