/- Layer 12, the texts ScZi to ScZi joined: what the functions that a scout reaches do with memory, each told once. -/
import Derived.Test.YtghefmppjdneoaaGrpO
namespace Go.Proofs.Ytghefmppjdneoaa
open Go.Proofs Stab Go.Shelf Go.RowKit Go.Lib Go.Sort Go.Maps

/-- what a call that tells has made: frames whose blocks aren't the scout's -/
def Told (H : Type) (w w' : World) (O : Nat → Prop) (M s : Nat) (t : Sct) (v : Value) (l : List Fr) : Prop :=
  ∃ b' O' B1, b'.s = s ∧ ScAt H w' O' M b' t ∧ (∀ i, O' i → O i ∨ (w.heap.size ≤ i ∧ i < w'.heap.size)) ∧ Keeps (fun i => ¬ O i) w w' ∧ w.heap.size ≤ B1 ∧ (∀ i, O' i → i < B1) ∧ Sents w' B1 v l
section
variable {H : Type} {w w' w0 : World} {O : Nat → Prop} {M : Nat} {b : Blk} {t : Sct} {s : Nat}
theorem Told.grew {v : Value} {l : List Fr} (h : Told H w w' O M s t v l) : Grew H w w' O M s t := by
  obtain ⟨b', O', B1, h1, h2, h3, h4, _⟩ := h
  exact ⟨b', O', h1, h2, h3, h4⟩
theorem Told.mono {M' : Nat} {v : Value} {l : List Fr} (h : Told H w w' O M s t v l) (hM : M ≤ M') : Told H w w' O M' s t v l := by
  obtain ⟨b', O', B1, h1, h2, h3⟩ := h
  exact ⟨b', O', B1, h1, h2.mono hM, h3⟩
theorem Told.behind {w1 : World} {v : Value} {l : List Fr} (hb : Below w.heap.size w w1) (h : Told H w1 w' O M s t v l) : Told H w w' O M s t v l := by
  obtain ⟨b', O', B1, h1, h2, h3, h4, h5, h6⟩ := h
  exact ⟨b', O', B1, h1, h2, own_step hb.size h4.size (fun i hi => .inl hi) h3, (Keeps.ofBelow hb).trans h4, Nat.le_trans hb.size h5, h6⟩
theorem Told.untrim {n : Nat} {v : Value} {l : List Fr} (h : Told H w w' (fun i => O i ∧ i < n) M s t v l) : Told H w w' O M s t v l := by
  obtain ⟨b', O', B1, h1, h2, h3, h4, h5⟩ := h
  refine ⟨b', O', B1, h1, h2, fun i hi => ?_, h4.mono fun i hi ho => hi ho.1, h5⟩
  rcases h3 i hi with h | h
  · exact .inl h.1
  · exact .inr h
theorem sents_nil {w : World} {B : Nat} : Sents w B (.slice none 0 0) [] := ⟨[], none, 0, rfl, rfl, fun p hp => (by cases hp), .inl rfl⟩
theorem Grew.told_nil (h : Grew H w w' O M s t) : Told H w w' O M s t (.slice none 0 0) [] := by
  obtain ⟨b', O', h1, h2, h3, h4⟩ := h
  exact ⟨b', _, w'.heap.size, h1, h2.trim, fun i hi => h3 i hi.1, h4, h4.size, fun i hi => hi.2, sents_nil⟩
theorem Grew.tellT (h : Grew H w0 w O M s t) {v : Value} {l : List Fr} (hl : Bares w v l) : Calls Try.prog 17 #[.pointer (some ⟨s, 0, none⟩), v] w fun e w' => ∃ v', e = .returned v' ∧ Told H w0 w' O M s (t.tell l).1 v' (t.tell l).2 := by
  obtain ⟨b', O', rfl, h2, h3, h4⟩ := h
  refine (tell_aux2 h2.trim (fun _ hi => hi.2) hl).mono ?_
  rintro e w' ⟨v', rfl, hs, ⟨b2, e2, hS, hk⟩⟩
  refine ⟨v', rfl, b2, _, w.heap.size, e2, hS, fun i hi => ?_, keeps_step h4 h3 (hk.mono fun i hi ho => hi ho.1), h4.size, fun i hi => hi.2, hs⟩
  rcases h3 i hi.1 with h | h
  · exact .inl h
  · exact .inr ⟨h.1, Nat.lt_of_lt_of_le h.2 hk.size⟩
theorem Grew.ask (h : Grew H w0 w O M s t) (hM : M < 1000000) {F : List Value} {x : Fr} {A : Option Addr} {c : Nat} (hF : FrIs F x A c) : Calls Try.prog 35 #[.pointer (some ⟨s, 0, none⟩), .agg F.toArray] w fun e w' => ∃ v, e = .returned v ∧ Bares w' v (t.ask x).2 ∧ Grew H w0 w' O (M + 1) s (t.ask x).1 := by
  obtain ⟨b', O', rfl, h2, h3, h4⟩ := h
  refine (ask_aux h2.trim (fun _ hi => hi.2) hM hF).mono ?_
  rintro e w' ⟨v, rfl, hb, hg⟩
  exact ⟨v, rfl, hb, hg.untrim.step h4 h3⟩
theorem Grew.ack (h : Grew H w0 w O M s t) {F : List Value} {x : Fr} {A : Option Addr} {c : Nat} (hF : FrIs F x A c) : Calls Try.prog 36 #[.pointer (some ⟨s, 0, none⟩), .agg F.toArray] w fun e w' => ∃ v, e = .returned v ∧ Bares w' v (t.ack x).2 ∧ Grew H w0 w' O M s (t.ack x).1 := by
  obtain ⟨b', O', rfl, h2, h3, h4⟩ := h
  refine (ack_aux h2.trim (fun _ hi => hi.2) hF).mono ?_
  rintro e w' ⟨v, rfl, hb, hg⟩
  exact ⟨v, rfl, hb, hg.untrim.step h4 h3⟩
/-- a frame's kind answered, behind its rumours -/
def hearK (u : Sct) (x : Fr) : Sct × List Fr :=
  if u.left = true then (u, [])
  else if x.kind = 1 then u.tell [⟨x.frm, 2, 0, x.seq, u.me, []⟩]
  else if x.kind = 3 then (u.ask x).1.tell (u.ask x).2
  else if x.kind = 2 then (u.ack x).1.tell (u.ack x).2
  else (u, [])
theorem hear_eq (t : Sct) (x : Fr) (h : t.isNode x.frm = true) : t.hear x = hearK (x.rum.foldl Sct.rumour (if (t.getM x.frm).s ≠ 0 then { t with f := Hm.push1 5 t.f (t.getM x.frm) } else t)) x := by
  unfold Sct.hear
  rw [if_neg (by rw [h]; decide)]
  rfl
theorem hear_no (t : Sct) (x : Fr) (h : t.isNode x.frm = false) : t.hear x = (t, []) := by
  unfold Sct.hear
  rw [if_pos h]
theorem rum_take (t : Sct) (l : List Mem) (k : Nat) (hk : k < l.length) : (l.take (k + 1)).foldl Sct.rumour t = ((l.take k).foldl Sct.rumour t).rumour l[k] := by
  rw [List.take_succ_eq_append_getElem hk, List.foldl_append]
  rfl
theorem hearK_left {u : Sct} {x : Fr} (h : u.left = true) : hearK u x = (u, []) := by unfold hearK; rw [if_pos h]
theorem nl {u : Sct} (h : u.left = false) : ¬ u.left = true := by rw [h]; decide
theorem hearK_1 {u : Sct} {x : Fr} (h : u.left = false) (k : x.kind = 1) : hearK u x = u.tell [⟨x.frm, 2, 0, x.seq, u.me, []⟩] := by unfold hearK; rw [if_neg (nl h), if_pos k]
theorem hearK_3 {u : Sct} {x : Fr} (h : u.left = false) (k : x.kind = 3) : hearK u x = (u.ask x).1.tell (u.ask x).2 := by unfold hearK; rw [if_neg (nl h), if_neg (by omega), if_pos k]
theorem hearK_2 {u : Sct} {x : Fr} (h : u.left = false) (k : x.kind = 2) : hearK u x = (u.ack x).1.tell (u.ack x).2 := by unfold hearK; rw [if_neg (nl h), if_neg (by omega), if_neg (by omega), if_pos k]
theorem hearK_0 {u : Sct} {x : Fr} (h : u.left = false) (k1 : x.kind ≠ 1) (k3 : x.kind ≠ 3) (k2 : x.kind ≠ 2) : hearK u x = (u, []) := by unfold hearK; rw [if_neg (nl h), if_neg k1, if_neg k3, if_neg k2]
/-- what Hear's answer reads -/
structure HearS (s fq : Nat) (x : Fr) (me : Int) (w : World) : Prop where
  a1 : w.cell? ⟨fq, 1, none⟩ = some (.int .i64 x.frm)
  a2 : w.cell? ⟨fq, 2, none⟩ = some (.int .i64 x.seq)
  a3 : w.cell? ⟨s, 6, none⟩ = some (.int .i64 me)
  l1 : fq < w.heap.size
  l2 : s < w.heap.size
theorem HearS.below {fq : Nat} {x : Fr} {me : Int} (h : HearS s fq x me w) (hb : Below w.heap.size w w') : HearS s fq x me w' :=
  ⟨(World.cell?_of_block (a := ⟨fq, 1, none⟩) (hb.block _ h.l1)).trans h.a1, (World.cell?_of_block (a := ⟨fq, 2, none⟩) (hb.block _ h.l1)).trans h.a2, (World.cell?_of_block (a := ⟨s, 6, none⟩) (hb.block _ h.l2)).trans h.a3, Nat.lt_of_lt_of_le h.l1 hb.size, Nat.lt_of_lt_of_le h.l2 hb.size⟩
theorem HearS.of {fq : Nat} {F : List Value} {x : Fr} {A : Option Addr} {c : Nat} {me : Int} {u : Sct} (hF : FrIs F x A c) (h : At w fq 57 F) (hG : Grew H w0 w O M s u) (hm : me = u.me) : HearS s fq x me w :=
  ⟨h.cell' hF.f, h.cell' hF.s, by rw [hm]; exact hG.cell (i := 6) (fun _ => rfl), h.lt, hG.lt⟩
theorem Grew.get2 {pv : Nat} (h : Grew H w0 w O M s t) (hc : w.cell? ⟨s, 0, none⟩ = some (.pointer (some ⟨pv, 0, none⟩))) (n : Int) (h1 : -9223372036854775808 ≤ n) (h2 : n ≤ 9223372036854775807) : Calls Try.prog 32 #[.pointer (some ⟨pv, 0, none⟩), .int .i64 n] w fun e w' => e = .returned (.tuple #[memV (t.getM n), .bool (t.v n).isSome]) ∧ Below w.heap.size w w' := by
  obtain ⟨b', O', rfl, hS, _⟩ := h
  have e1 := hS.cell (i := 0) (v := ptrV b'.pv) rfl
  rw [hc] at e1
  unfold ptrV at e1
  injection e1 with e1
  injection e1 with e1
  injection e1 with e1
  injection e1 with e1
  subst e1
  obtain ⟨m, is, hf, hm, his⟩ := found_cases t.v n
  have hG := get_any hS.view n h1 h2
  rw [hf, hm, his] at hG
  exact hG
set_option maxRecDepth 100000 in
set_option maxHeartbeats 4000000 in
theorem hear_aux (h : ScAt H w O M b t) (hO : ∀ i, O i → i < w.heap.size) {F : List Value} {x : Fr} {A : Option Addr} {c : Nat} (hM : M + x.rum.length + 3 < 1000000) (hF : FrIs F x A c) (hR : MemsIn w A x.rum) (hRO : 0 < x.rum.length → ∀ g, blkOf A = some g → ¬ O g) (hR64 : ∀ m ∈ x.rum, -9223372036854775808 ≤ m.n ∧ m.n ≤ 9223372036854775807) (h64 : -9223372036854775808 ≤ x.frm ∧ x.frm ≤ 9223372036854775807) :
    Calls Try.prog 13 #[.pointer (some ⟨b.s, 0, none⟩), .agg F.toArray] w fun e w' => ∃ v, e = .returned v ∧ Told H w w' O (M + x.rum.length + 2) b.s (t.hear x).1 v (t.hear x).2 := by
  obtain ⟨W1, hW1⟩ : ∃ W1, W1 = w.alloc (.cells F.toArray 57) := ⟨_, rfl⟩
  have hA1 : At W1 w.heap.size 57 F := by rw [hW1]; exact At.new _ _ _
  have hb1 : Below w.heap.size w W1 := by rw [hW1]; exact (Below.refl _ _).alloc (Nat.le_refl _) _
  obtain ⟨s, hs⟩ : ∃ s, s = b.s := ⟨_, rfl⟩
  have hG1 : Grew H W1 W1 O M s t := by have := Grew.refl (h.below hb1); rwa [← hs] at this
  rw [← hs]
  obtain ⟨fq, hfq⟩ : ∃ fq, fq = w.heap.size := ⟨_, rfl⟩
  rw [← hfq] at hA1
  have HFQ := Lib.hid (show ¬ O fq ∧ fq < W1.heap.size from ⟨fun ho => by have := hO fq ho; omega, hA1.lt⟩)
  have HB1 := Lib.hid hb1
  have HA1 := Lib.hid hA1
  have HG1 := Lib.hid hG1
  have HW1 := Lib.hid (And.intro hW1 hfq)
  have HF := Lib.hid hF
  have HIN := Lib.hid (hG1.isNode x.frm)
  have HRM := Lib.hid (And.intro (hR.below hb1) (And.intro hRO hR64))
  have HF64 := Lib.hid h64
  have k1 := hA1.cell' hF.f
  clear h hO hW1 hA1 hb1 hs hG1 hfq hF hR hRO hR64 h64
  go_enter Try.func13, Try.ntmps13
  go_wp2_with (first
    | ((with_reducible refine wpList_to (.pointer (some ⟨w.heap.size, 0, none⟩)) (w.alloc (.cells F.toArray 57)) (by with_unfolding_all rfl) (exec_boxF _ _ (by with_unfolding_all rfl) F (by with_unfolding_all rfl)) ?_); rw [← HW1.out.1, ← HW1.out.2]))
  cases hin : t.isNode x.frm
  · rw [hin] at HIN
    have HE := Lib.hid (hear_no t x hin)
    clear hin
    refine HIN.out.mono ?_
    rintro e w2 ⟨rfl, rfl⟩
    go_wp2_with fail
    go_ret
    rw [HE.out]
    exact ⟨_, rfl, ((HG1.out.mono (by omega)).behind HB1.out).told_nil⟩
  · rw [hin] at HIN
    have HE := Lib.hid (hear_eq t x hin)
    clear hin
    refine HIN.out.mono ?_
    rintro e w2 ⟨rfl, e2⟩
    have e3 := e2.symm
    clear e2
    subst e3
    obtain ⟨pv, ph, c0, c1⟩ := HG1.out.ptrs
    have hb0 := fun W (hW : Behind W1 W) => HG1.out.on hW
    obtain ⟨m, hm⟩ : ∃ m, m = t.getM x.frm := ⟨_, rfl⟩
    obtain ⟨is, his⟩ : ∃ is, is = (t.v x.frm).isSome := ⟨_, rfl⟩
    have HC0 := Lib.hid (show ∀ W, Behind W1 W → W.cell? ⟨s, 0, none⟩ = some (.pointer (some ⟨pv, 0, none⟩)) from fun W h => (World.cell?_of_block (a := ⟨s, 0, none⟩) (Below.block h s HG1.out.lt)).trans c0)
    have HC1 := Lib.hid (show ∀ W, Behind W1 W → W.cell? ⟨fq, 1, none⟩ = some (.int .i64 x.frm) from fun W h => (HA1.out.below h HA1.out.lt).cell' HF.out.f)
    have HGW := Lib.hid (show ∀ W, Behind W1 W → Calls Try.prog 32 #[.pointer (some ⟨pv, 0, none⟩), .int .i64 x.frm] W fun e w' => e = .returned (.tuple #[.agg #[.int .i64 m.n, .int .i64 m.i, .int .i64 m.s], .bool is]) ∧ Below W.heap.size W w' from fun W h => by rw [hm, his]; exact (hb0 W h).get2 (HC0.out W h) x.frm HF64.out.1 HF64.out.2)
    have HM := Lib.hid hm
    have HB0 := Lib.hid hb0
    have HC11 := Lib.hid c1
    clear hb0 hm his c0 c1 k1 HIN
    go_wp2_with fail
    refine wp_region_mixA 11 _ [(0, true), (5, true), (6, true), (1, true), (2, true), (3, true), (4, true), (7, false), (8, true), (9, true), (10, true)] [(12, false), (13, true)] (Behind W1) W1.heap.size 38 (cellsM Mem.zero) (by rfl) (fun _ => rfl) (fun _ w => exec_mem rfl w) (fun _ _ h hb => behind_up16 h hb) (fun _ h => h.size) (by kernel_rfl) (by kernel_rfl) (fun _ _ d _ _ h => by cases d <;> exact h) (by kernel_rfl) (by kernel_rfl) (by decide) (Below.refl _ _).drew ?_
    iterate 7 (
      first
        | (refine wpMixU_val (.pointer (some ⟨s, 0, none⟩)) (by with_unfolding_all rfl) (by with_unfolding_all rfl) (fun w _ => exec_nil _ (by with_unfolding_all rfl) s 0 (by with_unfolding_all rfl) w) ?_; simp only [Act.put, List.setIfInBounds_toArray, List.set_cons_zero, List.set_cons_succ])
        | (refine wpMixU_val (.pointer (some ⟨s, 0, none⟩)) (by with_unfolding_all rfl) (by with_unfolding_all rfl) (fun w _ => exec_s0 _ (by with_unfolding_all rfl) s (by with_unfolding_all rfl) w) ?_; simp only [Act.put, List.setIfInBounds_toArray, List.set_cons_zero, List.set_cons_succ])
        | (refine wpMixU_q (by with_unfolding_all rfl) (by kernel_rfl) ?_
           first
            | go_big_quiet_skip
            | ((with_reducible refine wpQuiet_loadP (.pointer (some ⟨pv, 0, none⟩)) (by with_unfolding_all rfl) 70 _ _ (by with_unfolding_all rfl) Try.underlying70 s (0) (by with_unfolding_all rfl) (fun w h => HC0.out w h) ?_); simp only [Act.put, List.setIfInBounds_toArray, List.set_cons_zero, List.set_cons_succ])
            | ((with_reducible refine wpQuiet_load1 (.int .i64 x.frm) (by with_unfolding_all rfl) 3 _ (by with_unfolding_all rfl) .i64 Try.underlying3 fq (1) (by with_unfolding_all rfl) (fun w h => HC1.out w h) ?_); simp only [Act.put, List.setIfInBounds_toArray, List.set_cons_zero, List.set_cons_succ])
            | (go_big_quiet_step (exact fun _ => rfl))
           refine wpMixU_qnil ?_))
    refine wpMixU_call 32 [.pointer (some ⟨pv, 0, none⟩), .int .i64 x.frm] (.tuple #[.agg #[.int .i64 m.n, .int .i64 m.i, .int .i64 m.s], .bool is]) (by with_unfolding_all rfl) (by with_unfolding_all rfl) (fun _ => by with_unfolding_all rfl) (fun w hS _ => HGW.out w hS) ?_
    simp only [Act.put, List.setIfInBounds_toArray, List.set_cons_zero, List.set_cons_succ]
    iterate 3 (
      first
        | (refine wpMixU_q (by with_unfolding_all rfl) (by kernel_rfl) ?_
           first
            | go_big_quiet_skip
            | (go_big_quiet_step (exact fun _ => rfl))
           refine wpMixU_qnil ?_))
    intro v wc hS' hF hM'
    obtain ⟨g7, rfl, hq, hat⟩ := hM'
    simp only [Act.put, List.setIfInBounds_toArray, List.set_cons_zero, List.set_cons_succ]
    refine wpMix_storeAll16 (by with_unfolding_all rfl) (by with_unfolding_all rfl) 38 _ _ (by with_unfolding_all rfl) g7 (by with_unfolding_all rfl) 38 (cellsM Mem.zero) (cellsM m) hat (by with_unfolding_all rfl) rfl info_memC (cellsM_oneCell m) (fun w' hg => made_grown16 hS' hq hg) ?_
    intro z1 hat1 hg1 hb1
    simp only [Act.put]
    iterate 1 (
      first
        | (refine wpMix_q (by with_unfolding_all rfl) (by kernel_rfl) ?_
           first
            | go_big_quiet_skip
            | (go_big_quiet_step (exact fun _ => rfl))
           refine wpMix_qnil ?_))
    refine wpMix_nil ?_
    have m2 := hat1.cell' (i := 2) (v := .int .i64 m.s) rfl
    have HAT := Lib.hid hat1
    have HGz := Lib.hid (HB0.out z1 hb1)
    have hz := World.cell?_of_block (a := ⟨s, 0, none⟩) (Below.block (show Below W1.heap.size W1 z1 from hb1) s HG1.out.lt)
    have HLz := Lib.hid (show LearnS s pv ph g7 m z1 from ⟨HC0.out z1 hb1, (World.cell?_of_block (a := ⟨s, 1, none⟩) (Below.block (show Below W1.heap.size W1 z1 from hb1) s HG1.out.lt)).trans HC11.out, fun j v hv => by rw [Nat.zero_add]; exact hat1.cell' hv, ⟨HGz.out.lt, hat1.lt⟩⟩)
    clear hS' hF hq hat hat1 hg1 hb1 hz HC0 HC1 HGW HB0
    by_cases hms : m.s = 0
    · obtain ⟨st0, hu0⟩ : ∃ st0, st0 = t := ⟨_, rfl⟩
      have HU0 := Lib.hid (show st0 = (if (t.getM x.frm).s ≠ 0 then { t with f := Hm.push1 5 t.f (t.getM x.frm) } else t) by rw [← HM.out, if_neg (by rw [hms]; exact fun h => h rfl)]; exact hu0)
      have HG0 := Lib.hid (show Grew H W1 z1 O (M + 1) s st0 by rw [hu0]; exact HGz.out.mono (Nat.le_succ _))
      rw [hms] at m2
      clear hu0 hms
      have kr := ((HG0.out.keeps.block fq HFQ.out.1 HFQ.out.2).trans HA1.out |> fun (h : At z1 fq 57 F) => h.cell' HF.out.r)
      obtain ⟨n, hn⟩ : ∃ n, n = x.rum.length := ⟨_, rfl⟩
      rw [← hn] at kr
      have HN := Lib.hid hn
      have hnM : M + n + 3 < 1000000 := by rw [hn]; exact hM
      clear hn hM
      go_wp2_with fail
      go_loopw [43] (fun i wr => ∃ k : Nat, k ≤ n ∧ i = .int .i64 k ∧ Grew H W1 wr O (M + 1 + k) s ((x.rum.take k).foldl Sct.rumour st0)) (fun i _ => n - (RowKit.intOf i).toNat)
      case atStart => exact ⟨0, by omega, rfl, HG0.out⟩
      case round =>
        obtain ⟨k, hk, rfl, hG⟩ := hrel
        have HG := Lib.hid hG
        clear hG kr
        by_cases hlt : k < n
        · have hkl : k < x.rum.length := by rw [← HN.out]; exact hlt
          obtain ⟨y, hy⟩ : ∃ y, y = x.rum[k] := ⟨_, rfl⟩
          obtain ⟨g, off, rfl, c0, c1, c2⟩ := HRM.out.1.cellsV (w' := wr) (N := 0) (fun g off e hlt' => HG.out.keeps.block g (HRM.out.2.1 (Nat.lt_of_le_of_lt (Nat.zero_le _) hkl) g (blk_some e)) hlt') hkl rfl
          rw [← hy] at c0 c1 c2
          have HX := Lib.hid (rum_take st0 x.rum k hkl)
          rw [← hy] at HX
          have hyb := HRM.out.2.2 y (by rw [hy]; exact List.getElem_mem _)
          have i1 : (0 : Int) ≤ (k : Int) := by omega
          have i2 : (k : Int) < (n : Int) := by omega
          have d0 := (memAt wr y).cell' (i := 0) (v := .int .i64 y.n) rfl
          have d1 := (memAt wr y).cell' (i := 1) (v := .int .i64 y.i) rfl
          have d2 := (memAt wr y).cell' (i := 2) (v := .int .i64 y.s) rfl
          have hb9 : Below wr.heap.size wr (wr.alloc (.cells #[.int .i64 y.n, .int .i64 y.i, .int .i64 y.s] 38)) := (Below.refl _ _).alloc (Nat.le_refl _) _
          have HRU := Lib.hid ((HG.out.on hb9).rumour (by omega) y hyb)
          unfold memV at HRU
          clear hy hyb hb9
          go_wp2_with fail
          refine HRU.out.mono ?_
          rintro e w9 ⟨rfl, hG9⟩
          have HG9 := Lib.hid hG9
          clear hG9 HRU
          go_wp2_with fail
          go_roundw
          case rel => exact ⟨k + 1, by omega, by go_num, by rw [HX.out]; exact HG9.out⟩
          case measure => simp [RowKit.intOf]; omega
        · have hkl : k = n := by omega
          have HKL := Lib.hid hkl
          clear hkl
          have HFz := Lib.hid (show At wr fq 57 F from (HG.out.keeps.block fq HFQ.out.1 HFQ.out.2).trans HA1.out)
          obtain ⟨u, hu⟩ : ∃ u, u = x.rum.foldl Sct.rumour st0 := ⟨_, rfl⟩
          have HGU := Lib.hid (show Grew H W1 wr O (M + 1 + n) s u by rw [hu]; have h := HG.out; rw [HKL.out, HN.out, List.take_length] at h; rw [HN.out]; exact h)
          have HHE := Lib.hid (show t.hear x = hearK u x by rw [HE.out, hu, HU0.out])
          obtain ⟨lf, hlf⟩ : ∃ lf, lf = u.left := ⟨_, rfl⟩
          have c13 : wr.cell? ⟨s, 13, none⟩ = some (.bool lf) := by rw [hlf]; exact HGU.out.cell (i := 13) (fun _ => rfl)
          have HLF := Lib.hid hlf
          have k0 := HFz.out.cell' HF.out.k
          clear hu hlf HG
          cases lf
          · by_cases e1 : x.kind = 1
            · obtain ⟨me, hme⟩ : ∃ me, me = u.me := ⟨_, rfl⟩
              have HS := Lib.hid (show HearS s fq x me wr from ⟨HFz.out.cell' HF.out.f, HFz.out.cell' HF.out.s, by rw [hme]; exact HGU.out.cell (i := 6) (fun _ => rfl), HFz.out.lt, HGU.out.lt⟩)
              obtain ⟨SC, hSC⟩ : ∃ SC, SC = bareC ⟨x.frm, 2, 0, x.seq, me, []⟩ := ⟨_, rfl⟩
              have HFR := Lib.hid (fun w => frame_any x.frm 2 x.seq me w)
              rw [← hSC] at HFR
              have HSC := Lib.hid hSC
              have HFIN := Lib.hid (hearK_1 HLF.out.symm e1)
              rw [← hme] at HFIN
              have HME := Lib.hid hme
              rw [e1] at k0
              clear hSC hme e1
              go_wp2_with fail
              refine wp_region_mix [(0, true), (1, true), (2, true), (3, true), (4, true), (5, true), (6, true), (7, true), (8, true), (9, false), (10, false), (11, false), (12, true)] (HearS s fq x me) (by kernel_rfl) (by kernel_rfl) (fun _ _ d _ _ h => by cases d <;> exact h) (by kernel_rfl) (by decide) (HS.out.below (Below.refl _ _).drew) ?_
              iterate 9 (
                first
                  | (refine wpMix_val (.pointer (some ⟨s, 0, none⟩)) (by with_unfolding_all rfl) (by with_unfolding_all rfl) (fun w _ => exec_nil _ (by with_unfolding_all rfl) s 0 (by with_unfolding_all rfl) w) ?_; simp only [Act.put, List.setIfInBounds_toArray, List.set_cons_zero, List.set_cons_succ])
                  | (refine wpMix_val (.pointer (some ⟨s, 6, none⟩)) (by with_unfolding_all rfl) (by with_unfolding_all rfl) (fun w _ => exec_s2 _ (by with_unfolding_all rfl) s (by with_unfolding_all rfl) w) ?_; simp only [Act.put, List.setIfInBounds_toArray, List.set_cons_zero, List.set_cons_succ])
                  | (refine wpMix_q (by with_unfolding_all rfl) (by kernel_rfl) ?_
                     first
                      | go_big_quiet_skip
                      | ((with_reducible refine wpQuiet_load1 (.int .i64 x.frm) (by with_unfolding_all rfl) 3 _ (by with_unfolding_all rfl) .i64 Try.underlying3 fq (1) (by with_unfolding_all rfl) (fun w h => h.a1) ?_); simp only [Act.put, List.setIfInBounds_toArray, List.set_cons_zero, List.set_cons_succ])
                      | ((with_reducible refine wpQuiet_load1 (.int .i64 x.seq) (by with_unfolding_all rfl) 3 _ (by with_unfolding_all rfl) .i64 Try.underlying3 fq (2) (by with_unfolding_all rfl) (fun w h => h.a2) ?_); simp only [Act.put, List.setIfInBounds_toArray, List.set_cons_zero, List.set_cons_succ])
                      | ((with_reducible refine wpQuiet_load1 (.int .i64 me) (by with_unfolding_all rfl) 3 _ (by with_unfolding_all rfl) .i64 Try.underlying3 s (6) (by with_unfolding_all rfl) (fun w h => h.a3) ?_); simp only [Act.put, List.setIfInBounds_toArray, List.set_cons_zero, List.set_cons_succ])
                      | (go_big_quiet_step (exact fun _ => rfl))
                     refine wpMix_qnil ?_))
              refine wpMix_call 25 [.int .i64 x.frm, .int .i64 2, .int .i64 x.seq, .int .i64 me] (fun v w3 => v = .agg SC.toArray ∧ Below wr.heap.size wr w3) (by with_unfolding_all rfl) (by with_unfolding_all rfl) (by with_unfolding_all rfl) ((HFR.out wr.drew).mono fun e w3 ⟨he, h1⟩ => ⟨_, he, HS.out.below ((Below.refl wr.heap.size wr).drew.trans h1), rfl, (Below.refl wr.heap.size wr).drew.trans h1⟩) ?_
              rintro v3 w3 hS3 ⟨rfl, hb3⟩
              simp only [Act.put, List.setIfInBounds_toArray, List.set_cons_zero, List.set_cons_succ]
              obtain ⟨w4, hw4⟩ : ∃ w4, w4 = w3.alloc (.cells SC.toArray 59) := ⟨_, rfl⟩
              have hb4 : Below w3.heap.size w3 w4 := by rw [hw4]; exact (Below.refl _ _).alloc (Nat.le_refl _) _
              have hA4 : At w4 w3.heap.size 59 SC := by rw [hw4]; exact At.new _ _ _
              have hB4 : Below wr.heap.size wr w4 := hb3.trans (hb4.mono hb3.size)
              refine wpMix_put (.slice (some ⟨w3.heap.size, 0, none⟩) 1 1) w4 (by with_unfolding_all rfl) (by with_unfolding_all rfl) (by rw [hw4]; exact exec_one_sent _ (.tmp 68) (by with_unfolding_all rfl) HSC.out (by with_unfolding_all rfl) _) (HS.out.below hB4) ?_
              simp only [Act.put, List.setIfInBounds_toArray, List.set_cons_zero, List.set_cons_succ]
              have hBare : Bares w4 (.slice (some ⟨w3.heap.size, 0, none⟩) 1 1) [⟨x.frm, 2, 0, x.seq, me, []⟩] := .inr ⟨_, 0, 1, rfl, hA4.lt, fun j v hv => by
                rw [List.flatMap_cons, List.flatMap_nil, List.append_nil, ← HSC.out] at hv
                rw [Nat.zero_add]
                exact hA4.cell' hv, by simp⟩
              refine wpMix_call 17 [.pointer (some ⟨s, 0, none⟩), .slice (some ⟨w3.heap.size, 0, none⟩) 1 1] (fun v w5 => Told H W1 w5 O (M + 1 + n) s (u.tell [⟨x.frm, 2, 0, x.seq, me, []⟩]).1 v (u.tell [⟨x.frm, 2, 0, x.seq, me, []⟩]).2) (by with_unfolding_all rfl) (by with_unfolding_all rfl) (by with_unfolding_all rfl) (((HGU.out.on hB4).tellT hBare).mono fun e w5 ⟨v, he, hT⟩ => ⟨v, he, HearS.of HF.out ((hT.grew.keeps.block fq HFQ.out.1 HFQ.out.2).trans HA1.out) hT.grew (by rw [tell_me, HME.out]), hT⟩) ?_
              rintro v5 w5 hS5 hT5
              simp only [Act.put, List.setIfInBounds_toArray, List.set_cons_zero, List.set_cons_succ]
              have HT5 := Lib.hid hT5
              clear hT5 hS5 hBare hB4 hA4 hb4 hw4 hb3 hS3
              iterate 1 (
                first
                  | (refine wpMix_q (by with_unfolding_all rfl) (by kernel_rfl) ?_
                     first
                      | go_big_quiet_skip
                      | (go_big_quiet_step (exact fun _ => rfl))
                     refine wpMix_qnil ?_))
              refine wpMix_nil ?_
              go_wp2_with fail
              go_ret
              rw [HHE.out, HFIN.out]
              exact ⟨_, rfl, (HT5.out.mono (by rw [HN.out]; omega)).behind HB1.out⟩
            · by_cases e3 : x.kind = 3
              · have HFIN := Lib.hid (hearK_3 HLF.out.symm e3)
                have HASK := Lib.hid (HGU.out.ask (by omega) HF.out)
                rw [e3] at k0
                clear e1 e3
                go_wp2_with (first
                  | (with_reducible refine wpList_loadAll (by with_unfolding_all rfl) 57 _ (by with_unfolding_all rfl) fq (by with_unfolding_all rfl) 57 F _ HFz.out Try.underlying57 rfl (by rw [HF.out.len]; exact info_frame) ?_))
                refine HASK.out.mono ?_
                rintro e w5 ⟨v5, rfl, hb5, hg5⟩
                have HTL := Lib.hid (hg5.tellT hb5)
                clear hb5 hg5 HASK
                go_wp2_with fail
                refine HTL.out.mono ?_
                rintro e w6 ⟨v6, rfl, hT6⟩
                have HT6 := Lib.hid hT6
                clear hT6 HTL
                go_wp2_with fail
                go_ret
                rw [HHE.out, HFIN.out]
                exact ⟨_, rfl, (HT6.out.mono (by rw [HN.out]; omega)).behind HB1.out⟩
              · by_cases e2 : x.kind = 2
                · have HFIN := Lib.hid (hearK_2 HLF.out.symm e2)
                  have HACK := Lib.hid (HGU.out.ack HF.out)
                  rw [e2] at k0
                  clear e1 e3 e2
                  go_wp2_with (first
                    | (with_reducible refine wpList_loadAll (by with_unfolding_all rfl) 57 _ (by with_unfolding_all rfl) fq (by with_unfolding_all rfl) 57 F _ HFz.out Try.underlying57 rfl (by rw [HF.out.len]; exact info_frame) ?_))
                  refine HACK.out.mono ?_
                  rintro e w5 ⟨v5, rfl, hb5, hg5⟩
                  have HTL := Lib.hid (hg5.tellT hb5)
                  clear hb5 hg5 HACK
                  go_wp2_with fail
                  refine HTL.out.mono ?_
                  rintro e w6 ⟨v6, rfl, hT6⟩
                  have HT6 := Lib.hid hT6
                  clear hT6 HTL
                  go_wp2_with fail
                  go_ret
                  rw [HHE.out, HFIN.out]
                  exact ⟨_, rfl, (HT6.out.mono (by rw [HN.out]; omega)).behind HB1.out⟩
                · have HFIN := Lib.hid (hearK_0 HLF.out.symm e1 e3 e2)
                  go_wp2_with fail
                  go_ret
                  rw [HHE.out, HFIN.out]
                  exact ⟨_, rfl, ((HGU.out.mono (by rw [HN.out]; omega)).behind HB1.out).told_nil⟩
          · have HFIN := Lib.hid (hearK_left HLF.out.symm (x := x))
            go_wp2_with fail
            go_ret
            rw [HHE.out, HFIN.out]
            exact ⟨_, rfl, ((HGU.out.mono (by rw [HN.out]; omega)).behind HB1.out).told_nil⟩
    · obtain ⟨st0, hu0⟩ : ∃ st0, st0 = { t with f := Hm.push1 5 t.f m } := ⟨_, rfl⟩
      have HU0 := Lib.hid (show st0 = (if (t.getM x.frm).s ≠ 0 then { t with f := Hm.push1 5 t.f (t.getM x.frm) } else t) by rw [← HM.out, if_pos hms]; exact hu0)
      have HHU := Lib.hid hu0
      clear hu0
      have hmb : (m.s != 0) = true := by simp [hms]
      clear hms
      go_wp2_with fail
      clear hmb m2
      refine wp_region_mix [(0, true), (5, true), (1, true), (2, true), (3, true), (4, true), (6, false), (7, false)] (LearnS s pv ph g7 m)
        (by kernel_rfl) (by kernel_rfl) (fun _ _ d _ _ h => by cases d <;> exact h) (by kernel_rfl) (by decide) (HLz.out.below (Below.refl _ _).drew) ?_
      iterate 6 (
        first
          | (refine wpMix_val (.pointer (some ⟨s, 0, none⟩)) (by with_unfolding_all rfl) (by with_unfolding_all rfl) (fun w _ => exec_nil _ (by with_unfolding_all rfl) s 0 (by with_unfolding_all rfl) w) ?_; simp only [Act.put, List.setIfInBounds_toArray, List.set_cons_zero, List.set_cons_succ])
          | (refine wpMix_val (.pointer (some ⟨s, 0, none⟩)) (by with_unfolding_all rfl) (by with_unfolding_all rfl) (fun w _ => exec_s0 _ (by with_unfolding_all rfl) s (by with_unfolding_all rfl) w) ?_; simp only [Act.put, List.setIfInBounds_toArray, List.set_cons_zero, List.set_cons_succ])
          | (refine wpMix_q (by with_unfolding_all rfl) (by kernel_rfl) ?_
             first
              | go_big_quiet_skip
              | ((with_reducible refine wpQuiet_loadP (.pointer (some ⟨ph, 0, none⟩)) (by with_unfolding_all rfl) 71 _ _ (by with_unfolding_all rfl) Try.underlying71 s (1) (by with_unfolding_all rfl) (fun w h => h.h) ?_); simp only [Act.put, List.setIfInBounds_toArray, List.set_cons_zero, List.set_cons_succ])
              | ((with_reducible refine wpQuiet_loadAll (by with_unfolding_all rfl) 38 _ (by with_unfolding_all rfl) g7 (0) (by with_unfolding_all rfl) (cellsM m) _ (fun w h => h.m) Try.underlying38 rfl info_memC ?_); simp only [Act.put, List.setIfInBounds_toArray, List.set_cons_zero, List.set_cons_succ])
              | (go_big_quiet_step (exact fun _ => rfl))
             refine wpMix_qnil ?_))
      obtain ⟨w4, hw4⟩ : ∃ w4, w4 = z1.drew.alloc (.cells #[.int .i64 m.n, .int .i64 m.i, .int .i64 m.s] 38) := ⟨_, rfl⟩
      have hb4 : Below z1.heap.size z1 w4 := by rw [hw4]; exact (Below.refl _ _).drew.alloc (Nat.le_refl _) _
      have hM4 : MemsIn w4 (some ⟨z1.heap.size, 0, none⟩) [m] := by rw [hw4]; exact mems_laid z1.drew [m] _ rfl _ rfl
      have hc4 : ∃ v, w4.cell? ⟨z1.heap.size, 0, none⟩ = some v := by rw [hw4]; exact ⟨_, (memAt z1.drew m).cell' (i := 0) rfl⟩
      have hs4 : z1.heap.size < w4.heap.size := by rw [hw4]; exact (memAt z1.drew m).lt
      have hL4 := HLz.out.below hb4
      have hG4 := HGz.out.on hb4
      refine wpMix_put (.slice (some ⟨z1.drew.heap.size, 0, none⟩) 1 1) w4 (by with_unfolding_all rfl) (by with_unfolding_all rfl) (by rw [hw4]; exact exec_one_mem (.tmp 37) m (by with_unfolding_all rfl) (by with_unfolding_all rfl) _) hL4 ?_
      simp only [Act.put, List.setIfInBounds_toArray, List.set_cons_zero, List.set_cons_succ]
      rw [show z1.drew.heap.size = z1.heap.size from rfl]
      refine wpMix_call 33 [.pointer (some ⟨ph, 0, none⟩), .slice (some ⟨z1.heap.size, 0, none⟩) 1 1] _ (by with_unfolding_all rfl) (by with_unfolding_all rfl) (by with_unfolding_all rfl) (push_step hG4 (by omega) hL4 hM4 hs4 hc4) ?_
      rintro v5 w5 hL5 ⟨rfl, hG5⟩
      simp only [Act.put, List.setIfInBounds_toArray, List.set_cons_zero, List.set_cons_succ]
      refine wpMix_nil ?_
      have HG5 := Lib.hid hG5
      have HL5 := Lib.hid hL5
      clear hG5 hL5 hG4 hL4 hs4 hc4 hM4 hb4 hw4
      have HG0 := Lib.hid (show Grew H W1 w5 O (M + 1) s st0 by rw [HHU.out]; exact HG5.out)
      have kr := ((HG0.out.keeps.block fq HFQ.out.1 HFQ.out.2).trans HA1.out |> fun (h : At w5 fq 57 F) => h.cell' HF.out.r)
      obtain ⟨n, hn⟩ : ∃ n, n = x.rum.length := ⟨_, rfl⟩
      rw [← hn] at kr
      have HN := Lib.hid hn
      have hnM : M + n + 3 < 1000000 := by rw [hn]; exact hM
      clear hn hM
      go_wp2_with fail
      go_loopw [43] (fun i wr => ∃ k : Nat, k ≤ n ∧ i = .int .i64 k ∧ Grew H W1 wr O (M + 1 + k) s ((x.rum.take k).foldl Sct.rumour st0)) (fun i _ => n - (RowKit.intOf i).toNat)
      case atStart => exact ⟨0, by omega, rfl, HG0.out⟩
      case round =>
        obtain ⟨k, hk, rfl, hG⟩ := hrel
        have HG := Lib.hid hG
        clear hG kr
        by_cases hlt : k < n
        · have hkl : k < x.rum.length := by rw [← HN.out]; exact hlt
          obtain ⟨y, hy⟩ : ∃ y, y = x.rum[k] := ⟨_, rfl⟩
          obtain ⟨g, off, rfl, c0, c1, c2⟩ := HRM.out.1.cellsV (w' := wr) (N := 0) (fun g off e hlt' => HG.out.keeps.block g (HRM.out.2.1 (Nat.lt_of_le_of_lt (Nat.zero_le _) hkl) g (blk_some e)) hlt') hkl rfl
          rw [← hy] at c0 c1 c2
          have HX := Lib.hid (rum_take st0 x.rum k hkl)
          rw [← hy] at HX
          have hyb := HRM.out.2.2 y (by rw [hy]; exact List.getElem_mem _)
          have i1 : (0 : Int) ≤ (k : Int) := by omega
          have i2 : (k : Int) < (n : Int) := by omega
          have d0 := (memAt wr y).cell' (i := 0) (v := .int .i64 y.n) rfl
          have d1 := (memAt wr y).cell' (i := 1) (v := .int .i64 y.i) rfl
          have d2 := (memAt wr y).cell' (i := 2) (v := .int .i64 y.s) rfl
          have hb9 : Below wr.heap.size wr (wr.alloc (.cells #[.int .i64 y.n, .int .i64 y.i, .int .i64 y.s] 38)) := (Below.refl _ _).alloc (Nat.le_refl _) _
          have HRU := Lib.hid ((HG.out.on hb9).rumour (by omega) y hyb)
          unfold memV at HRU
          clear hy hyb hb9
          go_wp2_with fail
          refine HRU.out.mono ?_
          rintro e w9 ⟨rfl, hG9⟩
          have HG9 := Lib.hid hG9
          clear hG9 HRU
          go_wp2_with fail
          go_roundw
          case rel => exact ⟨k + 1, by omega, by go_num, by rw [HX.out]; exact HG9.out⟩
          case measure => simp [RowKit.intOf]; omega
        · have hkl : k = n := by omega
          have HKL := Lib.hid hkl
          clear hkl
          have HFz := Lib.hid (show At wr fq 57 F from (HG.out.keeps.block fq HFQ.out.1 HFQ.out.2).trans HA1.out)
          obtain ⟨u, hu⟩ : ∃ u, u = x.rum.foldl Sct.rumour st0 := ⟨_, rfl⟩
          have HGU := Lib.hid (show Grew H W1 wr O (M + 1 + n) s u by rw [hu]; have h := HG.out; rw [HKL.out, HN.out, List.take_length] at h; rw [HN.out]; exact h)
          have HHE := Lib.hid (show t.hear x = hearK u x by rw [HE.out, hu, HU0.out])
          obtain ⟨lf, hlf⟩ : ∃ lf, lf = u.left := ⟨_, rfl⟩
          have c13 : wr.cell? ⟨s, 13, none⟩ = some (.bool lf) := by rw [hlf]; exact HGU.out.cell (i := 13) (fun _ => rfl)
          have HLF := Lib.hid hlf
          have k0 := HFz.out.cell' HF.out.k
          clear hu hlf HG
          cases lf
          · by_cases e1 : x.kind = 1
            · obtain ⟨me, hme⟩ : ∃ me, me = u.me := ⟨_, rfl⟩
              have HS := Lib.hid (show HearS s fq x me wr from ⟨HFz.out.cell' HF.out.f, HFz.out.cell' HF.out.s, by rw [hme]; exact HGU.out.cell (i := 6) (fun _ => rfl), HFz.out.lt, HGU.out.lt⟩)
              obtain ⟨SC, hSC⟩ : ∃ SC, SC = bareC ⟨x.frm, 2, 0, x.seq, me, []⟩ := ⟨_, rfl⟩
              have HFR := Lib.hid (fun w => frame_any x.frm 2 x.seq me w)
              rw [← hSC] at HFR
              have HSC := Lib.hid hSC
              have HFIN := Lib.hid (hearK_1 HLF.out.symm e1)
              rw [← hme] at HFIN
              have HME := Lib.hid hme
              rw [e1] at k0
              clear hSC hme e1
              go_wp2_with fail
              refine wp_region_mix [(0, true), (1, true), (2, true), (3, true), (4, true), (5, true), (6, true), (7, true), (8, true), (9, false), (10, false), (11, false), (12, true)] (HearS s fq x me) (by kernel_rfl) (by kernel_rfl) (fun _ _ d _ _ h => by cases d <;> exact h) (by kernel_rfl) (by decide) (HS.out.below (Below.refl _ _).drew) ?_
              iterate 9 (
                first
                  | (refine wpMix_val (.pointer (some ⟨s, 0, none⟩)) (by with_unfolding_all rfl) (by with_unfolding_all rfl) (fun w _ => exec_nil _ (by with_unfolding_all rfl) s 0 (by with_unfolding_all rfl) w) ?_; simp only [Act.put, List.setIfInBounds_toArray, List.set_cons_zero, List.set_cons_succ])
                  | (refine wpMix_val (.pointer (some ⟨s, 6, none⟩)) (by with_unfolding_all rfl) (by with_unfolding_all rfl) (fun w _ => exec_s2 _ (by with_unfolding_all rfl) s (by with_unfolding_all rfl) w) ?_; simp only [Act.put, List.setIfInBounds_toArray, List.set_cons_zero, List.set_cons_succ])
                  | (refine wpMix_q (by with_unfolding_all rfl) (by kernel_rfl) ?_
                     first
                      | go_big_quiet_skip
                      | ((with_reducible refine wpQuiet_load1 (.int .i64 x.frm) (by with_unfolding_all rfl) 3 _ (by with_unfolding_all rfl) .i64 Try.underlying3 fq (1) (by with_unfolding_all rfl) (fun w h => h.a1) ?_); simp only [Act.put, List.setIfInBounds_toArray, List.set_cons_zero, List.set_cons_succ])
                      | ((with_reducible refine wpQuiet_load1 (.int .i64 x.seq) (by with_unfolding_all rfl) 3 _ (by with_unfolding_all rfl) .i64 Try.underlying3 fq (2) (by with_unfolding_all rfl) (fun w h => h.a2) ?_); simp only [Act.put, List.setIfInBounds_toArray, List.set_cons_zero, List.set_cons_succ])
                      | ((with_reducible refine wpQuiet_load1 (.int .i64 me) (by with_unfolding_all rfl) 3 _ (by with_unfolding_all rfl) .i64 Try.underlying3 s (6) (by with_unfolding_all rfl) (fun w h => h.a3) ?_); simp only [Act.put, List.setIfInBounds_toArray, List.set_cons_zero, List.set_cons_succ])
                      | (go_big_quiet_step (exact fun _ => rfl))
                     refine wpMix_qnil ?_))
              refine wpMix_call 25 [.int .i64 x.frm, .int .i64 2, .int .i64 x.seq, .int .i64 me] (fun v w3 => v = .agg SC.toArray ∧ Below wr.heap.size wr w3) (by with_unfolding_all rfl) (by with_unfolding_all rfl) (by with_unfolding_all rfl) ((HFR.out wr.drew).mono fun e w3 ⟨he, h1⟩ => ⟨_, he, HS.out.below ((Below.refl wr.heap.size wr).drew.trans h1), rfl, (Below.refl wr.heap.size wr).drew.trans h1⟩) ?_
              rintro v3 w3 hS3 ⟨rfl, hb3⟩
              simp only [Act.put, List.setIfInBounds_toArray, List.set_cons_zero, List.set_cons_succ]
              obtain ⟨w4, hw4⟩ : ∃ w4, w4 = w3.alloc (.cells SC.toArray 59) := ⟨_, rfl⟩
              have hb4 : Below w3.heap.size w3 w4 := by rw [hw4]; exact (Below.refl _ _).alloc (Nat.le_refl _) _
              have hA4 : At w4 w3.heap.size 59 SC := by rw [hw4]; exact At.new _ _ _
              have hB4 : Below wr.heap.size wr w4 := hb3.trans (hb4.mono hb3.size)
              refine wpMix_put (.slice (some ⟨w3.heap.size, 0, none⟩) 1 1) w4 (by with_unfolding_all rfl) (by with_unfolding_all rfl) (by rw [hw4]; exact exec_one_sent _ (.tmp 68) (by with_unfolding_all rfl) HSC.out (by with_unfolding_all rfl) _) (HS.out.below hB4) ?_
              simp only [Act.put, List.setIfInBounds_toArray, List.set_cons_zero, List.set_cons_succ]
              have hBare : Bares w4 (.slice (some ⟨w3.heap.size, 0, none⟩) 1 1) [⟨x.frm, 2, 0, x.seq, me, []⟩] := .inr ⟨_, 0, 1, rfl, hA4.lt, fun j v hv => by
                rw [List.flatMap_cons, List.flatMap_nil, List.append_nil, ← HSC.out] at hv
                rw [Nat.zero_add]
                exact hA4.cell' hv, by simp⟩
              refine wpMix_call 17 [.pointer (some ⟨s, 0, none⟩), .slice (some ⟨w3.heap.size, 0, none⟩) 1 1] (fun v w5 => Told H W1 w5 O (M + 1 + n) s (u.tell [⟨x.frm, 2, 0, x.seq, me, []⟩]).1 v (u.tell [⟨x.frm, 2, 0, x.seq, me, []⟩]).2) (by with_unfolding_all rfl) (by with_unfolding_all rfl) (by with_unfolding_all rfl) (((HGU.out.on hB4).tellT hBare).mono fun e w5 ⟨v, he, hT⟩ => ⟨v, he, HearS.of HF.out ((hT.grew.keeps.block fq HFQ.out.1 HFQ.out.2).trans HA1.out) hT.grew (by rw [tell_me, HME.out]), hT⟩) ?_
              rintro v5 w5 hS5 hT5
              simp only [Act.put, List.setIfInBounds_toArray, List.set_cons_zero, List.set_cons_succ]
              have HT5 := Lib.hid hT5
              clear hT5 hS5 hBare hB4 hA4 hb4 hw4 hb3 hS3
              iterate 1 (
                first
                  | (refine wpMix_q (by with_unfolding_all rfl) (by kernel_rfl) ?_
                     first
                      | go_big_quiet_skip
                      | (go_big_quiet_step (exact fun _ => rfl))
                     refine wpMix_qnil ?_))
              refine wpMix_nil ?_
              go_wp2_with fail
              go_ret
              rw [HHE.out, HFIN.out]
              exact ⟨_, rfl, (HT5.out.mono (by rw [HN.out]; omega)).behind HB1.out⟩
            · by_cases e3 : x.kind = 3
              · have HFIN := Lib.hid (hearK_3 HLF.out.symm e3)
                have HASK := Lib.hid (HGU.out.ask (by omega) HF.out)
                rw [e3] at k0
                clear e1 e3
                go_wp2_with (first
                  | (with_reducible refine wpList_loadAll (by with_unfolding_all rfl) 57 _ (by with_unfolding_all rfl) fq (by with_unfolding_all rfl) 57 F _ HFz.out Try.underlying57 rfl (by rw [HF.out.len]; exact info_frame) ?_))
                refine HASK.out.mono ?_
                rintro e w5 ⟨v5, rfl, hb5, hg5⟩
                have HTL := Lib.hid (hg5.tellT hb5)
                clear hb5 hg5 HASK
                go_wp2_with fail
                refine HTL.out.mono ?_
                rintro e w6 ⟨v6, rfl, hT6⟩
                have HT6 := Lib.hid hT6
                clear hT6 HTL
                go_wp2_with fail
                go_ret
                rw [HHE.out, HFIN.out]
                exact ⟨_, rfl, (HT6.out.mono (by rw [HN.out]; omega)).behind HB1.out⟩
              · by_cases e2 : x.kind = 2
                · have HFIN := Lib.hid (hearK_2 HLF.out.symm e2)
                  have HACK := Lib.hid (HGU.out.ack HF.out)
                  rw [e2] at k0
                  clear e1 e3 e2
                  go_wp2_with (first
                    | (with_reducible refine wpList_loadAll (by with_unfolding_all rfl) 57 _ (by with_unfolding_all rfl) fq (by with_unfolding_all rfl) 57 F _ HFz.out Try.underlying57 rfl (by rw [HF.out.len]; exact info_frame) ?_))
                  refine HACK.out.mono ?_
                  rintro e w5 ⟨v5, rfl, hb5, hg5⟩
                  have HTL := Lib.hid (hg5.tellT hb5)
                  clear hb5 hg5 HACK
                  go_wp2_with fail
                  refine HTL.out.mono ?_
                  rintro e w6 ⟨v6, rfl, hT6⟩
                  have HT6 := Lib.hid hT6
                  clear hT6 HTL
                  go_wp2_with fail
                  go_ret
                  rw [HHE.out, HFIN.out]
                  exact ⟨_, rfl, (HT6.out.mono (by rw [HN.out]; omega)).behind HB1.out⟩
                · have HFIN := Lib.hid (hearK_0 HLF.out.symm e1 e3 e2)
                  go_wp2_with fail
                  go_ret
                  rw [HHE.out, HFIN.out]
                  exact ⟨_, rfl, ((HGU.out.mono (by rw [HN.out]; omega)).behind HB1.out).told_nil⟩
          · have HFIN := Lib.hid (hearK_left HLF.out.symm (x := x))
            go_wp2_with fail
            go_ret
            rw [HHE.out, HFIN.out]
            exact ⟨_, rfl, ((HGU.out.mono (by rw [HN.out]; omega)).behind HB1.out).told_nil⟩
end
end Go.Proofs.Ytghefmppjdneoaa
