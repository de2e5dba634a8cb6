/- Layer 12, the texts ScZj to ScZj joined: what the functions that a scout reaches do with memory, each told once. -/
import Derived.Test.YtghefmppjdneoaaGrpP
namespace Go.Proofs.Ytghefmppjdneoaa
open Go.Proofs Stab Go.Shelf Go.RowKit Go.Lib Go.Sort Go.Maps

theorem wpMix_app_sent {ops : Array Oper} {Q : Exit → Act → World → Prop} {S : World → Prop} {i : Nat} {r : List (Nat × Bool)} {a : Act} {w : World} {o : Oper} (ho : ops.toList[i]? = some o) (hw : Region.wanted o (yielded ops a.tmps) = true) (y z : Operand) (hop : o.op = .call { callee := .builtin .append, args := #[y, z], argTypes := #[33, 33] }) {B g c : Nat} {v : Value} {l : List Fr} {f : Fr} (hx : a.eval y = v) (hy : a.eval z = .slice (some ⟨g, 0, none⟩) 1 c)
    (hO : w.ownsRow B 59 238 v l.length (l.flatMap bareC)) (hB : B ≤ w.heap.size) (hg : w.rangeAt g 0 (bareC f)) (hl : l.length ≤ 1000) (h : ∀ v' w', w'.ownsRow B 59 238 v' (l ++ [f]).length ((l ++ [f]).flatMap bareC) → w.grownBy w' v.ownBlock → S w' ∧ wpMix Try.prog ops S Q r (a.put o.dst v') w') : wpMix Try.prog ops S Q ((i, false) :: r) a w := by
  obtain ⟨v', w', h1, h2, h3⟩ := exec_app_sent y z hop hx hy hO hB hg hl
  obtain ⟨hS, hW⟩ := h v' w' h2 h3
  exact wpMix_put v' w' ho hw h1 hS hW
/-- what Tick's drawn regions read -/
structure TickS (s : Nat) (tg sq : Int) (w : World) : Prop where
  a1 : w.cell? ⟨s, 2, none⟩ = some (.int .i64 tg)
  a2 : w.cell? ⟨s, 3, none⟩ = some (.int .i64 sq)
  l1 : s < w.heap.size
theorem TickS.below {s : Nat} {tg sq : Int} {w w' : World} (h : TickS s tg sq w) (hb : Below w.heap.size w w') : TickS s tg sq w' :=
  ⟨(World.cell?_of_block (a := ⟨s, 2, none⟩) (hb.block _ h.l1)).trans h.a1, (World.cell?_of_block (a := ⟨s, 3, none⟩) (hb.block _ h.l1)).trans h.a2, Nat.lt_of_lt_of_le h.l1 hb.size⟩
theorem TickS.grown {s : Nat} {tg sq : Int} {w w' : World} {row : Option Nat} (h : TickS s tg sq w) (hg : w.grownBy w' row) (hn : some s ≠ row) : TickS s tg sq w' :=
  ⟨(World.cell?_of_block (a := ⟨s, 2, none⟩) (hg.block _ h.l1 hn)).trans h.a1, (World.cell?_of_block (a := ⟨s, 3, none⟩) (hg.block _ h.l1 hn)).trans h.a2, Nat.lt_of_lt_of_le h.l1 hg.size⟩
theorem grown_sets1 {w w' : World} {s i : Nat} {v : Value} (h : w.grownBy w' (some s)) : w.grownBy (w'.setCell ⟨s, i, none⟩ v) (some s) := grown_setCell h (.inl rfl) v
theorem grown_sets4 (w : World) (s i1 i2 i3 i4 : Nat) (v1 v2 v3 v4 : Value) : w.grownBy ((((w.setCell ⟨s, i1, none⟩ v1).setCell ⟨s, i2, none⟩ v2).setCell ⟨s, i3, none⟩ v3).setCell ⟨s, i4, none⟩ v4) (some s) := grown_sets1 (grown_sets1 (grown_sets1 (grown_sets1 (World.grownBy.refl _ _))))
theorem probe_set {w : World} {s : Nat} {b : Blk} {t : Sct} (h : At w s 79 (scC b t)) (tg sq : Int) (g : Bool) (v : Value) : At ((((w.setCell ⟨s, 2, none⟩ (.int .i64 tg)).setCell ⟨s, 3, none⟩ (.int .i64 sq)).setCell ⟨s, 4, none⟩ (.bool g)).setCell ⟨s, 5, none⟩ v) s 79 (((((scC b t).set 2 (.int .i64 tg)).set 3 (.int .i64 sq)).set 4 (.bool g)).set 5 v) := (((h.set 2 _).set 3 _).set 4 _).set 5 _
def askFr (tg sq n : Int) : Fr := ⟨n, 3, 0, sq, tg, []⟩
section
variable {H : Type} {w w' w0 : World} {O : Nat → Prop} {M : Nat} {b : Blk} {t : Sct} {s : Nat}
/-- its helpers are another row, fields of its own are written -/
theorem Grew.helped {W W' : World} {A : Option Addr} {c M' : Nat} {t' : Sct} (h : Grew H w0 w O M s t) (hb : Below w.heap.size w W) (hg : W.grownBy W' (some s)) (hset : ∀ b, At W s 79 (scC b t) → At W' s 79 (scC { b with hA := A, hc := c } t')) (e : t'.v = t.v ∧ t'.f = t.f ∧ t'.since = t.since ∧ t'.line = t.line ∧ t'.rel = t.rel) (hr : IRow W A c t'.help) (hA : ∀ g, blkOf A = some g → w.heap.size ≤ g) (hlim : t.Lim M → t'.Lim M') (hM : M ≤ M') : Grew H w0 W' O M' s t' := by
  obtain ⟨b', O', rfl, hS, h3, h4⟩ := h
  have hslt := hS.hd.lt
  have hk : Keeps (fun i => i ≠ b'.s) w W' := (Keeps.ofBelow hb).trans (Keeps.ofGrown hg fun h => h rfl)
  have hS2 := hS.helped (M' := M') hk (hset b' (hS.hd.below hb hslt)) e (hr.keep fun g off e2 => hg.block g (hr.lt e2) fun e3 => by cases e3; have := hA b'.s (blk_some e2); omega) (fun g hg => .inr (hA g hg)) (hlim hS.lim) hM
  exact ⟨{ b' with hA := A, hc := c }, _, rfl, hS2, own_step h4.size hk.size h3 fun i hi => hi, keeps_step h4 h3 (hk.mono fun i hi e2 => hi (e2 ▸ hS.own _ (mem_list.2 (.inl rfl))))⟩
/-- it grows older beside a row of frames -/
theorem Grew.ageB {w5 : World} (h : Grew H w0 w O M s t) (hb : Below w.heap.size w w5) {v : Value} {l : List Fr} (hl : w5.ownsRow w.heap.size 59 238 v l.length (l.flatMap bareC)) (hll : l.length ≤ 100) (hM : M + 6 < 1000000) : Calls Try.prog 30 #[.pointer (some ⟨s, 0, none⟩)] w5 fun e w' => e = .returned (.tuple #[]) ∧ Grew H w0 w' O (M + 6) s t.age ∧ Bares w' v l := by
  obtain ⟨b', O', rfl, h2, h3, h4⟩ := h
  have hbs := hb.size
  refine (age_aux (h2.trim.below hb) (fun i hi => Nat.lt_of_lt_of_le hi.2 hbs) hM).mono ?_
  rintro e w6 ⟨rfl, hG⟩
  refine ⟨rfl, hG.step (h4.trans (Keeps.ofBelow hb)) fun i hi => ?_, ?_⟩
  · rcases h3 i hi.1 with h | h
    · exact .inl h
    · exact .inr ⟨h.1, by omega⟩
  · refine Bares.own (B := w.heap.size) ⟨hl.1, ?_⟩ hll
    rcases hl.2 with h | ⟨g, cap, cur, e1, e2, e3, e4⟩
    · exact .inl h
    · exact .inr ⟨g, cap, cur, e1, e2, by rw [hG.keeps.block g (fun ho => by have := ho.2; omega) (Array.getElem?_eq_some_iff.1 e3).1]; exact e3, e4⟩
theorem Grew.choose (h : Grew H w0 w O M s t) (hM : M < 1000000) (d : Int) (hd : -9223372036854775808 ≤ d ∧ d ≤ 9223372036854775807) : Calls Try.prog 23 #[.pointer (some ⟨s, 0, none⟩), .int .i64 d] w fun e w' => e = .returned (.int .i64 (t.choose d).1) ∧ Grew H w0 w' O (M + 1) s (t.choose d).2 :=
  h.calls fun b' O' e hS => by subst e; exact choose_any hS hM d hd
theorem Grew.waits (h : Grew H w0 w O M s t) : Calls Try.prog 26 #[.pointer (some ⟨s, 0, none⟩)] w fun e w' => e = .returned (.bool t.waits) ∧ w' = w := by
  obtain ⟨b', O', rfl, hS, _⟩ := h
  exact waits_any hS
theorem Grew.near (h : Grew H w0 w O M s t) : Calls Try.prog 27 #[.pointer (some ⟨s, 0, none⟩)] w fun e w' => ∃ A c, e = .returned (.slice A t.near.length c) ∧ IRow w' A c t.near ∧ (∀ g, blkOf A = some g → w.heap.size ≤ g) ∧ Below w.heap.size w w' := by
  obtain ⟨b', O', rfl, hS, _⟩ := h
  exact near_any hS
theorem Grew.state (h : Grew H w0 w O M s t) (n : Int) (h1 : -9223372036854775808 ≤ n) (h2 : n ≤ 9223372036854775807) : Calls Try.prog 28 #[.pointer (some ⟨s, 0, none⟩), .int .i64 n] w fun e w' => e = .returned (.int .i64 (t.stateOf n)) ∧ Below w.heap.size w w' := by
  obtain ⟨b', O', rfl, hS, _⟩ := h
  exact state_any hS n h1 h2
theorem Grew.sane (h : Grew H w0 w O M s t) : Sane t.v := by
  obtain ⟨b', O', rfl, hS, _⟩ := h
  exact hS.view.2.2.1
theorem all_nodes {f : Known} (h : Sane f) : ∀ m ∈ all f, 1 ≤ m.n ∧ m.n ≤ 6 := by
  intro m hm
  obtain ⟨x, _, hx⟩ := List.mem_filterMap.1 hm
  have := (Mem.good_iff m).1 (h x m hx).1
  omega
theorem peers_nodes {t : Sct} (h : Sane t.v) : ∀ n ∈ t.peers, 1 ≤ n ∧ n ≤ 6 := by
  intro n hn
  unfold Sct.peers present at hn
  obtain ⟨m, hm, rfl⟩ := List.mem_map.1 (List.mem_filter.1 hn).1
  exact all_nodes h m (List.mem_filter.1 hm).1
theorem far_nodes2 {t : Sct} (h : Sane t.v) : ∀ n ∈ t.far, 1 ≤ n ∧ n ≤ 6 := by
  intro n hn
  unfold Sct.far at hn
  obtain ⟨m, hm, rfl⟩ := List.mem_map.1 hn
  exact all_nodes h m (List.mem_filter.1 hm).1
theorem next_bound {t : Sct} (h : Sane t.v) (d : Int) : 0 ≤ (t.next d).1 ∧ (t.next d).1 ≤ 6 := by
  unfold Sct.next
  cases hl : t.nextLine d with
  | nil => exact ⟨Int.le_refl 0, show (0 : Int) ≤ 6 by decide⟩
  | cons x r =>
    have hx : x ∈ t.nextLine d := by rw [hl]; exact List.mem_cons_self
    have : x ∈ t.peers := by
      unfold Sct.nextLine at hx
      split at hx
      · exact (mixR_perm t.peers d).mem_iff.1 hx
      · have := (List.mem_filter.1 hx).2
        exact of_decide_eq_true this
    have := peers_nodes h x this
    show 0 ≤ x ∧ x ≤ 6
    omega
theorem choose_bound {t : Sct} (h : Sane t.v) (d : Int) : 0 ≤ (t.choose d).1 ∧ (t.choose d).1 ≤ 6 := by
  unfold Sct.choose
  split
  · exact next_bound h d
  · rename_i hc
    show 0 ≤ t.farAt ∧ t.farAt ≤ 6
    unfold Sct.farAt
    rw [List.getD]
    cases hq : t.far[((t.round.tdiv 4).tmod t.far.length).toNat]? with
    | none => exact ⟨Int.le_refl 0, show (0 : Int) ≤ 6 by decide⟩
    | some x =>
      have := far_nodes2 h x (List.mem_of_getElem? hq)
      show 0 ≤ x ∧ x ≤ 6
      omega
theorem near_len (t : Sct) : t.near.length ≤ 2 := by
  unfold Sct.near
  rw [List.length_take]
  exact Nat.min_le_left _ _
theorem tick_left {t : Sct} {d : Int} (h : t.left = true) : t.tick d = ({ t with ticks := t.ticks + 1 }, []) := by
  unfold Sct.tick
  simp only
  rw [if_pos h]
theorem tick_1 {t : Sct} {d : Int} {r : Nat} (h : t.left = false) (hr : t.ticks + 1 = r) (h1 : r % 4 = 1) : t.tick d = ((Sct.ask1 { t with ticks := t.ticks + 1 } d).1).age.tell (Sct.ask1 { t with ticks := t.ticks + 1 } d).2 := by
  have e : (t.ticks + 1).tmod 4 = 1 := by rw [hr, Int.tmod_eq_emod_of_nonneg (by omega)]; omega
  unfold Sct.tick
  simp only
  rw [if_neg (by rw [h]; decide), if_pos e]
theorem tick_3 {t : Sct} {d : Int} {r : Nat} (h : t.left = false) (hr : t.ticks + 1 = r) (h1 : r % 4 = 3) : t.tick d = ((Sct.ask3 { t with ticks := t.ticks + 1 }).1).age.tell (Sct.ask3 { t with ticks := t.ticks + 1 }).2 := by
  have e : (t.ticks + 1).tmod 4 = 3 := by rw [hr, Int.tmod_eq_emod_of_nonneg (by omega)]; omega
  unfold Sct.tick
  simp only
  rw [if_neg (by rw [h]; decide), if_neg (by omega), if_pos e]
theorem tick_0 {t : Sct} {d : Int} {r : Nat} (h : t.left = false) (hr : t.ticks + 1 = r) (h1 : r % 4 = 0) : t.tick d = (Sct.ask0 { t with ticks := t.ticks + 1 }).age.tell [] := by
  have e : (t.ticks + 1).tmod 4 = 0 := by rw [hr, Int.tmod_eq_emod_of_nonneg (by omega)]; omega
  unfold Sct.tick
  simp only
  rw [if_neg (by rw [h]; decide), if_neg (by omega), if_neg (by omega), if_pos e]
theorem tick_2 {t : Sct} {d : Int} {r : Nat} (h : t.left = false) (hr : t.ticks + 1 = r) (h1 : r % 4 = 2) : t.tick d = (Sct.age { t with ticks := t.ticks + 1 }).tell [] := by
  have e : (t.ticks + 1).tmod 4 = 2 := by rw [hr, Int.tmod_eq_emod_of_nonneg (by omega)]; omega
  unfold Sct.tick
  simp only
  rw [if_neg (by rw [h]; decide), if_neg (by omega), if_neg (by omega), if_neg (by omega)]
set_option maxRecDepth 100000 in
set_option maxHeartbeats 4000000 in
theorem tick_any (h : ScAt H w O M b t) (hM : M + 12 < 1000000) (d : Int) (hd : -9223372036854775808 ≤ d ∧ d ≤ 9223372036854775807) :
    Calls Try.prog 12 #[.pointer (some ⟨b.s, 0, none⟩), .int .i64 d] w fun e w' => ∃ v, e = .returned v ∧ Told H w w' O (M + 10) b.s (t.tick d).1 v (t.tick d).2 := by
  have hG := Grew.refl h
  obtain ⟨s, hs⟩ : ∃ s, s = b.s := ⟨_, rfl⟩
  rw [← hs] at hG ⊢
  obtain ⟨k, hk⟩ : ∃ k : Nat, t.ticks = k := ⟨t.ticks.toNat, by have := hG.lim.ticks; omega⟩
  have hkM : k ≤ M := by have := hG.lim.ticks; omega
  have c8 := hG.cell (i := 8) (v := .int .i64 t.ticks) (fun _ => rfl)
  have f8 := hG.frozen 8
  rw [hk] at c8
  obtain ⟨lf, hlf⟩ : ∃ lf, lf = t.left := ⟨_, rfl⟩
  obtain ⟨w1, hw1⟩ : ∃ w1, w1 = w.setCell ⟨s, 8, none⟩ (.int .i64 ((k : Int) + 1)) := ⟨_, rfl⟩
  have hG1 : Grew H w w1 O (M + 1) s { t with ticks := t.ticks + 1 } := by
    rw [hw1, ← hk]
    exact hG.set (fun _ => rfl) ⟨rfl, rfl, rfl, rfl, rfl, rfl⟩ (fun l => ⟨l.me, ⟨by have := l.ticks; show 0 ≤ t.ticks + 1; omega, by have := l.ticks; show t.ticks + 1 ≤ _; omega⟩, ⟨l.last.1, by have := l.last.2; show t.last ≤ _; omega⟩, ⟨l.seq.1, by have := l.seq.2; show t.seq ≤ _; omega⟩, l.tgt, l.help, l.line, l.rel, fun n z hz => by have := l.since n z hz; omega⟩) (Nat.le_succ _)
  have HK := Lib.hid hk
  have HL := Lib.hid hlf
  have HG1 := Lib.hid hG1
  have HW1 := Lib.hid hw1
  have HD := Lib.hid hd
  have c13 : w.cell? ⟨s, 13, none⟩ = some (.bool lf) := by rw [hlf]; exact hG.cell (i := 13) (fun _ => rfl)
  clear h hs hG hk hlf hw1 hG1 hd
  go_enter Try.func12, Try.ntmps12
  cases lf
  · by_cases hc1 : (k + 1) % 4 = 1
    · have hr4 : ((k : Int) + 1) % 4 = 1 := by omega
      have HE := Lib.hid (tick_1 (t := t) (d := d) (r := k + 1) HL.out.symm (by rw [HK.out]; rfl) hc1)
      have HCH := Lib.hid (HG1.out.choose (by omega) d HD.out)
      obtain ⟨t0, ht0⟩ : ∃ t0 : Sct, t0 = { t with ticks := t.ticks + 1 } := ⟨_, rfl⟩
      rw [← ht0] at HE HCH
      obtain ⟨cv, hcv⟩ : ∃ cv, cv = (t0.choose d).1 := ⟨_, rfl⟩
      obtain ⟨ct, hct⟩ : ∃ ct, ct = (t0.choose d).2 := ⟨_, rfl⟩
      have HCB := Lib.hid (show 0 ≤ cv ∧ cv ≤ 6 by rw [hcv, ht0]; exact choose_bound HG1.out.sane d)
      have HA1 := Lib.hid (show t0.ask1 d = if 0 < cv then ({ ct with tgt := cv, seq := ct.last + 1, got := false, help := [], last := ct.last + 1 }, [⟨cv, 1, 0, ct.last + 1, 0, []⟩]) else ({ ct with tgt := cv, seq := 0, got := false, help := [] }, []) by rw [hcv, hct]; rfl)
      rw [← hcv, ← hct] at HCH
      clear hc1 ht0 hcv hct
      go_wp2_with fail
      rw [← HW1.out]
      refine HCH.out.mono ?_
      rintro e w2 ⟨rfl, hG2⟩
      have p2 := hG2.cell (i := 2) (v := .int .i64 ct.tgt) (fun _ => rfl)
      have p3 := hG2.cell (i := 3) (v := .int .i64 ct.seq) (fun _ => rfl)
      have p4 := hG2.cell (i := 4) (v := .bool ct.got) (fun _ => rfl)
      obtain ⟨hA, hc, p5, _⟩ := hG2.helps
      have q2 := hG2.frozen 2
      have q3 := hG2.frozen 3
      have q4 := hG2.frozen 4
      have q5 := hG2.frozen 5
      have HG2 := Lib.hid (Grew.helped (M' := M + 1 + 1) (W := w2) (W' := (((w2.setCell ⟨s, 2, none⟩ (.int .i64 cv)).setCell ⟨s, 3, none⟩ (.int .i64 0)).setCell ⟨s, 4, none⟩ (.bool false)).setCell ⟨s, 5, none⟩ (.slice none 0 0)) (A := none) (c := 0) (t' := { ct with tgt := cv, seq := 0, got := false, help := [] }) hG2 (Below.refl _ _) (grown_sets4 _ _ _ _ _ _ _ _ _ _) (fun b hb => probe_set hb _ _ _ _) ⟨rfl, rfl, rfl, rfl, rfl⟩ (IRow.nil _) (fun g hg => by cases hg) (fun l => ⟨l.me, l.ticks, l.last, ⟨Int.le_refl 0, show (0 : Int) ≤ _ by omega⟩, HCB.out, show 0 ≤ 2 by omega, l.line, l.rel, l.since⟩) (Nat.le_refl _))
      clear hG2 HCH
      by_cases hcp : 0 < cv
      · have HA2 := Lib.hid (show t0.ask1 d = ({ ct with tgt := cv, seq := ct.last + 1, got := false, help := [], last := ct.last + 1 }, [⟨cv, 1, 0, ct.last + 1, 0, []⟩]) by rw [HA1.out, if_pos hcp])
        have HNM := Lib.hid (HG2.out.number (by omega))
        clear HA1
        go_wp2_with fail
        clear hcp p2 p3 p4 p5 q2 q3 q4 q5
        refine HNM.out.mono ?_
        rintro e z5 ⟨rfl, hG5⟩
        have p3 := hG5.cell (i := 3) (v := .int .i64 0) (fun _ => rfl)
        have q3 := hG5.frozen 3
        obtain ⟨sq, hsq⟩ : ∃ sq, sq = ct.last + 1 := ⟨_, rfl⟩
        have hsq2 : (0 : Int) ≤ sq ∧ sq ≤ ((M + 3 : Nat) : Int) := by have := hG5.lim.last; rw [hsq]; exact ⟨this.1, Int.le_trans this.2 (by omega)⟩
        obtain ⟨z6, hz6⟩ : ∃ z6, z6 = z5.setCell ⟨s, 3, none⟩ (.int .i64 (ct.last + 1)) := ⟨_, rfl⟩
        have hG6 : Grew H w z6 O (M + 3) s { ct with tgt := cv, seq := ct.last + 1, got := false, help := [], last := ct.last + 1 } := by
          rw [hz6]
          exact hG5.set (M' := M + 3) (fun _ => rfl) ⟨rfl, rfl, rfl, rfl, rfl, rfl⟩ (fun l => ⟨l.me, l.ticks, l.last, ⟨by rw [← hsq]; exact hsq2.1, by rw [← hsq]; exact hsq2.2⟩, l.tgt, l.help, l.line, l.rel, l.since⟩) (Nat.le_refl _)
        have HZ6 := Lib.hid hz6
        have HTS := Lib.hid (show TickS s cv sq z6 from ⟨hG6.cell (i := 2) (fun _ => rfl), by rw [hsq]; exact hG6.cell (i := 3) (fun _ => rfl), hG6.lt⟩)
        have HG6 := Lib.hid hG6
        have HSQ := Lib.hid hsq
        clear hG5 hG6 hz6 hsq hsq2 HNM HG2
        go_wp2_with fail
        rw [← HZ6.out]
        clear p3 q3
        obtain ⟨SC, hSC⟩ : ∃ SC, SC = bareC ⟨cv, 1, 0, sq, 0, []⟩ := ⟨_, rfl⟩
        have HFR := Lib.hid (fun w => frame_any cv 1 sq 0 w)
        rw [← hSC] at HFR
        have HSC := Lib.hid hSC
        clear hSC
        refine wp_region_mix [(0, true), (1, true), (6, true), (2, true), (3, true), (4, true), (5, true), (7, true), (8, true), (9, true), (10, true), (11, false), (12, false), (13, false), (14, true)] (TickS s cv sq) (by kernel_rfl) (by kernel_rfl) (fun _ _ d _ _ h => by cases d <;> exact h) (by kernel_rfl) (by decide) (HTS.out.below (Below.refl _ _).drew) ?_
        iterate 11 (
          first
            | (refine wpMix_val (.pointer (some ⟨s, 0, none⟩)) (by with_unfolding_all rfl) (by with_unfolding_all rfl) (fun w _ => exec_nil _ (by with_unfolding_all rfl) s 0 (by with_unfolding_all rfl) w) ?_; simp only [Act.put, List.setIfInBounds_toArray, List.set_cons_zero, List.set_cons_succ])
            | (refine wpMix_val (.pointer (some ⟨s, 2, none⟩)) (by with_unfolding_all rfl) (by with_unfolding_all rfl) (fun w _ => exec_s1 _ (by with_unfolding_all rfl) s (by with_unfolding_all rfl) w) ?_; simp only [Act.put, List.setIfInBounds_toArray, List.set_cons_zero, List.set_cons_succ])
            | (refine wpMix_val (.pointer (some ⟨s, 2, none⟩)) (by with_unfolding_all rfl) (by with_unfolding_all rfl) (fun w _ => exec_p0 _ (by with_unfolding_all rfl) s 2 (by with_unfolding_all rfl) w) ?_; simp only [Act.put, List.setIfInBounds_toArray, List.set_cons_zero, List.set_cons_succ])
            | (refine wpMix_val (.pointer (some ⟨s, 3, none⟩)) (by with_unfolding_all rfl) (by with_unfolding_all rfl) (fun w _ => exec_p1 _ (by with_unfolding_all rfl) s 2 (by with_unfolding_all rfl) w) ?_; simp only [Act.put, List.setIfInBounds_toArray, List.set_cons_zero, List.set_cons_succ])
            | (refine wpMix_q (by with_unfolding_all rfl) (by kernel_rfl) ?_
               first
                | go_big_quiet_skip
                | ((with_reducible refine wpQuiet_load1 (.int .i64 cv) (by with_unfolding_all rfl) 3 _ (by with_unfolding_all rfl) .i64 Try.underlying3 s (2) (by with_unfolding_all rfl) (fun w h => h.a1) ?_); simp only [Act.put, List.setIfInBounds_toArray, List.set_cons_zero, List.set_cons_succ])
                | ((with_reducible refine wpQuiet_load1 (.int .i64 sq) (by with_unfolding_all rfl) 3 _ (by with_unfolding_all rfl) .i64 Try.underlying3 s (3) (by with_unfolding_all rfl) (fun w h => h.a2) ?_); simp only [Act.put, List.setIfInBounds_toArray, List.set_cons_zero, List.set_cons_succ])
                | (go_big_quiet_step (exact fun _ => rfl))
               refine wpMix_qnil ?_))
        refine wpMix_call 25 [.int .i64 cv, .int .i64 1, .int .i64 sq, .int .i64 0] (fun v w3 => v = .agg SC.toArray ∧ Below z6.heap.size z6 w3) (by with_unfolding_all rfl) (by with_unfolding_all rfl) (by with_unfolding_all rfl) ((HFR.out z6.drew).mono fun e w3 ⟨he, h1⟩ => ⟨_, he, HTS.out.below ((Below.refl z6.heap.size z6).drew.trans h1), rfl, (Below.refl z6.heap.size z6).drew.trans h1⟩) ?_
        rintro v3 w3 hS3 ⟨rfl, hb3⟩
        simp only [Act.put, List.setIfInBounds_toArray, List.set_cons_zero, List.set_cons_succ]
        obtain ⟨w4, hw4⟩ : ∃ w4, w4 = w3.alloc (.cells SC.toArray 59) := ⟨_, rfl⟩
        have hb4 : Below w3.heap.size w3 w4 := by rw [hw4]; exact (Below.refl _ _).alloc (Nat.le_refl _) _
        have hA4 : At w4 w3.heap.size 59 SC := by rw [hw4]; exact At.new _ _ _
        have hB4 : Below z6.heap.size z6 w4 := hb3.trans (hb4.mono hb3.size)
        refine wpMix_put (.slice (some ⟨w3.heap.size, 0, none⟩) 1 1) w4 (by with_unfolding_all rfl) (by with_unfolding_all rfl) (by rw [hw4]; exact exec_one_sent _ (.tmp 58) (by with_unfolding_all rfl) HSC.out (by with_unfolding_all rfl) _) (HTS.out.below hB4) ?_
        simp only [Act.put, List.setIfInBounds_toArray, List.set_cons_zero, List.set_cons_succ]
        refine wpMix_app_sent (by with_unfolding_all rfl) (by with_unfolding_all rfl) (.tmp 47) (.tmp 59) (by with_unfolding_all rfl) (by with_unfolding_all rfl) (by with_unfolding_all rfl) (((fun _ => World.ownsRow_nil w4 z6.heap.size _ _) : Below z6.heap.size z6 w4 → _) hB4) (Nat.le_trans (Nat.le_refl z6.heap.size) hB4.size) (l := []) (f := ⟨cv, 1, 0, sq, 0, []⟩) (fun j u hu => by rw [Nat.zero_add]; rw [← HSC.out] at hu; exact hA4.cell' hu) (by simp) ?_
        intro v5 w5 hO5 hg5
        have hB5 : Below z6.heap.size z6 w5 := hB4.grown hg5 hB4.size (fun k hk => by cases hk)
        refine ⟨(HTS.out.below hB4).grown hg5 (by simp [Value.ownBlock]), ?_⟩
        simp only [Act.put, List.setIfInBounds_toArray, List.set_cons_zero, List.set_cons_succ]
        iterate 1 (
          first
            | (refine wpMix_q (by with_unfolding_all rfl) (by kernel_rfl) ?_
               first
                | go_big_quiet_skip
                | (go_big_quiet_step (exact fun _ => rfl))
               refine wpMix_qnil ?_))
        refine wpMix_nil ?_
        have HAB := Lib.hid (HG6.out.ageB hB5 hO5 (by simp) (by omega))
        clear hB5 hO5 hg5 hB4 hA4 hb4 hw4 hb3 hS3
        go_wp2_with fail
        refine HAB.out.mono ?_
        rintro e w8 ⟨rfl, hG8, hB8⟩
        have HTL := Lib.hid (hG8.tellT hB8)
        clear hG8 hB8 HAB
        go_wp2_with fail
        refine HTL.out.mono ?_
        rintro e w9 ⟨v9, rfl, hT9⟩
        have HT9 := Lib.hid hT9
        clear hT9 HTL
        go_wp2_with fail
        go_ret
        rw [HE.out, HA2.out]
        have h9 := HT9.out
        rw [HSQ.out] at h9
        exact ⟨_, rfl, h9.mono (by omega)⟩
      · have HA2 := Lib.hid (show t0.ask1 d = ({ ct with tgt := cv, seq := 0, got := false, help := [] }, []) by rw [HA1.out, if_neg hcp])
        have HAB := Lib.hid (HG2.out.ageB (Below.refl _ _) (v := .slice none 0 0) (l := []) (World.ownsRow_nil _ _ _ _) (by simp) (by omega))
        clear HA1
        go_wp2_with fail
        clear hcp p2 p3 p4 p5 q2 q3 q4 q5
        refine HAB.out.mono ?_
        rintro e w8 ⟨rfl, hG8, hB8⟩
        have HTL := Lib.hid (hG8.tellT hB8)
        clear hG8 hB8 HAB
        go_wp2_with fail
        refine HTL.out.mono ?_
        rintro e w9 ⟨v9, rfl, hT9⟩
        have HT9 := Lib.hid hT9
        clear hT9 HTL
        go_wp2_with fail
        go_ret
        rw [HE.out, HA2.out]
        exact ⟨_, rfl, HT9.out.mono (by omega)⟩
    · by_cases hc2 : (k + 1) % 4 = 2
      · have hr4 : ((k : Int) + 1) % 4 = 2 := by omega
        have HE := Lib.hid (tick_2 (t := t) (d := d) (r := k + 1) HL.out.symm (by rw [HK.out]; rfl) hc2)
        have HAB := Lib.hid (HG1.out.ageB (Below.refl _ _) (v := .slice none 0 0) (l := []) (World.ownsRow_nil _ _ _ _) (by simp) (by omega))
        clear hc2
        go_wp2_with fail
        rw [← HW1.out]
        refine HAB.out.mono ?_
        rintro e w8 ⟨rfl, hG8, hB8⟩
        have HTL := Lib.hid (hG8.tellT hB8)
        clear hG8 hB8 HAB
        go_wp2_with fail
        refine HTL.out.mono ?_
        rintro e w9 ⟨v9, rfl, hT9⟩
        have HT9 := Lib.hid hT9
        clear hT9 HTL
        go_wp2_with fail
        go_ret
        rw [HE.out]
        exact ⟨_, rfl, HT9.out.mono (by omega)⟩
      · by_cases hc3 : (k + 1) % 4 = 3
        · have hr4 : ((k : Int) + 1) % 4 = 3 := by omega
          have HE := Lib.hid (tick_3 (t := t) (d := d) (r := k + 1) HL.out.symm (by rw [HK.out]; rfl) hc3)
          clear hc3
          obtain ⟨t0, ht0⟩ : ∃ t0 : Sct, t0 = { t with ticks := t.ticks + 1 } := ⟨_, rfl⟩
          rw [← ht0] at HE
          have HG1 := Lib.hid (show Grew H w w1 O (M + 1) s t0 by rw [ht0]; exact HG1.out)
          obtain ⟨wt, hwt⟩ : ∃ wt, wt = t0.waits := ⟨_, rfl⟩
          have HWT := Lib.hid hwt
          have HWC := Lib.hid (show Calls Try.prog 26 #[.pointer (some ⟨s, 0, none⟩)] w1 fun e w' => e = .returned (.bool wt) ∧ w' = w1 by rw [hwt]; exact HG1.out.waits)
          clear ht0 hwt
          cases wt
          · have HA3 := Lib.hid (show t0.ask3 = (t0, t0.help.map fun n => ⟨n, 3, 0, t0.seq, t0.tgt, []⟩) by unfold Sct.ask3; simp only; rw [if_neg (by rw [← HWT.out]; exact fun h => by cases h)])
            go_wp2_with fail
            rw [← HW1.out]
            refine HWC.out.mono ?_
            rintro e w2 ⟨rfl, e2⟩
            have e3 := e2.symm
            clear e2
            subst e3
            clear HWC
            obtain ⟨tt, htt⟩ : ∃ tt, tt = t0 := ⟨_, rfl⟩
            have HGT := Lib.hid (show Grew H w w1 O (M + 1) s tt by rw [htt]; exact HG1.out)
            have HA3 := Lib.hid (show t0.ask3 = (tt, tt.help.map fun n => ⟨n, 3, 0, tt.seq, tt.tgt, []⟩) by rw [htt]; exact HA3.out)
            clear htt
            obtain ⟨tg, htg⟩ : ∃ tg, tg = tt.tgt := ⟨_, rfl⟩
            obtain ⟨sq, hsq⟩ : ∃ sq, sq = tt.seq := ⟨_, rfl⟩
            obtain ⟨hl, hhl⟩ : ∃ hl, hl = tt.help := ⟨_, rfl⟩
            obtain ⟨hA, hc, h5, hIR⟩ := HGT.out.helps
            rw [← hhl] at h5 hIR
            obtain ⟨n, hn⟩ : ∃ n, n = hl.length := ⟨_, rfl⟩
            rw [← hn] at h5
            have hn2 : n ≤ 2 := by rw [hn, hhl]; exact HGT.out.lim.help
            have HTS := Lib.hid (show TickS s tg sq w1 from ⟨by rw [htg]; exact HGT.out.cell (i := 2) (fun _ => rfl), by rw [hsq]; exact HGT.out.cell (i := 3) (fun _ => rfl), HGT.out.lt⟩)
            have HFS := Lib.hid (show t0.ask3 = (tt, hl.map (askFr tg sq)) by rw [HA3.out, htg, hsq, hhl]; rfl)
            have HIR := Lib.hid hIR
            have HN := Lib.hid hn
            obtain ⟨z1, hz1⟩ : ∃ z1, z1 = w1 := ⟨_, rfl⟩
            have HZ := Lib.hid hz1
            rw [← hz1] at HTS HIR HGT
            clear htg hsq hhl hn hIR hz1
            go_wp2_with fail
            rw [← HZ.out]
            clear h5
            go_loopw [5, 77] (fun s5 i wr => ∃ k : Nat, k ≤ n ∧ i = .int .i64 k ∧ wr.ownsRow z1.heap.size 59 238 s5 ((hl.take k).map (askFr tg sq)).length (((hl.take k).map (askFr tg sq)).flatMap bareC) ∧ Below z1.heap.size z1 wr) (fun _ i _ => n - (RowKit.intOf i).toNat)
            case atStart => exact ⟨0, by omega, rfl, World.ownsRow_nil _ _ _ _, Below.refl _ _⟩
            case round =>
              obtain ⟨kk, hk, rfl, hO, hb⟩ := hrel
              have HOr := Lib.hid hO
              have HBr := Lib.hid hb
              clear hO hb
              by_cases hlt : kk < n
              · have hkl : kk < hl.length := by rw [← HN.out]; exact hlt
                obtain ⟨x, hx⟩ : ∃ x, x = hl[kk] := ⟨_, rfl⟩
                have hRr := HIR.out.below HBr.out
                obtain ⟨g, off, rfl⟩ : ∃ g off, hA = some ⟨g, off, none⟩ := by
                  rcases HIR.out with ⟨_, h, _⟩ | ⟨g, o, _, h, _⟩
                  · rw [h] at hkl; cases hkl
                  · exact ⟨g, o, h⟩
                have cx := (hRr.cell hkl).1
                rw [← hx] at cx
                have HTK := Lib.hid (show (hl.take (kk + 1)).map (askFr tg sq) = (hl.take kk).map (askFr tg sq) ++ [askFr tg sq x] by rw [List.take_succ_eq_append_getElem hkl, List.map_append, hx]; rfl)
                have HTR := Lib.hid (HTS.out.below HBr.out)
                have hlen : ((hl.take kk).map (askFr tg sq)).length ≤ 1000 := by rw [List.length_map, List.length_take]; omega
                have i1 : (0 : Int) ≤ (kk : Int) := by omega
                have i2 : (kk : Int) < (n : Int) := by omega
                clear hx hRr
                go_wp2_with fail
                obtain ⟨SC, hSC⟩ : ∃ SC, SC = bareC ⟨x, 3, 0, sq, tg, []⟩ := ⟨_, rfl⟩
                have HFR := Lib.hid (fun w => frame_any x 3 sq tg w)
                rw [← hSC] at HFR
                have HSC := Lib.hid hSC
                clear hSC
                refine wp_region_mix [(0, true), (1, true), (2, true), (7, true), (3, true), (4, true), (5, true), (6, true), (8, true), (9, true), (10, true), (11, true), (12, false), (13, false), (14, false), (15, true)] (TickS s tg sq) (by kernel_rfl) (by kernel_rfl) (fun _ _ d _ _ h => by cases d <;> exact h) (by kernel_rfl) (by decide) (HTR.out.below (Below.refl _ _).drew) ?_
                iterate 12 (
                  first
                    | (refine wpMix_val (.pointer (some ⟨s, 0, none⟩)) (by with_unfolding_all rfl) (by with_unfolding_all rfl) (fun w _ => exec_nil _ (by with_unfolding_all rfl) s 0 (by with_unfolding_all rfl) w) ?_; simp only [Act.put, List.setIfInBounds_toArray, List.set_cons_zero, List.set_cons_succ])
                    | (refine wpMix_val (.pointer (some ⟨s, 2, none⟩)) (by with_unfolding_all rfl) (by with_unfolding_all rfl) (fun w _ => exec_s1 _ (by with_unfolding_all rfl) s (by with_unfolding_all rfl) w) ?_; simp only [Act.put, List.setIfInBounds_toArray, List.set_cons_zero, List.set_cons_succ])
                    | (refine wpMix_val (.pointer (some ⟨s, 2, none⟩)) (by with_unfolding_all rfl) (by with_unfolding_all rfl) (fun w _ => exec_p0 _ (by with_unfolding_all rfl) s 2 (by with_unfolding_all rfl) w) ?_; simp only [Act.put, List.setIfInBounds_toArray, List.set_cons_zero, List.set_cons_succ])
                    | (refine wpMix_val (.pointer (some ⟨s, 3, none⟩)) (by with_unfolding_all rfl) (by with_unfolding_all rfl) (fun w _ => exec_p1 _ (by with_unfolding_all rfl) s 2 (by with_unfolding_all rfl) w) ?_; simp only [Act.put, List.setIfInBounds_toArray, List.set_cons_zero, List.set_cons_succ])
                    | (refine wpMix_q (by with_unfolding_all rfl) (by kernel_rfl) ?_
                       first
                        | go_big_quiet_skip
                        | ((with_reducible refine wpQuiet_load1 (.int .i64 tg) (by with_unfolding_all rfl) 3 _ (by with_unfolding_all rfl) .i64 Try.underlying3 s (2) (by with_unfolding_all rfl) (fun w h => h.a1) ?_); simp only [Act.put, List.setIfInBounds_toArray, List.set_cons_zero, List.set_cons_succ])
                        | ((with_reducible refine wpQuiet_load1 (.int .i64 sq) (by with_unfolding_all rfl) 3 _ (by with_unfolding_all rfl) .i64 Try.underlying3 s (3) (by with_unfolding_all rfl) (fun w h => h.a2) ?_); simp only [Act.put, List.setIfInBounds_toArray, List.set_cons_zero, List.set_cons_succ])
                        | (go_big_quiet_step (exact fun _ => rfl))
                       refine wpMix_qnil ?_))
                refine wpMix_call 25 [.int .i64 x, .int .i64 3, .int .i64 sq, .int .i64 tg] (fun v w3 => v = .agg SC.toArray ∧ Below wr.heap.size wr w3) (by with_unfolding_all rfl) (by with_unfolding_all rfl) (by with_unfolding_all rfl) ((HFR.out wr.drew).mono fun e w3 ⟨he, h1⟩ => ⟨_, he, HTR.out.below ((Below.refl wr.heap.size wr).drew.trans h1), rfl, (Below.refl wr.heap.size wr).drew.trans h1⟩) ?_
                rintro v3 w3 hS3 ⟨rfl, hb3⟩
                simp only [Act.put, List.setIfInBounds_toArray, List.set_cons_zero, List.set_cons_succ]
                obtain ⟨w4, hw4⟩ : ∃ w4, w4 = w3.alloc (.cells SC.toArray 59) := ⟨_, rfl⟩
                have hb4 : Below w3.heap.size w3 w4 := by rw [hw4]; exact (Below.refl _ _).alloc (Nat.le_refl _) _
                have hA4 : At w4 w3.heap.size 59 SC := by rw [hw4]; exact At.new _ _ _
                have hB4 : Below wr.heap.size wr w4 := hb3.trans (hb4.mono hb3.size)
                refine wpMix_put (.slice (some ⟨w3.heap.size, 0, none⟩) 1 1) w4 (by with_unfolding_all rfl) (by with_unfolding_all rfl) (by rw [hw4]; exact exec_one_sent _ (.tmp 93) (by with_unfolding_all rfl) HSC.out (by with_unfolding_all rfl) _) (HTR.out.below hB4) ?_
                simp only [Act.put, List.setIfInBounds_toArray, List.set_cons_zero, List.set_cons_succ]
                refine wpMix_app_sent (by with_unfolding_all rfl) (by with_unfolding_all rfl) (.tmp 81) (.tmp 94) (by with_unfolding_all rfl) (by with_unfolding_all rfl) (by with_unfolding_all rfl) (row_below3 HOr.out hB4) (Nat.le_trans HBr.out.size hB4.size) (l := (hl.take kk).map (askFr tg sq)) (f := ⟨x, 3, 0, sq, tg, []⟩) (fun j u hu => by rw [Nat.zero_add]; rw [← HSC.out] at hu; exact hA4.cell' hu) (by exact hlen) ?_
                intro v5 w5 hO5 hg5
                have hB5 : Below z1.heap.size z1 w5 := row_below2 (row_below3 HOr.out hB4) (HBr.out.trans (hB4.mono HBr.out.size)) (Nat.le_refl _) (Nat.le_trans HBr.out.size hB4.size) hg5
                refine ⟨(HTR.out.below hB4).grown hg5 (fun e => by have := (HOr.out.lt s e.symm).1; have := HTS.out.l1; omega), ?_⟩
                simp only [Act.put, List.setIfInBounds_toArray, List.set_cons_zero, List.set_cons_succ]
                iterate 1 (
                  first
                    | (refine wpMix_q (by with_unfolding_all rfl) (by kernel_rfl) ?_
                       first
                        | go_big_quiet_skip
                        | (go_big_quiet_step (exact fun _ => rfl))
                       refine wpMix_qnil ?_))
                refine wpMix_nil ?_
                have HO5 := Lib.hid hO5
                have HB5 := Lib.hid hB5
                clear hB5 hO5 hg5 hB4 hA4 hb4 hw4 hb3 hS3 hlen cx
                go_wp2_with fail
                go_roundw
                case rel => exact ⟨kk + 1, by omega, by go_num, by rw [HTK.out]; exact HO5.out, HB5.out⟩
                case measure => simp [RowKit.intOf]; omega
              · have hkn : kk = n := by omega
                have HKN := Lib.hid hkn
                clear hkn
                have HAB := Lib.hid (HGT.out.ageB HBr.out (l := hl.map (askFr tg sq)) (by have h := HOr.out; rw [HKN.out, HN.out, List.take_length] at h; exact h) (by rw [List.length_map, ← HN.out]; omega) (by omega))
                go_wp2_with fail
                refine HAB.out.mono ?_
                rintro e w8 ⟨rfl, hG8, hB8⟩
                have HTL := Lib.hid (hG8.tellT hB8)
                clear hG8 hB8 HAB
                go_wp2_with fail
                refine HTL.out.mono ?_
                rintro e w9 ⟨v9, rfl, hT9⟩
                have HT9 := Lib.hid hT9
                clear hT9 HTL
                go_wp2_with fail
                go_ret
                rw [HE.out, HFS.out]
                exact ⟨_, rfl, HT9.out.mono (by omega)⟩
          · have HNE := Lib.hid HG1.out.near
            have HA3 := Lib.hid (show t0.ask3 = ({ t0 with help := t0.near }, t0.near.map fun n => ⟨n, 3, 0, t0.seq, t0.tgt, []⟩) by unfold Sct.ask3; simp only; rw [if_pos HWT.out.symm])
            have hnl := near_len t0
            go_wp2_with fail
            rw [← HW1.out]
            refine HWC.out.mono ?_
            rintro e w2 ⟨rfl, e2⟩
            have e3 := e2.symm
            clear e2
            subst e3
            clear HWC
            obtain ⟨nl, hnl2⟩ : ∃ nl, nl = t0.near := ⟨_, rfl⟩
            rw [← hnl2] at HNE HA3 hnl
            have HNL := Lib.hid hnl
            clear hnl hnl2
            go_wp2_with fail
            refine HNE.out.mono ?_
            rintro e w3 ⟨nA, nc, rfl, hR3, hlo3, hb3⟩
            have p5 : ∃ v, w3.cell? ⟨s, 5, none⟩ = some v := ⟨_, (HG1.out.on hb3).helps.choose_spec.choose_spec.1⟩
            obtain ⟨v5, p5⟩ := p5
            have q5 := (HG1.out.on hb3).frozen 5
            obtain ⟨tt, htt⟩ : ∃ tt : Sct, tt = { t0 with help := nl } := ⟨_, rfl⟩
            have HGT := Lib.hid (show Grew H w (w3.setCell ⟨s, 5, none⟩ (.slice nA nl.length nc)) O (M + 1) s tt by rw [htt]; exact Grew.helped HG1.out hb3 (grown_sets1 (World.grownBy.refl _ _)) (fun b hb => hb.set 5 _) ⟨rfl, rfl, rfl, rfl, rfl⟩ hR3 hlo3 (fun l => ⟨l.me, l.ticks, l.last, l.seq, l.tgt, HNL.out, l.line, l.rel, l.since⟩) (Nat.le_refl _))
            have HA3 := Lib.hid (show t0.ask3 = (tt, tt.help.map fun n => ⟨n, 3, 0, tt.seq, tt.tgt, []⟩) by rw [htt]; exact HA3.out)
            obtain ⟨ln, hln⟩ : ∃ ln, ln = nl.length := ⟨_, rfl⟩
            rw [← hln] at HGT ⊢
            clear htt hR3 hlo3 hb3 HNE hln
            obtain ⟨tg, htg⟩ : ∃ tg, tg = tt.tgt := ⟨_, rfl⟩
            obtain ⟨sq, hsq⟩ : ∃ sq, sq = tt.seq := ⟨_, rfl⟩
            obtain ⟨hl, hhl⟩ : ∃ hl, hl = tt.help := ⟨_, rfl⟩
            obtain ⟨hA, hc, h5, hIR⟩ := HGT.out.helps
            rw [← hhl] at h5 hIR
            obtain ⟨n, hn⟩ : ∃ n, n = hl.length := ⟨_, rfl⟩
            rw [← hn] at h5
            have hn2 : n ≤ 2 := by rw [hn, hhl]; exact HGT.out.lim.help
            have HTS := Lib.hid (show TickS s tg sq (w3.setCell ⟨s, 5, none⟩ (.slice nA ln nc)) from ⟨by rw [htg]; exact HGT.out.cell (i := 2) (fun _ => rfl), by rw [hsq]; exact HGT.out.cell (i := 3) (fun _ => rfl), HGT.out.lt⟩)
            have HFS := Lib.hid (show t0.ask3 = (tt, hl.map (askFr tg sq)) by rw [HA3.out, htg, hsq, hhl]; rfl)
            have HIR := Lib.hid hIR
            have HN := Lib.hid hn
            obtain ⟨z1, hz1⟩ : ∃ z1, z1 = (w3.setCell ⟨s, 5, none⟩ (.slice nA ln nc)) := ⟨_, rfl⟩
            have HZ := Lib.hid hz1
            rw [← hz1] at HTS HIR HGT
            clear htg hsq hhl hn hIR hz1
            go_wp2_with fail
            rw [← HZ.out]
            clear h5 p5 q5
            go_loopw [5, 77] (fun s5 i wr => ∃ k : Nat, k ≤ n ∧ i = .int .i64 k ∧ wr.ownsRow z1.heap.size 59 238 s5 ((hl.take k).map (askFr tg sq)).length (((hl.take k).map (askFr tg sq)).flatMap bareC) ∧ Below z1.heap.size z1 wr) (fun _ i _ => n - (RowKit.intOf i).toNat)
            case atStart => exact ⟨0, by omega, rfl, World.ownsRow_nil _ _ _ _, Below.refl _ _⟩
            case round =>
              obtain ⟨kk, hk, rfl, hO, hb⟩ := hrel
              have HOr := Lib.hid hO
              have HBr := Lib.hid hb
              clear hO hb
              by_cases hlt : kk < n
              · have hkl : kk < hl.length := by rw [← HN.out]; exact hlt
                obtain ⟨x, hx⟩ : ∃ x, x = hl[kk] := ⟨_, rfl⟩
                have hRr := HIR.out.below HBr.out
                obtain ⟨g, off, rfl⟩ : ∃ g off, hA = some ⟨g, off, none⟩ := by
                  rcases HIR.out with ⟨_, h, _⟩ | ⟨g, o, _, h, _⟩
                  · rw [h] at hkl; cases hkl
                  · exact ⟨g, o, h⟩
                have cx := (hRr.cell hkl).1
                rw [← hx] at cx
                have HTK := Lib.hid (show (hl.take (kk + 1)).map (askFr tg sq) = (hl.take kk).map (askFr tg sq) ++ [askFr tg sq x] by rw [List.take_succ_eq_append_getElem hkl, List.map_append, hx]; rfl)
                have HTR := Lib.hid (HTS.out.below HBr.out)
                have hlen : ((hl.take kk).map (askFr tg sq)).length ≤ 1000 := by rw [List.length_map, List.length_take]; omega
                have i1 : (0 : Int) ≤ (kk : Int) := by omega
                have i2 : (kk : Int) < (n : Int) := by omega
                clear hx hRr
                go_wp2_with fail
                obtain ⟨SC, hSC⟩ : ∃ SC, SC = bareC ⟨x, 3, 0, sq, tg, []⟩ := ⟨_, rfl⟩
                have HFR := Lib.hid (fun w => frame_any x 3 sq tg w)
                rw [← hSC] at HFR
                have HSC := Lib.hid hSC
                clear hSC
                refine wp_region_mix [(0, true), (1, true), (2, true), (7, true), (3, true), (4, true), (5, true), (6, true), (8, true), (9, true), (10, true), (11, true), (12, false), (13, false), (14, false), (15, true)] (TickS s tg sq) (by kernel_rfl) (by kernel_rfl) (fun _ _ d _ _ h => by cases d <;> exact h) (by kernel_rfl) (by decide) (HTR.out.below (Below.refl _ _).drew) ?_
                iterate 12 (
                  first
                    | (refine wpMix_val (.pointer (some ⟨s, 0, none⟩)) (by with_unfolding_all rfl) (by with_unfolding_all rfl) (fun w _ => exec_nil _ (by with_unfolding_all rfl) s 0 (by with_unfolding_all rfl) w) ?_; simp only [Act.put, List.setIfInBounds_toArray, List.set_cons_zero, List.set_cons_succ])
                    | (refine wpMix_val (.pointer (some ⟨s, 2, none⟩)) (by with_unfolding_all rfl) (by with_unfolding_all rfl) (fun w _ => exec_s1 _ (by with_unfolding_all rfl) s (by with_unfolding_all rfl) w) ?_; simp only [Act.put, List.setIfInBounds_toArray, List.set_cons_zero, List.set_cons_succ])
                    | (refine wpMix_val (.pointer (some ⟨s, 2, none⟩)) (by with_unfolding_all rfl) (by with_unfolding_all rfl) (fun w _ => exec_p0 _ (by with_unfolding_all rfl) s 2 (by with_unfolding_all rfl) w) ?_; simp only [Act.put, List.setIfInBounds_toArray, List.set_cons_zero, List.set_cons_succ])
                    | (refine wpMix_val (.pointer (some ⟨s, 3, none⟩)) (by with_unfolding_all rfl) (by with_unfolding_all rfl) (fun w _ => exec_p1 _ (by with_unfolding_all rfl) s 2 (by with_unfolding_all rfl) w) ?_; simp only [Act.put, List.setIfInBounds_toArray, List.set_cons_zero, List.set_cons_succ])
                    | (refine wpMix_q (by with_unfolding_all rfl) (by kernel_rfl) ?_
                       first
                        | go_big_quiet_skip
                        | ((with_reducible refine wpQuiet_load1 (.int .i64 tg) (by with_unfolding_all rfl) 3 _ (by with_unfolding_all rfl) .i64 Try.underlying3 s (2) (by with_unfolding_all rfl) (fun w h => h.a1) ?_); simp only [Act.put, List.setIfInBounds_toArray, List.set_cons_zero, List.set_cons_succ])
                        | ((with_reducible refine wpQuiet_load1 (.int .i64 sq) (by with_unfolding_all rfl) 3 _ (by with_unfolding_all rfl) .i64 Try.underlying3 s (3) (by with_unfolding_all rfl) (fun w h => h.a2) ?_); simp only [Act.put, List.setIfInBounds_toArray, List.set_cons_zero, List.set_cons_succ])
                        | (go_big_quiet_step (exact fun _ => rfl))
                       refine wpMix_qnil ?_))
                refine wpMix_call 25 [.int .i64 x, .int .i64 3, .int .i64 sq, .int .i64 tg] (fun v w3 => v = .agg SC.toArray ∧ Below wr.heap.size wr w3) (by with_unfolding_all rfl) (by with_unfolding_all rfl) (by with_unfolding_all rfl) ((HFR.out wr.drew).mono fun e w3 ⟨he, h1⟩ => ⟨_, he, HTR.out.below ((Below.refl wr.heap.size wr).drew.trans h1), rfl, (Below.refl wr.heap.size wr).drew.trans h1⟩) ?_
                rintro v3 w3 hS3 ⟨rfl, hb3⟩
                simp only [Act.put, List.setIfInBounds_toArray, List.set_cons_zero, List.set_cons_succ]
                obtain ⟨w4, hw4⟩ : ∃ w4, w4 = w3.alloc (.cells SC.toArray 59) := ⟨_, rfl⟩
                have hb4 : Below w3.heap.size w3 w4 := by rw [hw4]; exact (Below.refl _ _).alloc (Nat.le_refl _) _
                have hA4 : At w4 w3.heap.size 59 SC := by rw [hw4]; exact At.new _ _ _
                have hB4 : Below wr.heap.size wr w4 := hb3.trans (hb4.mono hb3.size)
                refine wpMix_put (.slice (some ⟨w3.heap.size, 0, none⟩) 1 1) w4 (by with_unfolding_all rfl) (by with_unfolding_all rfl) (by rw [hw4]; exact exec_one_sent _ (.tmp 93) (by with_unfolding_all rfl) HSC.out (by with_unfolding_all rfl) _) (HTR.out.below hB4) ?_
                simp only [Act.put, List.setIfInBounds_toArray, List.set_cons_zero, List.set_cons_succ]
                refine wpMix_app_sent (by with_unfolding_all rfl) (by with_unfolding_all rfl) (.tmp 81) (.tmp 94) (by with_unfolding_all rfl) (by with_unfolding_all rfl) (by with_unfolding_all rfl) (row_below3 HOr.out hB4) (Nat.le_trans HBr.out.size hB4.size) (l := (hl.take kk).map (askFr tg sq)) (f := ⟨x, 3, 0, sq, tg, []⟩) (fun j u hu => by rw [Nat.zero_add]; rw [← HSC.out] at hu; exact hA4.cell' hu) (by exact hlen) ?_
                intro v5 w5 hO5 hg5
                have hB5 : Below z1.heap.size z1 w5 := row_below2 (row_below3 HOr.out hB4) (HBr.out.trans (hB4.mono HBr.out.size)) (Nat.le_refl _) (Nat.le_trans HBr.out.size hB4.size) hg5
                refine ⟨(HTR.out.below hB4).grown hg5 (fun e => by have := (HOr.out.lt s e.symm).1; have := HTS.out.l1; omega), ?_⟩
                simp only [Act.put, List.setIfInBounds_toArray, List.set_cons_zero, List.set_cons_succ]
                iterate 1 (
                  first
                    | (refine wpMix_q (by with_unfolding_all rfl) (by kernel_rfl) ?_
                       first
                        | go_big_quiet_skip
                        | (go_big_quiet_step (exact fun _ => rfl))
                       refine wpMix_qnil ?_))
                refine wpMix_nil ?_
                have HO5 := Lib.hid hO5
                have HB5 := Lib.hid hB5
                clear hB5 hO5 hg5 hB4 hA4 hb4 hw4 hb3 hS3 hlen cx
                go_wp2_with fail
                go_roundw
                case rel => exact ⟨kk + 1, by omega, by go_num, by rw [HTK.out]; exact HO5.out, HB5.out⟩
                case measure => simp [RowKit.intOf]; omega
              · have hkn : kk = n := by omega
                have HKN := Lib.hid hkn
                clear hkn
                have HAB := Lib.hid (HGT.out.ageB HBr.out (l := hl.map (askFr tg sq)) (by have h := HOr.out; rw [HKN.out, HN.out, List.take_length] at h; exact h) (by rw [List.length_map, ← HN.out]; omega) (by omega))
                go_wp2_with fail
                refine HAB.out.mono ?_
                rintro e w8 ⟨rfl, hG8, hB8⟩
                have HTL := Lib.hid (hG8.tellT hB8)
                clear hG8 hB8 HAB
                go_wp2_with fail
                refine HTL.out.mono ?_
                rintro e w9 ⟨v9, rfl, hT9⟩
                have HT9 := Lib.hid hT9
                clear hT9 HTL
                go_wp2_with fail
                go_ret
                rw [HE.out, HFS.out]
                exact ⟨_, rfl, HT9.out.mono (by omega)⟩
        · have hc0 : (k + 1) % 4 = 0 := by omega
          have hr4 : ((k : Int) + 1) % 4 = 0 := by omega
          have HE := Lib.hid (tick_0 (t := t) (d := d) (r := k + 1) HL.out.symm (by rw [HK.out]; rfl) hc0)
          clear hc0
          obtain ⟨t0, ht0⟩ : ∃ t0 : Sct, t0 = { t with ticks := t.ticks + 1 } := ⟨_, rfl⟩
          rw [← ht0] at HE
          have HG1 := Lib.hid (show Grew H w w1 O (M + 1) s t0 by rw [ht0]; exact HG1.out)
          obtain ⟨wt, hwt⟩ : ∃ wt, wt = t0.waits := ⟨_, rfl⟩
          have HWT := Lib.hid hwt
          have HWC := Lib.hid (show Calls Try.prog 26 #[.pointer (some ⟨s, 0, none⟩)] w1 fun e w' => e = .returned (.bool wt) ∧ w' = w1 by rw [hwt]; exact HG1.out.waits)
          clear ht0 hwt
          cases wt
          · have HA2 := Lib.hid (show t0.ask0 = t0 by unfold Sct.ask0; rw [if_neg (by rw [← HWT.out]; exact fun h => by cases h.1)])
            have HAB := Lib.hid (HG1.out.ageB (Below.refl _ _) (v := .slice none 0 0) (l := []) (World.ownsRow_nil _ _ _ _) (by simp) (by omega))
            go_wp2_with fail
            rw [← HW1.out]
            refine HWC.out.mono ?_
            rintro e w2 ⟨rfl, e2⟩
            have e3 := e2.symm
            clear e2
            subst e3
            clear HWC
            go_wp2_with fail
            refine HAB.out.mono ?_
            rintro e w8 ⟨rfl, hG8, hB8⟩
            have HTL := Lib.hid (hG8.tellT hB8)
            clear hG8 hB8 HAB
            go_wp2_with fail
            refine HTL.out.mono ?_
            rintro e w9 ⟨v9, rfl, hT9⟩
            have HT9 := Lib.hid hT9
            clear hT9 HTL
            go_wp2_with fail
            go_ret
            rw [HE.out, HA2.out]
            exact ⟨_, rfl, HT9.out.mono (by omega)⟩
          · obtain ⟨tg, htg⟩ : ∃ tg, tg = t0.tgt := ⟨_, rfl⟩
            have hb := HG1.out.lim.tgt
            have g2 : w1.cell? ⟨s, 2, none⟩ = some (.int .i64 tg) := by rw [htg]; exact HG1.out.cell (i := 2) (fun _ => rfl)
            obtain ⟨st, hst⟩ : ∃ st, st = t0.stateOf tg := ⟨_, rfl⟩
            have HST := Lib.hid (show Calls Try.prog 28 #[.pointer (some ⟨s, 0, none⟩), .int .i64 tg] w1 fun e w' => e = .returned (.int .i64 st) ∧ Below w1.heap.size w1 w' by rw [hst]; exact HG1.out.state tg (by rw [htg]; omega) (by rw [htg]; omega))
            have HB := Lib.hid (show -9223372036854775808 ≤ tg ∧ tg ≤ 9223372036854775807 by rw [htg]; omega)
            by_cases hs0 : st = 0
            · have HA2 := Lib.hid (show t0.ask0 = t0.turn tg 1 by unfold Sct.ask0; rw [← htg, ← hst, if_pos ⟨HWT.out.symm, hs0⟩])
              rw [hs0] at HST
              clear htg hb hst hs0
              go_wp2_with fail
              rw [← HW1.out]
              refine HWC.out.mono ?_
              rintro e w2 ⟨rfl, e2⟩
              have e3 := e2.symm
              clear e2
              subst e3
              clear HWC
              go_wp2_with fail
              refine HST.out.mono ?_
              rintro e w3 ⟨rfl, hb3⟩
              have g2' : w3.cell? ⟨s, 2, none⟩ = some (.int .i64 tg) := (World.cell?_of_block (a := ⟨s, 2, none⟩) (hb3.block s HG1.out.lt)).trans g2
              have HTN := Lib.hid ((HG1.out.on hb3).turn (by omega) tg 1 HB.out.1 HB.out.2)
              clear hb3 HST g2
              go_wp2_with fail
              refine HTN.out.mono ?_
              rintro e w4 ⟨rfl, hG4⟩
              have HG4 := Lib.hid hG4
              clear hG4 HTN g2'
              have HAB := Lib.hid (HG4.out.ageB (Below.refl _ _) (v := .slice none 0 0) (l := []) (World.ownsRow_nil _ _ _ _) (by simp) (by omega))
              go_wp2_with fail
              refine HAB.out.mono ?_
              rintro e w8 ⟨rfl, hG8, hB8⟩
              have HTL := Lib.hid (hG8.tellT hB8)
              clear hG8 hB8 HAB
              go_wp2_with fail
              refine HTL.out.mono ?_
              rintro e w9 ⟨v9, rfl, hT9⟩
              have HT9 := Lib.hid hT9
              clear hT9 HTL
              go_wp2_with fail
              go_ret
              rw [HE.out, HA2.out]
              exact ⟨_, rfl, HT9.out.mono (by omega)⟩
            · have HA2 := Lib.hid (show t0.ask0 = t0 by unfold Sct.ask0; rw [if_neg (by rw [← htg, ← hst]; exact fun h => hs0 h.2)])
              have hsb : (st == 0) = false := by simp [hs0]
              clear htg hb hst hs0
              go_wp2_with fail
              rw [← HW1.out]
              refine HWC.out.mono ?_
              rintro e w2 ⟨rfl, e2⟩
              have e3 := e2.symm
              clear e2
              subst e3
              clear HWC
              go_wp2_with fail
              refine HST.out.mono ?_
              rintro e w3 ⟨rfl, hb3⟩
              have HG3 := Lib.hid (HG1.out.on hb3)
              clear hb3 HST g2
              have HAB := Lib.hid (HG3.out.ageB (Below.refl _ _) (v := .slice none 0 0) (l := []) (World.ownsRow_nil _ _ _ _) (by simp) (by omega))
              go_wp2_with fail
              clear hsb
              refine HAB.out.mono ?_
              rintro e w8 ⟨rfl, hG8, hB8⟩
              have HTL := Lib.hid (hG8.tellT hB8)
              clear hG8 hB8 HAB
              go_wp2_with fail
              refine HTL.out.mono ?_
              rintro e w9 ⟨v9, rfl, hT9⟩
              have HT9 := Lib.hid hT9
              clear hT9 HTL
              go_wp2_with fail
              go_ret
              rw [HE.out, HA2.out]
              exact ⟨_, rfl, HT9.out.mono (by omega)⟩
  · have HE := Lib.hid (tick_left (d := d) HL.out.symm)
    go_wp2_with fail
    go_ret
    rw [HE.out, ← HW1.out]
    exact ⟨_, rfl, (HG1.out.mono (by omega)).told_nil⟩
end
end Go.Proofs.Ytghefmppjdneoaa
