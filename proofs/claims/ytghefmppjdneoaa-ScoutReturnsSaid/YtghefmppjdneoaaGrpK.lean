/- Layer 12, the texts ScW to ScX joined: what the functions that a scout reaches do with memory, each told once. -/
import Derived.Test.YtghefmppjdneoaaGrpJ
namespace Go.Proofs.Ytghefmppjdneoaa
open Go.Proofs Stab Go.Shelf Go.RowKit Go.Lib Go.Sort Go.Maps

theorem exec_sent1 {ρ : Operand → Value} {o : Oper} (x : Operand) (ho : o.op = .fieldAddr 59 x 1) (g off : Nat) (hx : ρ x = .pointer (some ⟨g, off, none⟩)) (w : World) : (execOp ρ o).run Try.prog w = .ok (.value (.pointer (some ⟨g, off + 1, none⟩))) w := by
  unfold execOp
  simp only [ho, hx]
  go_simp
theorem exec_fr1 {ρ : Operand → Value} {o : Oper} (x : Operand) (ho : o.op = .fieldAddr 57 x 1) (g off : Nat) (hx : ρ x = .pointer (some ⟨g, off, none⟩)) (w : World) : (execOp ρ o).run Try.prog w = .ok (.value (.pointer (some ⟨g, off + 1, none⟩))) w := by
  unfold execOp
  simp only [ho, hx]
  go_simp
theorem exec_fr14 {ρ : Operand → Value} {o : Oper} (x : Operand) (ho : o.op = .fieldAddr 57 x 14) (g off : Nat) (hx : ρ x = .pointer (some ⟨g, off, none⟩)) (w : World) : (execOp ρ o).run Try.prog w = .ok (.value (.pointer (some ⟨g, off + 236, none⟩))) w := by
  unfold execOp
  simp only [ho, hx]
  go_simp
theorem clone_bares {w : World} {g off c : Nat} {l : List Fr} (hg : w.rangeAt g off (l.flatMap bareC)) (hl : l.length ≤ 100) : Calls Try.prog 40 #[.slice (some ⟨g, off, none⟩) l.length c] w fun e w' => ∃ q cap sp, e = .returned (.slice (some ⟨q, 0, none⟩) l.length cap) ∧ w.heap.size ≤ q ∧ At w' q 59 (l.flatMap bareC ++ sp) ∧ Below w.heap.size w w' := by
  obtain ⟨i0, hi, hz0, hz1, hz2⟩ := info_parts info_sent3
  refine (AnyE.slices_Clone (ρ := Try.cloneS_ren) Try.cloneS i0 _ 238 408 hi hz0 hz1 hz2 (by rw [show (Value.agg (bareC ⟨0, 0, 0, 0, 0, []⟩).toArray).cells = (bareC ⟨0, 0, 0, 0, 0, []⟩).toArray from rfl, List.size_toArray]; exact sentC_len _ _ _) (by omega) (fun w => by kernel_rfl) g off l.length c (l.flatMap bareC) w (bares_len l) (by unfold maxLen; omega) (by omega) hg (bares_one l)).mono ?_
  rintro e w' ⟨v', rfl, hO, hne, hb⟩
  rcases hO.2 with ⟨h1, _⟩ | ⟨q, cap, cur, h1, h2, h3, h4, h5, h6, h7⟩
  · exact absurd h1 hne
  · subst h1
    refine ⟨q, cap, cur.toList.drop (l.length * 238), rfl, h2, ?_, hb⟩
    have e : l.flatMap bareC ++ cur.toList.drop (l.length * 238) = cur.toList := by
      rw [← h7]
      exact List.take_append_drop _ _
    rw [e]
    unfold At
    rw [h3]
    rfl
set_option maxRecDepth 100000 in
theorem clone_none (w : World) : Calls Try.prog 40 #[.slice none 0 0] w fun e w' => e = .returned (.slice none 0 0) ∧ w' = w :=
  AnyE.slices_Clone_nil (ρ := Try.cloneS_ren) Try.cloneS 0 0 w
/-- one cell is stored -/
theorem wpMix_store1 {P : Program} {ops : Array Oper} {Q : Exit → Act → World → Prop} {S : World → Prop} {i : Nat} {a : Act} {w : World} {o : Oper} {r : List (Nat × Bool)} (v : Value) (ho : ops.toList[i]? = some o) (hw : Region.wanted o (yielded ops a.tmps) = true) (ty : TypeId) (x y : Operand) (hop : o.op = .store ty x y) (g off : Nat) (hx : a.eval x = .pointer (some ⟨g, off, none⟩)) (hy : a.eval y = v) (hv : (∃ k n, v = .int k n) ∨ (∃ A n c, v = .slice A n c) ∨ ∃ b, v = .bool b) (hi : (P.info? ty).map (·.size) = some 1) (hc : (w.cell? ⟨g, off, none⟩).isSome = true ∧ w.frozen? ⟨g, off, none⟩ = false) (hS : S (w.setCell ⟨g, off, none⟩ v)) (h : wpMix P ops S Q r (a.put o.dst undef) (w.setCell ⟨g, off, none⟩ v)) : wpMix P ops S Q ((i, false) :: r) a w :=
  wpMix_step ho hw fun K hK => by
    have hr : (Instr.storeAt ty (.pointer (some ⟨g, off, none⟩)) v).run P w = .ok () (w.setCell ⟨g, off, none⟩ v) := by
      cases hq : P.info? ty with
      | none => simp [hq] at hi
      | some i =>
        have hs : i.size = 1 := by simpa [hq] using hi
        obtain ⟨v0, hv0⟩ := Option.isSome_iff_exists.1 hc.1
        rcases hv with ⟨k, n, rfl⟩ | ⟨A, n, c, rfl⟩ | ⟨bb, rfl⟩ <;> simp [Instr.storeAt, Instr.sureAddr, storeVar, sizeOf, typeInfo, hq, hs, hv0, hc.2, Value.cells, storeCells, go_sem]
    unfold Oper.wp execOp
    simp only [hop, hx, hy, Sem.run_bind, Sem.run_pure, hr, Result.andThen_ok]
    exact hK _ _ hS h
/-- what a round of Tell has made -/
structure TellR (H : Type) (w1 wr : World) (O : Nat → Prop) (M s : Nat) (t : Sct) (l : List Fr) (q : Nat) (sp : List Value) (k : Nat) : Prop where
  row : ∃ L : List Fp, L.map (·.x) = (t.tell (l.take k)).2 ∧ L.length = k ∧ At wr q 59 (fpsC L ++ ((l.drop k).flatMap bareC ++ sp)) ∧ ∀ p ∈ L, MemsIn wr p.A p.x.rum ∧ p.x.rum.length ≤ 6 ∧ ∀ g, blkOf p.A = some g → w1.heap.size ≤ g
  sc : ∃ b', b'.s = s ∧ ScAt H wr O M b' (t.tell (l.take k)).1
  kp : Keeps (fun i => ¬ O i ∧ i ≠ q) w1 wr
theorem tell1_eq (a : Sct × List Fr) (x : Fr) : Sct.tell1 a x = ({ a.1 with f := Hm.rest 6 a.1.f }, a.2 ++ [{ x with frm := a.1.me, rum := (Hm.told 6 a.1.f).map fun r => r.m }]) := rfl
theorem memsIn_kept {w w' : World} {A : Option Addr} {l : List Mem} {K : Nat → Prop} (h : MemsIn w A l) (hk : Keeps K w w') (hA : ∀ g, blkOf A = some g → K g) : MemsIn w' A l :=
  h.keep hk.size fun g _ e hg => hk.block g (hA g (blk_some e)) hg
section
variable {H : Type} {w w' w0 : World} {O : Nat → Prop} {M : Nat} {b : Blk} {t : Sct}
/-- what Tell's region reads -/
structure TellS (s ph : Nat) (me : Int) (w : World) : Prop where
  m : w.cell? ⟨s, 6, none⟩ = some (.int .i64 me)
  h : w.cell? ⟨s, 1, none⟩ = some (.pointer (some ⟨ph, 0, none⟩))
theorem TellS.set {s ph q : Nat} {me : Int} {w : World} (h : TellS s ph me w) (hq : s ≠ q) (k : Nat) (v : Value) : TellS s ph me (w.setCell ⟨q, k, none⟩ v) := by
  have hb : (w.setCell ⟨q, k, none⟩ v).heap[s]? = w.heap[s]? := heap_setCell_other w _ s v hq
  exact ⟨(World.cell?_of_block (w := w) hb).trans h.m, (World.cell?_of_block (w := w) hb).trans h.h⟩
theorem TellR.next {w1 wr w4 : World} {s q k nq c : Nat} {l : List Fr} {sp : List Value} {A : Option Addr} {b' : Blk} {x : Fr} {L : List Fp} {u : Sct} (h : TellR H w1 wr O M s t l q sp k) (hO : ∀ i, O i → i < q) (hq1 : q < w1.heap.size) (hk : k < l.length) (hx : l[k] = x)
    (hL : L.map (·.x) = (t.tell (l.take k)).2) (hLk : L.length = k) (hA : At w4 q 59 (fpsC L ++ ((l.drop k).flatMap bareC ++ sp))) (hLm : ∀ p ∈ L, MemsIn wr p.A p.x.rum ∧ p.x.rum.length ≤ 6 ∧ ∀ g, blkOf p.A = some g → w1.heap.size ≤ g)
    (hu : u = (t.tell (l.take k)).1) (hs : b'.s = s) (hM : MemsIn w4 A ((Hm.told 6 u.f).map fun r => r.m)) (hlo : ∀ g, blkOf A = some g → (wr.drewN nq).heap.size ≤ g) (h6 : ((Hm.told 6 u.f).map fun r => r.m).length ≤ 6)
    (hS4 : ScAt H w4 O M b' { u with f := Hm.rest 6 u.f }) (hK4 : Keeps (fun i => ¬ O i) (wr.drewN nq) w4) : TellR H w1 ((w4.setCell ⟨q, k * 238 + 2, none⟩ (.int .i64 u.me)).setCell ⟨q, k * 238 + 237, none⟩ (.slice A ((Hm.told 6 u.f).map fun r => r.m).length c)) O M s t l q sp (k + 1) := by
  obtain ⟨r6, hr6⟩ : ∃ r, r = (Hm.told 6 u.f).map fun r => r.m := ⟨_, rfl⟩
  obtain ⟨p1, hp1⟩ : ∃ p1 : Addr, p1 = ⟨q, k * 238 + 2, none⟩ := ⟨_, rfl⟩
  obtain ⟨p2, hp2⟩ : ∃ p2 : Addr, p2 = ⟨q, k * 238 + 237, none⟩ := ⟨_, rfl⟩
  have hg : w4.grownBy ((w4.setCell p1 (.int .i64 u.me)).setCell p2 (.slice A r6.length c)) (some q) := grown_setCell (grown_setCell (World.grownBy.refl _ _) (.inl (by rw [hp1])) _) (.inl (by rw [hp2])) _
  rw [hp1, hp2] at hg
  rw [hr6] at hg
  clear hp1 hp2 hr6
  have hqO : ¬ O q := fun h => Nat.lt_irrefl _ (hO q h)
  have hw : w1.heap.size ≤ wr.heap.size := h.kp.size
  have hwr : (wr.drewN nq).heap.size = wr.heap.size := rfl
  have e : t.tell (l.take (k + 1)) = ({ u with f := Hm.rest 6 u.f }, (t.tell (l.take k)).2 ++ [{ x with frm := u.me, rum := (Hm.told 6 u.f).map fun r => r.m }]) := by
    rw [tell_take t l k hk, hx, tell1_eq, ← hu]
  have hdk : l.drop k = x :: l.drop (k + 1) := by rw [← hx]; exact List.drop_eq_getElem_cons hk
  refine ⟨⟨L ++ [⟨{ x with frm := u.me, rum := (Hm.told 6 u.f).map fun r => r.m }, A, c⟩], ?_, ?_, ?_, ?_⟩, ⟨b', hs, ?_⟩, ?_⟩
  · rw [List.map_append, hL, show (t.tell (l.take (k + 1))).2 = (t.tell (l.take k)).2 ++ [{ x with frm := u.me, rum := (Hm.told 6 u.f).map fun r => r.m }] from congrArg Prod.snd e]
    rfl
  · rw [List.length_append, hLk]
    rfl
  · have h2 := (hA.set (k * 238 + 2) (.int .i64 u.me)).set (k * 238 + 237) (.slice A ((Hm.told 6 u.f).map fun r => r.m).length c)
    rw [← hLk] at h2
    rw [row_set (l.drop (L.length + 1)) (by rw [hLk]; exact hdk)] at h2
    rw [← hLk]
    exact h2
  · intro p hp
    rcases List.mem_append.1 hp with hp | hp
    · obtain ⟨h1, h2, h3⟩ := hLm p hp
      refine ⟨?_, h2, h3⟩
      have h4 := memsIn_kept (w' := w4) (K := fun i => ¬ O i) (w := wr.drewN nq) h1 hK4 fun g hg ho => by have := hO g ho; have := h3 g hg; omega
      exact memsIn_kept (K := fun i => i ≠ q) h4 (Keeps.ofGrown hg fun h => h rfl) fun g hg => by have := h3 g hg; omega
    · rw [List.mem_singleton.1 hp]
      refine ⟨?_, h6, fun g hg => by have := hlo g hg; omega⟩
      exact memsIn_kept (K := fun i => i ≠ q) hM (Keeps.ofGrown hg fun h => h rfl) fun g hg => by have := hlo g hg; omega
  · rw [show (t.tell (l.take (k + 1))).1 = { u with f := Hm.rest 6 u.f } from congrArg Prod.fst e]
    exact hS4.keeps (Keeps.ofGrown hg hqO)
  · refine (h.kp.trans (Keeps.trans ?_ (hK4.mono fun i hi => hi.1))).trans (Keeps.ofGrown hg fun h => h.2 rfl)
    exact Keeps.ofBelow (below_drewN (Below.refl _ _) nq)
set_option maxRecDepth 100000 in
set_option maxHeartbeats 1000000 in
theorem tell_aux2 (h : ScAt H w O M b t) (hO : ∀ i, O i → i < w.heap.size) {v : Value} {l : List Fr} (hl : Bares w v l) : Calls Try.prog 17 #[.pointer (some ⟨b.s, 0, none⟩), v] w fun e w' => ∃ v', e = .returned v' ∧ Sents w' w.heap.size v' (t.tell l).2 ∧ ∃ b', b'.s = b.s ∧ ScAt H w' O M b' (t.tell l).1 ∧ Keeps (fun i => ¬ O i) w w' := by
  have HH := Lib.hid h
  have HO := Lib.hid hO
  obtain ⟨s, hs⟩ : ∃ s, s = b.s := ⟨_, rfl⟩
  have HS := Lib.hid hs
  rw [← hs]
  rcases hl with ⟨rfl, rfl⟩ | ⟨g, off, c, rfl, hg, hr, h100⟩
  · clear hs h hO
    go_enter Try.func17, Try.ntmps17
    go_wp2_with fail
    refine (clone_none _).mono ?_
    rintro e w1 ⟨rfl, rfl⟩
    go_wp2_with fail
    go_loopw [13] (fun i wr => i = .int .i64 0 ∧ wr = w1) (fun _ _ => 0)
    case atStart => exact ⟨rfl, rfl⟩
    case round =>
      obtain ⟨rfl, rfl⟩ := hrel
      go_wp2_with fail
      go_ret
      exact ⟨_, rfl, ⟨[], none, 0, rfl, rfl, fun p hp => (by cases hp), .inl rfl⟩, ⟨b, HS.out.symm, HH.out, Keeps.refl _ _⟩⟩
  · have HC := Lib.hid (clone_bares (c := c) hr h100)
    obtain ⟨n, hn⟩ : ∃ n, n = l.length := ⟨_, rfl⟩
    rw [← hn] at HC ⊢
    have HN := Lib.hid hn
    have hn1 : n ≤ 100 := by rw [hn]; exact h100
    clear hs h hO hg hr h100 hn
    go_enter Try.func17, Try.ntmps17
    go_wp2_with fail
    refine HC.out.mono ?_
    rintro e w1 ⟨q, cap, sp, rfl, hq, hA, hb1⟩
    have HT := Lib.hid (show TellR H w1 w1 O M s t l q sp 0 from ⟨⟨[], rfl, rfl, hA, fun p hp => by cases hp⟩, ⟨b, HS.out.symm, HH.out.below hb1⟩, Keeps.refl _ _⟩)
    have HB1 := Lib.hid hb1
    have HQ := Lib.hid (And.intro hq hA.lt)
    clear hq hA hb1 HC
    go_wp2_with fail
    go_loopw [13] (fun i wr => ∃ k : Nat, k ≤ n ∧ i = .int .i64 k ∧ TellR H w1 wr O M s t l q sp k) (fun i _ => n - (RowKit.intOf i).toNat)
    case atStart => exact ⟨0, by omega, rfl, HT.out⟩
    case round =>
      obtain ⟨k, hk, rfl, hR⟩ := hrel
      have HR := Lib.hid hR
      clear hR
      by_cases hlt : k < n
      · have hkl : k < l.length := by rw [← HN.out]; exact hlt
        obtain ⟨L, hL, hLk, hAr, hLm⟩ := HR.out.row
        obtain ⟨b', hbs, hS⟩ := HR.out.sc
        obtain ⟨u, hu⟩ : ∃ u, u = (t.tell (l.take k)).1 := ⟨_, rfl⟩
        rw [← hu] at hS
        obtain ⟨me, hme⟩ : ∃ me, me = u.me := ⟨_, rfl⟩
        obtain ⟨ph, hph⟩ : ∃ ph, ph = b'.ph := ⟨_, rfl⟩
        obtain ⟨x, hx⟩ : ∃ x, x = l[k] := ⟨_, rfl⟩
        have c6 := hS.cell (i := 6) (v := .int .i64 u.me) rfl
        have c1 := hS.cell (i := 1) (v := ptrV b'.ph) rfl
        rw [hbs, ← hme] at c6
        rw [hbs, ← hph] at c1
        unfold ptrV at c1
        have HTK := Lib.hid (show ∀ nq, Calls Try.prog 41 #[.pointer (some ⟨ph, 0, none⟩), .int .i64 6] (wr.drewN nq) fun e w' => ∃ A c, e = .returned (.slice A ((Hm.told 6 u.f).map fun r => r.m).length c) ∧ MemsIn w' A ((Hm.told 6 u.f).map fun r => r.m) ∧ (∀ g, blkOf A = some g → (wr.drewN nq).heap.size ≤ g) ∧ ((Hm.told 6 u.f).map fun r => r.m).length ≤ 6 ∧ ScAt H w' O M b' { u with f := Hm.rest 6 u.f } ∧ Keeps (fun i => ¬ O i) (wr.drewN nq) w' from fun nq => by rw [hph]; exact take_step (hS.below (below_drewN (Below.refl _ _) nq)))
        have HL := Lib.hid (And.intro hL (And.intro hLk hLm))
        have HAr := Lib.hid hAr
        have HU := Lib.hid (And.intro hu (And.intro hbs hme))
        have HX := Lib.hid hx
        have HPH := Lib.hid hph
        clear hL hLk hLm hS hAr hu hbs hme hph hx
        go_wp2_with fail
        have hS0 := Lib.hid (show TellS s ph me wr from ⟨c6, c1⟩)
        refine wp_region_mix [(0, true), (1, true), (2, true), (3, true), (4, true), (8, true), (5, true), (6, true), (7, true), (9, true), (10, true), (11, true), (12, true), (13, false), (14, true), (15, true), (16, true), (17, false), (18, true), (19, true), (20, true), (21, false)] (TellS s ph me) (by kernel_rfl) (by kernel_rfl) (fun _ _ d _ _ h => by cases d <;> exact h) (by kernel_rfl) (by decide) (show TellS s ph me wr.drew from ⟨hS0.out.m, hS0.out.h⟩) ?_
        iterate 13 (
          first
            | (refine wpMix_val (.pointer (some ⟨s, 0, none⟩)) (by with_unfolding_all rfl) (by with_unfolding_all rfl) (fun w _ => exec_nil _ (by with_unfolding_all rfl) s 0 (by with_unfolding_all rfl) w) ?_; simp only [Act.put, List.setIfInBounds_toArray, List.set_cons_zero, List.set_cons_succ])
            | (refine wpMix_val (.pointer (some ⟨s, 0, none⟩)) (by with_unfolding_all rfl) (by with_unfolding_all rfl) (fun w _ => exec_s0 _ (by with_unfolding_all rfl) s (by with_unfolding_all rfl) w) ?_; simp only [Act.put, List.setIfInBounds_toArray, List.set_cons_zero, List.set_cons_succ])
            | (refine wpMix_q (by with_unfolding_all rfl) (by kernel_rfl) ?_
               first
                | go_big_quiet_skip
                | ((with_reducible refine wpQuiet_load1 (.int .i64 me) (by with_unfolding_all rfl) 3 _ (by with_unfolding_all rfl) .i64 Try.underlying3 s (6) (by with_unfolding_all rfl) (fun w h => h.m) ?_); simp only [Act.put, List.setIfInBounds_toArray, List.set_cons_zero, List.set_cons_succ])
                | ((with_reducible refine wpQuiet_loadP (.pointer (some ⟨ph, 0, none⟩)) (by with_unfolding_all rfl) 71 _ _ (by with_unfolding_all rfl) Try.underlying71 s (1) (by with_unfolding_all rfl) (fun w h => h.h) ?_); simp only [Act.put, List.setIfInBounds_toArray, List.set_cons_zero, List.set_cons_succ])
                | (go_big_quiet_step (exact fun _ => rfl))
               refine wpMix_qnil ?_))
        refine wpMix_call 41 [.pointer (some ⟨ph, 0, none⟩), .int .i64 6] (fun v w4 => ∃ A c4, v = .slice A ((Hm.told 6 u.f).map fun r => r.m).length c4 ∧ MemsIn w4 A ((Hm.told 6 u.f).map fun r => r.m) ∧ (∀ g, blkOf A = some g → (wr.drewN 1).heap.size ≤ g) ∧ ((Hm.told 6 u.f).map fun r => r.m).length ≤ 6 ∧ ScAt H w4 O M b' { u with f := Hm.rest 6 u.f } ∧ Keeps (fun i => ¬ O i) (wr.drewN 1) w4) (by with_unfolding_all rfl) (by with_unfolding_all rfl) (by with_unfolding_all rfl) ((HTK.out 1).mono fun e w4 ⟨A, c4, he, h1, h2, h3, h4, h5⟩ => ⟨_, he, ⟨by rw [← HU.out.2.1, HU.out.2.2]; exact h4.cell (i := 6) rfl, by rw [← HU.out.2.1, HPH.out]; exact h4.cell (i := 1) rfl⟩, A, c4, rfl, h1, h2, h3, h4, h5⟩) ?_
        rintro v4 w4 hS4' ⟨A, c4, rfl, hM4, hlo4, h64, hS4, hK4⟩
        have hA4 : At w4 q 59 (fpsC L ++ ((l.drop k).flatMap bareC ++ sp)) := (hK4.block q (fun ho => by have := HO.out q ho; have := HQ.out.1; omega) (Nat.lt_of_lt_of_le HQ.out.2 HR.out.kp.size)).trans HAr.out
        have HN4 := Lib.hid (fun c' => HR.out.next (c := c') (fun i hi => Nat.lt_of_lt_of_le (HO.out i hi) HQ.out.1) HQ.out.2 hkl HX.out.symm HL.out.1 HL.out.2.1 hA4 HL.out.2.2 HU.out.1 HU.out.2.1 hM4 hlo4 h64 hS4 hK4)
        rw [← HU.out.2.2] at HN4
        have hsq : s ≠ q := by rw [← HU.out.2.1]; exact fun e => by have := HO.out q (e ▸ hS4.own _ (mem_list.2 (.inl rfl))); have := HQ.out.1; omega
        have f1 := hA4.frozen (k * 238 + 2)
        have f2 := hA4.frozen (k * 238 + 237)
        obtain ⟨C4, hC4⟩ : ∃ C4, C4 = fpsC L ++ ((l.drop k).flatMap bareC ++ sp) := ⟨_, rfl⟩
        have hCl : k * 238 + 237 < C4.length := by
          rw [hC4, List.length_append, fpsC_len, HL.out.2.1, List.length_append, bares_len, List.length_drop]
          have : 1 * 238 ≤ (l.length - k) * 238 := Nat.mul_le_mul_right _ (by omega)
          omega
        rw [← hC4] at hA4
        have HA4 := Lib.hid hA4
        have HC4 := Lib.hid hCl
        obtain ⟨m, hm⟩ : ∃ m, m = ((Hm.told 6 u.f).map fun r => r.m).length := ⟨_, rfl⟩
        rw [← hm] at HN4 ⊢
        have HSQ := Lib.hid hsq
        have HF := Lib.hid (And.intro f1 f2)
        have HS4 := Lib.hid hS4'
        clear hA4 hM4 hlo4 h64 hS4 hK4 hS4' c6 c1 hm hsq hC4 hCl f1 f2
        simp only [Act.put, List.setIfInBounds_toArray, List.set_cons_zero, List.set_cons_succ]
        iterate 3 (
          first
            | (refine wpMix_q (by with_unfolding_all rfl) (by kernel_rfl) ?_
               first
                | go_big_quiet_skip
                | ((with_reducible refine wpQuiet_val (.pointer (some ⟨q, k * 238 + 1, none⟩)) (by with_unfolding_all rfl) (fun w _ => exec_sent1 _ (by with_unfolding_all rfl) q (k * 238) (by with_unfolding_all rfl) w) ?_); simp only [Act.put, List.setIfInBounds_toArray, List.set_cons_zero, List.set_cons_succ])
                | ((with_reducible refine wpQuiet_val (.pointer (some ⟨q, k * 238 + 2, none⟩)) (by with_unfolding_all rfl) (fun w _ => exec_fr1 _ (by with_unfolding_all rfl) q (k * 238 + 1) (by with_unfolding_all rfl) w) ?_); simp only [Act.put, List.setIfInBounds_toArray, List.set_cons_zero, List.set_cons_succ])
                | (go_big_quiet_step (exact fun _ => rfl))
               refine wpMix_qnil ?_))
        refine wpMix_store1 (.int .i64 me) (by with_unfolding_all rfl) (by with_unfolding_all rfl) 3 _ _ (by with_unfolding_all rfl) q (k * 238 + 2) (by with_unfolding_all rfl) (by with_unfolding_all rfl) (.inl ⟨_, _, rfl⟩) (by kernel_rfl) ⟨by rw [HA4.out.cell' (List.getElem?_eq_getElem (by have := HC4.out; omega))]; rfl, HF.out.1⟩ (HS4.out.set HSQ.out _ _) ?_
        simp only [Act.put]
        iterate 3 (
          first
            | (refine wpMix_q (by with_unfolding_all rfl) (by kernel_rfl) ?_
               first
                | go_big_quiet_skip
                | ((with_reducible refine wpQuiet_val (.pointer (some ⟨q, k * 238 + 1, none⟩)) (by with_unfolding_all rfl) (fun w _ => exec_sent1 _ (by with_unfolding_all rfl) q (k * 238) (by with_unfolding_all rfl) w) ?_); simp only [Act.put, List.setIfInBounds_toArray, List.set_cons_zero, List.set_cons_succ])
                | ((with_reducible refine wpQuiet_val (.pointer (some ⟨q, k * 238 + 237, none⟩)) (by with_unfolding_all rfl) (fun w _ => exec_fr14 _ (by with_unfolding_all rfl) q (k * 238 + 1) (by with_unfolding_all rfl) w) ?_); simp only [Act.put, List.setIfInBounds_toArray, List.set_cons_zero, List.set_cons_succ])
                | (go_big_quiet_step (exact fun _ => rfl))
               refine wpMix_qnil ?_))
        refine wpMix_store1 (.slice A m c4) (by with_unfolding_all rfl) (by with_unfolding_all rfl) 30 _ _ (by with_unfolding_all rfl) q (k * 238 + 237) (by with_unfolding_all rfl) (by with_unfolding_all rfl) (.inr (.inl ⟨_, _, _, rfl⟩)) (by kernel_rfl) ⟨by rw [(HA4.out.set (k * 238 + 2) (.int .i64 me)).cell' (List.getElem?_eq_getElem (by rw [List.length_set]; exact HC4.out))]; rfl, (HA4.out.set (k * 238 + 2) (.int .i64 me)).frozen _⟩ ((HS4.out.set HSQ.out _ _).set HSQ.out _ _) ?_
        simp only [Act.put]
        refine wpMix_nil ?_
        clear HS4 HF HC4 HA4
        go_wp2_with fail
        go_roundw
        case rel => exact ⟨k + 1, by omega, by go_num, HN4.out c4⟩
        case measure => simp [RowKit.intOf]; omega
      · have hkn : k = n := by omega
        have HKN := Lib.hid hkn
        clear hkn
        go_wp2_with fail
        go_ret
        obtain ⟨L, hL, hLk, hAr, hLm⟩ := HR.out.row
        obtain ⟨b', hbs, hS⟩ := HR.out.sc
        have hkl : k = l.length := HKN.out.trans HN.out
        rw [hkl, List.take_length] at hL hS
        have hq := HQ.out.1
        have hsz := HR.out.kp.size
        have hLn : L.length = n := hLk.trans HKN.out
        refine ⟨_, rfl, ⟨L, some ⟨q, 0, none⟩, cap, hL, by rw [hLn]; rfl, fun p hp => ?_, .inr ⟨q, rfl, hq, Nat.lt_of_lt_of_le HQ.out.2 hsz, fun j u hu => ?_⟩⟩, ⟨b', hbs, hS, ?_⟩⟩
        · obtain ⟨h1, h2, h3⟩ := hLm p hp
          exact ⟨h1, h2, fun g hg => Nat.le_trans HB1.out.size (h3 g hg)⟩
        · rw [Nat.zero_add]
          exact hAr.cell' (by rw [List.getElem?_append_left (List.getElem?_eq_some_iff.1 hu).1]; exact hu)
        · have h1 := HB1.out
          have h2 := HR.out.kp
          exact ⟨h2.os.trans h1.os, h2.tape.trans h1.tape, h2.output.trans h1.output, Nat.le_trans h1.size h2.size, fun i hi hl => (h2.block i ⟨hi, by omega⟩ (Nat.lt_of_lt_of_le hl h1.size)).trans (h1.block i hl)⟩
theorem tell_aux (h : ScAt H w O M b t) (hO : ∀ i, O i → i < w.heap.size) {v : Value} {l : List Fr} (hl : Bares w v l) : Calls Try.prog 17 #[.pointer (some ⟨b.s, 0, none⟩), v] w fun e w' => ∃ v', e = .returned v' ∧ Sents w' w.heap.size v' (t.tell l).2 ∧ Grew H w w' O M b.s (t.tell l).1 :=
  (tell_aux2 h hO hl).mono fun _ _ ⟨v', h1, h2, b', h3, h4, h5⟩ => ⟨v', h1, h2, b', O, h3, h4, fun _ hi => .inl hi, h5⟩
/-- frames with rumours -/
theorem tell_any (h : ScAt H w O M b t) {v : Value} {l : List Fr} (hl : Bares w v l) : Calls Try.prog 17 #[.pointer (some ⟨b.s, 0, none⟩), v] w fun e w' => ∃ v', e = .returned v' ∧ Sents w' w.heap.size v' (t.tell l).2 ∧ Grew H w w' O M b.s (t.tell l).1 :=
  (tell_aux h.trim (fun _ hi => hi.2) hl).mono fun _ _ ⟨v1, h1, h2, h3⟩ => ⟨v1, h1, h2, h3.untrim⟩
theorem Grew.tell {s : Nat} (h : Grew H w0 w O M s t) {v : Value} {l : List Fr} (hl : Bares w v l) : Calls Try.prog 17 #[.pointer (some ⟨s, 0, none⟩), v] w fun e w' => ∃ v', e = .returned v' ∧ Sents w' w0.heap.size v' (t.tell l).2 ∧ Grew H w0 w' O M s (t.tell l).1 := by
  obtain ⟨b', O', rfl, h2, h3, h4⟩ := h
  refine (tell_any h2 hl).mono ?_
  rintro e w' ⟨v', h5, ⟨L, A, c, e1, e2, e3, e4⟩, h7⟩
  refine ⟨v', h5, ⟨L, A, c, e1, e2, fun p hp => ⟨(e3 p hp).1, (e3 p hp).2.1, fun g hg => Nat.le_trans h4.size ((e3 p hp).2.2 g hg)⟩, ?_⟩, h7.step h4 h3⟩
  rcases e4 with e4 | ⟨g, a1, a2, a3⟩
  · exact .inl e4
  · exact .inr ⟨g, a1, Nat.le_trans h4.size a2, a3⟩
end
end Go.Proofs.Ytghefmppjdneoaa

namespace Go.Proofs.Ytghefmppjdneoaa
open Go.Proofs Stab Go.Shelf Go.RowKit Go.Lib Go.Sort Go.Maps

theorem zero_int (w : World) : (zeroValue 3).run Try.prog w = .ok (.int .i64 0) w := by kernel_rfl
theorem since_lookup {H : Type} {w : World} {b N : Nat} {f : Int → Option Int} (h : w.ownsMap Try.prog 3 readN b N (Sk.mapD (H := H) intD f)) (hf : Sk.Sane f) {k : Int} (h1 : -9223372036854775808 ≤ k) (h2 : k ≤ 9223372036854775807) :
    (Instr.lookup 76 (.map (some b)) (.int .i64 k) false).run Try.prog w = .ok (.int .i64 ((f k).getD 0)) w := by
  obtain ⟨es, clock, hb, Ft, _, hD⟩ := h
  have hat : ∀ z : DataW H, (DataW.map ((es.toList.map (WideElems.rg Try.prog 3 readN)).foldr DataW.insert [])).atKey (.int .i64 k) z = (match f k with | some m => intD m | none => z) := fun z => by
    rw [← hD]
    refine (Sk.atKey_mapD (enc := intD) hf k z).trans ?_
    cases f k <;> rfl
  rcases Maps.fit_look false hum_keyed Try.underlying76 (zero_int w) hb Ft (hum_key h1 h2) with ⟨hrun, _, hz⟩ | ⟨e0, y, _, _, hrun, hRv, hz, _⟩
  · rw [hrun]
    have : f k = none := by
      cases hf : f k with
      | none => rfl
      | some m =>
        have h3 := (hz .nil).symm.trans (hat .nil)
        rw [hf] at h3
        cases h3
    simp [this]
  · rw [hrun]
    obtain ⟨m, hv, rfl⟩ := readN_inv hRv
    have h3 := (hz .nil).symm.trans (hat .nil)
    cases hf : f k with
    | none =>
      rw [hf] at h3
      cases h3
    | some m' =>
      rw [hf] at h3
      have := intD_inj h3
      simp [hv, this]
theorem exec_look {ρ : Operand → Value} {o : Oper} {T : TypeId} (x y : Operand) (ho : o.op = .lookup T x y false) (b : Nat) (k : Int) {v : Value} {w : World} (hx : ρ x = .map (some b)) (hy : ρ y = .int .i64 k) (h : (Instr.lookup T (.map (some b)) (.int .i64 k) false).run Try.prog w = .ok v w) : (execOp ρ o).run Try.prog w = .ok (.value v) w := by
  unfold execOp
  simp only [ho, hx, hy, Sem.run_bind, Sem.run_pure, h, Result.andThen_ok]
theorem run_subI (a b : Int) (h1 : 0 ≤ a ∧ a ≤ 2000000) (h2 : 0 ≤ b ∧ b ≤ 2000000) (w : World) : (binOp .sub 3 (.int .i64 a) (.int .i64 b)).run Try.prog w = .ok (.int .i64 (a - b)) w := by
  go_simp
  rw [IntKind.wrap_i64]
  omega
theorem age1_yes {t : Sct} {m : Mem} (h1 : m.n ≠ t.me) (h2 : m.s = 1) (h3 : 8 ≤ t.ticks - (t.since m.n).getD 0) : t.age1 m = t.turn m.n 2 := by
  unfold Sct.age1
  rw [if_pos ⟨h1, h2, h3⟩]
theorem age1_no {t : Sct} {m : Mem} (h : m.n = t.me ∨ m.s ≠ 1 ∨ t.ticks - (t.since m.n).getD 0 < 8) : t.age1 m = t := by
  unfold Sct.age1
  rw [if_neg]
  rintro ⟨h1, h2, h3⟩
  rcases h with h | h | h
  · exact h1 h
  · exact h h2
  · omega
theorem age_take (t : Sct) (l : List Mem) (k : Nat) (hk : k < l.length) : (l.take (k + 1)).foldl Sct.age1 t = ((l.take k).foldl Sct.age1 t).age1 l[k] := by
  rw [List.take_succ_eq_append_getElem hk, List.foldl_append]
  rfl
section
variable {H : Type} {w w' w0 : World} {O : Nat → Prop} {M : Nat} {b : Blk} {t : Sct} {s : Nat}
theorem Grew.turn (h : Grew H w0 w O M s t) (hM : M < 1000000) (n k : Int) (h1 : -9223372036854775808 ≤ n) (h2 : n ≤ 9223372036854775807) : Calls Try.prog 29 #[.pointer (some ⟨s, 0, none⟩), .int .i64 n, .int .i64 k] w fun e w' => e = .returned (.tuple #[]) ∧ Grew H w0 w' O (M + 1) s (t.turn n k) :=
  h.calls fun b' O' e hS => by subst e; exact turn_any hS hM n k h1 h2
/-- since when a node is doubted, looked up -/
theorem since_look (h : Grew H w0 w O M s t) (n : Int) (h1 : -9223372036854775808 ≤ n) (h2 : n ≤ 9223372036854775807) : ∃ bs, ∀ W, Below w.heap.size w W → W.cell? ⟨s, 11, none⟩ = some (.map (some bs)) ∧ (Instr.lookup 76 (.map (some bs)) (.int .i64 n) false).run Try.prog W = .ok (.int .i64 ((t.since n).getD 0)) W := by
  obtain ⟨b', O', rfl, hS, _⟩ := h
  refine ⟨b'.bs, fun W hW => ?_⟩
  have hS2 := hS.below hW
  exact ⟨hS2.cell (i := 11) rfl, since_lookup hS2.since (fun x k hx => by have := hS2.lim.since x k hx; exact Sk.node_mem (by omega) (by omega)) h1 h2⟩
set_option maxRecDepth 100000 in
set_option maxHeartbeats 2000000 in
theorem age_aux (h : ScAt H w O M b t) (hO : ∀ i, O i → i < w.heap.size) (hM : M + 6 < 1000000) : Calls Try.prog 30 #[.pointer (some ⟨b.s, 0, none⟩)] w fun e w' => e = .returned (.tuple #[]) ∧ Grew H w w' O (M + 6) b.s t.age := by
  have c0 := h.cell (i := 0) (v := ptrV b.pv) rfl
  have HH := Lib.hid h
  have HO := Lib.hid hO
  obtain ⟨s, hs⟩ : ∃ s, s = b.s := ⟨_, rfl⟩
  obtain ⟨pv, hpv⟩ : ∃ pv, pv = b.pv := ⟨_, rfl⟩
  obtain ⟨l, hl⟩ : ∃ l, l = all t.v := ⟨_, rfl⟩
  have HA := Lib.hid (all_any h.view)
  rw [← hpv, ← hl] at HA
  have HL := Lib.hid (show ∀ m ∈ l, -9223372036854775808 ≤ m.n ∧ m.n ≤ 9223372036854775807 from fun m hm => by
    rw [hl] at hm
    obtain ⟨x, _, hx⟩ := List.mem_filterMap.1 hm
    have := (Mem.good_iff m).1 (h.view.2.2.1 x m hx).1
    omega)
  have hl6 : l.length ≤ 6 := by rw [hl]; exact List.length_filterMap_le _ nodes
  have HAG := Lib.hid (show t.age = l.foldl Sct.age1 t by rw [hl]; rfl)
  have HSB := Lib.hid hs
  rw [← hs, ← hpv] at c0
  rw [← hs]
  unfold ptrV at c0
  clear h hO hs hpv hl
  go_enter Try.func30, Try.ntmps30
  go_wp2_with fail
  refine HA.out.mono ?_
  rintro e w1 ⟨v, rfl, hOr, hB⟩
  obtain ⟨A, c, rfl, hMm, hlo⟩ := Mems.own hOr
  have HM := Lib.hid hMm
  have HLO := Lib.hid hlo
  have HB := Lib.hid hB
  have HG0 := Lib.hid (show Grew H w1 w1 O M s t by have := Grew.refl (HH.out.below hB); rwa [← HSB.out] at this)
  clear hOr hMm hlo hB HA c0
  go_wp2_with fail
  go_loopw [11] (fun i wr => ∃ k : Nat, k ≤ l.length ∧ i = .int .i64 k ∧ Grew H w1 wr O (M + k) s ((l.take k).foldl Sct.age1 t)) (fun i _ => l.length - (RowKit.intOf i).toNat)
  case atStart => exact ⟨0, by omega, rfl, HG0.out⟩
  case round =>
    obtain ⟨k, hk, rfl, hG⟩ := hrel
    obtain ⟨u, hu⟩ : ∃ u, u = (l.take k).foldl Sct.age1 t := ⟨_, rfl⟩
    rw [← hu] at hG
    have HG := Lib.hid hG
    have HU := Lib.hid hu
    clear hG hu
    by_cases hlt : k < l.length
    · obtain ⟨m, hm⟩ : ∃ m, m = l[k] := ⟨_, rfl⟩
      obtain ⟨g, off, rfl, c0, c1, c2⟩ := HM.out.cellsV (w' := wr) (N := 0) (fun g off e hlt' => HG.out.keeps.block g (fun ho => by have := HO.out g ho; have := (HLO.out g off e).1; omega) hlt') hlt rfl
      rw [← hm] at c0 c1 c2
      have HX := Lib.hid (show (l.take (k + 1)).foldl Sct.age1 t = u.age1 m by rw [age_take t l k hlt, ← HU.out, hm])
      have hmn := HL.out m (by rw [hm]; exact List.getElem_mem _)
      obtain ⟨me, hme⟩ : ∃ me, me = u.me := ⟨_, rfl⟩
      obtain ⟨tk, htk⟩ : ∃ tk, tk = u.ticks := ⟨_, rfl⟩
      obtain ⟨sn, hsn⟩ : ∃ sn, sn = (u.since m.n).getD 0 := ⟨_, rfl⟩
      have ht1 : 0 ≤ tk ∧ tk ≤ 2000000 := by have := HG.out.lim.ticks; omega
      have hs1 : 0 ≤ sn ∧ sn ≤ 2000000 := by
        rw [hsn]
        cases hq : u.since m.n with
        | none => exact ⟨by decide, by decide⟩
        | some z => have := HG.out.lim.since m.n z hq; show 0 ≤ z ∧ z ≤ _; omega
      have HSB := Lib.hid (run_subI tk sn ht1 hs1)
      have HE := Lib.hid (And.intro hme (And.intro htk hsn))
      have i1 : (0 : Int) ≤ (k : Int) := by omega
      have i2 : (k : Int) < (l.length : Int) := by omega
      have d0 := (memAt wr m).cell' (i := 0) (v := .int .i64 m.n) rfl
      have d2 := (memAt wr m).cell' (i := 2) (v := .int .i64 m.s) rfl
      have HMN := Lib.hid hmn
      clear hm hme htk hsn ht1 hs1
      by_cases hst : m.n = me
      · have HNE := Lib.hid (show ∀ w, (binOp .neq 3 (.int .i64 m.n) (.int .i64 me)).run Try.prog w = .ok (.bool false) w from by rw [hst]; exact run_neqI0 _)
        have HNO := Lib.hid (show m.n = u.me ∨ m.s ≠ 1 ∨ u.ticks - (u.since m.n).getD 0 < 8 from .inl (hst.trans HE.out.1))
        clear hst
        go_wp2_with fail
        obtain ⟨W1, hW1⟩ : ∃ W1, W1 = wr.alloc (.cells #[.int .i64 m.n, .int .i64 m.i, .int .i64 m.s] 38) := ⟨_, rfl⟩
        rw [← hW1]
        have hAM : At W1 wr.heap.size 38 (cellsM m) := by rw [hW1]; exact memAt wr m
        have hB1 : Below wr.heap.size wr W1 := by rw [hW1]; exact (Below.refl _ _).alloc (Nat.le_refl _) _
        obtain ⟨q, hq⟩ : ∃ q, q = wr.heap.size := ⟨_, rfl⟩
        rw [← hq] at hAM ⊢
        have HM0 := Lib.hid (show ∀ W, Behind W1 W → W.cell? ⟨q, 0, none⟩ = some (.int .i64 m.n) from fun W h => (hAM.below h hAM.lt).cell' rfl)
        have HM2 := Lib.hid (show ∀ W, Behind W1 W → W.cell? ⟨q, 2, none⟩ = some (.int .i64 m.s) from fun W h => (hAM.below h hAM.lt).cell' rfl)
        have HG1 := Lib.hid (show ∀ W, Behind W1 W → Grew H w1 W O (M + k) s u from fun W h => HG.out.on (hB1.trans (Below.mono h hB1.size)))
        have HS6 := Lib.hid (show ∀ W, Behind W1 W → W.cell? ⟨s, 6, none⟩ = some (.int .i64 me) from fun W h => by rw [HE.out.1]; exact (HG1.out W h).cell (i := 6) (fun _ => rfl))
        have HS8 := Lib.hid (show ∀ W, Behind W1 W → W.cell? ⟨s, 8, none⟩ = some (.int .i64 tk) from fun W h => by rw [HE.out.2.1]; exact (HG1.out W h).cell (i := 8) (fun _ => rfl))
        obtain ⟨bs, hbs⟩ := since_look HG.out m.n hmn.1 hmn.2
        rw [← HE.out.2.2] at hbs
        have HS11 := Lib.hid (show ∀ W, Behind W1 W → W.cell? ⟨s, 11, none⟩ = some (.map (some bs)) from fun W h => (hbs W (hB1.trans (Below.mono h hB1.size))).1)
        have HLK := Lib.hid (show ∀ W, Behind W1 W → (Instr.lookup 76 (.map (some bs)) (.int .i64 m.n) false).run Try.prog W = .ok (.int .i64 sn) W from fun W h => (hbs W (hB1.trans (Below.mono h hB1.size))).2)
        clear hq hW1 hAM hB1 hbs d0 d2 c0 c1 c2
        refine wp_region_class (Behind W1) (by kernel_rfl) (by kernel_rfl) (Below.refl _ _).drew ?_
        iterate 27 (first
          | go_big_quiet_skip
          | ((with_reducible refine wpQuiet_val (.pointer (some ⟨s, 0, none⟩)) (by with_unfolding_all rfl) (fun w _ => exec_nil _ (by with_unfolding_all rfl) s 0 (by with_unfolding_all rfl) w) ?_); simp only [Act.put, List.setIfInBounds_toArray, List.set_cons_zero, List.set_cons_succ])
          | ((with_reducible refine wpQuiet_val (.pointer (some ⟨s, 6, none⟩)) (by with_unfolding_all rfl) (fun w _ => exec_s2 _ (by with_unfolding_all rfl) s (by with_unfolding_all rfl) w) ?_); simp only [Act.put, List.setIfInBounds_toArray, List.set_cons_zero, List.set_cons_succ])
          | ((with_reducible refine wpQuiet_val (.pointer (some ⟨s, 8, none⟩)) (by with_unfolding_all rfl) (fun w _ => exec_s4 _ (by with_unfolding_all rfl) s (by with_unfolding_all rfl) w) ?_); simp only [Act.put, List.setIfInBounds_toArray, List.set_cons_zero, List.set_cons_succ])
          | ((with_reducible refine wpQuiet_val (.pointer (some ⟨s, 11, none⟩)) (by with_unfolding_all rfl) (fun w _ => exec_s7 _ (by with_unfolding_all rfl) s (by with_unfolding_all rfl) w) ?_); simp only [Act.put, List.setIfInBounds_toArray, List.set_cons_zero, List.set_cons_succ])
          | ((with_reducible refine wpQuiet_load1 (.int .i64 m.n) (by with_unfolding_all rfl) 3 _ (by with_unfolding_all rfl) .i64 Try.underlying3 q (0) (by with_unfolding_all rfl) (fun w h => HM0.out w h) ?_); simp only [Act.put, List.setIfInBounds_toArray, List.set_cons_zero, List.set_cons_succ])
          | ((with_reducible refine wpQuiet_load1 (.int .i64 m.s) (by with_unfolding_all rfl) 3 _ (by with_unfolding_all rfl) .i64 Try.underlying3 q (2) (by with_unfolding_all rfl) (fun w h => HM2.out w h) ?_); simp only [Act.put, List.setIfInBounds_toArray, List.set_cons_zero, List.set_cons_succ])
          | ((with_reducible refine wpQuiet_load1 (.int .i64 me) (by with_unfolding_all rfl) 3 _ (by with_unfolding_all rfl) .i64 Try.underlying3 s (6) (by with_unfolding_all rfl) (fun w h => HS6.out w h) ?_); simp only [Act.put, List.setIfInBounds_toArray, List.set_cons_zero, List.set_cons_succ])
          | ((with_reducible refine wpQuiet_load1 (.int .i64 tk) (by with_unfolding_all rfl) 3 _ (by with_unfolding_all rfl) .i64 Try.underlying3 s (8) (by with_unfolding_all rfl) (fun w h => HS8.out w h) ?_); simp only [Act.put, List.setIfInBounds_toArray, List.set_cons_zero, List.set_cons_succ])
          | ((with_reducible refine wpQuiet_loadM (.map (some bs)) (by with_unfolding_all rfl) 76 _ _ _ (by with_unfolding_all rfl) Try.underlying76 s (11) (by with_unfolding_all rfl) (fun w h => HS11.out w h) ?_); simp only [Act.put, List.setIfInBounds_toArray, List.set_cons_zero, List.set_cons_succ])
          | ((with_reducible refine wpQuiet_bin (by with_unfolding_all rfl) .neq 3 _ _ _ (by with_unfolding_all rfl) (.int .i64 m.n) (.int .i64 me) (.bool false) (by with_unfolding_all rfl) (by with_unfolding_all rfl) (fun w => run_guardI w _ _ _ _ _) (fun w => HNE.out w) ?_); simp only [Act.put, List.setIfInBounds_toArray, List.set_cons_zero, List.set_cons_succ])
          | (go_big_quiet_step (exact fun _ => rfl)))
        with_reducible refine wpQuiet_nil ?_
        intro wy hwy
        have hGy := HG1.out wy hwy
        have HGy := Lib.hid hGy
        clear HM0 HM2 HS6 HS8 HS11 HLK HG1 hwy hGy
        go_wp2_with fail
        go_roundw
        case rel => exact ⟨k + 1, by omega, by go_num, by rw [HX.out, age1_no HNO.out]; exact HGy.out.mono (by omega)⟩
        case measure => simp [RowKit.intOf]; omega
      · have HNE := Lib.hid (show ∀ w, (binOp .neq 3 (.int .i64 m.n) (.int .i64 me)).run Try.prog w = .ok (.bool true) w from run_neqI1 _ _ hst)
        have HST := Lib.hid (show m.n ≠ u.me by rw [← HE.out.1]; exact hst)
        clear hst
        by_cases hs2 : m.s = 1
        · have HEQ := Lib.hid (show ∀ w, (binOp .eql 3 (.int .i64 m.s) (.int .i64 1)).run Try.prog w = .ok (.bool true) w from by rw [hs2]; exact run_eqlI1 _)
          have HS2 := Lib.hid hs2
          clear hs2
          by_cases hge : 8 ≤ tk - sn
          · have HGQ := Lib.hid (show ∀ w, (binOp .geq 3 (.int .i64 (tk - sn)) (.int .i64 8)).run Try.prog w = .ok (.bool true) w from run_geqI1 _ _ hge)
            have HGE := Lib.hid (show 8 ≤ u.ticks - (u.since m.n).getD 0 by rw [← HE.out.2.1, ← HE.out.2.2]; exact hge)
            clear hge
            go_wp2_with fail
            obtain ⟨W1, hW1⟩ : ∃ W1, W1 = wr.alloc (.cells #[.int .i64 m.n, .int .i64 m.i, .int .i64 m.s] 38) := ⟨_, rfl⟩
            rw [← hW1]
            have hAM : At W1 wr.heap.size 38 (cellsM m) := by rw [hW1]; exact memAt wr m
            have hB1 : Below wr.heap.size wr W1 := by rw [hW1]; exact (Below.refl _ _).alloc (Nat.le_refl _) _
            obtain ⟨q, hq⟩ : ∃ q, q = wr.heap.size := ⟨_, rfl⟩
            rw [← hq] at hAM ⊢
            have HM0 := Lib.hid (show ∀ W, Behind W1 W → W.cell? ⟨q, 0, none⟩ = some (.int .i64 m.n) from fun W h => (hAM.below h hAM.lt).cell' rfl)
            have HM2 := Lib.hid (show ∀ W, Behind W1 W → W.cell? ⟨q, 2, none⟩ = some (.int .i64 m.s) from fun W h => (hAM.below h hAM.lt).cell' rfl)
            have HG1 := Lib.hid (show ∀ W, Behind W1 W → Grew H w1 W O (M + k) s u from fun W h => HG.out.on (hB1.trans (Below.mono h hB1.size)))
            have HS6 := Lib.hid (show ∀ W, Behind W1 W → W.cell? ⟨s, 6, none⟩ = some (.int .i64 me) from fun W h => by rw [HE.out.1]; exact (HG1.out W h).cell (i := 6) (fun _ => rfl))
            have HS8 := Lib.hid (show ∀ W, Behind W1 W → W.cell? ⟨s, 8, none⟩ = some (.int .i64 tk) from fun W h => by rw [HE.out.2.1]; exact (HG1.out W h).cell (i := 8) (fun _ => rfl))
            obtain ⟨bs, hbs⟩ := since_look HG.out m.n hmn.1 hmn.2
            rw [← HE.out.2.2] at hbs
            have HS11 := Lib.hid (show ∀ W, Behind W1 W → W.cell? ⟨s, 11, none⟩ = some (.map (some bs)) from fun W h => (hbs W (hB1.trans (Below.mono h hB1.size))).1)
            have HLK := Lib.hid (show ∀ W, Behind W1 W → (Instr.lookup 76 (.map (some bs)) (.int .i64 m.n) false).run Try.prog W = .ok (.int .i64 sn) W from fun W h => (hbs W (hB1.trans (Below.mono h hB1.size))).2)
            clear hq hW1 hAM hB1 hbs d0 d2 c0 c1 c2
            refine wp_region_class (Behind W1) (by kernel_rfl) (by kernel_rfl) (Below.refl _ _).drew ?_
            iterate 27 (first
              | go_big_quiet_skip
              | ((with_reducible refine wpQuiet_val (.pointer (some ⟨s, 0, none⟩)) (by with_unfolding_all rfl) (fun w _ => exec_nil _ (by with_unfolding_all rfl) s 0 (by with_unfolding_all rfl) w) ?_); simp only [Act.put, List.setIfInBounds_toArray, List.set_cons_zero, List.set_cons_succ])
              | ((with_reducible refine wpQuiet_val (.pointer (some ⟨s, 6, none⟩)) (by with_unfolding_all rfl) (fun w _ => exec_s2 _ (by with_unfolding_all rfl) s (by with_unfolding_all rfl) w) ?_); simp only [Act.put, List.setIfInBounds_toArray, List.set_cons_zero, List.set_cons_succ])
              | ((with_reducible refine wpQuiet_val (.pointer (some ⟨s, 8, none⟩)) (by with_unfolding_all rfl) (fun w _ => exec_s4 _ (by with_unfolding_all rfl) s (by with_unfolding_all rfl) w) ?_); simp only [Act.put, List.setIfInBounds_toArray, List.set_cons_zero, List.set_cons_succ])
              | ((with_reducible refine wpQuiet_val (.pointer (some ⟨s, 11, none⟩)) (by with_unfolding_all rfl) (fun w _ => exec_s7 _ (by with_unfolding_all rfl) s (by with_unfolding_all rfl) w) ?_); simp only [Act.put, List.setIfInBounds_toArray, List.set_cons_zero, List.set_cons_succ])
              | ((with_reducible refine wpQuiet_load1 (.int .i64 m.n) (by with_unfolding_all rfl) 3 _ (by with_unfolding_all rfl) .i64 Try.underlying3 q (0) (by with_unfolding_all rfl) (fun w h => HM0.out w h) ?_); simp only [Act.put, List.setIfInBounds_toArray, List.set_cons_zero, List.set_cons_succ])
              | ((with_reducible refine wpQuiet_load1 (.int .i64 m.s) (by with_unfolding_all rfl) 3 _ (by with_unfolding_all rfl) .i64 Try.underlying3 q (2) (by with_unfolding_all rfl) (fun w h => HM2.out w h) ?_); simp only [Act.put, List.setIfInBounds_toArray, List.set_cons_zero, List.set_cons_succ])
              | ((with_reducible refine wpQuiet_load1 (.int .i64 me) (by with_unfolding_all rfl) 3 _ (by with_unfolding_all rfl) .i64 Try.underlying3 s (6) (by with_unfolding_all rfl) (fun w h => HS6.out w h) ?_); simp only [Act.put, List.setIfInBounds_toArray, List.set_cons_zero, List.set_cons_succ])
              | ((with_reducible refine wpQuiet_load1 (.int .i64 tk) (by with_unfolding_all rfl) 3 _ (by with_unfolding_all rfl) .i64 Try.underlying3 s (8) (by with_unfolding_all rfl) (fun w h => HS8.out w h) ?_); simp only [Act.put, List.setIfInBounds_toArray, List.set_cons_zero, List.set_cons_succ])
              | ((with_reducible refine wpQuiet_loadM (.map (some bs)) (by with_unfolding_all rfl) 76 _ _ _ (by with_unfolding_all rfl) Try.underlying76 s (11) (by with_unfolding_all rfl) (fun w h => HS11.out w h) ?_); simp only [Act.put, List.setIfInBounds_toArray, List.set_cons_zero, List.set_cons_succ])
              | ((with_reducible refine wpQuiet_bin (by with_unfolding_all rfl) .neq 3 _ _ _ (by with_unfolding_all rfl) (.int .i64 m.n) (.int .i64 me) (.bool true) (by with_unfolding_all rfl) (by with_unfolding_all rfl) (fun w => run_guardI w _ _ _ _ _) (fun w => HNE.out w) ?_); simp only [Act.put, List.setIfInBounds_toArray, List.set_cons_zero, List.set_cons_succ])
              | ((with_reducible refine wpQuiet_bin (by with_unfolding_all rfl) .eql 3 _ _ _ (by with_unfolding_all rfl) (.int .i64 m.s) (.int .i64 1) (.bool true) (by with_unfolding_all rfl) (by with_unfolding_all rfl) (fun w => run_guardI w _ _ _ _ _) (fun w => HEQ.out w) ?_); simp only [Act.put, List.setIfInBounds_toArray, List.set_cons_zero, List.set_cons_succ])
              | ((with_reducible refine wpQuiet_val (.int .i64 sn) (by with_unfolding_all rfl) (fun w h => exec_look _ _ (by with_unfolding_all rfl) bs m.n (by with_unfolding_all rfl) (by with_unfolding_all rfl) (HLK.out w h)) ?_); simp only [Act.put, List.setIfInBounds_toArray, List.set_cons_zero, List.set_cons_succ])
              | ((with_reducible refine wpQuiet_bin (by with_unfolding_all rfl) .sub 3 _ _ _ (by with_unfolding_all rfl) (.int .i64 tk) (.int .i64 sn) (.int .i64 (tk - sn)) (by with_unfolding_all rfl) (by with_unfolding_all rfl) (fun w => run_guardI w _ _ _ _ _) (fun w => HSB.out w) ?_); simp only [Act.put, List.setIfInBounds_toArray, List.set_cons_zero, List.set_cons_succ])
              | ((with_reducible refine wpQuiet_bin (by with_unfolding_all rfl) .geq 3 _ _ _ (by with_unfolding_all rfl) (.int .i64 (tk - sn)) (.int .i64 8) (.bool true) (by with_unfolding_all rfl) (by with_unfolding_all rfl) (fun w => run_guardI w _ _ _ _ _) (fun w => HGQ.out w) ?_); simp only [Act.put, List.setIfInBounds_toArray, List.set_cons_zero, List.set_cons_succ])
              | (go_big_quiet_step (exact fun _ => rfl)))
            with_reducible refine wpQuiet_nil ?_
            intro wy hwy
            have hGy := HG1.out wy hwy
            have d0 := HM0.out wy hwy
            have HGT := Lib.hid (hGy.turn (show M + k < 1000000 by omega) m.n 2 HMN.out.1 HMN.out.2)
            clear HM0 HM2 HS6 HS8 HS11 HLK HG1 hwy hGy
            go_wp2_with fail
            refine HGT.out.mono ?_
            rintro e w9 ⟨rfl, hG9⟩
            have HG9 := Lib.hid hG9
            clear hG9 HGT d0
            go_wp2_with fail
            go_roundw
            case rel => exact ⟨k + 1, by omega, by go_num, by rw [HX.out, age1_yes HST.out HS2.out HGE.out]; exact HG9.out⟩
            case measure => simp [RowKit.intOf]; omega
          · have HGQ := Lib.hid (show ∀ w, (binOp .geq 3 (.int .i64 (tk - sn)) (.int .i64 8)).run Try.prog w = .ok (.bool false) w from run_geqI0 _ _ (by omega))
            have HNO := Lib.hid (show m.n = u.me ∨ m.s ≠ 1 ∨ u.ticks - (u.since m.n).getD 0 < 8 from .inr (.inr (by rw [← HE.out.2.1, ← HE.out.2.2]; omega)))
            clear hge
            go_wp2_with fail
            obtain ⟨W1, hW1⟩ : ∃ W1, W1 = wr.alloc (.cells #[.int .i64 m.n, .int .i64 m.i, .int .i64 m.s] 38) := ⟨_, rfl⟩
            rw [← hW1]
            have hAM : At W1 wr.heap.size 38 (cellsM m) := by rw [hW1]; exact memAt wr m
            have hB1 : Below wr.heap.size wr W1 := by rw [hW1]; exact (Below.refl _ _).alloc (Nat.le_refl _) _
            obtain ⟨q, hq⟩ : ∃ q, q = wr.heap.size := ⟨_, rfl⟩
            rw [← hq] at hAM ⊢
            have HM0 := Lib.hid (show ∀ W, Behind W1 W → W.cell? ⟨q, 0, none⟩ = some (.int .i64 m.n) from fun W h => (hAM.below h hAM.lt).cell' rfl)
            have HM2 := Lib.hid (show ∀ W, Behind W1 W → W.cell? ⟨q, 2, none⟩ = some (.int .i64 m.s) from fun W h => (hAM.below h hAM.lt).cell' rfl)
            have HG1 := Lib.hid (show ∀ W, Behind W1 W → Grew H w1 W O (M + k) s u from fun W h => HG.out.on (hB1.trans (Below.mono h hB1.size)))
            have HS6 := Lib.hid (show ∀ W, Behind W1 W → W.cell? ⟨s, 6, none⟩ = some (.int .i64 me) from fun W h => by rw [HE.out.1]; exact (HG1.out W h).cell (i := 6) (fun _ => rfl))
            have HS8 := Lib.hid (show ∀ W, Behind W1 W → W.cell? ⟨s, 8, none⟩ = some (.int .i64 tk) from fun W h => by rw [HE.out.2.1]; exact (HG1.out W h).cell (i := 8) (fun _ => rfl))
            obtain ⟨bs, hbs⟩ := since_look HG.out m.n hmn.1 hmn.2
            rw [← HE.out.2.2] at hbs
            have HS11 := Lib.hid (show ∀ W, Behind W1 W → W.cell? ⟨s, 11, none⟩ = some (.map (some bs)) from fun W h => (hbs W (hB1.trans (Below.mono h hB1.size))).1)
            have HLK := Lib.hid (show ∀ W, Behind W1 W → (Instr.lookup 76 (.map (some bs)) (.int .i64 m.n) false).run Try.prog W = .ok (.int .i64 sn) W from fun W h => (hbs W (hB1.trans (Below.mono h hB1.size))).2)
            clear hq hW1 hAM hB1 hbs d0 d2 c0 c1 c2
            refine wp_region_class (Behind W1) (by kernel_rfl) (by kernel_rfl) (Below.refl _ _).drew ?_
            iterate 27 (first
              | go_big_quiet_skip
              | ((with_reducible refine wpQuiet_val (.pointer (some ⟨s, 0, none⟩)) (by with_unfolding_all rfl) (fun w _ => exec_nil _ (by with_unfolding_all rfl) s 0 (by with_unfolding_all rfl) w) ?_); simp only [Act.put, List.setIfInBounds_toArray, List.set_cons_zero, List.set_cons_succ])
              | ((with_reducible refine wpQuiet_val (.pointer (some ⟨s, 6, none⟩)) (by with_unfolding_all rfl) (fun w _ => exec_s2 _ (by with_unfolding_all rfl) s (by with_unfolding_all rfl) w) ?_); simp only [Act.put, List.setIfInBounds_toArray, List.set_cons_zero, List.set_cons_succ])
              | ((with_reducible refine wpQuiet_val (.pointer (some ⟨s, 8, none⟩)) (by with_unfolding_all rfl) (fun w _ => exec_s4 _ (by with_unfolding_all rfl) s (by with_unfolding_all rfl) w) ?_); simp only [Act.put, List.setIfInBounds_toArray, List.set_cons_zero, List.set_cons_succ])
              | ((with_reducible refine wpQuiet_val (.pointer (some ⟨s, 11, none⟩)) (by with_unfolding_all rfl) (fun w _ => exec_s7 _ (by with_unfolding_all rfl) s (by with_unfolding_all rfl) w) ?_); simp only [Act.put, List.setIfInBounds_toArray, List.set_cons_zero, List.set_cons_succ])
              | ((with_reducible refine wpQuiet_load1 (.int .i64 m.n) (by with_unfolding_all rfl) 3 _ (by with_unfolding_all rfl) .i64 Try.underlying3 q (0) (by with_unfolding_all rfl) (fun w h => HM0.out w h) ?_); simp only [Act.put, List.setIfInBounds_toArray, List.set_cons_zero, List.set_cons_succ])
              | ((with_reducible refine wpQuiet_load1 (.int .i64 m.s) (by with_unfolding_all rfl) 3 _ (by with_unfolding_all rfl) .i64 Try.underlying3 q (2) (by with_unfolding_all rfl) (fun w h => HM2.out w h) ?_); simp only [Act.put, List.setIfInBounds_toArray, List.set_cons_zero, List.set_cons_succ])
              | ((with_reducible refine wpQuiet_load1 (.int .i64 me) (by with_unfolding_all rfl) 3 _ (by with_unfolding_all rfl) .i64 Try.underlying3 s (6) (by with_unfolding_all rfl) (fun w h => HS6.out w h) ?_); simp only [Act.put, List.setIfInBounds_toArray, List.set_cons_zero, List.set_cons_succ])
              | ((with_reducible refine wpQuiet_load1 (.int .i64 tk) (by with_unfolding_all rfl) 3 _ (by with_unfolding_all rfl) .i64 Try.underlying3 s (8) (by with_unfolding_all rfl) (fun w h => HS8.out w h) ?_); simp only [Act.put, List.setIfInBounds_toArray, List.set_cons_zero, List.set_cons_succ])
              | ((with_reducible refine wpQuiet_loadM (.map (some bs)) (by with_unfolding_all rfl) 76 _ _ _ (by with_unfolding_all rfl) Try.underlying76 s (11) (by with_unfolding_all rfl) (fun w h => HS11.out w h) ?_); simp only [Act.put, List.setIfInBounds_toArray, List.set_cons_zero, List.set_cons_succ])
              | ((with_reducible refine wpQuiet_bin (by with_unfolding_all rfl) .neq 3 _ _ _ (by with_unfolding_all rfl) (.int .i64 m.n) (.int .i64 me) (.bool true) (by with_unfolding_all rfl) (by with_unfolding_all rfl) (fun w => run_guardI w _ _ _ _ _) (fun w => HNE.out w) ?_); simp only [Act.put, List.setIfInBounds_toArray, List.set_cons_zero, List.set_cons_succ])
              | ((with_reducible refine wpQuiet_bin (by with_unfolding_all rfl) .eql 3 _ _ _ (by with_unfolding_all rfl) (.int .i64 m.s) (.int .i64 1) (.bool true) (by with_unfolding_all rfl) (by with_unfolding_all rfl) (fun w => run_guardI w _ _ _ _ _) (fun w => HEQ.out w) ?_); simp only [Act.put, List.setIfInBounds_toArray, List.set_cons_zero, List.set_cons_succ])
              | ((with_reducible refine wpQuiet_val (.int .i64 sn) (by with_unfolding_all rfl) (fun w h => exec_look _ _ (by with_unfolding_all rfl) bs m.n (by with_unfolding_all rfl) (by with_unfolding_all rfl) (HLK.out w h)) ?_); simp only [Act.put, List.setIfInBounds_toArray, List.set_cons_zero, List.set_cons_succ])
              | ((with_reducible refine wpQuiet_bin (by with_unfolding_all rfl) .sub 3 _ _ _ (by with_unfolding_all rfl) (.int .i64 tk) (.int .i64 sn) (.int .i64 (tk - sn)) (by with_unfolding_all rfl) (by with_unfolding_all rfl) (fun w => run_guardI w _ _ _ _ _) (fun w => HSB.out w) ?_); simp only [Act.put, List.setIfInBounds_toArray, List.set_cons_zero, List.set_cons_succ])
              | ((with_reducible refine wpQuiet_bin (by with_unfolding_all rfl) .geq 3 _ _ _ (by with_unfolding_all rfl) (.int .i64 (tk - sn)) (.int .i64 8) (.bool false) (by with_unfolding_all rfl) (by with_unfolding_all rfl) (fun w => run_guardI w _ _ _ _ _) (fun w => HGQ.out w) ?_); simp only [Act.put, List.setIfInBounds_toArray, List.set_cons_zero, List.set_cons_succ])
              | (go_big_quiet_step (exact fun _ => rfl)))
            with_reducible refine wpQuiet_nil ?_
            intro wy hwy
            have hGy := HG1.out wy hwy
            have HGy := Lib.hid hGy
            clear HM0 HM2 HS6 HS8 HS11 HLK HG1 hwy hGy
            go_wp2_with fail
            go_roundw
            case rel => exact ⟨k + 1, by omega, by go_num, by rw [HX.out, age1_no HNO.out]; exact HGy.out.mono (by omega)⟩
            case measure => simp [RowKit.intOf]; omega
        · have HEQ := Lib.hid (show ∀ w, (binOp .eql 3 (.int .i64 m.s) (.int .i64 1)).run Try.prog w = .ok (.bool false) w from run_eqlI0 _ _ hs2)
          have HNO := Lib.hid (show m.n = u.me ∨ m.s ≠ 1 ∨ u.ticks - (u.since m.n).getD 0 < 8 from .inr (.inl hs2))
          clear hs2
          go_wp2_with fail
          obtain ⟨W1, hW1⟩ : ∃ W1, W1 = wr.alloc (.cells #[.int .i64 m.n, .int .i64 m.i, .int .i64 m.s] 38) := ⟨_, rfl⟩
          rw [← hW1]
          have hAM : At W1 wr.heap.size 38 (cellsM m) := by rw [hW1]; exact memAt wr m
          have hB1 : Below wr.heap.size wr W1 := by rw [hW1]; exact (Below.refl _ _).alloc (Nat.le_refl _) _
          obtain ⟨q, hq⟩ : ∃ q, q = wr.heap.size := ⟨_, rfl⟩
          rw [← hq] at hAM ⊢
          have HM0 := Lib.hid (show ∀ W, Behind W1 W → W.cell? ⟨q, 0, none⟩ = some (.int .i64 m.n) from fun W h => (hAM.below h hAM.lt).cell' rfl)
          have HM2 := Lib.hid (show ∀ W, Behind W1 W → W.cell? ⟨q, 2, none⟩ = some (.int .i64 m.s) from fun W h => (hAM.below h hAM.lt).cell' rfl)
          have HG1 := Lib.hid (show ∀ W, Behind W1 W → Grew H w1 W O (M + k) s u from fun W h => HG.out.on (hB1.trans (Below.mono h hB1.size)))
          have HS6 := Lib.hid (show ∀ W, Behind W1 W → W.cell? ⟨s, 6, none⟩ = some (.int .i64 me) from fun W h => by rw [HE.out.1]; exact (HG1.out W h).cell (i := 6) (fun _ => rfl))
          have HS8 := Lib.hid (show ∀ W, Behind W1 W → W.cell? ⟨s, 8, none⟩ = some (.int .i64 tk) from fun W h => by rw [HE.out.2.1]; exact (HG1.out W h).cell (i := 8) (fun _ => rfl))
          obtain ⟨bs, hbs⟩ := since_look HG.out m.n hmn.1 hmn.2
          rw [← HE.out.2.2] at hbs
          have HS11 := Lib.hid (show ∀ W, Behind W1 W → W.cell? ⟨s, 11, none⟩ = some (.map (some bs)) from fun W h => (hbs W (hB1.trans (Below.mono h hB1.size))).1)
          have HLK := Lib.hid (show ∀ W, Behind W1 W → (Instr.lookup 76 (.map (some bs)) (.int .i64 m.n) false).run Try.prog W = .ok (.int .i64 sn) W from fun W h => (hbs W (hB1.trans (Below.mono h hB1.size))).2)
          clear hq hW1 hAM hB1 hbs d0 d2 c0 c1 c2
          refine wp_region_class (Behind W1) (by kernel_rfl) (by kernel_rfl) (Below.refl _ _).drew ?_
          iterate 27 (first
            | go_big_quiet_skip
            | ((with_reducible refine wpQuiet_val (.pointer (some ⟨s, 0, none⟩)) (by with_unfolding_all rfl) (fun w _ => exec_nil _ (by with_unfolding_all rfl) s 0 (by with_unfolding_all rfl) w) ?_); simp only [Act.put, List.setIfInBounds_toArray, List.set_cons_zero, List.set_cons_succ])
            | ((with_reducible refine wpQuiet_val (.pointer (some ⟨s, 6, none⟩)) (by with_unfolding_all rfl) (fun w _ => exec_s2 _ (by with_unfolding_all rfl) s (by with_unfolding_all rfl) w) ?_); simp only [Act.put, List.setIfInBounds_toArray, List.set_cons_zero, List.set_cons_succ])
            | ((with_reducible refine wpQuiet_val (.pointer (some ⟨s, 8, none⟩)) (by with_unfolding_all rfl) (fun w _ => exec_s4 _ (by with_unfolding_all rfl) s (by with_unfolding_all rfl) w) ?_); simp only [Act.put, List.setIfInBounds_toArray, List.set_cons_zero, List.set_cons_succ])
            | ((with_reducible refine wpQuiet_val (.pointer (some ⟨s, 11, none⟩)) (by with_unfolding_all rfl) (fun w _ => exec_s7 _ (by with_unfolding_all rfl) s (by with_unfolding_all rfl) w) ?_); simp only [Act.put, List.setIfInBounds_toArray, List.set_cons_zero, List.set_cons_succ])
            | ((with_reducible refine wpQuiet_load1 (.int .i64 m.n) (by with_unfolding_all rfl) 3 _ (by with_unfolding_all rfl) .i64 Try.underlying3 q (0) (by with_unfolding_all rfl) (fun w h => HM0.out w h) ?_); simp only [Act.put, List.setIfInBounds_toArray, List.set_cons_zero, List.set_cons_succ])
            | ((with_reducible refine wpQuiet_load1 (.int .i64 m.s) (by with_unfolding_all rfl) 3 _ (by with_unfolding_all rfl) .i64 Try.underlying3 q (2) (by with_unfolding_all rfl) (fun w h => HM2.out w h) ?_); simp only [Act.put, List.setIfInBounds_toArray, List.set_cons_zero, List.set_cons_succ])
            | ((with_reducible refine wpQuiet_load1 (.int .i64 me) (by with_unfolding_all rfl) 3 _ (by with_unfolding_all rfl) .i64 Try.underlying3 s (6) (by with_unfolding_all rfl) (fun w h => HS6.out w h) ?_); simp only [Act.put, List.setIfInBounds_toArray, List.set_cons_zero, List.set_cons_succ])
            | ((with_reducible refine wpQuiet_load1 (.int .i64 tk) (by with_unfolding_all rfl) 3 _ (by with_unfolding_all rfl) .i64 Try.underlying3 s (8) (by with_unfolding_all rfl) (fun w h => HS8.out w h) ?_); simp only [Act.put, List.setIfInBounds_toArray, List.set_cons_zero, List.set_cons_succ])
            | ((with_reducible refine wpQuiet_loadM (.map (some bs)) (by with_unfolding_all rfl) 76 _ _ _ (by with_unfolding_all rfl) Try.underlying76 s (11) (by with_unfolding_all rfl) (fun w h => HS11.out w h) ?_); simp only [Act.put, List.setIfInBounds_toArray, List.set_cons_zero, List.set_cons_succ])
            | ((with_reducible refine wpQuiet_bin (by with_unfolding_all rfl) .neq 3 _ _ _ (by with_unfolding_all rfl) (.int .i64 m.n) (.int .i64 me) (.bool true) (by with_unfolding_all rfl) (by with_unfolding_all rfl) (fun w => run_guardI w _ _ _ _ _) (fun w => HNE.out w) ?_); simp only [Act.put, List.setIfInBounds_toArray, List.set_cons_zero, List.set_cons_succ])
            | ((with_reducible refine wpQuiet_bin (by with_unfolding_all rfl) .eql 3 _ _ _ (by with_unfolding_all rfl) (.int .i64 m.s) (.int .i64 1) (.bool false) (by with_unfolding_all rfl) (by with_unfolding_all rfl) (fun w => run_guardI w _ _ _ _ _) (fun w => HEQ.out w) ?_); simp only [Act.put, List.setIfInBounds_toArray, List.set_cons_zero, List.set_cons_succ])
            | (go_big_quiet_step (exact fun _ => rfl)))
          with_reducible refine wpQuiet_nil ?_
          intro wy hwy
          have hGy := HG1.out wy hwy
          have HGy := Lib.hid hGy
          clear HM0 HM2 HS6 HS8 HS11 HLK HG1 hwy hGy
          go_wp2_with fail
          go_roundw
          case rel => exact ⟨k + 1, by omega, by go_num, by rw [HX.out, age1_no HNO.out]; exact HGy.out.mono (by omega)⟩
          case measure => simp [RowKit.intOf]; omega
    · have hkl : k = l.length := by omega
      have HKL := Lib.hid hkl
      clear hkl
      go_wp2_with fail
      go_end0
      refine ⟨rfl, ?_⟩
      rw [HAG.out, ← List.take_length (l := l), ← HKL.out, ← HU.out]
      exact (HG.out.mono (by omega)).behind HB.out
theorem Grew.age (h : Grew H w0 w O M s t) (hM : M + 6 < 1000000) : Calls Try.prog 30 #[.pointer (some ⟨s, 0, none⟩)] w fun e w' => e = .returned (.tuple #[]) ∧ Grew H w0 w' O (M + 6) s t.age :=
  h.calls fun b' O' e hS => by subst e; exact (age_aux hS.trim (fun _ hi => hi.2) hM).mono fun _ _ ⟨h1, h2⟩ => ⟨h1, h2.untrim⟩
end
end Go.Proofs.Ytghefmppjdneoaa
