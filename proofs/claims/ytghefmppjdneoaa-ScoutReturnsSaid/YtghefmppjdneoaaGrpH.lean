/- Layer 12, the texts ScF to ScK joined: what the functions that a scout reaches do with memory, each told once. -/
import Derived.Test.YtghefmppjdneoaaGrpG
import Derived.Ground.SlgfProg
import Derived.Shelf.SlicesE.DeleteFunc
import Derived.Ground.SlgnProg
import Derived.Shelf.SlicesG.Turned
namespace Go.Proofs.Ytghefmppjdneoaa
open Go.RowKit Go.Maps

/-- what learn's regions read: the pointers to view and hum, a member in its variable -/
structure LearnS (s pv ph q : Nat) (m : Mem) (w : World) : Prop where
  v : w.cell? ⟨s, 0, none⟩ = some (.pointer (some ⟨pv, 0, none⟩))
  h : w.cell? ⟨s, 1, none⟩ = some (.pointer (some ⟨ph, 0, none⟩))
  m : w.rangeAt q 0 (cellsM m)
  l : s < w.heap.size ∧ q < w.heap.size
theorem LearnS.grown {s pv ph q : Nat} {m : Mem} {w w' : World} {row : Option Nat} (h : LearnS s pv ph q m w) (hg : w.grownBy w' row) (h1 : some s ≠ row) (h2 : some q ≠ row) : LearnS s pv ph q m w' :=
  ⟨(World.cell?_of_block (w := w) (hg.block s h.l.1 h1)).trans h.v, (World.cell?_of_block (w := w) (hg.block s h.l.1 h1)).trans h.h, fun j v hv => (World.cell?_of_block (w := w) (hg.block q h.l.2 h2)).trans (h.m j v hv), ⟨Nat.lt_of_lt_of_le h.l.1 hg.size, Nat.lt_of_lt_of_le h.l.2 hg.size⟩⟩
theorem LearnS.below {s pv ph q : Nat} {m : Mem} {w w' : World} (h : LearnS s pv ph q m w) (hb : Below w.heap.size w w') : LearnS s pv ph q m w' :=
  h.grown (row := none) ⟨hb.os, hb.tape, hb.output, hb.size, fun i hi _ => hb.block i hi⟩ (by simp) (by simp)
theorem merge_one (f : Known) (m : Mem) : merge f [m] = (hear f m, if takes f m = true then [m] else []) := by
  unfold merge
  simp [merge]
section
variable {H : Type} {w : World} {O : Nat → Prop} {M : Nat} {b : Blk} {t : Sct}
set_option maxRecDepth 100000 in
set_option maxHeartbeats 4000000 in
theorem learn_any (h : ScAt H w O M b t) (hM : M < 1000000) (m : Mem) (hm : -9223372036854775808 ≤ m.n ∧ m.n ≤ 9223372036854775807) :
    Calls Try.prog 49 #[.pointer (some ⟨b.s, 0, none⟩), memV m] w fun e w' => e = .returned (.tuple #[]) ∧ ∃ b' O', b'.s = b.s ∧ ScAt H w' O' (M + 1) b' (t.learn m) ∧ (∀ i, O' i → O i ∨ (w.heap.size ≤ i ∧ i < w'.heap.size)) ∧ Keeps (fun i => ¬ O i) w w' := by
  obtain ⟨s, hs⟩ : ∃ s, s = b.s := ⟨_, rfl⟩
  obtain ⟨pv, hpv⟩ : ∃ pv, pv = b.pv := ⟨_, rfl⟩
  obtain ⟨ph, hph⟩ : ∃ ph, ph = b.ph := ⟨_, rfl⟩
  obtain ⟨bv, hbv⟩ : ∃ bv, bv = b.bv := ⟨_, rfl⟩
  have hsl := h.hd.lt
  obtain ⟨n1, n2, n3, n4, n5, n6, n7, n8, n9⟩ := Blk.ne h.dis
  have HE := Lib.hid (And.intro hs (And.intro hpv (And.intro hph hbv)))
  have HH := Lib.hid h
  obtain ⟨wa, hwa⟩ : ∃ wa, wa = w.alloc (.cells #[.int .i64 m.n, .int .i64 m.i, .int .i64 m.s] 38) := ⟨_, rfl⟩
  have HBa := Lib.hid (show Below w.heap.size w wa by rw [hwa]; exact (Below.refl _ _).alloc (Nat.le_refl _) _)
  have hAa : At wa w.heap.size 38 (cellsM m) := by rw [hwa]; exact memAt w m
  have hha := h.below HBa.out
  have HLa := Lib.hid (show LearnS s pv ph w.heap.size m wa from ⟨by rw [hs, hpv]; exact hha.cell (i := 0) rfl, by rw [hs, hph]; exact hha.cell (i := 1) rfl, fun j v hv => by rw [Nat.zero_add]; exact hAa.cell' hv, ⟨by rw [hs]; exact hha.hd.lt, hAa.lt⟩⟩)
  have HWA := Lib.hid hwa
  have HNE := Lib.hid (show s ≠ bv ∧ w.heap.size ≠ bv from ⟨by rw [hs, hbv]; exact n2, by rw [hbv]; have := h.lt (mem_list.2 (.inr (.inr (.inl rfl)))); omega⟩)
  have HV := Lib.hid (show ∀ W, Below wa.heap.size wa W → ViewAt H W pv bv b.nv t.v from fun W hW => by rw [hpv, hbv]; exact view_below hha.view hW)
  rw [← hs]
  have HNV := Lib.hid (show b.nv + [m].length < 1099511627776 by have := h.cnt.1; simp only [List.length_cons, List.length_nil]; omega)
  unfold memV
  clear h hha hAa hwa hs hpv hph hbv hsl n1 n2 n3 n4 n5 n6 n7 n8 n9
  go_enter Try.func49, Try.ntmps49
  go_wp2_with fail
  rw [← HWA.out]
  refine wp_region_mix [(0, true), (5, true), (9, true), (1, true), (2, true), (3, true), (4, true), (6, false), (7, false), (8, true)] (LearnS s pv ph w.heap.size m)
    (by kernel_rfl) (by kernel_rfl) (fun _ _ d _ _ h => by cases d <;> exact h) (by kernel_rfl) (by decide) (HLa.out.below (Below.refl _ _).drew) ?_
  iterate 7 (
    first
      | (refine wpMix_val (.pointer (some ⟨s, 0, none⟩)) (by with_unfolding_all rfl) (by with_unfolding_all rfl) (fun w _ => exec_nil _ (by with_unfolding_all rfl) s 0 (by with_unfolding_all rfl) w) ?_; simp only [Act.put, List.setIfInBounds_toArray, List.set_cons_zero, List.set_cons_succ])
      | (refine wpMix_val (.pointer (some ⟨s, 0, none⟩)) (by with_unfolding_all rfl) (by with_unfolding_all rfl) (fun w _ => exec_s0 _ (by with_unfolding_all rfl) s (by with_unfolding_all rfl) w) ?_; simp only [Act.put, List.setIfInBounds_toArray, List.set_cons_zero, List.set_cons_succ])
      | (refine wpMix_q (by with_unfolding_all rfl) (by kernel_rfl) ?_
         first
          | go_big_quiet_skip
          | ((with_reducible refine wpQuiet_loadP (.pointer (some ⟨pv, 0, none⟩)) (by with_unfolding_all rfl) 70 _ _ (by with_unfolding_all rfl) Try.underlying70 s 0 (by with_unfolding_all rfl) (fun w h => h.v) ?_); simp only [Act.put, List.setIfInBounds_toArray, List.set_cons_zero, List.set_cons_succ])
          | ((with_reducible refine wpQuiet_loadP (.pointer (some ⟨ph, 0, none⟩)) (by with_unfolding_all rfl) 71 _ _ (by with_unfolding_all rfl) Try.underlying71 s 1 (by with_unfolding_all rfl) (fun w h => h.h) ?_); simp only [Act.put, List.setIfInBounds_toArray, List.set_cons_zero, List.set_cons_succ])
          | ((with_reducible refine wpQuiet_loadAll (by with_unfolding_all rfl) 38 _ (by with_unfolding_all rfl) w.heap.size 0 (by with_unfolding_all rfl) (cellsM m) _ (fun w h => h.m) Try.underlying38 (by with_unfolding_all rfl) info_memC ?_); simp only [Act.put, List.setIfInBounds_toArray, List.set_cons_zero, List.set_cons_succ])
          | (go_big_quiet_step (exact fun _ => rfl))
         refine wpMix_qnil ?_))
  obtain ⟨wb, hwb⟩ : ∃ wb, wb = wa.drew.alloc (.cells #[.int .i64 m.n, .int .i64 m.i, .int .i64 m.s] 38) := ⟨_, rfl⟩
  have hbb : Below wa.heap.size wa wb := by rw [hwb]; exact (Below.refl _ _).drew.alloc (Nat.le_refl _) _
  have hMb : MemsIn wb (some ⟨wa.heap.size, 0, none⟩) [m] := by rw [hwb]; exact mems_laid wa.drew [m] _ rfl _ rfl
  have hLb := HLa.out.below hbb
  refine wpMix_put (.slice (some ⟨wa.drew.heap.size, 0, none⟩) 1 1) wb (by with_unfolding_all rfl) (by with_unfolding_all rfl) (by rw [hwb]; exact exec_one_mem (.tmp 11) m (by with_unfolding_all rfl) (by with_unfolding_all rfl) _) hLb ?_
  simp only [Act.put, List.setIfInBounds_toArray, List.set_cons_zero, List.set_cons_succ]
  rw [show wa.drew.heap.size = wa.heap.size from rfl]
  have hba : bv < wa.heap.size := by have h1 := HNE.out.2; rw [HE.out.2.2.2]; exact Nat.lt_of_lt_of_le (HH.out.lt (mem_list.2 (.inr (.inr (.inl rfl))))) HBa.out.size
  refine wpMix_call 22 [.pointer (some ⟨pv, 0, none⟩), .slice (some ⟨wa.heap.size, 0, none⟩) 1 1] (fun v w2 => ViewAt H w2 pv bv (b.nv + 1) (merge t.v [m]).1 ∧ wb.grownBy w2 (some bv) ∧ Own w2 wb.heap.size 38 3 v (merge t.v [m]).2.length (memsV (merge t.v [m]).2)) (by with_unfolding_all rfl) (by with_unfolding_all rfl) (by with_unfolding_all rfl)
    ((merge_any (HV.out wb hbb) (some ⟨wa.heap.size, 0, none⟩) 1 [m] hMb (fun g off _ e => by injection e with e; injection e with e; omega) HNV.out (fun x hx => by rw [List.mem_singleton.1 hx]; exact hm)).mono (fun e w2 ⟨v, he, h1, h2, h3⟩ => ⟨v, he, hLb.grown h2 (by intro e; injection e with e; exact HNE.out.1 e) (by intro e; injection e with e; exact HNE.out.2 e), h1, h2, h3⟩)) ?_
  rintro v2 w2 hL2 ⟨hV2, hg2, hO2⟩
  simp only [Act.put, List.setIfInBounds_toArray, List.set_cons_zero, List.set_cons_succ]
  rw [merge_one] at hV2 hO2
  have hS2 : ScAt H w2 O (M + 1) { b with nv := b.nv + 1 } { t with v := hear t.v m } := by
    have hg2' : wb.grownBy w2 (some b.bv) := by rw [← HE.out.2.2.2]; exact hg2
    exact ((HH.out.below HBa.out).below hbb).viewed hg2' (by rw [← HE.out.2.1, ← HE.out.2.2.2]; exact hV2) (by have := HH.out.cnt.1; omega) (Nat.le_succ _)
  have hk2 : Keeps (fun i => ¬ O i) w w2 := (Keeps.ofBelow (HBa.out.trans (hbb.mono HBa.out.size))).trans (Keeps.ofGrown hg2 (fun hn => hn (by rw [HE.out.2.2.2]; exact HH.out.own _ (mem_list.2 (.inr (.inr (.inl rfl)))))))
  have HS2 := Lib.hid hS2
  have HK2 := Lib.hid hk2
  have HL2 := Lib.hid hL2
  have HSZ := Lib.hid (show w.heap.size ≤ w2.heap.size from hk2.size)
  cases htk : takes t.v m
  · have hr : hear t.v m = t.v := by unfold hear; rw [htk]; rfl
    have hlr : t.learn m = t := by unfold Sct.learn; rw [htk]; rfl
    rw [htk] at hO2
    rw [hr] at HS2
    have HF := Lib.hid (show ∃ b' O', b'.s = s ∧ ScAt H w2 O' (M + 1) b' (t.learn m) ∧ (∀ i, O' i → O i ∨ (w.heap.size ≤ i ∧ i < w2.heap.size)) ∧ Keeps (fun i => ¬ O i) w w2 from ⟨{ b with nv := b.nv + 1 }, O, HE.out.1.symm, by rw [hlr]; exact HS2.out, fun i hi => .inl hi, HK2.out⟩)
    obtain ⟨A2, c2, hv2⟩ : ∃ A c, v2 = .slice A 0 c := by
      rcases hO2.2 with ⟨h1, _⟩ | ⟨g, cap, cur, fr, h1, _⟩
      · exact ⟨none, 0, h1⟩
      · exact ⟨_, _, h1⟩
    subst hv2
    clear hS2 hk2 hL2 hV2 hg2 hO2 hbb hMb hLb hwb hba hr hlr htk HS2 HK2 HL2 HSZ HV HLa HWA HNV HH HE
    refine wpMix_q (by with_unfolding_all rfl) (by kernel_rfl) ?_
    go_big_quiet_step (exact fun _ => rfl)
    refine wpMix_qnil ?_
    refine wpMix_nil ?_
    go_wp2_with fail
    go_loopw [15] (fun s15 wr => s15 = .int .i64 0 ∧ wr = w2) (fun _ _ => 0)
    case atStart => exact ⟨rfl, rfl⟩
    case round =>
      obtain ⟨rfl, rfl⟩ := hrel
      go_wp2_with fail
      go_end0
      exact ⟨rfl, HF.out⟩
  · have hgd : m.good = true := by unfold takes at htk; rw [Bool.and_eq_true] at htk; exact htk.1
    have hr : hear t.v m = upd t.v m := by unfold hear; rw [htk]; rfl
    have hlr : t.learn m = { t with v := upd t.v m, f := Hm.push1 5 t.f m, since := if m.s = 1 then Sk.upd t.since m.n t.ticks else t.since } := by unfold Sct.learn; rw [htk]; rfl
    rw [htk] at hO2
    rw [hr] at HS2
    have hO2 : Own w2 wb.heap.size 38 3 v2 1 (memsV [m]) := hO2
    obtain ⟨gl, cl2, hv2, hgb, hgl, _, _⟩ := hO2.form (by decide)
    subst hv2
    have e0 : w2.cell? ⟨gl, 0, none⟩ = some (.int .i64 m.n) := hO2.cellAt rfl 0 (by decide)
    have e1 : w2.cell? ⟨gl, 1, none⟩ = some (.int .i64 m.i) := hO2.cellAt rfl 1 (by decide)
    have e2 : w2.cell? ⟨gl, 2, none⟩ = some (.int .i64 m.s) := hO2.cellAt rfl 2 (by decide)
    have hmg := (Mem.good_iff m).1 hgd
    have HLR := Lib.hid hlr
    have HCN := Lib.hid HH.out.cnt
    have HLM := Lib.hid HH.out.lim
    refine wpMix_q (by with_unfolding_all rfl) (by kernel_rfl) ?_
    go_big_quiet_step (exact fun _ => rfl)
    refine wpMix_qnil ?_
    refine wpMix_nil ?_
    clear hS2 hk2 hL2 hV2 hg2 hO2 hbb hMb hLb hwb hba hr hlr htk HV HLa HWA HNV hgb hgl HBa
    go_wp2_with fail
    go_loopw [15] (fun s15 wr => (s15 = .int .i64 0 ∧ wr = w2) ∨ (s15 = .int .i64 1 ∧ Hid (∃ b' O', b'.s = s ∧ ScAt H wr O' (M + 1) b' (t.learn m) ∧ (∀ i, O' i → O i ∨ (w.heap.size ≤ i ∧ i < wr.heap.size)) ∧ Keeps (fun i => ¬ O i) w wr))) (fun s15 _ => 1 - (RowKit.intOf s15).toNat)
    case atStart => exact .inl ⟨rfl, rfl⟩
    case round =>
      rcases hrel with ⟨rfl, rfl⟩ | ⟨rfl, HF⟩
      · obtain ⟨w3, hw3⟩ : ∃ w3, w3 = wr.alloc (.cells #[.int .i64 m.n, .int .i64 m.i, .int .i64 m.s] 38) := ⟨_, rfl⟩
        have HB3 := Lib.hid (show Below wr.heap.size wr w3 by rw [hw3]; exact (Below.refl _ _).alloc (Nat.le_refl _) _)
        have hA3 : At w3 wr.heap.size 38 (cellsM m) := by rw [hw3]; exact memAt wr m
        have hS3 := HS2.out.below HB3.out
        have HL3 := Lib.hid (show LearnS s pv ph wr.heap.size m w3 from ⟨by rw [HE.out.1, HE.out.2.1]; exact hS3.cell (i := 0) rfl, by rw [HE.out.1, HE.out.2.2.1]; exact hS3.cell (i := 1) rfl, fun j v hv => by rw [Nat.zero_add]; exact hA3.cell' hv, ⟨by rw [HE.out.1]; exact hS3.hd.lt, hA3.lt⟩⟩)
        have HS3 := Lib.hid hS3
        have HA3 := Lib.hid hA3
        have HW3 := Lib.hid hw3
        clear hS3 hA3 hw3
        go_wp2_with fail
        rw [← HW3.out]
        refine wp_region_mix [(0, true), (5, true), (1, true), (2, true), (3, true), (4, true), (6, false), (7, false)] (LearnS s pv ph wr.heap.size m)
          (by kernel_rfl) (by kernel_rfl) (fun _ _ d _ _ h => by cases d <;> exact h) (by kernel_rfl) (by decide) (HL3.out.below (Below.refl _ _).drew) ?_
        iterate 6 (
          first
            | (refine wpMix_val (.pointer (some ⟨s, 0, none⟩)) (by with_unfolding_all rfl) (by with_unfolding_all rfl) (fun w _ => exec_nil _ (by with_unfolding_all rfl) s 0 (by with_unfolding_all rfl) w) ?_; simp only [Act.put, List.setIfInBounds_toArray, List.set_cons_zero, List.set_cons_succ])
            | (refine wpMix_val (.pointer (some ⟨s, 0, none⟩)) (by with_unfolding_all rfl) (by with_unfolding_all rfl) (fun w _ => exec_s0 _ (by with_unfolding_all rfl) s (by with_unfolding_all rfl) w) ?_; simp only [Act.put, List.setIfInBounds_toArray, List.set_cons_zero, List.set_cons_succ])
            | (refine wpMix_q (by with_unfolding_all rfl) (by kernel_rfl) ?_
               first
                | go_big_quiet_skip
                | ((with_reducible refine wpQuiet_loadP (.pointer (some ⟨ph, 0, none⟩)) (by with_unfolding_all rfl) 71 _ _ (by with_unfolding_all rfl) Try.underlying71 s 1 (by with_unfolding_all rfl) (fun w h => h.h) ?_); simp only [Act.put, List.setIfInBounds_toArray, List.set_cons_zero, List.set_cons_succ])
                | ((with_reducible refine wpQuiet_loadAll (by with_unfolding_all rfl) 38 _ (by with_unfolding_all rfl) wr.heap.size 0 (by with_unfolding_all rfl) (cellsM m) _ (fun w h => h.m) Try.underlying38 (by with_unfolding_all rfl) info_memC ?_); simp only [Act.put, List.setIfInBounds_toArray, List.set_cons_zero, List.set_cons_succ])
                | (go_big_quiet_step (exact fun _ => rfl))
               refine wpMix_qnil ?_))
        obtain ⟨w4, hw4⟩ : ∃ w4, w4 = w3.drew.alloc (.cells #[.int .i64 m.n, .int .i64 m.i, .int .i64 m.s] 38) := ⟨_, rfl⟩
        have hb4 : Below w3.heap.size w3 w4 := by rw [hw4]; exact (Below.refl _ _).drew.alloc (Nat.le_refl _) _
        have hM4 : MemsIn w4 (some ⟨w3.heap.size, 0, none⟩) [m] := by rw [hw4]; exact mems_laid w3.drew [m] _ rfl _ rfl
        have hL4 := HL3.out.below hb4
        refine wpMix_put (.slice (some ⟨w3.drew.heap.size, 0, none⟩) 1 1) w4 (by with_unfolding_all rfl) (by with_unfolding_all rfl) (by rw [hw4]; exact exec_one_mem (.tmp 24) m (by with_unfolding_all rfl) (by with_unfolding_all rfl) _) hL4 ?_
        simp only [Act.put, List.setIfInBounds_toArray, List.set_cons_zero, List.set_cons_succ]
        rw [show w3.drew.heap.size = w3.heap.size from rfl]
        have hS4 := HS3.out.below hb4
        obtain ⟨A, h1, h2, h3⟩ := hS4.hum
        have hbh3 : b.bh < w3.heap.size := by obtain ⟨A', ⟨⟨F, hF, _⟩, _⟩, _⟩ := HS3.out.hum; exact hF.blt
        have hqA : s ≠ b.bh ∧ wr.heap.size ≠ b.bh := by
          refine ⟨fun e => h1.nb (h2 _ (mem_list.2 (.inl (by rw [← e]; exact HE.out.1)))), fun e => ?_⟩
          obtain ⟨A', ⟨⟨F, hF, _⟩, _⟩, _⟩ := HS2.out.hum
          have := hF.blt
          exact absurd this (by show ¬ b.bh < _; omega)
        have hcall : Calls Try.prog 33 #[.pointer (some ⟨ph, 0, none⟩), .slice (some ⟨w3.heap.size, 0, none⟩) 1 1] w4 fun e w5 => e = .returned (.tuple #[]) ∧ HumSt H w5 A b.ph b.bh (b.nh + 1) 5 (Hm.push 5 t.f [m]) ∧ w4.grownBy w5 (some b.bh) := by
          rw [HE.out.2.2.1]
          exact push_any h1 (by omega) (some ⟨w3.heap.size, 0, none⟩) 1 [m] hM4 (fun g off _ e => by injection e with e; injection e with e; show g ≠ b.bh; omega) (by have := HCN.out.2.1; simp only [List.length_cons, List.length_nil]; show b.nh + _ < _; omega)
        refine wpMix_call 33 [.pointer (some ⟨ph, 0, none⟩), .slice (some ⟨w3.heap.size, 0, none⟩) 1 1] (fun v w5 => HumSt H w5 A b.ph b.bh (b.nh + 1) 5 (Hm.push 5 t.f [m]) ∧ w4.grownBy w5 (some b.bh)) (by with_unfolding_all rfl) (by with_unfolding_all rfl) (by with_unfolding_all rfl)
          (hcall.mono (fun e w5 ⟨he, h1', h2'⟩ => ⟨_, he, hL4.grown h2' (by intro e; injection e with e; exact hqA.1 e) (by intro e; injection e with e; exact hqA.2 e), h1', h2'⟩)) ?_
        rintro v5 w5 hL5 ⟨hH5, hg5⟩
        simp only [Act.put, List.setIfInBounds_toArray, List.set_cons_zero, List.set_cons_succ]
        refine wpMix_nil ?_
        have hk5 : Keeps (fun i => ¬ O i) w4 w5 := Keeps.ofGrown hg5 (fun hn => hn (Classical.byContradiction fun ho => h1.nb (h3 _ (Nat.lt_of_lt_of_le hbh3 hb4.size) ho)))
        have hS5 := hS4.pushed h2 h3 hH5 (Keeps.ofGrown hg5 h1.nb) (by have := HCN.out.2.1; show b.nh + 1 ≤ _; omega) (Nat.le_refl _)
        have hsz5 := hg5.size
        have hsz4 := hb4.size
        have hsz3 := HB3.out.size
        have HS5 := Lib.hid hS5
        have HK5 := Lib.hid ((HK2.out.trans (Keeps.ofBelow (HB3.out.trans (hb4.mono HB3.out.size)))).trans hk5)
        have HSZ5 := Lib.hid (show wr.heap.size ≤ w4.heap.size ∧ w4.heap.size ≤ w5.heap.size from ⟨Nat.le_trans hsz3 hsz4, hsz5⟩)
        have HP1 := Lib.hid (show Hm.push 5 t.f [m] = Hm.push1 5 t.f m from rfl)
        have a0 := hL5.m 0 (.int .i64 m.n) rfl
        have a2 := hL5.m 2 (.int .i64 m.s) rfl
        have c8 : w5.cell? ⟨s, 8, none⟩ = some (.int .i64 t.ticks) := by rw [HE.out.1]; exact hS5.cell (i := 8) rfl
        have c11 : w5.cell? ⟨s, 11, none⟩ = some (.map (some b.bs)) := by rw [HE.out.1]; exact hS5.cell (i := 11) rfl
        clear hcall hS5 hk5 hg5 hH5 hL5 hqA hbh3 h1 h2 h3 hS4 hL4 hM4 hb4 hw4 hsz5 hsz4 hsz3 HS3 HA3 HL3 HW3 e0 e1 e2
        by_cases hms : m.s = 1
        · have HMS := Lib.hid hms
          rw [hms] at a2
          clear hms
          go_wp2_with fail
          refine wp_region_then (fun w' => ∃ n, w' = w5.drewN n) 10 (by kernel_rfl) (by kernel_rfl) (by kernel_rfl) (by kernel_rfl) (by decide) ⟨1, rfl⟩ ?_
          simp only [List.take_succ_cons, List.take_zero, List.drop_succ_cons, List.drop_zero]
          iterate 10 (first
            | ((with_reducible refine wpQuiet_val (.pointer (some ⟨s, 0, none⟩)) (by with_unfolding_all rfl) (fun w _ => exec_nil _ (by with_unfolding_all rfl) s 0 (by with_unfolding_all rfl) w) ?_); simp only [Act.put, List.setIfInBounds_toArray, List.set_cons_zero, List.set_cons_succ])
            | (go_big_quiet_step (fail)))
          refine wpQuiet_nil ?_
          intro _ hw'
          obtain ⟨nq, rfl⟩ := hw'
          have hB7 := below_drewN (Below.refl w5.heap.size w5) nq
          have hS7 := HS5.out.below hB7
          refine wpList_mapUpdate_own _ rfl (.tmp 33) (.tmp 35) (.tmp 39) 76 rfl 3 3 hum_keyed Try.underlying76 readN b.bs b.ns (Sk.mapD (H := H) intD t.since) rfl hS7.since (by have := HCN.out.2.2; unfold maxLen; omega) (.int .i64 m.n) (.int .i64 t.ticks) (.int .i64 m.n) rfl rfl (hum_key (n := m.n) (by omega) (by omega)) (intD t.ticks) [] (readN_int t.ticks) ?_
          intro w8 hown8 hg8
          rw [Sk.put_mapD _ t.ticks (Sk.node_mem (by omega) (by omega))] at hown8
          have hS8 := hS7.sinced (M' := M + 1) hg8 hown8 (fun n k hk => by
            unfold Sk.upd at hk
            split at hk
            · cases hk
              have := HLM.out.ticks
              omega
            · have := HLM.out.since n k hk
              omega) (by have := HCN.out.2.2; show b.ns + 1 ≤ _; omega) (Nat.le_refl _)
          have hbsO : ¬ ¬ O b.bs := fun ho => ho (HH.out.own _ (mem_list.2 (.inr (.inr (.inr (.inl rfl))))))
          have hk8 : Keeps (fun i => ¬ O i) w w8 := (HK5.out.trans (Keeps.ofBelow hB7)).trans (Keeps.ofGrown hg8 hbsO)
          have HS8 := Lib.hid hS8
          have HK8 := Lib.hid hk8
          have HSZ8 := Lib.hid (show w5.heap.size ≤ w8.heap.size from Nat.le_trans hB7.size hg8.size)
          clear hS8 hk8 hbsO hown8 hg8 hS7 hB7 a0 a2 c8 c11
          refine wpList_nil ?_
          simp only [Act.put]
          go_wp2_with fail
          go_roundw
          case rel =>
            refine .inr ⟨rfl, ⟨{ b with nv := b.nv + 1, nh := b.nh + 1, ns := b.ns + 1 }, fun i => O i ∨ (w4.heap.size ≤ i ∧ i < w5.heap.size), HE.out.1.symm, ?_, fun i hi => ?_, HK8.out⟩⟩
            · rw [HLR.out, if_pos HMS.out, ← HP1.out]
              exact HS8.out
            · rcases hi with hi | hi
              · exact .inl hi
              · have := HSZ.out
                have := HSZ5.out
                have := HSZ8.out
                exact .inr ⟨by omega, by omega⟩
          case measure => simp [RowKit.intOf]
        · go_wp2_with fail
          go_roundw
          case rel =>
            refine .inr ⟨rfl, ⟨{ b with nv := b.nv + 1, nh := b.nh + 1 }, fun i => O i ∨ (w4.heap.size ≤ i ∧ i < w5.heap.size), HE.out.1.symm, ?_, fun i hi => ?_, HK5.out⟩⟩
            · rw [HLR.out, if_neg hms, ← HP1.out]
              exact HS5.out
            · rcases hi with hi | hi
              · exact .inl hi
              · have := HSZ.out
                have := HSZ5.out
                exact .inr ⟨by omega, hi.2⟩
          case measure => simp [RowKit.intOf]
      · go_wp2_with fail
        go_end0
        exact ⟨rfl, HF.out⟩
end
end Go.Proofs.Ytghefmppjdneoaa

namespace Go.Proofs.Ytghefmppjdneoaa
open Go.RowKit Go.Maps

section
variable {H : Type} {w : World} {O : Nat → Prop} {M : Nat} {b : Blk} {t : Sct}
/-- two steps, each within what the scout owns or what is new -/
theorem keeps_step {O O1 : Nat → Prop} {w w1 w2 : World} (h1 : Keeps (fun i => ¬ O i) w w1) (hO : ∀ i, O1 i → O i ∨ (w.heap.size ≤ i ∧ i < w1.heap.size)) (h2 : Keeps (fun i => ¬ O1 i) w1 w2) : Keeps (fun i => ¬ O i) w w2 :=
  ⟨h2.os.trans h1.os, h2.tape.trans h1.tape, h2.output.trans h1.output, Nat.le_trans h1.size h2.size, fun i hi hl => (h2.block i (fun ho => by
    rcases hO i ho with h | h
    · exact hi h
    · omega) (Nat.lt_of_lt_of_le hl h1.size)).trans (h1.block i hi hl)⟩
theorem own_step {O O1 O2 : Nat → Prop} {w w1 w2 : World} (hs1 : w.heap.size ≤ w1.heap.size) (hs2 : w1.heap.size ≤ w2.heap.size) (h1 : ∀ i, O1 i → O i ∨ (w.heap.size ≤ i ∧ i < w1.heap.size)) (h2 : ∀ i, O2 i → O1 i ∨ (w1.heap.size ≤ i ∧ i < w2.heap.size)) : ∀ i, O2 i → O i ∨ (w.heap.size ≤ i ∧ i < w2.heap.size) := fun i hi => by
  rcases h2 i hi with h | h
  · rcases h1 i h with h | h
    · exact .inl h
    · exact .inr ⟨h.1, by omega⟩
  · exact .inr ⟨by omega, h.2⟩
/-- what a call has made of a scout -/
def Grew (H : Type) (w w' : World) (O : Nat → Prop) (M : Nat) (s : Nat) (t : Sct) : Prop :=
  ∃ b' O', b'.s = s ∧ ScAt H w' O' M b' t ∧ (∀ i, O' i → O i ∨ (w.heap.size ≤ i ∧ i < w'.heap.size)) ∧ Keeps (fun i => ¬ O i) w w'
theorem Grew.behind {H : Type} {w w1 w2 : World} {O : Nat → Prop} {M s : Nat} {t : Sct} (hb : Below w.heap.size w w1) (h : Grew H w1 w2 O M s t) : Grew H w w2 O M s t := by
  obtain ⟨b', O', h1, h2, h3, h4⟩ := h
  exact ⟨b', O', h1, h2, own_step hb.size h4.size (fun i hi => .inl hi) h3, (Keeps.ofBelow hb).trans h4⟩
theorem Grew.on {H : Type} {w w1 w2 : World} {O : Nat → Prop} {M s : Nat} {t : Sct} (h : Grew H w w1 O M s t) (hb : Below w1.heap.size w1 w2) : Grew H w w2 O M s t := by
  obtain ⟨b', O', h1, h2, h3, h4⟩ := h
  exact ⟨b', O', h1, h2.below hb, own_step h4.size hb.size h3 (fun i hi => .inl hi), h4.trans (Keeps.ofBelow hb)⟩
set_option maxRecDepth 100000 in
theorem turn_any (h : ScAt H w O M b t) (hM : M < 1000000) (n k : Int) (h1 : -9223372036854775808 ≤ n) (h2 : n ≤ 9223372036854775807) : Calls Try.prog 29 #[.pointer (some ⟨b.s, 0, none⟩), .int .i64 n, .int .i64 k] w fun e w' => e = .returned (.tuple #[]) ∧ Grew H w w' O (M + 1) b.s (t.turn n k) := by
  have c0 := h.cell (i := 0) (v := ptrV b.pv) rfl
  obtain ⟨s, hs⟩ : ∃ s, s = b.s := ⟨_, rfl⟩
  obtain ⟨pv, hpv⟩ : ∃ pv, pv = b.pv := ⟨_, rfl⟩
  have HG := Lib.hid (get_any h.view n h1 h2)
  obtain ⟨m, is, hf, hm, his⟩ := found_cases t.v n
  have hmn : -9223372036854775808 ≤ m.n ∧ m.n ≤ 9223372036854775807 := by
    rw [hm]
    cases hv : t.v n with
    | none => exact ⟨by decide, by decide⟩
    | some x =>
      have h3 := h.view.2.2.1 n x hv
      have h4 := (Mem.good_iff x).1 h3.1
      show _ ≤ x.n ∧ x.n ≤ _
      omega
  have HL := Lib.hid (show ∀ W, Below w.heap.size w W → Calls Try.prog 49 #[.pointer (some ⟨b.s, 0, none⟩), .agg #[.int .i64 m.n, .int .i64 m.i, .int .i64 k]] W fun e w' => e = .returned (.tuple #[]) ∧ Grew H W w' O (M + 1) b.s (t.turn n k) from fun W hW => by
    have e : t.turn n k = t.learn ⟨m.n, m.i, k⟩ := by unfold Sct.turn Sct.getM; rw [hm]
    rw [e]
    exact learn_any (h.below hW) hM ⟨m.n, m.i, k⟩ hmn)
  rw [hf, ← hpv] at HG
  rw [← hs] at HL
  rw [← hs]
  rw [← hs, ← hpv] at c0
  unfold ptrV at c0
  unfold memV at HG
  clear h hs hpv hf hm his
  go_enter Try.func29, Try.ntmps29
  go_wp2_with fail
  refine HG.out.mono ?_
  rintro e w1 ⟨rfl, hb1⟩
  have HB := Lib.hid hb1
  clear hb1 HG c0
  go_wp2_with fail
  have hb2 : Below w.heap.size w (w1.alloc (.cells #[.int .i64 m.n, .int .i64 m.i, .int .i64 k] 38)) := HB.out.alloc HB.out.size _
  have HB2 := Lib.hid hb2
  refine (HL.out _ hb2).mono ?_
  rintro e w3 ⟨rfl, hG3⟩
  have HF := Lib.hid (hG3.behind hb2)
  clear hG3 hb2
  go_wp2_with fail
  go_end0
  exact ⟨rfl, HF.out⟩
end
end Go.Proofs.Ytghefmppjdneoaa

namespace Go.Proofs
open Go.RowKit Go.Sort Go.Shelf
shelf_lay_g SlLaysH.n10 Slgf 10 at Try 54 as Try.delI
end Go.Proofs
namespace Go.Proofs.Ytghefmppjdneoaa
open Go.Proofs Stab Go.Shelf Go.RowKit Go.Lib Go.Sort Go.Maps

theorem idx_nil (fv : Value) (w : World) : Calls Try.prog 71 #[.slice none 0 0, fv] w fun e w' => e = .returned (.int .i64 (-1)) ∧ w = w' := by
  go_enter Try.func71, Try.ntmps71
  go_wp2_with fail
  go_loopg [8] 0 (fun gg s8 wr => s8 = .int .i64 0 ∧ wr = w)
  case atStart => exact ⟨rfl, rfl⟩
  case round =>
    obtain ⟨rfl, rfl⟩ := hrel
    go_wp2_with fail
    go_ret
    exact ⟨rfl, rfl⟩
theorem del_nil (fv : Value) (w : World) : Calls Try.prog 54 #[.slice none 0 0, fv] w fun e w' => e = .returned (.slice none 0 0) ∧ w = w' := by
  have H := Lib.hid (idx_nil fv w)
  go_enter Try.func54, Try.ntmps54
  go_wp2_with (go_at_call 71; refine Calls.mono H.out ?_; rintro e w' ⟨rfl, rfl⟩)
  go_ret
  exact ⟨rfl, rfl⟩
theorem irow_holds {w : World} {g off c : Nat} {l : List Int} (h : IRow w (some ⟨g, off, none⟩) c l) : Holds (Value.int .i64) w g off l.toArray := fun j hj => by
  have hjl : j < l.length := by simpa using hj
  have h1 := h.cell hjl
  have e : l.toArray[j]! = l[j] := by simp [hjl]
  rw [e]
  exact h1
/-- what a library function has written into a row -/
theorem grown_putO {α : Type} [Inhabited α] {enc : α → Value} {w : World} {g off n : Nat} (d : Array α) : w.grownBy (putRow enc (Sort.ahead w n) g off d) (some g) := by
  refine ⟨rfl, rfl, rfl, by simp [putRow, mapBlock, Sort.ahead], fun k hk hne => ?_⟩
  have : g ≠ k := fun e => hne (by rw [e])
  simp [putRow, mapBlock, Sort.ahead, Array.getElem?_modify, this]
theorem grown_sort {α : Type} [Inhabited α] {enc : α → Value} {w : World} {g off n : Nat} {os : Array Obj} (d : Array α) : w.grownBy (sortWorld enc w g off n d os) (some g) := by
  refine ⟨rfl, rfl, rfl, by simp [sortWorld, grow, putRow, mapBlock, Sort.ahead], fun k hk hne => ?_⟩
  unfold sortWorld
  rw [heap_grow_old _ _ (by simpa [putRow, mapBlock, Sort.ahead] using hk)]
  have : g ≠ k := fun e => hne (by rw [e])
  simp [putRow, mapBlock, Sort.ahead, Array.getElem?_modify, this]
theorem irow_put {w : World} {g off c q k : Nat} {l ys : List Int} (h : IRow w (some ⟨g, off, none⟩) c l) (hy : ys.length = l.length) (hk : k ≤ l.length) : IRow (putRow (Value.int .i64) (Sort.ahead w q) g off ys.toArray) (some ⟨g, off, none⟩) c (ys.take k) := by
  rcases h with ⟨h, _⟩ | ⟨g', off', cs, h0, h1, h2, h3, h4, h5⟩
  · cases h
  · injection h0 with h0
    injection h0 with e1 e2
    subst e1 e2
    refine .inr ⟨g, off, (putCells (Value.int .i64) off ys.toArray cs.toArray).toList, rfl, ?_, ?_, by simp [putCells, h3], by rw [List.length_take]; omega, h5⟩
    · have hg : w.heap[g]? = some (.cells cs.toArray 3 (0, 0)) := h1
      show (putRow (Value.int .i64) (Sort.ahead w q) g off ys.toArray).heap[g]? = _
      simp [putRow, mapBlock, Sort.ahead, Array.getElem?_modify, hg, onCells]
    · have hlt : (ys.take k).length = k := by rw [List.length_take]; omega
      rw [hlt]
      apply List.ext_getElem?
      intro j
      by_cases hj : j < k
      · have hjy : j < ys.length := by omega
        have hjc : off + j < cs.length := by omega
        rw [List.getElem?_take_of_lt hj, List.getElem?_drop, Array.getElem?_toList]
        unfold nums
        simp [putCells, hjc, hjy, hj]
      · rw [List.getElem?_take_eq_none (by omega), List.getElem?_eq_none (by rw [nums_len, hlt]; omega)]
/-- DeleteFunc in a row that may be written: the function only reads, whatever stands in the row -/
theorem del_row {A : Option Addr} {c : Nat} {l : List Int} {w : World} (p : Int → Bool) (fn : FuncId) (lb : Array Value) (eg : ∀ args w, (callFunc fn args).run Try.prog w = .ok (.enter fn args) w) (h : IRow w A c l) (hs : l.length < 1000000)
    (hp : ∀ (n : Int) W, w.grownBy W (blkOf A) → FnGives Try.prog fn lb #[.int .i64 n] (.bool (p n)) W) :
    Calls Try.prog 54 #[.slice A l.length c, .func (.func fn) #[] lb] w fun e w' => e = .returned (.slice A (l.filter fun x => !p x).length c) ∧ IRow w' A c (l.filter fun x => !p x) ∧ w.grownBy w' (blkOf A) := by
  rcases h with ⟨rfl, rfl, rfl⟩ | ⟨g, off, cs, rfl, h1, h2, h3, h4, h5⟩
  · refine (del_nil _ w).mono ?_
    rintro e w' ⟨rfl, rfl⟩
    exact ⟨rfl, .inl ⟨rfl, rfl, rfl⟩, World.grownBy.refl _ _⟩
  · have hR : IRow w (some ⟨g, off, none⟩) c l := .inr ⟨g, off, cs, rfl, h1, h2, h3, h4, h5⟩
    have hle : (l.filter fun x => !p x).length ≤ l.length := List.length_filter_le _ _
    have hd := AnyE.slices_DeleteFunc (ρ := Try.delI_ren) Try.delI (Value.int .i64) (fun _ => rfl) p fn lb eg 0 (fun w => by kernel_rfl) g off c l.toArray w
      (fun W x hW => hp x W ⟨hW.os, hW.tape, hW.output, hW.size, fun i hi _ => hW.block i hi⟩) (fun m os dk x _ => hp x _ (grown_sort dk)) (irow_holds hR) (by simp; omega) (by simpa using h4)
    have e1 : l.toArray.size = l.length := by simp
    rw [e1] at hd
    refine hd.mono ?_
    rintro e w' ⟨rfl, q, rfl⟩
    refine ⟨rfl, ?_, grown_putO _⟩
    have h6 := irow_put (q := q) (k := (l.filter fun x => !p x).length) (ys := (l.filter fun x => !p x) ++ List.replicate (l.length - (l.filter fun x => !p x).length) 0) hR (by simp; omega) hle
    rw [List.take_left] at h6
    exact h6
theorem irow_of {w : World} {B n : Nat} {v : Value} {l : List Int} (h : w.ownsRow B 3 1 v n (nums l)) : ∃ A c, v = .slice A l.length c ∧ IRow w A c l ∧ ∀ g, blkOf A = some g → B ≤ g := by
  have hl : l.length = n := by have := h.1; rw [nums_len, Nat.mul_one] at this; exact this
  rcases h.2 with ⟨h1, h2⟩ | ⟨g, cap, cur, h1, hb, hg, hn, hm, hs, ht⟩
  · have h0 : l = [] := List.length_eq_zero_iff.1 (by omega)
    subst h0
    exact ⟨none, 0, h1, .inl ⟨rfl, rfl, rfl⟩, fun g hg => by cases hg⟩
  · refine ⟨_, cap, by rw [h1, hl], .inr ⟨g, 0, cur.toList, rfl, by unfold At; simpa using hg, ?_, Nat.le_of_eq (by simpa using hs.symm), by omega, hm⟩, fun g' hg' => by cases hg'; exact hb⟩
    rw [List.drop_zero, hl]
    rw [Nat.mul_one] at ht
    exact ht
end Go.Proofs.Ytghefmppjdneoaa

namespace Go.Proofs.Ytghefmppjdneoaa
open Go.Proofs Stab Go.Shelf Go.RowKit Go.Lib Go.Sort Go.Maps

section
variable {H : Type} {w : World} {O : Nat → Prop} {M : Nat} {b : Blk} {t : Sct}
/-- peers' function: whether a number is the scout's own, where its captured variable lies -/
theorem peers1_any {q s : Nat} {me : Int} (n : Int) {W : World} (hq : W.cell? ⟨q, 0, none⟩ = some (.pointer (some ⟨s, 0, none⟩))) (hc : W.cell? ⟨s, 6, none⟩ = some (.int .i64 me)) :
    FnGives Try.prog 55 #[.pointer (some ⟨q, 0, none⟩)] #[.int .i64 n] (.bool (decide (n = me))) W := by
  show Calls Try.prog 55 #[.int .i64 n, .pointer (some ⟨q, 0, none⟩)] W fun e w' => e = .returned (.bool (decide (n = me))) ∧ ∃ q, w' = W.drewN q
  by_cases h : n = me
  · subst h
    go_enter Try.func55, Try.ntmps55
    go_wp2_with fail
    go_ret
    exact ⟨by simp, 0, rfl⟩
  · go_enter Try.func55, Try.ntmps55
    go_wp2_with fail
    go_ret
    exact ⟨by simp [h], 0, rfl⟩
theorem eg_peers1 : ∀ args w, (callFunc 55 args).run Try.prog w = .ok (.enter 55 args) w := enters_of Try.func55 (by kernel_rfl) rfl
theorem peers_len (t : Sct) : t.peers.length ≤ 6 := by
  unfold Sct.peers
  refine Nat.le_trans (List.length_filter_le _ _) ?_
  unfold present
  rw [List.length_map]
  exact Nat.le_trans (List.length_filter_le _ _) (List.length_filterMap_le _ nodes)
theorem peers_any (h : ScAt H w O M b t) : Calls Try.prog 37 #[.pointer (some ⟨b.s, 0, none⟩)] w fun e w' => ∃ A c, e = .returned (.slice A t.peers.length c) ∧ IRow w' A c t.peers ∧ (∀ g, blkOf A = some g → w.heap.size ≤ g) ∧ Below w.heap.size w w' := by
  obtain ⟨s, hs⟩ : ∃ s, s = b.s := ⟨_, rfl⟩
  obtain ⟨pv, hpv⟩ : ∃ pv, pv = b.pv := ⟨_, rfl⟩
  obtain ⟨me, hme⟩ : ∃ me, me = t.me := ⟨_, rfl⟩
  have hsl := h.hd.lt
  rw [← hs] at hsl
  obtain ⟨wa, hwa⟩ : ∃ wa, wa = w.alloc (.cells #[.pointer (some ⟨s, 0, none⟩)] 31) := ⟨_, rfl⟩
  have hba : Below w.heap.size w wa := by rw [hwa]; exact (Below.refl _ _).alloc (Nat.le_refl _) _
  have hAa : At wa w.heap.size 31 [.pointer (some ⟨s, 0, none⟩)] := by rw [hwa]; exact At.newA _ _ rfl
  have hha := h.below hba
  have c0 : w.cell? ⟨s, 0, none⟩ = some (.pointer (some ⟨pv, 0, none⟩)) := by rw [hs, hpv]; exact h.cell (i := 0) rfl
  have cq : wa.cell? ⟨w.heap.size, 0, none⟩ = some (.pointer (some ⟨s, 0, none⟩)) := hAa.cell' rfl
  have HP := Lib.hid (present_any hha.view)
  rw [← hpv] at HP
  obtain ⟨P, hP⟩ : ∃ P, P = present t.v := ⟨_, rfl⟩
  rw [← hP] at HP
  have hp : t.peers = P.filter fun n => !decide (n = me) := by rw [hP, hme]; rfl
  have hpl : P.length ≤ 6 := by
    rw [hP]
    unfold present
    rw [List.length_map]
    exact Nat.le_trans (List.length_filter_le _ _) (List.length_filterMap_le _ nodes)
  have HC := Lib.hid (show ∀ W, Below wa.heap.size wa W → W.cell? ⟨w.heap.size, 0, none⟩ = some (.pointer (some ⟨s, 0, none⟩)) ∧ W.cell? ⟨s, 6, none⟩ = some (.int .i64 me) from fun W hW => ⟨(hAa.below hW hAa.lt).cell' rfl, by rw [hs, hme]; exact (hha.below hW).cell (i := 6) rfl⟩)
  have HBa := Lib.hid hba
  have HWA := Lib.hid hwa
  have HQ := Lib.hid hAa.lt
  have HSL := Lib.hid (show s < wa.heap.size from Nat.lt_of_lt_of_le hsl hba.size)
  rw [hp, ← hs]
  clear h hha hAa hba hwa hs hpv hme hP hp
  go_enter Try.func37, Try.ntmps37
  go_wp2_with fail
  rw [← HWA.out]
  refine HP.out.mono ?_
  rintro e w2 ⟨v, rfl, hrow, hb2⟩
  obtain ⟨A, c, rfl, hR, hlo⟩ := irow_of hrow
  have HR := Lib.hid hR
  have HB2 := Lib.hid hb2
  have HLO := Lib.hid hlo
  clear hR hb2 hlo hrow HP cq c0
  go_wp2_with fail
  refine (del_row (fun n => decide (n = me)) 55 #[.pointer (some ⟨w.heap.size, 0, none⟩)] eg_peers1 HR.out (by omega) (fun n W hW => ?_)).mono ?_
  · have hne : ∀ g, blkOf A = some g → g ≠ w.heap.size ∧ g ≠ s := fun g hg => by
      have := HLO.out g hg
      have := HQ.out
      have := HSL.out
      omega
    have hc := HC.out w2 HB2.out
    have hs2 := HB2.out.size
    refine peers1_any n ((World.cell?_of_block (w := w2) (hW.block w.heap.size (by have := HQ.out; omega) (fun e => (hne _ e.symm).1 rfl))).trans hc.1) ((World.cell?_of_block (w := w2) (hW.block s (by have := HSL.out; omega) (fun e => (hne _ e.symm).2 rfl))).trans hc.2)
  · rintro e w3 ⟨rfl, hR3, hg3⟩
    have HR3 := Lib.hid hR3
    have HB3 := Lib.hid (show Below w.heap.size w w3 from (HBa.out.trans (HB2.out.mono HBa.out.size)).grown hg3 (HBa.out.trans (HB2.out.mono HBa.out.size)).size (fun k hk => Nat.le_trans HBa.out.size (HLO.out k hk)))
    clear hR3 hg3
    go_wp2_with fail
    go_ret
    exact ⟨A, c, rfl, HR3.out, fun g hg => Nat.le_trans HBa.out.size (HLO.out g hg), HB3.out⟩
end
end Go.Proofs.Ytghefmppjdneoaa

namespace Go.Proofs
open Go.RowKit Go.Sort Go.Shelf
shelf_lay_g SlLaysN.n31 Slgn 31 at Try 50 as Try.conI
end Go.Proofs
namespace Go.Proofs.Ytghefmppjdneoaa
open Go.Proofs Stab Go.Shelf Go.RowKit Go.Lib Go.Sort Go.Maps

theorem con_row {A : Option Addr} {c : Nat} {l : List Int} {w : World} (h : IRow w A c l) (hl : l.length ≤ 1000000) (n : Int) :
    Calls Try.prog 50 #[.slice A l.length c, .int .i64 n] w fun e w' => e = .returned (.bool (decide (n ∈ l))) ∧ w' = w := by
  rcases h with ⟨rfl, rfl, rfl⟩ | ⟨g, off, cs, rfl, h1, h2, h3, h4, h5⟩
  · refine (AnyG.slices_Contains_int_empty (ρ := Try.conI_ren) Try.conI none 0 n w).mono ?_
    rintro e w' ⟨rfl, rfl⟩
    exact ⟨by simp, rfl⟩
  · have hR : IRow w (some ⟨g, off, none⟩) c l := .inr ⟨g, off, cs, rfl, h1, h2, h3, h4, h5⟩
    refine (AnyG.slices_Contains_int (ρ := Try.conI_ren) Try.conI g off l.length c l n w (Nat.le_refl _) (by omega) (fun j hj => ?_)).mono ?_
    · rw [(hR.cell hj).1, List.getD_eq_getElem?_getD, List.getElem?_eq_getElem hj, Option.getD_some]
    · rintro e w' ⟨rfl, rfl⟩
      refine ⟨?_, rfl⟩
      rw [List.take_length]
      congr 2
      rw [Bool.eq_iff_iff]
      simp
theorem next1_any {q : Nat} {A : Option Addr} {c : Nat} {l : List Int} (n : Int) {W : World} (hq : W.cell? ⟨q, 0, none⟩ = some (.slice A l.length c)) (hc : IRow W A c l) (hl : l.length ≤ 1000000) :
    FnGives Try.prog 64 #[.pointer (some ⟨q, 0, none⟩)] #[.int .i64 n] (.bool (!decide (n ∈ l))) W := by
  show Calls Try.prog 64 #[.int .i64 n, .pointer (some ⟨q, 0, none⟩)] W fun e w' => e = .returned (.bool (!decide (n ∈ l))) ∧ ∃ q, w' = W.drewN q
  have HC := Lib.hid (con_row hc hl n)
  obtain ⟨k, hk⟩ : ∃ k, k = l.length := ⟨_, rfl⟩
  rw [← hk] at hq HC
  clear hc hl hk
  obtain ⟨x, hx⟩ : ∃ x, x = decide (n ∈ l) := ⟨_, rfl⟩
  rw [← hx] at HC ⊢
  clear hx
  go_enter Try.func64, Try.ntmps64
  go_wp2_with (go_at_call 50; refine Calls.mono HC.out ?_; rintro e w' ⟨rfl, rfl⟩)
  go_ret
  exact ⟨rfl, 0, rfl⟩
theorem eg_next1 : ∀ args w, (callFunc 64 args).run Try.prog w = .ok (.enter 64 args) w := enters_of Try.func64 (by kernel_rfl) rfl
end Go.Proofs.Ytghefmppjdneoaa

namespace Go.Proofs.Ytghefmppjdneoaa
open Go.Proofs Stab Go.Shelf Go.RowKit Go.Lib Go.Sort Go.Maps

/-- what stands apart may be written as one likes -/
theorem HumSt.apartK {H : Type} {w w' : World} {A A' K : Nat → Prop} {p b N : Nat} {t : Int} {f : Hm.St} (h : HumSt H w A p b N t f) (hk : Keeps K w w') (hK : ∀ i, ¬ A i → K i) (hA : ∀ i, A' i → A i ∨ (w.heap.size ≤ i ∧ i < w'.heap.size)) : HumSt H w' A' p b N t f := by
  obtain ⟨⟨F, h1, h2, h3⟩, h4, h5, h6⟩ := h
  have kb : ∀ i, ¬ A i → i < w.heap.size → w'.heap[i]? = w.heap[i]? := fun i hi hl => hk.block i (hK i hi) hl
  refine ⟨⟨F, ⟨(kb _ h4 h1.hd.lt).trans h1.hd, ?_, h1.sane, fun x g r hF => (kb _ (h3 x g r hF) (h1.at_ x g r hF).lt).trans (h1.at_ x g r hF), h1.inj, h1.ne⟩, h2, fun x g r hF hg' => ?_⟩, fun hp => ?_, fun hp => ?_, fun i hi => ?_⟩
  · obtain ⟨es, clock, hb2, F, hs, hD⟩ := h1.map
    exact ⟨es, clock, (kb _ h5 h1.blt).trans hb2, F, hs, hD⟩
  · rcases hA g hg' with h | h
    · exact h3 x g r hF h
    · have := (h1.at_ x g r hF).lt; omega
  · rcases hA p hp with h | h
    · exact h4 h
    · have := h1.hd.lt; omega
  · rcases hA b hp with h | h
    · exact h5 h
    · have := h1.blt; omega
  · rcases hA i hi with h | h
    · exact Nat.lt_of_lt_of_le (h6 i h) hk.size
    · exact h.2
section
variable {H : Type} {w w' : World} {O : Nat → Prop} {M : Nat} {b : Blk} {t : Sct}
/-- its line is another row: the old one's block may be written, or a new block is taken -/
theorem ScAt.lined {A : Option Addr} {c : Nat} {l : List Int} (h : ScAt H w O M b t) (hk : Keeps (fun i => i ≠ b.s ∧ blkOf b.lA ≠ some i) w w') (ha : At w' b.s 79 (scC { b with lA := A, lc := c } { t with line := l })) (hr : IRow w' A c l) (hA : ∀ g, blkOf A = some g → blkOf b.lA = some g ∨ w.heap.size ≤ g) (hl : l.length ≤ 6) :
    ScAt H w' (fun i => O i ∨ (w.heap.size ≤ i ∧ i < w'.heap.size)) M { b with lA := A, lc := c } { t with line := l } := by
  obtain ⟨n1, n2, n3, n4, n5, n6, n7, n8, n9⟩ := Blk.ne h.dis
  have hd := h.dis
  unfold Blk.list at hd
  simp only [List.pairwise_cons, List.mem_cons, List.not_mem_nil, or_false, forall_eq_or_imp, forall_eq, Option.some.injEq] at hd
  obtain ⟨⟨d1, d2, d3, d4, d5, d6⟩, ⟨e1, e2, e3, e4, e5⟩, ⟨f1, f2, f3, f4⟩, ⟨g1, g2, g3⟩, ⟨q1, q2⟩, q3, _⟩ := hd
  have lt := fun i hi => h.lt (i := i) hi
  have gl : ∀ g, blkOf A = some g → g < w'.heap.size := fun g hg => by
    rcases hr with ⟨rfl, _⟩ | ⟨g', off, cs, rfl, h1, _⟩
    · cases hg
    · cases hg; exact h1.lt
  have kb : ∀ i, i ≠ b.s → blkOf b.lA ≠ some i → i < w.heap.size → w'.heap[i]? = w.heap[i]? := fun i h1 h2 h3 => hk.block i ⟨h1, h2⟩ h3
  have mem : ∀ i, some i ∈ Blk.list { b with lA := A, lc := c } → some i ∈ b.list ∨ (w.heap.size ≤ i ∧ i < w'.heap.size) := fun i hi => by
    rcases mem_list.1 hi with h | h | h | h | h | h | h
    · exact .inl (mem_list.2 (.inl h))
    · exact .inl (mem_list.2 (.inr (.inl h)))
    · exact .inl (mem_list.2 (.inr (.inr (.inl h))))
    · exact .inl (mem_list.2 (.inr (.inr (.inr (.inl h)))))
    · exact .inl (mem_list.2 (.inr (.inr (.inr (.inr (.inl h))))))
    · rcases hA i h with h2 | h2
      · exact .inl (mem_list.2 (.inr (.inr (.inr (.inr (.inr (.inl h2)))))))
      · exact .inr ⟨h2, gl i h⟩
    · exact .inl (mem_list.2 (.inr (.inr (.inr (.inr (.inr (.inr h)))))))
  obtain ⟨Y, h1, h2, h3⟩ := h.hum
  have ms : some b.s ∈ b.list := mem_list.2 (.inl rfl)
  have mp : some b.pv ∈ b.list := mem_list.2 (.inr (.inl rfl))
  have mv : some b.bv ∈ b.list := mem_list.2 (.inr (.inr (.inl rfl)))
  have mb : some b.bs ∈ b.list := mem_list.2 (.inr (.inr (.inr (.inl rfl))))
  refine ⟨ha, ?_, ⟨fun i => Y i ∨ (w.heap.size ≤ i ∧ i < w'.heap.size), h1.apartK hk (fun i hi => ⟨fun e => hi (e ▸ h2 _ ms), fun e => hi (h2 _ (mem_list.2 (.inr (.inr (.inr (.inr (.inr (.inl e))))))))⟩) (fun i hi => hi), fun i hi => ?_, fun i hi ho => ?_⟩, ?_, hr, ?_, ?_, ?_, fun i hi => ?_, ⟨h.lim.me, h.lim.ticks, h.lim.last, h.lim.seq, h.lim.tgt, h.lim.help, hl, h.lim.rel, h.lim.since⟩, h.cnt⟩
  · obtain ⟨es, clock, hb2, F, hs, hD⟩ := h.view.2.1
    exact ⟨(kb _ (Ne.symm n1) (fun e => (n8 _ e).2.1 rfl) (lt _ mp)).trans h.view.1, ⟨es, clock, (kb _ (Ne.symm n2) (fun e => (n8 _ e).2.2.1 rfl) (lt _ mv)).trans hb2, F, hs, hD⟩, h.view.2.2⟩
  · rcases mem i hi with h | h
    · exact .inl (h2 i h)
    · exact .inr h
  · by_cases hlt : i < w.heap.size
    · exact .inl (h3 i hlt fun e => ho (.inl e))
    · exact .inr ⟨by omega, hi⟩
  · obtain ⟨es, clock, hb2, F, hs, hD⟩ := h.since
    exact ⟨es, clock, (kb _ (Ne.symm n3) (fun e => (n8 _ e).2.2.2 rfl) (lt _ mb)).trans hb2, F, hs, hD⟩
  · exact h.help.keep fun g off e => kb g (n7 g (blk_some e)).1 (fun e2 => by have := q1 ((blk_some e).trans e2.symm); rw [blk_some e] at this; cases this) (h.help.lt e)
  · exact h.rel.keep fun g off e => kb g (n9 g (blk_some e)).1 (fun e2 => by have := q3 (e2.trans (blk_some e).symm); rw [e2] at this; cases this) (h.rel.lt e)
  · have new : ∀ x, some x ∈ b.list → some x = blkOf A → blkOf b.lA = some x := fun x hx e => by
      rcases hA x e.symm with h' | h'
      · exact h'
      · exact absurd (lt _ hx) (by omega)
    unfold Blk.list
    simp only [List.pairwise_cons, List.mem_cons, List.not_mem_nil, or_false, forall_eq_or_imp, forall_eq, Option.some.injEq, List.Pairwise.nil, and_true]
    refine ⟨⟨d1, d2, d3, d4, fun e => d5 (new _ ms e).symm, d6⟩, ⟨e1, e2, e3, fun e => e4 (new _ mp e).symm, e5⟩, ⟨f1, f2, fun e => f3 (new _ mv e).symm, f4⟩, ⟨g1, fun e => g2 (new _ mb e).symm, g3⟩, ⟨fun e => ?_, q2⟩, ⟨fun e => ?_, fun _ h => h.elim⟩⟩
    · cases hh : blkOf b.hA with
      | none => rfl
      | some x =>
        have := new x (mem_list.2 (.inr (.inr (.inr (.inr (.inl hh)))))) (hh ▸ e)
        have := q1 (hh.trans this.symm)
        rw [hh] at this
        exact this
    · cases hh : blkOf b.rA with
      | none => exact e.trans hh
      | some x =>
        have := new x (mem_list.2 (.inr (.inr (.inr (.inr (.inr (.inr hh))))))) (hh.symm.trans e.symm)
        have h2 := q3 (this.trans hh.symm)
        rw [this] at h2
        cases h2
  · rcases mem i hi with h' | h'
    · exact .inl (h.own i h')
    · exact .inr h'
end
end Go.Proofs.Ytghefmppjdneoaa
