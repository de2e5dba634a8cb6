/- Layer 12, the texts ScS to ScV joined: what the functions that a scout reaches do with memory, each told once. -/
import Derived.Test.YtghefmppjdneoaaGrpI
import Derived.Ground.SlgnProg
import Derived.Ground.Names8Prog
import Derived.Shelf.SlicesG.SearchI
import Derived.Shelf.Spec.SlicesGrow
import Derived.Deep.Upon
import Derived.Shelf.SlicesE.Clone
namespace Go.Proofs.Ytghefmppjdneoaa
open Go.Proofs Stab Go.Shelf Go.RowKit Go.Lib Go.Sort Go.Maps

theorem round_nat {t : Sct} {k : Nat} (hk : t.ticks = k) : t.round = ((k / 4 + 1 : Nat) : Int) := by
  unfold Sct.round
  rw [hk, Int.tdiv_eq_ediv_of_nonneg (by omega)]
  omega
theorem choose_next {t : Sct} {d : Int} {r : Nat} (hr : t.round = r) (h : r % 4 ≠ 0 ∨ t.far = []) : t.choose d = t.next d := by
  unfold Sct.choose
  rw [hr, if_pos]
  rcases h with h | h
  · refine .inl ?_
    rw [Int.tmod_eq_emod_of_nonneg (by omega)]
    omega
  · exact .inr h
theorem choose_far {t : Sct} {d : Int} {r : Nat} (hr : t.round = r) (h : r % 4 = 0) (hf : t.far ≠ []) (hj : r / 4 % t.far.length < t.far.length) : t.choose d = (t.far[r / 4 % t.far.length], { t with f := Hm.push1 5 t.f (t.getM t.far[r / 4 % t.far.length]) }) := by
  have e : t.farAt = t.far[r / 4 % t.far.length] := by
    unfold Sct.farAt
    rw [hr, Int.tdiv_eq_ediv_of_nonneg (by omega), Int.tmod_eq_emod_of_nonneg (by omega)]
    have : ((r : Int) / 4 % (t.far.length : Int)).toNat = r / 4 % t.far.length := by
      have : (r : Int) / 4 % (t.far.length : Int) = ((r / 4 % t.far.length : Nat) : Int) := by rw [Int.natCast_emod, Int.natCast_ediv]; rfl
      rw [this]; rfl
    rw [this, List.getD, List.getElem?_eq_getElem hj]
    rfl
  unfold Sct.choose
  rw [hr, if_neg, e]
  rintro (h1 | h1)
  · rw [Int.tmod_eq_emod_of_nonneg (by omega)] at h1
    omega
  · exact hf h1
theorem far_nodes (t : Sct) (h : ∀ n m, t.v n = some m → m.good = true ∧ m.n = n) : ∀ n ∈ t.far, -9223372036854775808 ≤ n ∧ n ≤ 9223372036854775807 := by
  intro n hn
  unfold Sct.far at hn
  obtain ⟨m, hm, rfl⟩ := List.mem_map.1 hn
  have hm := (List.mem_filter.1 hm).1
  unfold all at hm
  obtain ⟨x, _, hx⟩ := List.mem_filterMap.1 hm
  have := (Mem.good_iff m).1 (h x m hx).1
  omega
section
variable {H : Type} {w w' w0 : World} {O : Nat → Prop} {M : Nat} {b : Blk} {t : Sct} {s : Nat}
theorem Grew.get {pv : Nat} (h : Grew H w0 w O M s t) (hc : w.cell? ⟨s, 0, none⟩ = some (.pointer (some ⟨pv, 0, none⟩))) (n : Int) (h1 : -9223372036854775808 ≤ n) (h2 : n ≤ 9223372036854775807) : ∃ is, Calls Try.prog 32 #[.pointer (some ⟨pv, 0, none⟩), .int .i64 n] w fun e w' => e = .returned (.tuple #[memV (t.getM n), .bool is]) ∧ Below w.heap.size w w' := by
  obtain ⟨b', O', rfl, hS, _⟩ := h
  have e1 := hS.cell (i := 0) (v := ptrV b'.pv) rfl
  rw [hc] at e1
  unfold ptrV at e1
  injection e1 with e1
  injection e1 with e1
  injection e1 with e1
  injection e1 with e1
  subst e1
  obtain ⟨m, is, hf, hm, his⟩ := found_cases t.v n
  have hG := get_any hS.view n h1 h2
  rw [hf, hm] at hG
  exact ⟨is, hG⟩
theorem Grew.next (h : Grew H w0 w O M s t) (d : Int) (hd : -9223372036854775808 ≤ d ∧ d ≤ 9223372036854775807) : Calls Try.prog 46 #[.pointer (some ⟨s, 0, none⟩), .int .i64 d] w fun e w' => e = .returned (.int .i64 (t.next d).1) ∧ Grew H w0 w' O M s (t.next d).2 :=
  h.calls fun b' O' e hS => by subst e; exact next_any hS d hd
set_option maxRecDepth 100000 in
set_option maxHeartbeats 1000000 in
theorem choose_any (h : ScAt H w O M b t) (hM : M < 1000000) (d : Int) (hd : -9223372036854775808 ≤ d ∧ d ≤ 9223372036854775807) : Calls Try.prog 23 #[.pointer (some ⟨b.s, 0, none⟩), .int .i64 d] w fun e w' => e = .returned (.int .i64 (t.choose d).1) ∧ Grew H w w' O (M + 1) b.s (t.choose d).2 := by
  have hG := Grew.refl h
  have hF := far_any h
  obtain ⟨s, hs⟩ : ∃ s, s = b.s := ⟨_, rfl⟩
  rw [← hs] at hG hF ⊢
  have HG := Lib.hid hG
  have HF := Lib.hid hF
  have c8 := hG.cell (i := 8) (v := .int .i64 t.ticks) (fun _ => rfl)
  obtain ⟨k, hk⟩ : ∃ k : Nat, t.ticks = k := ⟨t.ticks.toNat, by have := hG.lim.ticks; omega⟩
  have hkM : k ≤ M := by have := hG.lim.ticks; omega
  rw [hk] at c8
  have HR := Lib.hid (round_nat hk)
  have HD := Lib.hid hd
  clear h hs hk hG hF hd
  go_enter Try.func23, Try.ntmps23
  go_wp2_with fail
  rw [show (k : Int) / 4 + 1 = ((k / 4 + 1 : Nat) : Int) by omega]
  obtain ⟨r, hr⟩ : ∃ r, r = k / 4 + 1 := ⟨_, rfl⟩
  rw [← hr] at HR ⊢
  have hr1 : 1 ≤ r := by omega
  have hr2 : r ≤ 1000000 := by omega
  clear hr
  refine HF.out.mono ?_
  rintro e w1 ⟨A, c, rfl, hR1, hlo1, hb1⟩
  have HG1 := Lib.hid (HG.out.on hb1)
  obtain ⟨L, hL⟩ : ∃ L, L = t.far := ⟨_, rfl⟩
  rw [← hL] at hR1 ⊢
  obtain ⟨n, hn⟩ : ∃ n, n = L.length := ⟨_, rfl⟩
  rw [← hn]
  have HL := Lib.hid hL
  have HN := Lib.hid hn
  have HR1 := Lib.hid hR1
  have HB1 := Lib.hid hb1
  have HNX := Lib.hid (HG1.out.next d HD.out)
  have hn6 : n ≤ 6 := by rw [hn, hL]; unfold Sct.far; rw [List.length_map]; exact Nat.le_trans (List.length_filter_le _ _) (List.length_filterMap_le _ nodes)
  clear hL hR1 hlo1 hb1 hn HF c8
  by_cases h4 : r % 4 = 0
  · by_cases h0 : n = 0
    · have HE := Lib.hid (show t.choose d = t.next d from choose_next HR.out (.inr (by rw [← HL.out]; exact List.length_eq_zero_iff.1 (by rw [← HN.out]; exact h0))))
      have hr4 : (r : Int) % 4 = 0 := by omega
      subst h0
      go_wp2_with fail
      refine HNX.out.mono ?_
      rintro e w2 ⟨rfl, hG2⟩
      have HG2 := Lib.hid hG2
      clear hG2 HNX
      go_wp2_with fail
      go_ret
      rw [HE.out]
      exact ⟨rfl, HG2.out.mono (Nat.le_succ _)⟩
    · have hr4 : (r : Int) % 4 = 0 := by omega
      obtain ⟨j, hj⟩ : ∃ j, j = r / 4 % n := ⟨_, rfl⟩
      have hjn : j < n := by rw [hj]; exact Nat.mod_lt _ (by omega)
      have hji : (r : Int) / 4 % (n : Int) = (j : Int) := by rw [hj, Int.natCast_emod, Int.natCast_ediv]; rfl
      have HJ := Lib.hid hj
      clear hj
      obtain ⟨g, off, rfl⟩ : ∃ g off, A = some ⟨g, off, none⟩ := by
        rcases HR1.out with ⟨_, h, _⟩ | ⟨g, o, _, h, _⟩
        · have := HN.out; rw [h] at this; exact absurd this h0
        · exact ⟨g, o, h⟩
      have hjL : j < L.length := by rw [← HN.out]; exact hjn
      have cj := (HR1.out.cell hjL).1
      obtain ⟨x, hx⟩ : ∃ x, x = L[j] := ⟨_, rfl⟩
      rw [← hx] at cj
      have HE := Lib.hid (show t.choose d = (x, { t with f := Hm.push1 5 t.f (t.getM x) }) from by
        have hjf : r / 4 % t.far.length < t.far.length := by rw [← HL.out, ← HN.out, ← HJ.out]; exact hjn
        rw [choose_far HR.out h4 (by rw [← HL.out]; intro e; rw [e] at hjL; simp at hjL) hjf]
        have e : t.far[r / 4 % t.far.length] = x := by
          rw [hx]
          have h1 := HN.out
          have h2 := HJ.out
          have h3 := HL.out
          subst h3
          subst h1
          subst h2
          rfl
        rw [e])
      have hxb : -9223372036854775808 ≤ x ∧ x ≤ 9223372036854775807 := by
        obtain ⟨b', O', _, hS, _⟩ := HG1.out
        exact far_nodes t (fun n m h => hS.view.2.2.1 n m h) x (by rw [hx, ← HL.out]; exact List.getElem_mem _)
      obtain ⟨pv, ph, c0, c1⟩ := HG1.out.ptrs
      obtain ⟨is, hget⟩ := HG1.out.get c0 x hxb.1 hxb.2
      obtain ⟨m, hm⟩ : ∃ m, m = t.getM x := ⟨_, rfl⟩
      rw [← hm] at hget
      unfold memV at hget
      have HGET := Lib.hid hget
      have HM := Lib.hid hm
      have HC := Lib.hid (And.intro c0 c1)
      have hlen : ¬ ((n : Int) = 0) := by omega
      clear hjL hx hm hget hxb c1
      go_wp2_with fail
      refine HGET.out.mono ?_
      rintro e w2 ⟨rfl, hb2⟩
      have hG2 := HG1.out.on hb2
      obtain ⟨w3, hw3⟩ : ∃ w3, w3 = w2.alloc (.cells #[.int .i64 m.n, .int .i64 m.i, .int .i64 m.s] 38) := ⟨_, rfl⟩
      have hb3 : Below w2.heap.size w2 w3 := by rw [hw3]; exact (Below.refl _ _).alloc (Nat.le_refl _) _
      have hA3 : At w3 w2.heap.size 38 (cellsM m) := by rw [hw3]; exact memAt w2 m
      obtain ⟨q, hq⟩ : ∃ q, q = w2.heap.size := ⟨_, rfl⟩
      have HG3 := Lib.hid (hG2.on hb3)
      have hs1 := HG1.out.lt
      have HL3 := Lib.hid (show LearnS s pv ph q m w3 from ⟨(World.cell?_of_block ((hb3.block s hG2.lt).trans (hb2.block s hs1))).trans HC.out.1, (World.cell?_of_block ((hb3.block s hG2.lt).trans (hb2.block s hs1))).trans HC.out.2, fun j v hv => by rw [Nat.zero_add, hq]; exact hA3.cell' hv, ⟨HG3.out.lt, by rw [hq]; exact hA3.lt⟩⟩)
      have HW3 := Lib.hid hw3
      have HQ := Lib.hid hq
      clear hb2 hG2 hw3 hb3 hA3 hq hs1 HGET c0 cj HC
      go_wp2_with fail
      rw [← HW3.out, ← HQ.out]
      refine wp_region_mix [(0, true), (5, true), (1, true), (2, true), (3, true), (4, true), (6, false), (7, false)] (LearnS s pv ph q m)
        (by kernel_rfl) (by kernel_rfl) (fun _ _ d _ _ h => by cases d <;> exact h) (by kernel_rfl) (by decide) (HL3.out.below (Below.refl _ _).drew) ?_
      iterate 6 (
        first
          | (refine wpMix_val (.pointer (some ⟨s, 0, none⟩)) (by with_unfolding_all rfl) (by with_unfolding_all rfl) (fun w _ => exec_nil _ (by with_unfolding_all rfl) s 0 (by with_unfolding_all rfl) w) ?_; simp only [Act.put, List.setIfInBounds_toArray, List.set_cons_zero, List.set_cons_succ])
          | (refine wpMix_val (.pointer (some ⟨s, 0, none⟩)) (by with_unfolding_all rfl) (by with_unfolding_all rfl) (fun w _ => exec_s0 _ (by with_unfolding_all rfl) s (by with_unfolding_all rfl) w) ?_; simp only [Act.put, List.setIfInBounds_toArray, List.set_cons_zero, List.set_cons_succ])
          | (refine wpMix_q (by with_unfolding_all rfl) (by kernel_rfl) ?_
             first
              | go_big_quiet_skip
              | ((with_reducible refine wpQuiet_loadP (.pointer (some ⟨ph, 0, none⟩)) (by with_unfolding_all rfl) 71 _ _ (by with_unfolding_all rfl) Try.underlying71 s (1) (by with_unfolding_all rfl) (fun w h => h.h) ?_); simp only [Act.put, List.setIfInBounds_toArray, List.set_cons_zero, List.set_cons_succ])
              | ((with_reducible refine wpQuiet_loadAll (by with_unfolding_all rfl) 38 _ (by with_unfolding_all rfl) q (0) (by with_unfolding_all rfl) (cellsM m) _ (fun w h => h.m) Try.underlying38 rfl info_memC ?_); simp only [Act.put, List.setIfInBounds_toArray, List.set_cons_zero, List.set_cons_succ])
              | (go_big_quiet_step (exact fun _ => rfl))
             refine wpMix_qnil ?_))
      obtain ⟨w4, hw4⟩ : ∃ w4, w4 = w3.drew.alloc (.cells #[.int .i64 m.n, .int .i64 m.i, .int .i64 m.s] 38) := ⟨_, rfl⟩
      have hb4 : Below w3.heap.size w3 w4 := by rw [hw4]; exact (Below.refl _ _).drew.alloc (Nat.le_refl _) _
      have hM4 : MemsIn w4 (some ⟨w3.heap.size, 0, none⟩) [m] := by rw [hw4]; exact mems_laid w3.drew [m] _ rfl _ rfl
      have hc4 : ∃ v, w4.cell? ⟨w3.heap.size, 0, none⟩ = some v := by rw [hw4]; exact ⟨_, (memAt w3.drew m).cell' (i := 0) rfl⟩
      have hs4 : w3.heap.size < w4.heap.size := by rw [hw4]; exact (memAt w3.drew m).lt
      have hL4 := HL3.out.below hb4
      have hG4 := HG3.out.on hb4
      refine wpMix_put (.slice (some ⟨w3.drew.heap.size, 0, none⟩) 1 1) w4 (by with_unfolding_all rfl) (by with_unfolding_all rfl) (by rw [hw4]; exact exec_one_mem (.tmp 52) m (by with_unfolding_all rfl) (by with_unfolding_all rfl) _) hL4 ?_
      simp only [Act.put, List.setIfInBounds_toArray, List.set_cons_zero, List.set_cons_succ]
      rw [show w3.drew.heap.size = w3.heap.size from rfl]
      refine wpMix_call 33 [.pointer (some ⟨ph, 0, none⟩), .slice (some ⟨w3.heap.size, 0, none⟩) 1 1] _ (by with_unfolding_all rfl) (by with_unfolding_all rfl) (by with_unfolding_all rfl) (push_step hG4 (Nat.lt_of_lt_of_le hM (Nat.le_refl _)) hL4 hM4 hs4 hc4) ?_
      rintro v5 w5 hL5 ⟨rfl, hG5⟩
      simp only [Act.put, List.setIfInBounds_toArray, List.set_cons_zero, List.set_cons_succ]
      refine wpMix_nil ?_
      have HG5 := Lib.hid hG5
      have HL5 := Lib.hid hL5
      clear hG5 hL5 hG4 hL4 hs4 hc4 hM4 hb4 hw4
      go_wp2_with fail
      go_ret
      rw [HE.out, ← HM.out]
      exact ⟨rfl, HG5.out⟩
  · have HE := Lib.hid (show t.choose d = t.next d from choose_next HR.out (.inl h4))
    have hr4 : ¬ (r : Int) % 4 = 0 := by omega
    go_wp2_with fail
    refine HNX.out.mono ?_
    rintro e w2 ⟨rfl, hG2⟩
    have HG2 := Lib.hid hG2
    clear hG2 HNX
    go_wp2_with fail
    go_ret
    rw [HE.out]
    exact ⟨rfl, HG2.out.mono (Nat.le_succ _)⟩
end
end Go.Proofs.Ytghefmppjdneoaa

namespace Go.Proofs
open Go.RowKit Go.Sort Go.Shelf
shelf_lay_g SlLaysN.n49 Slgn 49 at Try 47 as Try.binI
shelf_lay_g Lays8.n4 Nm8 4 at Try 68 as Try.growI
end Go.Proofs
namespace Go.Proofs.Ytghefmppjdneoaa
open Go.Proofs Stab Go.Shelf Go.RowKit Go.Lib Go.Sort Go.Maps

/-- nothing is appended -/
theorem wpList_append_nothing {P : Program} {ops : Array Oper} {rest : List Oper} {o : Oper} {a : Act} {w : World} {Q : Exit → Act → World → Prop} (hw : Region.wanted o (yielded ops a.tmps) = true) (s x : Operand) (t e : TypeId) (ho : o.op = .call { callee := .builtin .append, args := #[s, x], argTypes := #[t, t] })
    (i : TypeInfo) (ht : P.underlying t = some (.slice e)) (hi : P.info? e = some i) (base : Option Addr) (sLen sCap : Nat) (hle : sLen ≤ sCap) (hs : a.eval s = .slice base sLen sCap) (A : Option Addr) (c : Nat) (hx : a.eval x = .slice A 0 c)
    (h : wpList P ops Q rest (a.put o.dst (.slice base sLen sCap)) w) : wpList P ops Q (o :: rest) a w := by
  refine wpList_val (.slice base sLen sCap) hw ?_ h
  have hsrc : Src P i.size t (.slice A 0 c) 0 [] w := by
    cases A with
    | none => exact Src.ofNil w ht c
    | some ad => exact Src.ofSlice w ht ad 0 c [] (by simp) (fun j u hu => by simp at hu) (fun u hu => by simp at hu)
  have hr := run_append_nothing w t t o.type e i ht hi base sLen sCap hle (.slice A 0 c) hsrc
  unfold execOp
  simp only [ho, resolve, invoke, builtin, Sem.run_bind, Sem.run_pure, Result.andThen_ok, List.map_toArray, List.map_cons, List.map_nil, hs, hx, hr]
theorem search_row {A : Option Addr} {c : Nat} {l : List Int} {w : World} (h : IRow w A c l) (hl : l.length ≤ 1000000) (hs : l.Pairwise (· ≤ ·)) (x : Int) :
    Calls Try.prog 47 #[.slice A l.length c, .int .i64 x] w fun e w' => e = .returned (.tuple #[.int .i64 (l.countP (· < x) : Nat), .bool (l.contains x)]) ∧ ∃ q, w' = w.drewN q := by
  rcases h with ⟨rfl, rfl, rfl⟩ | ⟨g, off, cs, rfl, h1, h2, h3, h4, h5⟩
  · show Calls Try.prog 47 #[.slice none 0 0, .int .i64 x] w fun e w' => e = .returned (.tuple #[.int .i64 0, .bool false]) ∧ ∃ q, w' = w.drewN q
    go_enter Try.func47, Try.ntmps47
    go_wp2_with fail
    go_loopg [7, 8] 0 (fun _ s7 s8 wr => s7 = .int .i64 0 ∧ s8 = .int .i64 0 ∧ wr = w)
    case atStart => exact ⟨rfl, rfl, rfl⟩
    case round =>
      obtain ⟨rfl, rfl, rfl⟩ := hrel
      go_wp2_with fail
      go_ret2
      exact ⟨rfl, 0, rfl⟩
  · have hR : IRow w (some ⟨g, off, none⟩) c l := .inr ⟨g, off, cs, rfl, h1, h2, h3, h4, h5⟩
    refine (AnyG.slices_BinarySearch_int (ρ := Try.binI_ren) Try.binI g off l.length c l x w (Nat.le_refl _) (by omega) (fun j hj => ?_) (by rw [List.take_length]; exact hs)).mono ?_
    · rw [(hR.cell hj).1, List.getD_eq_getElem?_getD, List.getElem?_eq_getElem hj, Option.getD_some]
    · rintro e w' ⟨rfl, h⟩
      rw [List.take_length]
      exact ⟨rfl, h⟩
theorem grow_zero (w : World) : Calls Try.prog 68 #[.slice none 0 0, .int .i64 0] w fun e w' => e = .returned (.slice none 0 0) ∧ w' = w :=
  Any8.slices_Grow_room (ρ := Try.growI_ren) Try.growI none 0 0 0 w (by omega) (by omega) (by omega) (by omega)
theorem grow_some (w : World) (n : Nat) (h0 : 0 < n) (hn : n ≤ 1000000) : Calls Try.prog 68 #[.slice none 0 0, .int .i64 n] w fun e w' => ∃ g cap, e = .returned (.slice (some ⟨g, 0, none⟩) 0 cap) ∧ n ≤ cap ∧ w'.ownsRow w.heap.size 3 1 (.slice (some ⟨g, 0, none⟩) 0 cap) 0 [] ∧ Below w.heap.size w w' := by
  obtain ⟨i0, hi, hz0, hz1, hz2⟩ := info_parts info_int
  refine (Any8.slices_Grow_grow (ρ := Try.growI_ren) Try.growI i0 _ hi hz0 (by omega) none 0 0 n [] w (by omega) (by omega) (by rw [hz2]; omega) (by omega) (by simp) (fun _ => rfl) (fun a h => by cases h)).mono ?_
  rintro e w' ⟨rfl, rfl⟩
  have hge := grownCap_ge w (0 + n) 0 (Try.growI_ren.t 25)
  have hcm := grownCap_le_maxLen w (0 + n) 0 (Try.growI_ren.t 25) (by unfold maxLen; omega)
  refine ⟨w.heap.size, _, rfl, by omega, ⟨rfl, .inr ⟨w.heap.size, _, _, rfl, Nat.le_refl _, heap_alloc_new w.drew _, Nat.zero_le _, hcm, ?_, ?_⟩⟩, (Below.refl _ _).drew.alloc (Nat.le_refl _) _⟩
  · have hzs : (Value.int IntKind.i64 0).cells.size = 1 := rfl
    simp only [Array.size_append, List.size_toArray, size_zeroCells, List.length_nil, hzs, Nat.mul_one]
    omega
  · simp
theorem IRow.cells {w : World} {A : Option Addr} {c : Nat} {l : List Int} (h : IRow w A c l) : (A = none → l.length = 0 ∧ c = 0) ∧ ∀ ad, A = some ad → ∀ j u, (nums l)[j]? = some u → w.cell? (ad.add j) = some u := by
  rcases h with ⟨rfl, rfl, rfl⟩ | ⟨g, off, cs, rfl, h1, h2, h3, h4, h5⟩
  · exact ⟨fun _ => ⟨rfl, rfl⟩, fun _ h => by cases h⟩
  · have hR : IRow w (some ⟨g, off, none⟩) c l := .inr ⟨g, off, cs, rfl, h1, h2, h3, h4, h5⟩
    refine ⟨fun h => (by cases h), fun ad e j u hu => ?_⟩
    cases e
    have hj : j < l.length := by have := (List.getElem?_eq_some_iff.1 hu).1; rwa [nums_len] at this
    rw [Addr.add_lit, (hR.cell hj).1, ← hu]
    unfold nums
    rw [List.getElem?_map, List.getElem?_eq_getElem hj]
    rfl
theorem IRow.below {w w' : World} {A : Option Addr} {c : Nat} {l : List Int} (h : IRow w A c l) (hb : Below w.heap.size w w') : IRow w' A c l := h.keep fun g _ e => hb.block g (h.lt e)
theorem nums_one (l : List Int) : ∀ u ∈ nums l, u.oneCell' = true := by
  intro u hu
  obtain ⟨_, _, rfl⟩ := List.mem_map.1 hu
  rfl
theorem nums_app (a b : List Int) : nums (a ++ b) = nums a ++ nums b := List.map_append
/-- two rows, one behind the other, in a new one -/
theorem concat_any {A1 A2 : Option Addr} {c1 c2 : Nat} {l1 l2 : List Int} {w : World} {x : Nat} (h1 : IRow w A1 c1 l1) (h2 : IRow w A2 c2 l2) (hl1 : l1.length ≤ 1000) (hl2 : l2.length ≤ 1000) (hx : At w x 23 [.slice A1 l1.length c1, .slice A2 l2.length c2]) :
    Calls Try.prog 48 #[.slice (some ⟨x, 0, none⟩) 2 2] w fun e w' => ∃ A c, e = .returned (.slice A (l1 ++ l2).length c) ∧ IRow w' A c (l1 ++ l2) ∧ (∀ g, blkOf A = some g → w.heap.size ≤ g) ∧ Below w.heap.size w w' := by
  have x0 := hx.cell' (i := 0) (v := .slice A1 l1.length c1) rfl
  have x1 := hx.cell' (i := 1) (v := .slice A2 l2.length c2) rfl
  have HX := Lib.hid hx
  have H1 := Lib.hid h1
  have H2 := Lib.hid h2
  obtain ⟨n1, hn1⟩ : ∃ n, n = l1.length := ⟨_, rfl⟩
  obtain ⟨n2, hn2⟩ : ∃ n, n = l2.length := ⟨_, rfl⟩
  rw [← hn1] at x0 hl1
  rw [← hn2] at x1 hl2
  have HN1 := Lib.hid hn1
  have HN2 := Lib.hid hn2
  obtain ⟨i0, hi, hz0, hz1, hz2⟩ := info_parts info_int
  clear hx h1 h2 hn1 hn2
  go_enter Try.func48, Try.ntmps48
  go_wp2_with fail
  go_loopw [3, 11] (fun s3 s11 wr => wr = w ∧ ((s3 = .int .i64 0 ∧ s11 = .int .i64 0) ∨ (s3 = .int .i64 n1 ∧ s11 = .int .i64 1) ∨ (s3 = .int .i64 (n1 + n2 : Nat) ∧ s11 = .int .i64 2))) (fun _ s11 _ => 2 - (RowKit.intOf s11).toNat)
  case atStart => exact ⟨rfl, .inl ⟨rfl, rfl⟩⟩
  case round =>
    obtain ⟨e0, hrel⟩ := hrel
    have e1 := e0.symm
    clear e0
    subst e1
    rcases hrel with ⟨rfl, rfl⟩ | ⟨rfl, rfl⟩ | ⟨rfl, rfl⟩
    · have hp : ¬ ((n1 : Int) < 0) := by omega
      go_wp2_with fail
      go_roundw
      case rel => exact ⟨trivial, .inr (.inl ⟨rfl, rfl⟩)⟩
      case measure => simp [RowKit.intOf]
    · have hp : ¬ ((n1 : Int) + (n2 : Int) < 0) := by omega
      go_wp2_with fail
      go_roundw
      case rel => exact ⟨trivial, .inr (.inr ⟨by go_num, rfl⟩)⟩
      case measure => simp [RowKit.intOf]
    · by_cases h0 : n1 + n2 = 0
      · obtain rfl : n1 = 0 := by omega
        obtain rfl : n2 = 0 := by omega
        go_wp2_with fail
        refine (grow_zero _).mono ?_
        rintro e w2 ⟨rfl, rfl⟩
        go_wp2_with fail
        go_loopw [6, 27] (fun s6 s27 wq => wq = w2 ∧ s6 = .slice none 0 0 ∧ (s27 = .int .i64 0 ∨ s27 = .int .i64 1 ∨ s27 = .int .i64 2)) (fun _ s27 _ => 2 - (RowKit.intOf s27).toNat)
        case atStart => exact ⟨rfl, rfl, .inl rfl⟩
        case round =>
          obtain ⟨rfl, rfl, hrel⟩ := hrel
          rcases hrel with rfl | rfl | rfl
          · go_wp2_with (at_builtin; go_loud (refine wpList_append_nothing rfl _ _ 23 3 rfl i0 Try.underlying23 hi none 0 0 (Nat.le_refl _) rfl _ _ rfl ?_))
            go_roundw
            case rel => exact ⟨trivial, rfl, .inr (.inl rfl)⟩
            case measure => simp [RowKit.intOf]
          · go_wp2_with (at_builtin; go_loud (refine wpList_append_nothing rfl _ _ 23 3 rfl i0 Try.underlying23 hi none 0 0 (Nat.le_refl _) rfl _ _ rfl ?_))
            go_roundw
            case rel => exact ⟨trivial, rfl, .inr (.inr rfl)⟩
            case measure => simp [RowKit.intOf]
          · go_wp2_with fail
            go_ret
            have e1 : l1 = [] := List.length_eq_zero_iff.1 HN1.out.symm
            have e2 : l2 = [] := List.length_eq_zero_iff.1 HN2.out.symm
            rw [e1, e2]
            exact ⟨none, 0, rfl, IRow.nil _, fun g hg => (by cases hg), Below.refl _ _⟩
      · have hbig : ((n1 + n2 : Nat) : Int) > 0 := by omega
        go_wp2_with fail
        refine (grow_some _ (n1 + n2) (by omega) (by omega)).mono ?_
        rintro e w2 ⟨g, cap, rfl, hcap, hO2, hb2⟩
        have HO2 := Lib.hid hO2
        have HB2 := Lib.hid hb2
        have hxw := HX.out.lt
        have HX2 := Lib.hid (HX.out.below hb2 hxw)
        clear hO2 hb2 x0 x1
        go_wp2_with fail
        go_loopw [6, 27] (fun s6 s27 wq => Below w.heap.size w wq ∧ ((s27 = .int .i64 0 ∧ s6 = .slice (some ⟨g, 0, none⟩) 0 cap ∧ wq.ownsRow w.heap.size 3 1 (.slice (some ⟨g, 0, none⟩) 0 cap) 0 []) ∨ (s27 = .int .i64 1 ∧ s6 = .slice (some ⟨g, 0, none⟩) n1 cap ∧ wq.ownsRow w.heap.size 3 1 (.slice (some ⟨g, 0, none⟩) n1 cap) n1 (nums l1)) ∨ (s27 = .int .i64 2 ∧ s6 = .slice (some ⟨g, 0, none⟩) (n1 + n2) cap ∧ wq.ownsRow w.heap.size 3 1 (.slice (some ⟨g, 0, none⟩) (n1 + n2) cap) (n1 + n2) (nums (l1 ++ l2))))) (fun _ s27 _ => 2 - (RowKit.intOf s27).toNat)
        case atStart => exact ⟨HB2.out, .inl ⟨rfl, rfl, HO2.out⟩⟩
        case round =>
          obtain ⟨hbq, hrel⟩ := hrel
          have HBq := Lib.hid hbq
          have x0 := (HX.out.below hbq hxw).cell' (i := 0) (v := .slice A1 n1 c1) (by rw [HN1.out]; rfl)
          have x1 := (HX.out.below hbq hxw).cell' (i := 1) (v := .slice A2 n2 c2) (by rw [HN2.out]; rfl)
          clear hbq
          rcases hrel with ⟨rfl, rfl, hO⟩ | ⟨rfl, rfl, hO⟩ | ⟨rfl, rfl, hO⟩ <;> (have HO := Lib.hid hO; clear hO)
          · have hr := H1.out.below HBq.out
            go_wp2_with (at_builtin; go_loud ((refine wpList_append_fits_any _ rfl (.tmp 31) (.tmp 32) 23 rfl w.heap.size 3 i0 1 Try.underlying23 hi hz1 g 0 cap [] rfl HO.out A1 n1 c1 (nums l1) rfl (by rw [nums_len, Nat.mul_one]; exact HN1.out.symm) (fun e => by have := hr.cells.1 e; rw [HN1.out]; exact this) hr.cells.2 (nums_one l1) (by omega) ?_); intro w9 hO9 hg9; have HO9 := Lib.hid hO9; have HG9 := Lib.hid hg9; clear hO9 hg9))
            go_roundw
            case rel => exact ⟨HBq.out.grown HG9.out HBq.out.size (fun k hk => (HO.out.lt k hk).1), .inr (.inl ⟨rfl, rfl, by have := HO9.out; rwa [Nat.zero_add, List.nil_append] at this⟩)⟩
            case measure => simp [RowKit.intOf]
          · have hr := H2.out.below HBq.out
            go_wp2_with (at_builtin; go_loud ((refine wpList_append_fits_any _ rfl (.tmp 31) (.tmp 32) 23 rfl w.heap.size 3 i0 1 Try.underlying23 hi hz1 g n1 cap (nums l1) rfl HO.out A2 n2 c2 (nums l2) rfl (by rw [nums_len, Nat.mul_one]; exact HN2.out.symm) (fun e => by have := hr.cells.1 e; rw [HN2.out]; exact this) hr.cells.2 (nums_one l2) (by omega) ?_); intro w9 hO9 hg9; have HO9 := Lib.hid hO9; have HG9 := Lib.hid hg9; clear hO9 hg9))
            go_roundw
            case rel => exact ⟨HBq.out.grown HG9.out HBq.out.size (fun k hk => (HO.out.lt k hk).1), .inr (.inr ⟨rfl, rfl, by rw [nums_app]; exact HO9.out⟩)⟩
            case measure => simp [RowKit.intOf]
          · go_wp2_with fail
            go_ret
            have h := HO.out
            obtain ⟨A, c, e, hR, hlo⟩ := irow_of h
            exact ⟨A, c, congrArg Ending.returned e, hR, hlo, HBq.out⟩
end Go.Proofs.Ytghefmppjdneoaa

namespace Go.Proofs.Ytghefmppjdneoaa
open Go.Proofs Stab Go.Shelf Go.RowKit Go.Lib Go.Sort Go.Maps

/-- where a slice's part begins -/
def cutA (A : Option Addr) (k cap sz : Nat) : Option Addr := if cap = k then A else A.map (·.add (k * sz))
theorem exec_slice_l {ρ : Operand → Value} {o : Oper} {T : TypeId} {sz : Nat} (hel : Try.prog.underlying T = some (.slice (Try.prog.elem T))) (hsz : ∀ w, (sizeOf (Try.prog.elem T)).run Try.prog w = .ok sz w) (x y : Operand) (ho : o.op = .slice T x (some y) none none) (A : Option Addr) (len cap k : Nat) (hx : ρ x = .slice A len cap) (hy : ρ y = .int .i64 (k : Int)) (hk : k ≤ len) (w : World) :
    (execOp ρ o).run Try.prog w = .ok (.value (.slice (cutA A k cap sz) (len - k) (cap - k))) w := by
  have h0 : (0 : Int) ≤ (k : Int) := by omega
  have h1 : (k : Int) ≤ (len : Int) := by omega
  have hr : (Instr.slice T (.slice A len cap) (some (.int .i64 (k : Int))) none none).run Try.prog w = .ok (.slice (cutA A k cap sz) (len - k) (cap - k)) w := by
    have h2 := run_slice_l (P := Try.prog) (w := w) T A len cap hel .i64 (k : Int) h0 h1
    rw [h2, hsz]
    simp [Result.andThen, sliced, cutA]
  unfold execOp
  simp only [ho, Option.map_some, Option.map_none, hx, hy, Sem.run_bind, Sem.run_pure]
  rw [run_sliceAt_slice _ _ _ _ _ _ hel, hr]
  rfl
theorem exec_slice_h {ρ : Operand → Value} {o : Oper} {T : TypeId} {sz : Nat} (hel : Try.prog.underlying T = some (.slice (Try.prog.elem T))) (hsz : ∀ w, (sizeOf (Try.prog.elem T)).run Try.prog w = .ok sz w) (x y : Operand) (ho : o.op = .slice T x none (some y) none) (A : Option Addr) (len cap k : Nat) (hx : ρ x = .slice A len cap) (hy : ρ y = .int .i64 (k : Int)) (hk : k ≤ cap) (w : World) :
    (execOp ρ o).run Try.prog w = .ok (.value (.slice (cutA A 0 cap sz) k cap)) w := by
  have h0 : (0 : Int) ≤ (k : Int) := by omega
  have h1 : (k : Int) ≤ (cap : Int) := by omega
  have hr : (Instr.slice T (.slice A len cap) none (some (.int .i64 (k : Int))) none).run Try.prog w = .ok (.slice (cutA A 0 cap sz) k cap) w := by
    have h2 := run_slice_h (P := Try.prog) (w := w) T A len cap hel .i64 (k : Int) h0 h1
    rw [h2, hsz]
    simp [Result.andThen, sliced, cutA]
  unfold execOp
  simp only [ho, Option.map_some, Option.map_none, hx, hy, Sem.run_bind, Sem.run_pure]
  rw [run_sliceAt_slice _ _ _ _ _ _ hel, hr]
  rfl
theorem elem_ints : Try.prog.underlying 23 = some (.slice (Try.prog.elem 23)) := by kernel_rfl
theorem size_ints (w : World) : (sizeOf (Try.prog.elem 23)).run Try.prog w = .ok 1 w := by kernel_rfl
theorem cutA_add (g off k cap sz : Nat) : cutA (some ⟨g, off, none⟩) k cap sz = some ⟨g, if cap = k then off else off + k * sz, none⟩ := by
  unfold cutA
  by_cases h : cap = k
  · rw [if_pos h, if_pos h]
  · rw [if_neg h, if_neg h]
    simp only [Option.map_some, Option.some.injEq]
    unfold Addr.add
    split
    · rename_i h0
      rw [h0, Nat.add_zero]
    · rfl
theorem cutA_blk (A : Option Addr) (k cap sz : Nat) : blkOf (cutA A k cap sz) = blkOf A := by
  unfold cutA blkOf
  split
  · rfl
  · cases A with
    | none => rfl
    | some a =>
      simp only [Option.map_some, Option.some.injEq]
      unfold Addr.add
      split <;> rfl
theorem IRow.len {w : World} {A : Option Addr} {c : Nat} {l : List Int} (h : IRow w A c l) : l.length ≤ c := by
  rcases h with ⟨rfl, rfl, rfl⟩ | ⟨g, off, cs, rfl, h1, h2, h3, h4, h5⟩
  · exact Nat.le_refl _
  · exact h4
theorem IRow.cutLo {w : World} {A : Option Addr} {c k : Nat} {l : List Int} (h : IRow w A c l) (hk : k ≤ l.length) : IRow w (cutA A k c 1) (c - k) (l.drop k) := by
  rcases h with ⟨rfl, rfl, rfl⟩ | ⟨g, off, cs, rfl, h1, h2, h3, h4, h5⟩
  · obtain rfl : k = 0 := by simpa using hk
    exact .inl ⟨rfl, rfl, rfl⟩
  · rw [cutA_add]
    by_cases h0 : c = k
    · subst h0
      rw [if_pos rfl, Nat.sub_self, List.drop_eq_nil_of_le h4]
      exact .inr ⟨g, off, cs, rfl, h1, rfl, by omega, Nat.le_refl _, Nat.zero_le _⟩
    · rw [if_neg h0, Nat.mul_one]
      refine .inr ⟨g, off + k, cs, rfl, h1, ?_, by omega, by rw [List.length_drop]; omega, by omega⟩
      have h6 := congrArg (List.drop k) h2
      rw [List.drop_take, List.drop_drop] at h6
      rw [List.length_drop, h6]
      unfold nums
      rw [List.map_drop]
theorem IRow.cutHi {w : World} {A : Option Addr} {c k : Nat} {l : List Int} (h : IRow w A c l) : IRow w (cutA A 0 c 1) c (l.take k) := by
  rcases h with ⟨rfl, rfl, rfl⟩ | ⟨g, off, cs, rfl, h1, h2, h3, h4, h5⟩
  · exact .inl ⟨rfl, List.take_nil, rfl⟩
  · rw [cutA_add]
    refine .inr ⟨g, if c = 0 then off else off + 0 * 1, cs, rfl, h1, ?_, ?_, by rw [List.length_take]; omega, h5⟩
    · have e : (if c = 0 then off else off + 0 * 1) = off := by split <;> omega
      rw [e]
      have h6 := congrArg (List.take k) h2
      rw [List.take_take] at h6
      rw [List.length_take, h6]
      unfold nums
      rw [List.map_take]
    · split <;> omega
theorem IRow.take {w : World} {A : Option Addr} {c : Nat} {l : List Int} (h : IRow w A c l) (k : Nat) : IRow w A c (l.take k) := by
  have h1 := h.cutHi (k := k)
  rcases h with ⟨rfl, rfl, rfl⟩ | ⟨g, off, cs, rfl, _⟩
  · exact h1
  · rw [cutA_add] at h1
    split at h1
    · exact h1
    · rw [Nat.zero_mul, Nat.add_zero] at h1
      exact h1
theorem exec_two {ρ : Operand → Value} {o : Oper} (x y : Operand) (A1 A2 : Option Addr) (n1 c1 n2 c2 : Nat) (ho : o.op = .buildSlice 128 2 #[(0, x), (1, y)]) (hx : ρ x = .slice A1 n1 c1) (hy : ρ y = .slice A2 n2 c2) (w : World) :
    (execOp ρ o).run Try.prog w = .ok (.value (.slice (some ⟨w.heap.size, 0, none⟩) 2 2)) (w.alloc (.cells #[.slice A1 n1 c1, .slice A2 n2 c2] 23)) := by
  unfold execOp
  simp only [ho, List.map_toArray, List.map_cons, List.map_nil, hx, hy]
  go_simp
theorem nodes_le : nodes.Pairwise (· ≤ ·) := by unfold nodes; decide
theorem all_sorted {f : Known} (h : Sane f) : ((all f).map Mem.n).Pairwise (· ≤ ·) := by
  unfold all
  have hp : ∀ ks : List Int, ks.Pairwise (· ≤ ·) → ((ks.filterMap f).map Mem.n).Pairwise (· ≤ ·) := by
    intro ks hks
    induction ks with
    | nil => exact List.Pairwise.nil
    | cons x r ih =>
      have h1 := List.pairwise_cons.1 hks
      rw [List.filterMap_cons]
      cases hf : f x with
      | none => exact ih h1.2
      | some m =>
        rw [List.map_cons, List.pairwise_cons]
        refine ⟨fun y hy => ?_, ih h1.2⟩
        obtain ⟨m2, hm2, rfl⟩ := List.mem_map.1 hy
        obtain ⟨z, hz, hf2⟩ := List.mem_filterMap.1 hm2
        rw [(h x m hf).2, (h z m2 hf2).2]
        exact h1.1 z hz
  exact hp nodes nodes_le
theorem present_sorted {f : Known} (h : Sane f) : (present f).Pairwise (· ≤ ·) := by
  unfold present
  have h1 := all_sorted h
  exact h1.sublist (List.filter_sublist.map Mem.n)
theorem peers_sorted {t : Sct} (h : Sane t.v) : t.peers.Pairwise (· ≤ ·) := (present_sorted h).filter _
section
variable {H : Type} {w : World} {O : Nat → Prop} {M : Nat} {b : Blk} {t : Sct}
set_option maxRecDepth 100000 in
set_option maxHeartbeats 1000000 in
theorem near_any (h : ScAt H w O M b t) : Calls Try.prog 27 #[.pointer (some ⟨b.s, 0, none⟩)] w fun e w' => ∃ A c, e = .returned (.slice A t.near.length c) ∧ IRow w' A c t.near ∧ (∀ g, blkOf A = some g → w.heap.size ≤ g) ∧ Below w.heap.size w w' := by
  have hs0 := h.hd.lt
  have c2 := h.cell (i := 2) (v := .int .i64 t.tgt) rfl
  have HP := Lib.hid (peers_any h)
  have HPS := Lib.hid (peers_sorted h.view.2.2.1)
  have HPL := Lib.hid (peers_len t)
  obtain ⟨s, hs⟩ : ∃ s, s = b.s := ⟨_, rfl⟩
  obtain ⟨x, hx⟩ : ∃ x, x = t.tgt := ⟨_, rfl⟩
  obtain ⟨P, hP⟩ : ∃ P, P = t.peers := ⟨_, rfl⟩
  obtain ⟨k, hk⟩ : ∃ k, k = P.countP (· < x) := ⟨_, rfl⟩
  have HN := Lib.hid (show t.near = (if P.contains x = true then (P.drop k ++ P.take k).tail else P.drop k ++ P.take k).take 2 by
    have e : t.nearAt = k := by rw [hk, hP, hx, List.countP_eq_length_filter]; rfl
    unfold Sct.near Sct.around
    rw [e, ← hP, ← hx]
    simp only [List.contains_iff_mem])
  rw [← hs, ← hP] at HP
  rw [← hP] at HPS HPL
  rw [← hs, ← hx] at c2
  rw [← hs] at hs0 ⊢
  have HK := Lib.hid hk
  clear h hs hx hP hk
  go_enter Try.func27, Try.ntmps27
  go_wp2_with fail
  refine HP.out.mono ?_
  rintro e w1 ⟨A, c, rfl, hR1, hlo1, hb1⟩
  have c2' : w1.cell? ⟨s, 2, none⟩ = some (.int .i64 x) := (World.cell?_of_block (hb1.block s hs0)).trans c2
  have HS := Lib.hid (search_row hR1 (by have := HPL.out; omega) HPS.out x)
  have HR1 := Lib.hid hR1
  have HLO := Lib.hid hlo1
  have HB1 := Lib.hid hb1
  obtain ⟨n, hn⟩ : ∃ n, n = P.length := ⟨_, rfl⟩
  rw [← HK.out, ← hn] at HS
  rw [← hn]
  have HNN := Lib.hid hn
  have hkn : k ≤ n := by rw [hn, HK.out]; exact List.countP_le_length
  have hn6 : n ≤ 6 := by rw [hn]; exact HPL.out
  have hnc : n ≤ c := by rw [hn]; exact hR1.len
  obtain ⟨is, his⟩ : ∃ is, is = P.contains x := ⟨_, rfl⟩
  rw [← his] at HS HN
  have HIS0 := Lib.hid (show is = true → 1 ≤ n from fun e => by
    rw [his] at e
    cases P with
    | nil => cases e
    | cons y r => rw [hn, List.length_cons]; omega)
  clear hR1 hlo1 hb1 HP c2 hn his
  go_wp2_with fail
  refine HS.out.mono ?_
  rintro e w2 ⟨rfl, q, rfl⟩
  have HB2 := Lib.hid (show Below w1.heap.size w1 (w1.drewN q) from below_drewN (Below.refl _ _) q)
  obtain ⟨w2, hw2⟩ : ∃ w2, w2 = w1.drewN q := ⟨_, rfl⟩
  rw [← hw2] at HB2 ⊢
  clear hw2 HS c2'
  go_wp2_with fail
  refine wp_region_mix [(0, true), (1, true), (2, true), (3, true), (4, true), (5, true), (6, false), (7, false), (8, true)] (Behind w2) (by kernel_rfl) (by kernel_rfl) (fun _ _ d _ _ h => by cases d <;> exact h) (by kernel_rfl) (by decide) (Below.refl _ _).drew ?_
  iterate 6 (
    first
      | (refine wpMix_q (by with_unfolding_all rfl) (by kernel_rfl) ?_
         first
          | go_big_quiet_skip
          | ((with_reducible refine wpQuiet_val (.slice (cutA A k c 1) (n - k) (c - k)) (by with_unfolding_all rfl) (fun w _ => exec_slice_l elem_ints size_ints _ _ (by with_unfolding_all rfl) A n c k (by with_unfolding_all rfl) (by with_unfolding_all rfl) hkn w) ?_); simp only [Act.put, List.setIfInBounds_toArray, List.set_cons_zero, List.set_cons_succ])
          | ((with_reducible refine wpQuiet_val (.slice (cutA A 0 c 1) k c) (by with_unfolding_all rfl) (fun w _ => exec_slice_h elem_ints size_ints _ _ (by with_unfolding_all rfl) A n c k (by with_unfolding_all rfl) (by with_unfolding_all rfl) (Nat.le_trans hkn hnc) w) ?_); simp only [Act.put, List.setIfInBounds_toArray, List.set_cons_zero, List.set_cons_succ])
          | (go_big_quiet_step (exact fun _ => rfl))
         refine wpMix_qnil ?_))
  obtain ⟨w3, hw3⟩ : ∃ w3, w3 = w2.drew.alloc (.cells #[.slice (cutA A k c 1) (n - k) (c - k), .slice (cutA A 0 c 1) k c] 23) := ⟨_, rfl⟩
  have hb3 : Below w2.heap.size w2 w3 := by rw [hw3]; exact (Below.refl _ _).drew.alloc (Nat.le_refl _) _
  have hR3 : IRow w3 A c P := (HR1.out.below HB2.out).below hb3
  have hA3 : At w3 w2.heap.size 23 [.slice (cutA A k c 1) (P.drop k).length (c - k), .slice (cutA A 0 c 1) (P.take k).length c] := by
    rw [hw3, List.length_drop, List.length_take, ← HNN.out, Nat.min_eq_left hkn]
    exact At.newA _ _ rfl
  refine wpMix_put (.slice (some ⟨w2.drew.heap.size, 0, none⟩) 2 2) w3 (by with_unfolding_all rfl) (by with_unfolding_all rfl) (by rw [hw3]; exact exec_two (.tmp 21) (.tmp 24) _ _ _ _ _ _ (by with_unfolding_all rfl) (by with_unfolding_all rfl) (by with_unfolding_all rfl) _) hb3 ?_
  simp only [Act.put, List.setIfInBounds_toArray, List.set_cons_zero, List.set_cons_succ]
  rw [show w2.drew.heap.size = w2.heap.size from rfl]
  refine wpMix_call 48 [.slice (some ⟨w2.heap.size, 0, none⟩) 2 2] (fun v w4 => ∃ A2 c2, v = .slice A2 (P.drop k ++ P.take k).length c2 ∧ IRow w4 A2 c2 (P.drop k ++ P.take k) ∧ (∀ g, blkOf A2 = some g → w3.heap.size ≤ g) ∧ Below w3.heap.size w3 w4) (by with_unfolding_all rfl) (by with_unfolding_all rfl) (by with_unfolding_all rfl) ((concat_any (hR3.cutLo (by rw [← HNN.out]; exact hkn)) hR3.cutHi (by rw [List.length_drop]; have := HPL.out; omega) (by have := List.length_take_le k P; rw [List.length_take]; have := HPL.out; omega) hA3).mono fun e w4 ⟨A2, c2, he, h1, h2, h3⟩ => ⟨_, he, Below.trans hb3 (Below.mono h3 hb3.size), A2, c2, rfl, h1, h2, h3⟩) ?_
  rintro v4 w4 hS4 ⟨A2, c2, rfl, hR4, hlo4, hb4⟩
  simp only [Act.put, List.setIfInBounds_toArray, List.set_cons_zero, List.set_cons_succ]
  iterate 1 (
    first
      | (refine wpMix_q (by with_unfolding_all rfl) (by kernel_rfl) ?_
         first
          | go_big_quiet_skip
          | (go_big_quiet_step (exact fun _ => rfl))
         refine wpMix_qnil ?_))
  refine wpMix_nil ?_
  obtain ⟨L, hL⟩ : ∃ L, L = P.drop k ++ P.take k := ⟨_, rfl⟩
  rw [← hL] at HN hR4 ⊢
  obtain ⟨m, hm⟩ : ∃ m, m = L.length := ⟨_, rfl⟩
  rw [← hm]
  have hm6 : m ≤ 12 := by rw [hm, hL, List.length_append, List.length_drop, List.length_take]; have := HPL.out; omega
  have hmn : m = n := by rw [hm, hL, List.length_append, List.length_drop, List.length_take, ← HNN.out]; omega
  have hmc : m ≤ c2 := by rw [hm]; exact hR4.len
  have HM := Lib.hid hm
  have HR4 := Lib.hid hR4
  have HF := Lib.hid (show ∀ g, blkOf A2 = some g → w.heap.size ≤ g from fun g hg => Nat.le_trans (Nat.le_trans HB1.out.size (Nat.le_trans HB2.out.size hb3.size)) (hlo4 g hg))
  have HB4 := Lib.hid (show Below w.heap.size w w4 from HB1.out.trans ((HB2.out.trans ((Below.trans hb3 (hb4.mono hb3.size)).mono HB2.out.size)).mono HB1.out.size))
  have HMN := Lib.hid hmn
  have HIS := Lib.hid (show is = true → 1 ≤ m from fun e => by rw [hmn]; exact HIS0.out e)
  clear hS4 hlo4 hb4 hL hm hR3 hA3 hw3 hb3 hR4 HR1 HLO HB1 HB2 HNN hmn
  cases is
  · have HN2 := Lib.hid (show t.near = L.take 2 from HN.out)
    go_wp2_with fail
    go_ret
    have e : (min (2 : Int) (m : Int)).toNat = (L.take 2).length := by rw [List.length_take, ← HM.out]; omega
    rw [e, HN2.out]
    exact ⟨A2, c2, rfl, HR4.out.take 2, HF.out, HB4.out⟩
  · have hm1 := HIS.out rfl
    have HN2 := Lib.hid (show t.near = L.tail.take 2 from HN.out)
    obtain ⟨g, off, rfl⟩ : ∃ g off, A2 = some ⟨g, off, none⟩ := by
      rcases HR4.out with ⟨_, h, _⟩ | ⟨g, o, _, h, _⟩
      · have := HM.out; rw [h] at this; simp at this; omega
      · exact ⟨g, o, h⟩
    have hR := HR4.out.cutLo (k := 1) (by rw [← HM.out]; exact hm1)
    rw [List.drop_one] at hR
    have e : (min (2 : Int) ((m - 1 : Nat) : Int)).toNat = (L.tail.take 2).length := by rw [List.length_take, List.length_tail, ← HM.out]; omega
    have HE := Lib.hid e
    by_cases h1 : c2 = 1
    · subst h1
      rw [cutA_add, if_pos rfl] at hR
      have HR := Lib.hid hR
      clear hR e
      obtain rfl : m = 1 := by omega
      go_wp2_with fail
      go_ret
      have e : (min (2 : Int) ((0 : Nat) : Int)).toNat = (L.tail.take 2).length := HE.out
      rw [HN2.out, ← e]
      exact ⟨_, _, rfl, HR.out.take 2, HF.out, HB4.out⟩
    · rw [cutA_add, if_neg h1] at hR
      have HR := Lib.hid hR
      clear hR e
      go_wp2_with fail
      go_ret
      rw [HE.out, HN2.out]
      exact ⟨_, _, rfl, HR.out.take 2, HF.out, HB4.out⟩
end
end Go.Proofs.Ytghefmppjdneoaa

namespace Go.Proofs
open Go.RowKit Go.Sort Go.Shelf
shelf_lay_g SlLaysE0.n41 Slgn 41 at Try 40 as Try.cloneS
shelf_lay_g SlLaysE0.n41 Slgn 41 at Try 53 as Try.cloneL
end Go.Proofs
namespace Go.Proofs.Ytghefmppjdneoaa
open Go.Proofs Stab Go.Shelf Go.RowKit Go.Lib Go.Sort Go.Maps

/-- a frame, and where its rumours lie -/
structure Fp where
  x : Fr
  A : Option Addr
  c : Nat
def Fp.cells (p : Fp) : List Value := sentC p.x p.A p.c
def fpsC (L : List Fp) : List Value := L.flatMap Fp.cells
theorem flat_len {α : Type} (f : α → List Value) (k : Nat) (l : List α) (h : ∀ x ∈ l, (f x).length = k) : (l.flatMap f).length = l.length * k := by
  induction l with
  | nil => simp
  | cons x r ih =>
    rw [List.flatMap_cons, List.length_append, h x List.mem_cons_self, ih fun y hy => h y (List.mem_cons_of_mem _ hy), List.length_cons, Nat.add_mul]
    omega
theorem fpsC_len (L : List Fp) : (fpsC L).length = L.length * 238 := flat_len _ 238 L fun _ _ => sentC_len _ _ _
theorem bares_len (l : List Fr) : (l.flatMap bareC).length = l.length * 238 := flat_len _ 238 l fun _ _ => sentC_len _ _ _
theorem bares_one (l : List Fr) : ∀ u ∈ l.flatMap bareC, u.oneCell' = true := by
  intro u hu
  obtain ⟨x, _, hx⟩ := List.mem_flatMap.1 hu
  exact sentC_one _ _ _ u hx
/-- a frame's sender and rumours are written -/
theorem bare_set (x : Fr) (me : Int) (rum : List Mem) (A : Option Addr) (c : Nat) : ((bareC x).set 2 (.int .i64 me)).set 237 (.slice A rum.length c) = sentC { x with frm := me, rum := rum } A c := by
  unfold bareC sentC frameC
  simp only [List.set_cons_succ, List.set_cons_zero]
  rw [List.set_append_right _ _ (by rw [frZ_len]; exact Nat.le_refl _), frZ_len]
  rfl
theorem set_mid (X B Y : List Value) (k : Nat) (v : Value) (hk : k < B.length) : (X ++ (B ++ Y)).set (X.length + k) v = X ++ (B.set k v ++ Y) := by
  rw [List.set_append_right _ _ (by omega), Nat.add_sub_cancel_left, List.set_append_left _ _ hk]
/-- the i-th frame of a row is written -/
theorem row_set {L : List Fp} {l : List Fr} {x : Fr} (r : List Fr) (hx : l = x :: r) (sp : List Value) (me : Int) (rum : List Mem) (A : Option Addr) (c : Nat) :
    ((fpsC L ++ (l.flatMap bareC ++ sp)).set (L.length * 238 + 2) (.int .i64 me)).set (L.length * 238 + 237) (.slice A rum.length c) = fpsC (L ++ [⟨{ x with frm := me, rum := rum }, A, c⟩]) ++ (r.flatMap bareC ++ sp) := by
  subst hx
  rw [List.flatMap_cons, List.append_assoc, ← fpsC_len, set_mid _ _ _ _ _ (by unfold bareC; rw [sentC_len]; omega), set_mid _ _ _ _ _ (by rw [List.length_set]; unfold bareC; rw [sentC_len]; omega), bare_set]
  unfold fpsC
  rw [List.flatMap_append, List.flatMap_cons, List.flatMap_nil, List.append_nil, List.append_assoc]
  rfl
theorem tell_take (s : Sct) (l : List Fr) (i : Nat) (hi : i < l.length) : s.tell (l.take (i + 1)) = Sct.tell1 (s.tell (l.take i)) l[i] := by
  unfold Sct.tell
  rw [List.take_succ_eq_append_getElem hi, List.foldl_append]
  rfl
theorem tell_me (s : Sct) (l : List Fr) : (s.tell l).1 = { s with f := (s.tell l).1.f } := by
  unfold Sct.tell
  have h : ∀ (l : List Fr) (a : Sct × List Fr), a.1 = { s with f := a.1.f } → (l.foldl Sct.tell1 a).1 = { s with f := (l.foldl Sct.tell1 a).1.f } := by
    intro l
    induction l with
    | nil => exact fun a h => h
    | cons x r ih =>
      intro a h
      rw [List.foldl_cons]
      refine ih _ ?_
      unfold Sct.tell1
      rw [h]
  exact h l _ rfl
/-- a row of frames that bear their rumours, each somewhere behind B -/
def Sents (w : World) (B : Nat) (v : Value) (l : List Fr) : Prop :=
  ∃ (L : List Fp) (A : Option Addr) (c : Nat), L.map (·.x) = l ∧ v = .slice A L.length c ∧ (∀ p ∈ L, MemsIn w p.A p.x.rum ∧ p.x.rum.length ≤ 6 ∧ ∀ g, blkOf p.A = some g → B ≤ g) ∧
    (L = [] ∨ ∃ g, A = some ⟨g, 0, none⟩ ∧ B ≤ g ∧ g < w.heap.size ∧ w.rangeAt g 0 (fpsC L))
/-- a row of frames without rumours -/
def Bares (w : World) (v : Value) (l : List Fr) : Prop :=
  (l = [] ∧ v = .slice none 0 0) ∨ ∃ g off c, v = .slice (some ⟨g, off, none⟩) l.length c ∧ g < w.heap.size ∧ w.rangeAt g off (l.flatMap bareC) ∧ l.length ≤ 100
theorem info_sent3 : (Try.prog.info? 59).map (fun i => (i.zero, i.size, i.bytes)) = some (some (.agg (bareC ⟨0, 0, 0, 0, 0, []⟩).toArray), 238, 408) := by kernel_rfl
theorem info_relay3 : (Try.prog.info? 113).map (fun i => (i.zero, i.size, i.bytes)) = some (some (.agg (relC ⟨0, 0, 0, 0⟩).toArray), 4, 32) := by kernel_rfl
section
variable {H : Type} {w w' w0 : World} {O : Nat → Prop} {M : Nat} {b : Blk} {t : Sct}
theorem Bares.below {v : Value} {l : List Fr} (h : Bares w v l) (hb : Below w.heap.size w w') : Bares w' v l := by
  rcases h with h | ⟨g, off, c, h1, h2, h3, h4⟩
  · exact .inl h
  · exact .inr ⟨g, off, c, h1, Nat.lt_of_lt_of_le h2 hb.size, fun j u hu => (World.cell?_of_block (hb.block g h2)).trans (h3 j u hu), h4⟩
theorem Bares.own {v : Value} {l : List Fr} {B : Nat} (h : w.ownsRow B 59 238 v l.length (l.flatMap bareC)) (hl : l.length ≤ 100) : Bares w v l := by
  rcases h.2 with ⟨h1, h2⟩ | ⟨g, cap, cur, h1, h2, h3, h4, h5, h6, h7⟩
  · exact .inl ⟨List.length_eq_zero_iff.1 (by omega), h1⟩
  · refine .inr ⟨g, 0, cap, h1, (Array.getElem?_eq_some_iff.1 h3).1, fun j u hu => ?_, hl⟩
    have := h.cells (g := g) (by rw [h1]; rfl) j u hu
    rwa [Addr.add_lit] at this
/-- rumours are taken -/
theorem take_step (h : ScAt H w O M b t) : Calls Try.prog 41 #[.pointer (some ⟨b.ph, 0, none⟩), .int .i64 6] w fun e w' => ∃ A c, e = .returned (.slice A ((Hm.told 6 t.f).map fun r => r.m).length c) ∧ MemsIn w' A ((Hm.told 6 t.f).map fun r => r.m) ∧ (∀ g, blkOf A = some g → w.heap.size ≤ g) ∧ ((Hm.told 6 t.f).map fun r => r.m).length ≤ 6 ∧ ScAt H w' O M b { t with f := Hm.rest 6 t.f } ∧ Keeps (fun i => ¬ O i) w w' := by
  obtain ⟨A, h1, h2, h3⟩ := h.hum
  refine (take_any h1 6 (by omega)).mono ?_
  rintro e w' ⟨v, rfl, hH, hK, hO⟩
  obtain ⟨A2, c, rfl, hM, hlo⟩ := Mems.own (l := (Hm.told 6 t.f).map fun r => r.m) (by rw [List.length_map]; exact hO)
  refine ⟨A2, c, rfl, hM, ?_, ?_, h.took h2 h3 hH hK, ⟨hK.os, hK.tape, hK.output, hK.size, fun i hi hl => hK.block i (h3 i hl hi) hl⟩⟩
  · intro g hg
    cases A2 with
    | none => cases hg
    | some a =>
      obtain ⟨ab, ao, a3⟩ := a
      rcases hO.2 with ⟨h1, _⟩ | ⟨g2, cap, cur, fr, h1, h4, _⟩
      · injection h1 with e1
        cases e1
      · injection h1 with e1
        cases e1
        cases hg
        exact h4
  · rw [List.length_map]
    unfold Hm.told
    rw [List.length_take]
    exact Nat.min_le_left _ _
end
end Go.Proofs.Ytghefmppjdneoaa
