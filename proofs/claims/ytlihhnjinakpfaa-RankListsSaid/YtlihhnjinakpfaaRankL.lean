/- RankLists, the walk: it answers true for every row of members. -/
import Derived.Test.YtlihhnjinakpfaaRankK
import Derived.Test.YtlihhnjinakpfaaRankR
namespace Go.Proofs.Ytlihhnjinakpfaa
open Go.RowKit Go.Maps Go.Sort

/-- worlds behind a world -/
def Behind (w0 w' : World) : Prop := Below w0.heap.size w0 w'
set_option maxRecDepth 100000 in
set_option maxHeartbeats 1000000 in
theorem lists_walk (A : Option Addr) (c : Nat) (l : List Mem) (w : World) (hl : MemsIn w A l) (hn : l.length ≤ maxLen) (hi64 : ∀ m ∈ l, m.Wf) :
    Calls Try.prog 7 #[.slice A l.length c] w fun e w' => e = .returned (.bool true) ∧ Below w.heap.size w w' := by
  have HL := Lib.hid hl
  have HW := Lib.hid hi64
  clear hl hi64
  have hn' : l.length ≤ 9223372036854775807 := hn
  go_enter Try.func7, Try.ntmps7
  by_cases h100 : 100 < l.length
  · go_wp2_with fail
    refine (awake_any _).mono ?_
    rintro e w1 ⟨rfl, hb⟩
    have HB1 := Lib.hid hb
    clear hb
    go_wp2_with fail
    go_ret
    exact ⟨rfl, HB1.out⟩
  go_wp2_with fail
  refine (awake_any _).mono ?_
  rintro e w1 ⟨rfl, hb⟩
  have HB1 := Lib.hid hb
  clear hb
  go_wp2_with fail
  refine (new_any (H := Unit) A c l (HL.out.below HB1.out) (by omega) (fun m hm => (HW.out m hm).1)).mono ?_
  rintro e w2 ⟨p, b, rfl, hV, hb, hp, hb'⟩
  obtain ⟨f, hf⟩ : ∃ f, f = (merge (fun _ => none) l).1 := ⟨_, rfl⟩
  have hs : Sane f := by rw [hf]; exact sane_merge l sane_none
  rw [← hf] at hV
  have HV := Lib.hid hV
  have HS := Lib.hid hs
  have HB2 := Lib.hid (HB1.out.trans (hb.mono HB1.out.size))
  clear hV hb hf hs HB1 hp hb'
  go_wp2_with fail
  refine (all_any HV.out).mono ?_
  rintro e w3 ⟨v, rfl, hO, hb⟩
  obtain ⟨L, hL⟩ : ∃ L, L = all f := ⟨_, rfl⟩
  rw [← hL] at hO
  obtain ⟨A2, c2, rfl, hM, _⟩ := Mems.own hO
  have HLL := Lib.hid hL
  have HM := Lib.hid hM
  have HV3 := Lib.hid (view_below HV.out hb)
  have HB3 := Lib.hid (HB2.out.trans (hb.mono HB2.out.size))
  clear hO hb hM hL HB2 HV
  go_wp2_with fail
  refine (present_any HV3.out).mono ?_
  rintro e w4 ⟨v, rfl, hO, hb⟩
  obtain ⟨P, hP⟩ : ∃ P, P = present f := ⟨_, rfl⟩
  rw [← hP] at hO
  obtain ⟨A3, c3, rfl, hI⟩ := ints_own hO
  have hPL : P = presentL L := by rw [hP, HLL.out]; rfl
  have HP := Lib.hid hPL
  have HI := Lib.hid hI
  have HM4 := Lib.hid (HM.out.below hb)
  have HV4 := Lib.hid (view_below HV3.out hb)
  have HB4 := Lib.hid (HB3.out.trans (hb.mono HB3.out.size))
  have hL6 : L.length ≤ 6 := by rw [HLL.out]; exact List.length_filterMap_le _ nodes
  have hpl : P.length ≤ L.length := by rw [hPL]; exact presentL_len L
  clear hO hb hI hP hPL HM HV3 HB3
  go_wp2_with fail
  go_loopw [6, 7] (fun at' i wr => ∃ k : Nat, k ≤ L.length ∧ i = .int .i64 k ∧ at' = .int .i64 ((presentL (L.take k)).length : Nat) ∧ Below w4.heap.size w4 wr) (fun _ i _ => L.length - (RowKit.intOf i).toNat)
  case atStart => exact ⟨0, by omega, rfl, rfl, Below.refl _ _⟩
  case round =>
    obtain ⟨k, hk, rfl, rfl, hb⟩ := hrel
    obtain ⟨q, hq⟩ : ∃ q, q = (presentL (L.take k)).length := ⟨_, rfl⟩
    rw [← hq]
    have hqP : q ≤ k := by rw [hq]; have := presentL_len (L.take k); rw [List.length_take] at this; omega
    by_cases hlt : k < L.length
    · obtain ⟨m, hm⟩ : ∃ m, m = L[k] := ⟨_, rfl⟩
      obtain ⟨g, off, rfl, c0, c1, c2⟩ := HM4.out.cells (w' := wr) (N := 0) (fun g off e hlt' => hb.block g hlt') hlt rfl
      have hg : f m.n = some m ∧ m.good = true := by
        rw [hm]
        have := HLL.out
        subst this
        exact all_get HS.out hlt
      have hw : m.Wf := by
        have h6 := (Mem.good_iff m).1 hg.2
        unfold Mem.Wf
        omega
      have hpres : m.s ≤ 1 → ∃ h : q < P.length, P[q] = m.n := fun h1 => by
        rw [hm] at h1 ⊢
        have := HP.out
        subst this
        obtain ⟨h, h2⟩ := present_at hlt h1
        subst hq
        exact ⟨h, h2⟩
      have hnext : (presentL (L.take (k + 1))).length = if m.s ≤ 1 then q + 1 else q := by
        rw [presentL_snoc L k hlt, ← hm, List.length_append, ← hq]
        split <;> simp
      have hs3 : 0 ≤ m.s ∧ m.s ≤ 3 := by have := (Mem.good_iff m).1 hg.2; omega
      rw [← hm] at c0 c1 c2
      have HPR := Lib.hid hpres
      have HNX := Lib.hid hnext
      have HQ := Lib.hid hq
      clear hq hpres hnext
      have HG := Lib.hid hg
      have HW2 := Lib.hid hw
      have HX := Lib.hid hm
      have HBr := Lib.hid hb
      have HVr := Lib.hid (view_below HV4.out hb)
      have hs4 : w4.heap.size ≤ wr.heap.size := hb.size
      clear hm hb hg hw
      go_wp2_with fail
      refine (get_any HVr.out m.n (by have := HW2.out.1; omega) (by have := HW2.out.1; omega)).mono ?_
      rintro e w5 ⟨rfl, hb⟩
      rw [show found f m.n = .tuple #[memV m, .bool true] from by unfold found; rw [HG.out.1]]
      clear c0 c1 c2
      have hb5 := HBr.out.trans (hb.mono HBr.out.size)
      obtain ⟨g', off', e', c0, c1, c2⟩ := HM4.out.cells (w' := w5) (N := 0) (fun g off e hlt' => hb5.block g hlt') hlt rfl
      injection e' with e'
      injection e' with e1 e2
      subst e1 e2
      rw [← HX.out] at c0 c1 c2
      have HB5 := Lib.hid hb5
      clear hb hb5 HVr HBr hs4
      have hN6 : At (w5.alloc (.cells #[.int .i64 m.n, .int .i64 m.i, .int .i64 m.s] 28)) w5.heap.size 28 (cellsM m) := memAt w5 m
      have hM5 := HM4.out.below (HB5.out)
      obtain ⟨w6, hw6⟩ : ∃ w6, w6 = w5.alloc (.cells #[.int .i64 m.n, .int .i64 m.i, .int .i64 m.s] 28) := ⟨_, rfl⟩
      rw [← hw6] at hN6
      have hs6 : w6.heap.size = w5.heap.size + 1 := by rw [hw6]; simp
      have hb6 : Below w4.heap.size w4 w6 := by rw [hw6]; exact HB5.out.alloc HB5.out.size _
      have HB6 := Lib.hid hb6
      have HU := Lib.hid Try.underlying28
      have HI3 := Lib.hid (show (Try.prog.info? 28).map (·.size) = some (cellsM m).length by kernel_rfl)
      have HRm := Lib.hid (show ∀ w', Behind w6 w' → w'.rangeAt w5.heap.size 0 (cellsM m) from fun w' h => (hN6.below h hN6.lt).range 0 3)
      have HRg := Lib.hid (show ∀ w', Behind w6 w' → w'.rangeAt g (off + k * 3) (cellsM m) from fun w' h => by
        obtain ⟨g', off', e', hlt', hc⟩ := HM4.out.below (hb6.trans (Below.mono h hb6.size)) (by omega)
        injection e' with e'
        injection e' with e1 e2
        subst e1 e2
        rw [HX.out]
        exact hc k hlt)
      have HCg := Lib.hid (show ∀ w', Behind w6 w' → ∀ j (hj : j < L.length), w'.cell? ⟨g, off + j * 3, none⟩ = some (.int .i64 L[j].n) from fun w' h j hj => by
        obtain ⟨g', off', e', hlt', hc⟩ := HM4.out.below (hb6.trans (Below.mono h hb6.size)) (by omega)
        injection e' with e'
        injection e' with e1 e2
        subst e1 e2
        exact hc j hj 0 _ rfl)
      have HW6 := Lib.hid hw6
      have HGd := Lib.hid (show ∀ w', Behind w6 w' → Calls Try.prog 18 #[memV m] w' fun e w'' => e = .returned (.bool true) ∧ Behind w6 w'' from fun w' h => (good_at m true HG.out.2 _).mono fun e w'' ⟨he, hbx⟩ => ⟨he, Below.trans h (hbx.mono (Below.size h))⟩)
      have HQn := Lib.hid (show ∀ w, (binOp .neq 28 (memV m) (memV m)).run Try.prog w = .ok (.bool false) w from fun w => by rw [run_neq_mem]; simp)
      clear hN6 hM5 hb6 hw6 c0 c1 c2
      unfold memV
      go_wp2_with fail
      rw [← HW6.out]
      rcases Nat.eq_zero_or_pos k with hk0 | hk0
      · subst hk0
        refine wp_region_class (Behind w6) (by kernel_rfl) (by kernel_rfl) (Below.refl _ _).drew ?_
        iterate 33 (first
          | go_big_quiet_skip
          | (with_reducible refine wpQuiet_loadAll (by with_unfolding_all rfl) 28 _ (by with_unfolding_all rfl) (w5.heap.size) 0 (by with_unfolding_all rfl) (cellsM m) _ (fun w h => HRm.out w h) HU.out (by with_unfolding_all rfl) HI3.out ?_; simp only [Act.put, List.setIfInBounds_toArray, List.set_cons_zero, List.set_cons_succ])
          | (with_reducible refine wpQuiet_loadAll (by with_unfolding_all rfl) 28 _ (by with_unfolding_all rfl) g (off + 0 * 3) (by with_unfolding_all rfl) (cellsM m) _ (fun w h => HRg.out w h) HU.out (by with_unfolding_all rfl) HI3.out ?_; simp only [Act.put, List.setIfInBounds_toArray, List.set_cons_zero, List.set_cons_succ])
          | (with_reducible refine wpQuiet_call 18 [memV m] (.bool true) (by with_unfolding_all rfl) _ _ (by with_unfolding_all rfl) (by with_unfolding_all rfl) (fun _ => by kernel_rfl) (fun w' h => HGd.out w' h) ?_; simp only [Act.put, List.setIfInBounds_toArray, List.set_cons_zero, List.set_cons_succ])
          | (with_reducible refine wpQuiet_bin (by with_unfolding_all rfl) .neq 28 _ _ _ (by with_unfolding_all rfl) (memV m) (memV m) (.bool _) (by with_unfolding_all rfl) (by with_unfolding_all rfl) (fun w => run_eqGuard_mem w _ _ _ m m) (fun w => HQn.out w) ?_; simp only [Act.put, List.setIfInBounds_toArray, List.set_cons_zero, List.set_cons_succ])
          | (go_big_quiet_step (exact fun _ => rfl)))
        with_reducible refine wpQuiet_nil ?_
        intro w7 h7
        have hr := HRm.out w7 h7
        have s0 : w7.cell? ⟨w5.heap.size, 0, none⟩ = some (.int .i64 m.n) := hr 0 _ rfl
        have s2 : w7.cell? ⟨w5.heap.size, 2, none⟩ = some (.int .i64 m.s) := hr 2 _ rfl
        have hb7 : Below w4.heap.size w4 w7 := HB6.out.trans (Below.mono h7 HB6.out.size)
        have hI7 := HI.out.below hb7
        have HB7 := Lib.hid hb7
        clear h7 hr hb7
        by_cases hs1 : m.s ≤ 1
        · obtain ⟨hqP2, hPq⟩ := HPR.out hs1
          obtain ⟨g3, off3, rfl, hlt3, hc3⟩ := hI7 (by omega)
          have d3 := hc3 q hqP2
          rw [hPq] at d3
          have HS1 := Lib.hid hs1
          clear hPq hc3
          have hs01 : m.s = 0 ∨ m.s = 1 := by omega
          rcases hs01 with e0 | e0
          all_goals
            rw [e0] at s2
            clear e0
            go_wp2_with fail
            go_quiet (fail)
            go_wp2_with fail
            go_roundw
            case rel =>
              refine ⟨0 + 1, by omega, by go_num, ?_, below_drewN HB7.out _⟩
              rw [HNX.out, if_pos HS1.out]
              go_num
            case measure => simp [RowKit.intOf]; omega
        · have n0 : (m.s == 0) = false := by simp; omega
          have n1 : (m.s == 1) = false := by simp; omega
          clear hI7
          go_wp2_with fail
          go_roundw
          case rel =>
            refine ⟨0 + 1, by omega, by go_num, ?_, HB7.out⟩
            rw [HNX.out, if_neg hs1]
          case measure => simp [RowKit.intOf]; omega
      · obtain ⟨j, rfl⟩ : ∃ j, k = j + 1 := ⟨k - 1, by omega⟩
        obtain ⟨x, hx⟩ : ∃ x, x = (L[j]'(by omega)).n := ⟨_, rfl⟩
        have hxm : x < m.n := by
          rw [hx, HX.out]
          have := HLL.out
          subst this
          exact all_rise HS.out (by omega) hlt
        have HCx := Lib.hid (show ∀ w', Behind w6 w' → w'.cell? ⟨g, off + j * 3, none⟩ = some (.int .i64 x) from fun w' h => by rw [hx]; exact HCg.out w' h j (by omega))
        have HCm := Lib.hid (show ∀ w', Behind w6 w' → w'.cell? ⟨g, off + (j + 1) * 3, none⟩ = some (.int .i64 m.n) from fun w' h => by rw [HX.out]; exact HCg.out w' h (j + 1) hlt)
        have HUi := Lib.hid Try.underlying3
        have ew : IntKind.i64.wrap (((j + 1 : Nat) : Int) - 1) = (j : Int) := by rw [IntWalk.i64_in _ (by omega)]; omega
        have i0 : (0 : Int) < ((j + 1 : Nat) : Int) := by omega
        have i1 : (0 : Int) ≤ (j : Int) := by omega
        have i2 : (j : Int) < (L.length : Int) := by omega
        have i3 : ¬ (m.n ≤ x) := by omega
        clear hx
        refine wp_region_class (Behind w6) (by kernel_rfl) (by kernel_rfl) (Below.refl _ _).drew ?_
        iterate 33 (first
          | go_big_quiet_skip
          | (with_reducible refine wpQuiet_loadAll (by with_unfolding_all rfl) 28 _ (by with_unfolding_all rfl) (w5.heap.size) 0 (by with_unfolding_all rfl) (cellsM m) _ (fun w h => HRm.out w h) HU.out (by with_unfolding_all rfl) HI3.out ?_; simp only [Act.put, List.setIfInBounds_toArray, List.set_cons_zero, List.set_cons_succ])
          | (with_reducible refine wpQuiet_loadAll (by with_unfolding_all rfl) 28 _ (by with_unfolding_all rfl) g (off + (j + 1) * 3) (by with_unfolding_all rfl) (cellsM m) _ (fun w h => HRg.out w h) HU.out (by with_unfolding_all rfl) HI3.out ?_; simp only [Act.put, List.setIfInBounds_toArray, List.set_cons_zero, List.set_cons_succ])
          | (with_reducible refine wpQuiet_load1 (.int .i64 x) (by with_unfolding_all rfl) 3 _ (by with_unfolding_all rfl) .i64 HUi.out g (off + j * 3) (by with_unfolding_all rfl) (fun w h => HCx.out w h) ?_; simp only [Act.put, List.setIfInBounds_toArray, List.set_cons_zero, List.set_cons_succ])
          | (with_reducible refine wpQuiet_load1 (.int .i64 m.n) (by with_unfolding_all rfl) 3 _ (by with_unfolding_all rfl) .i64 HUi.out g (off + (j + 1) * 3) (by with_unfolding_all rfl) (fun w h => HCm.out w h) ?_; simp only [Act.put, List.setIfInBounds_toArray, List.set_cons_zero, List.set_cons_succ])
          | (with_reducible refine wpQuiet_call 18 [memV m] (.bool true) (by with_unfolding_all rfl) _ _ (by with_unfolding_all rfl) (by with_unfolding_all rfl) (fun _ => by kernel_rfl) (fun w' h => HGd.out w' h) ?_; simp only [Act.put, List.setIfInBounds_toArray, List.set_cons_zero, List.set_cons_succ])
          | (with_reducible refine wpQuiet_bin (by with_unfolding_all rfl) .neq 28 _ _ _ (by with_unfolding_all rfl) (memV m) (memV m) (.bool _) (by with_unfolding_all rfl) (by with_unfolding_all rfl) (fun w => run_eqGuard_mem w _ _ _ m m) (fun w => HQn.out w) ?_; simp only [Act.put, List.setIfInBounds_toArray, List.set_cons_zero, List.set_cons_succ])
          | (go_big_quiet_step (exact fun _ => rfl)))
        with_reducible refine wpQuiet_nil ?_
        intro w7 h7
        have hr := HRm.out w7 h7
        have s0 : w7.cell? ⟨w5.heap.size, 0, none⟩ = some (.int .i64 m.n) := hr 0 _ rfl
        have s2 : w7.cell? ⟨w5.heap.size, 2, none⟩ = some (.int .i64 m.s) := hr 2 _ rfl
        have hb7 : Below w4.heap.size w4 w7 := HB6.out.trans (Below.mono h7 HB6.out.size)
        have hI7 := HI.out.below hb7
        have HB7 := Lib.hid hb7
        clear h7 hr hb7
        by_cases hs1 : m.s ≤ 1
        · obtain ⟨hqP2, hPq⟩ := HPR.out hs1
          obtain ⟨g3, off3, rfl, hlt3, hc3⟩ := hI7 (by omega)
          have d3 := hc3 q hqP2
          rw [hPq] at d3
          have HS1 := Lib.hid hs1
          clear hPq hc3
          have hs01 : m.s = 0 ∨ m.s = 1 := by omega
          rcases hs01 with e0 | e0
          all_goals
            rw [e0] at s2
            clear e0
            go_wp2_with fail
            go_quiet (fail)
            go_wp2_with fail
            go_roundw
            case rel =>
              refine ⟨(j + 1) + 1, by omega, by go_num, ?_, below_drewN HB7.out _⟩
              rw [HNX.out, if_pos HS1.out]
              go_num
            case measure => simp [RowKit.intOf]; omega
        · have n0 : (m.s == 0) = false := by simp; omega
          have n1 : (m.s == 1) = false := by simp; omega
          clear hI7
          go_wp2_with fail
          go_roundw
          case rel =>
            refine ⟨(j + 1) + 1, by omega, by go_num, ?_, HB7.out⟩
            rw [HNX.out, if_neg hs1]
          case measure => simp [RowKit.intOf]; omega
    · have hkl : k = L.length := by omega
      have HQ := Lib.hid hq
      have HKL := Lib.hid hkl
      have HBr := Lib.hid hb
      have hqe : q = P.length := by rw [hq, hkl, List.take_length, HP.out]
      clear hq hkl hb
      subst hqe
      go_wp2_with fail
      go_ret
      exact ⟨rfl, HB4.out.trans (HBr.out.mono HB4.out.size)⟩
theorem lists_any (A : Option Addr) (c : Nat) (l : List Mem) (w : World) (hl : MemsIn w A l) (hi64 : ∀ m ∈ l, m.Wf) (h1 : l.length ≤ c) (h2 : c ≤ maxLen) (_h3 : A = none → c = 0) :
    Calls Try.prog 7 #[.slice A l.length c] w fun e w' => e = .returned (.bool true) ∧ Below w.heap.size w w' :=
  lists_walk A c l w hl (Nat.le_trans h1 h2) hi64
end Go.Proofs.Ytlihhnjinakpfaa
