/- Layer 12: ScoutFinds, its walk. -/
import Derived.Test.YtghefmppjdneoaaFinMM
namespace Go.Proofs.Ytghefmppjdneoaa
open Go.Proofs Stab Go.Shelf Go.RowKit Go.Lib Go.Sort Go.Maps

def quV (q : Nat → Bool) : List Value := (List.range 6).map fun i => .bool (q i)
theorem quV_at (q : Nat → Bool) {i : Nat} (hi : i < 6) : (quV q)[i]? = some (.bool (q i)) := by
  unfold quV
  rw [List.getElem?_map, List.getElem?_range hi]
  rfl
/-- who is silent: the first j are as they are to be -/
def silJ (q : Nat → Bool) (j : Nat) (x : Int) : Bool := decide (1 ≤ x) && decide (x ≤ (j : Int)) && q (x - 1).toNat
set_option maxRecDepth 100000 in
set_option maxHeartbeats 4000000 in
theorem finds_walk (n : Int) (q : Nat → Bool) (A : Option Addr) (c : Nat) (l : List Int) (w : World) (hl : DRow w A l) :
    Calls Try.prog 3 #[.int .i64 n, .agg (quV q).toArray, .slice A l.length c] w fun e w' => e = .returned (.bool true) ∧ Below w.heap.size w w' := by
  have HL := Lib.hid hl
  have hlen : l.length ≤ 9223372036854775807 := hl.2.1
  obtain ⟨QV, hQV⟩ : ∃ QV, QV = quV q := ⟨_, rfl⟩
  obtain ⟨W1, hW1⟩ : ∃ W1, W1 = w.alloc (.cells QV.toArray 22) := ⟨_, rfl⟩
  have hb0 : Below w.heap.size w W1 := by rw [hW1]; exact (Below.refl _ _).alloc (Nat.le_refl _) _
  have hQ0 : At W1 w.heap.size 22 QV := by rw [hW1]; exact At.new _ _ _
  rw [← hQV]
  have HW1 := Lib.hid hW1
  have HQV := Lib.hid hQV
  have HB0 := Lib.hid hb0
  have HQ0 := Lib.hid hQ0
  clear hl hW1 hQV hb0 hQ0
  go_enter Try.func3, Try.ntmps3
  go_wp2_with (first
    | (with_reducible refine wpList_to (.pointer (some ⟨w.heap.size, 0, none⟩)) W1 (by with_unfolding_all rfl) (by rw [HW1.out]; exact exec_boxF _ _ (by with_unfolding_all rfl) QV (by with_unfolding_all rfl)) ?_))
  refine (awake_any (H := Unit) _).mono ?_
  rintro e w1 ⟨rfl, hb1⟩
  obtain ⟨gb, hgb⟩ : ∃ gb, gb = w.heap.size := ⟨_, rfl⟩
  rw [← hgb]
  have HQ1 := Lib.hid (show At w1 gb 22 QV by rw [hgb]; exact HQ0.out.below hb1 HQ0.out.lt)
  have HBB := Lib.hid (show Below w.heap.size w w1 from HB0.out.trans (hb1.mono HB0.out.size))
  clear hb1 hgb HQ0 HB0 HW1
  have hN := wrap_rem2 n 2 5 (by omega) (by omega) (by omega) (by omega)
  go_wp2_with fail
  generalize wrap64 (2 + wrap64 ((IntKind.u64.wrap n).tmod 5)) = N at hN ⊢
  generalize wrap64 ((IntKind.u64.wrap n).tmod 5) = N1
  generalize (IntKind.u64.wrap n).tmod 5 = N2
  generalize IntKind.u64.wrap n = N3
  obtain ⟨nn, rfl⟩ : ∃ nn : Nat, N = nn := ⟨N.toNat, by omega⟩
  have hn : 1 ≤ nn ∧ nn ≤ 6 := by omega
  clear hN
  refine (pitched_any hn _).mono ?_
  rintro e w2 ⟨p, v, sp, OS, rfl, hP⟩
  obtain ⟨w3, hw3⟩ : ∃ w3, w3 = w2.alloc (.cells #[.bool false, .bool false, .bool false, .bool false, .bool false, .bool false, .bool false] 4) := ⟨_, rfl⟩
  obtain ⟨gS, cS, _, hF⟩ := hP.camp hw3 hn
  have HF := Lib.hid hF
  have HW3 := Lib.hid hw3
  clear hP hF hw3
  go_wp2_with (first
    | (with_reducible refine wpList_to (.slice (some ⟨w2.heap.size, 0, none⟩) 7 7) w3 (by with_unfolding_all rfl) (by rw [HW3.out]; exact exec_make7 _ _ (by with_unfolding_all rfl) (by with_unfolding_all rfl) (by with_unfolding_all rfl) _) ?_))
  obtain ⟨gq, hgq⟩ : ∃ gq, gq = w2.heap.size := ⟨_, rfl⟩
  rw [← hgq] at HF ⊢
  clear hgq HW3
  have hFb := HF.out.below
  go_loopw [9] (fun i wr => ∃ r : Nat, r ≤ 60 ∧ r ≤ l.length ∧ i = .int .i64 r ∧ FinAt w1 wr p gS cS gq sp nn (2000 * r) (fun _ => false) (fun i t => Sok t i nn (fun _ => false) r 0)) (fun i _ => 60 - (RowKit.intOf i).toNat)
  case atStart => exact ⟨0, by omega, by omega, rfl, HF.out⟩
  case round =>
    clear HF hFb
    obtain ⟨r, hr60, hrl, rfl, hF⟩ := hrel
    have HF := Lib.hid hF
    clear hF
    have hr0 : (0 : Int) ≤ (r : Int) := by omega
    by_cases hlt : r < l.length ∧ r < 60
    · have h1 : (r : Int) < (l.length : Int) := by omega
      have h2 : (r : Int) < 60 := by omega
      obtain ⟨g0, off, rfl, hg0, hcl⟩ := HL.out.2.2 (by omega)
      have c0 := hcl r hlt.1 wr ((HF.out.below.block g0 (Nat.lt_of_lt_of_le hg0 HBB.out.size)).trans (HBB.out.block g0 hg0))
      obtain ⟨d, hd⟩ : ∃ d, d = l[r]'hlt.1 := ⟨_, rfl⟩
      rw [← hd] at c0
      clear hcl hd
      go_wp2_with fail
      refine (HF.out.round hn (by omega) d 7).mono ?_
      rintro e w4 ⟨rfl, hF4⟩
      have HF4 := Lib.hid hF4
      clear hF4 c0
      go_wp2_with fail
      go_roundw
      case rel => exact ⟨r + 1, by omega, by omega, by go_num, HF4.out.mono (by omega)⟩
      case measure => simp [RowKit.intOf]; omega
    · skip
      by_cases hl1 : r < l.length
      · have h1 : (r : Int) < (l.length : Int) := by omega
        have h2 : ¬ (r : Int) < 60 := by omega
        go_wp2_with fail
        go_loopw [10] (fun i wr => ∃ j : Nat, j ≤ nn ∧ i = .int .i64 ((j + 1 : Nat) : Int) ∧ FinQ w1 wr p gS cS gq sp nn (2000 * r) (silJ q j) (fun i t => Sok t i nn (fun _ => false) r 0)) (fun i _ => nn + 1 - (RowKit.intOf i).toNat)
        case atStart => exact ⟨0, by omega, rfl, by
          have h := HF.out.toQ
          have e : silJ q 0 = fun _ => false := by
            funext x
            unfold silJ
            by_cases h1 : 1 ≤ x
            · rw [decide_eq_false (p := x ≤ ((0 : Nat) : Int)) (by omega), Bool.and_false, Bool.false_and]
            · rw [decide_eq_false h1]; rfl
          rw [e]
          exact h⟩
        case round =>
          clear HF
          obtain ⟨j, hjn, rfl, hQ⟩ := hrel
          have HQ := Lib.hid hQ
          clear hQ
          have hj0 : (0 : Int) ≤ (j : Int) := by omega
          by_cases hlj : j < nn
          · have hljz : (j : Int) + 1 ≤ (nn : Int) := by omega
            have hj6 : (j : Int) < 6 := by omega
            have hj7 : (j : Int) + 1 < 7 := by omega
            have e0 := ((HQ1.out.keeps (Keeps.ofBelow (A := fun _ => True) HQ.out.below) trivial).cell' (i := j) (by rw [HQV.out]; exact quV_at q (by omega)))
            obtain ⟨e1, e2⟩ := HQ.out.cell (i := j + 1) (by omega)
            have HS := Lib.hid (HQ.out.silence (i := j + 1) (by omega) (q j))
            go_wp2_with fail
            generalize wr.setCell ⟨gq, j + 1, none⟩ (Value.bool (q j)) = w5 at HS ⊢
            go_roundw
            case rel =>
              refine ⟨j + 1, by omega, by go_num, ?_⟩
              have e : silJ q (j + 1) = fun x => if x = ((j + 1 : Nat) : Int) then q j else silJ q j x := by
                funext x
                unfold silJ
                by_cases hx : x = ((j + 1 : Nat) : Int)
                · rw [if_pos hx, hx, decide_eq_true (by omega), decide_eq_true (by omega)]
                  show q _ = q j
                  congr 1
                  omega
                · rw [if_neg hx]
                  have : decide (x ≤ ((j + 1 : Nat) : Int)) = decide (x ≤ (j : Int)) := by rw [decide_eq_decide]; omega
                  rw [this]
              rw [e]
              exact HS.out
            case measure => simp [RowKit.intOf]; omega
          · have hnlj : ¬ (j : Int) + 1 ≤ (nn : Int) := by omega
            have hje : j = nn := by omega
            have hQn := HQ.out
            rw [hje] at hQn
            obtain ⟨S, hS⟩ : ∃ S, S = silJ q nn := ⟨_, rfl⟩
            have HF := Lib.hid (show FinAt w1 wr p gS cS gq sp nn (2000 * r) S (fun i t => Sok t i nn S r 72) from hQn.silent fun i _ => by rw [hS])
            clear hQn hje HQ hS
            go_wp2_with fail
            go_loopw [11] (fun i wr => ∃ m : Nat, m ≤ 120 ∧ i = .int .i64 m ∧ FinAt w1 wr p gS cS gq sp nn (2000 * r + 2000 * m) S (fun i t => Sok t i nn S (r + m) (72 - m))) (fun i _ => 120 - (RowKit.intOf i).toNat)
            case atStart => exact ⟨0, by omega, rfl, HF.out⟩
            case round =>
              clear HF
              obtain ⟨m, hm, rfl, hF⟩ := hrel
              have HF := Lib.hid hF
              clear hF
              by_cases hltm : m < 120
              · have hmz : (m : Int) < 120 := by omega
                by_cases hl0 : 0 < l.length
                · have hl0z : (0 : Int) < (l.length : Int) := by omega
                  have hdr : (m : Int) % (l.length : Int) = ((m % l.length : Nat) : Int) := (Int.natCast_emod m l.length).symm
                  obtain ⟨g0, off, rfl, hg0, hcl⟩ := HL.out.2.2 hl0
                  have hml := Nat.mod_lt m hl0
                  have c0 := hcl (m % l.length) hml wr ((HF.out.below.block g0 (Nat.lt_of_lt_of_le hg0 HBB.out.size)).trans (HBB.out.block g0 hg0))
                  obtain ⟨d, hd⟩ : ∃ d, d = l[m % l.length] := ⟨_, rfl⟩
                  rw [← hd] at c0
                  generalize m % l.length = r2 at hdr hml c0
                  have hmr : (r2 : Int) < (l.length : Int) := by omega
                  clear hcl hd
                  go_wp2_with fail
                  clear hdr hml hmr c0
                  refine (HF.out.round hn (by omega) d 7).mono ?_
                  rintro e w4 ⟨rfl, hF4⟩
                  have HF4 := Lib.hid hF4
                  clear hF4 HF
                  go_wp2_with fail
                  go_roundw
                  case rel =>
                    refine ⟨m + 1, by omega, by go_num, ?_⟩
                    have h := HF4.out.mono (M' := 2000 * r + 2000 * (m + 1)) (by omega)
                    rw [show 72 - m - 1 = 72 - (m + 1) by omega, show r + m + 1 = r + (m + 1) by omega] at h
                    exact h
                  case measure => simp [RowKit.intOf]; omega
                · have hl0z : ¬ (0 : Int) < (l.length : Int) := by omega
                  go_wp2_with fail
                  refine (HF.out.round hn (by omega) (m : Int) 7).mono ?_
                  rintro e w4 ⟨rfl, hF4⟩
                  have HF4 := Lib.hid hF4
                  clear hF4 HF
                  go_wp2_with fail
                  go_roundw
                  case rel =>
                    refine ⟨m + 1, by omega, by go_num, ?_⟩
                    have h := HF4.out.mono (M' := 2000 * r + 2000 * (m + 1)) (by omega)
                    rw [show 72 - m - 1 = 72 - (m + 1) by omega, show r + m + 1 = r + (m + 1) by omega] at h
                    exact h
                  case measure => simp [RowKit.intOf]; omega
              · have hme : m = 120 := by omega
                subst hme
                have HG := Lib.hid (show FinAt w1 wr p gS cS gq sp nn (2000 * r + 240000) S (fun i t => Sok t i nn S (r + 120) 0) from HF.out)
                clear HF
                go_wp2_with fail
                go_loopw [13] (fun i wr => ∃ j : Nat, j ≤ nn ∧ i = .int .i64 ((j + 1 : Nat) : Int) ∧ FinAt w1 wr p gS cS gq sp nn (2000 * r + 240000) S (fun i t => Sok t i nn S (r + 120) 0)) (fun i _ => nn + 1 - (RowKit.intOf i).toNat)
                case atStart => exact ⟨0, by omega, rfl, HG.out⟩
                case round =>
                  clear HG
                  obtain ⟨j, hjn2, rfl, hG⟩ := hrel
                  have HG := Lib.hid hG
                  clear hG
                  have hj0 : (0 : Int) ≤ (j : Int) := by omega
                  by_cases hlj2 : j < nn
                  · have hljz : (j : Int) + 1 ≤ (nn : Int) := by omega
                    have hj7 : (j : Int) + 1 < 7 := by omega
                    have e1 := HG.out.cell (i := j + 1) (by omega)
                    have e1' : wr.cell? ⟨gq, j + 1, none⟩ = some (.bool (S ((j : Int) + 1))) := e1
                    clear e1
                    cases hSj : S ((j : Int) + 1)
                    · rw [hSj] at e1'
                      obtain ⟨t, ht, a0, a1, hall⟩ := HG.out.all (i := j + 1) (by omega) (by omega) hSj
                      obtain ⟨L, hL⟩ : ∃ L, L = Go.Proofs.Ytghefmppjdneoaa.all t.v := ⟨_, rfl⟩
                      rw [← hL] at hall
                      have HE := Lib.hid (show ∀ x ∈ L, (1 ≤ x.n ∧ x.n ≤ (nn : Int)) ∧ x.i = 0 ∧ x.s = if S x.n = true then 2 else 0 from by rw [hL]; exact fin_end ht hSj)
                      have hL6 : L.length ≤ 6 := by
                        rw [hL]
                        unfold Go.Proofs.Ytghefmppjdneoaa.all
                        exact Nat.le_trans (List.length_filterMap_le _ _) (by unfold nodes; decide)
                      have HALL := Lib.hid hall
                      have hjn1 : (j : Int) + 1 < (nn : Int) + 1 := by omega
                      clear hall ht hL hSj
                      go_wp2_with fail
                      refine HALL.out.mono ?_
                      rintro e w6 ⟨A6, c6, rfl, hM6, hb6⟩
                      have HM6 := Lib.hid hM6
                      have HG6 := Lib.hid (HG.out.up hb6)
                      clear hM6 hb6 HALL HG a0 a1 e1'
                      go_wp2_with fail
                      go_loopw [15] (fun i wr => ∃ k : Nat, k ≤ L.length ∧ i = .int .i64 k ∧ Below w6.heap.size w6 wr) (fun i _ => L.length - (RowKit.intOf i).toNat)
                      case atStart => exact ⟨0, by omega, rfl, Below.refl _ _⟩
                      case round =>
                        obtain ⟨k, hk, rfl, hB⟩ := hrel
                        have HB := Lib.hid hB
                        clear hB
                        by_cases hlk : k < L.length
                        · obtain ⟨x, hx⟩ : ∃ x, x = L[k] := ⟨_, rfl⟩
                          have hxe := HE.out x (by rw [hx]; exact List.getElem_mem _)
                          obtain ⟨a, ha⟩ : ∃ a : Nat, x.n = a := ⟨x.n.toNat, by omega⟩
                          obtain ⟨g, off, rfl, hgl, _, _, _⟩ := HM6.out.cells (w' := w6) (fun g off e hlt' => rfl) hlk
                          have hb7 : a < 7 := by omega
                          have HX0 := Lib.hid (show ∀ W, Behind wr W → W.cell? ⟨g, off + k * 3, none⟩ = some (.int .i64 (a : Int)) ∧ W.cell? ⟨g, off + k * 3 + 2, none⟩ = some (.int .i64 (if S a = true then 2 else 0)) ∧ W.cell? ⟨gq, a, none⟩ = some (.bool (S a)) from fun W h => by
                            have hbw := HB.out.trans (Below.mono h HB.out.size)
                            obtain ⟨g', off', e', _, c0, _, c2⟩ := HM6.out.cells (w' := W) (fun g off e hlt' => hbw.block g hlt') hlk
                            injection e' with e'
                            injection e' with e1 e2 _
                            subst e1 e2
                            rw [← hx, ha] at c0
                            rw [← hx, hxe.2.2, ha] at c2
                            exact ⟨c0, c2, (World.cell?_of_block (w := w6) (hbw.block gq HG6.out.ltq)).trans (HG6.out.cell hb7)⟩)
                          have i1 : (0 : Int) ≤ (k : Int) := by omega
                          have i2 : (k : Int) < (L.length : Int) := by omega
                          have i3 : (0 : Int) ≤ (a : Int) := by omega
                          have i4 : (a : Int) < 7 := by omega
                          clear hx hxe ha hgl
                          cases hsa : S (a : Int)
                          · skip
                            have HX := Lib.hid (show ∀ W, Behind wr W → W.cell? ⟨g, off + k * 3, none⟩ = some (.int .i64 (a : Int)) ∧ W.cell? ⟨g, off + k * 3 + 2, none⟩ = some (.int .i64 0) ∧ W.cell? ⟨gq, a, none⟩ = some (.bool false) from fun W h => by
                              have hx := HX0.out W h
                              rw [hsa] at hx
                              exact hx)
                            clear HX0 hsa
                            go_wp2_with fail
                            refine wp_region_class (Behind wr) (by kernel_rfl) (by kernel_rfl) (Below.refl _ _).drew ?_
                            iterate 34 (first
                              | go_big_quiet_skip
                              | ((with_reducible refine wpQuiet_load1 (.int .i64 (a : Int)) (by with_unfolding_all rfl) 3 _ (by with_unfolding_all rfl) .i64 Try.underlying3 g (off + k * 3) (by with_unfolding_all rfl) (fun w h => (HX.out w h).1) ?_); simp only [Act.put, List.setIfInBounds_toArray, List.set_cons_zero, List.set_cons_succ])
                              | ((with_reducible refine wpQuiet_load1 (.int .i64 0) (by with_unfolding_all rfl) 3 _ (by with_unfolding_all rfl) .i64 Try.underlying3 g (off + k * 3 + 2) (by with_unfolding_all rfl) (fun w h => (HX.out w h).2.1) ?_); simp only [Act.put, List.setIfInBounds_toArray, List.set_cons_zero, List.set_cons_succ])
                              | ((with_reducible refine wpQuiet_loadB (.bool false) (by with_unfolding_all rfl) 4 _ (by with_unfolding_all rfl) Try.underlying4 gq (a) (by with_unfolding_all rfl) (fun w h => (HX.out w h).2.2) ?_); simp only [Act.put, List.setIfInBounds_toArray, List.set_cons_zero, List.set_cons_succ])
                              | (go_big_quiet_step (exact fun _ => rfl)))
                            with_reducible refine wpQuiet_nil ?_
                            intro wy hwy
                            have HY := Lib.hid (HB.out.trans (Below.mono hwy HB.out.size))
                            clear hwy
                            go_wp2_with fail
                            go_roundw
                            case rel => exact ⟨k + 1, by omega, by go_num, HY.out⟩
                            case measure => simp [RowKit.intOf]; omega
                          · skip
                            have HX := Lib.hid (show ∀ W, Behind wr W → W.cell? ⟨g, off + k * 3, none⟩ = some (.int .i64 (a : Int)) ∧ W.cell? ⟨g, off + k * 3 + 2, none⟩ = some (.int .i64 2) ∧ W.cell? ⟨gq, a, none⟩ = some (.bool true) from fun W h => by
                              have hx := HX0.out W h
                              rw [hsa] at hx
                              exact hx)
                            clear HX0 hsa
                            go_wp2_with fail
                            refine wp_region_class (Behind wr) (by kernel_rfl) (by kernel_rfl) (Below.refl _ _).drew ?_
                            iterate 34 (first
                              | go_big_quiet_skip
                              | ((with_reducible refine wpQuiet_load1 (.int .i64 (a : Int)) (by with_unfolding_all rfl) 3 _ (by with_unfolding_all rfl) .i64 Try.underlying3 g (off + k * 3) (by with_unfolding_all rfl) (fun w h => (HX.out w h).1) ?_); simp only [Act.put, List.setIfInBounds_toArray, List.set_cons_zero, List.set_cons_succ])
                              | ((with_reducible refine wpQuiet_load1 (.int .i64 2) (by with_unfolding_all rfl) 3 _ (by with_unfolding_all rfl) .i64 Try.underlying3 g (off + k * 3 + 2) (by with_unfolding_all rfl) (fun w h => (HX.out w h).2.1) ?_); simp only [Act.put, List.setIfInBounds_toArray, List.set_cons_zero, List.set_cons_succ])
                              | ((with_reducible refine wpQuiet_loadB (.bool true) (by with_unfolding_all rfl) 4 _ (by with_unfolding_all rfl) Try.underlying4 gq (a) (by with_unfolding_all rfl) (fun w h => (HX.out w h).2.2) ?_); simp only [Act.put, List.setIfInBounds_toArray, List.set_cons_zero, List.set_cons_succ])
                              | (go_big_quiet_step (exact fun _ => rfl)))
                            with_reducible refine wpQuiet_nil ?_
                            intro wy hwy
                            have HY := Lib.hid (HB.out.trans (Below.mono hwy HB.out.size))
                            clear hwy
                            go_wp2_with fail
                            go_roundw
                            case rel => exact ⟨k + 1, by omega, by go_num, HY.out⟩
                            case measure => simp [RowKit.intOf]; omega
                        · have hnk : ¬ (k : Int) < (L.length : Int) := by omega
                          go_wp2_with fail
                          go_roundw
                          case rel => exact ⟨j + 1, by omega, by go_num, HG6.out.up HB.out⟩
                          case measure => simp [RowKit.intOf]; omega
                    · rw [hSj] at e1'
                      clear hSj
                      go_wp2_with fail
                      go_roundw
                      case rel => exact ⟨j + 1, by omega, by go_num, HG.out⟩
                      case measure => simp [RowKit.intOf]; omega
                  · have hnlj2 : ¬ (j : Int) + 1 ≤ (nn : Int) := by omega
                    go_wp2_with fail
                    go_ret
                    exact ⟨rfl, HBB.out.trans (HG.out.below.mono HBB.out.size)⟩
      · have h1 : ¬ (r : Int) < (l.length : Int) := by omega
        go_wp2_with fail
        go_loopw [10] (fun i wr => ∃ j : Nat, j ≤ nn ∧ i = .int .i64 ((j + 1 : Nat) : Int) ∧ FinQ w1 wr p gS cS gq sp nn (2000 * r) (silJ q j) (fun i t => Sok t i nn (fun _ => false) r 0)) (fun i _ => nn + 1 - (RowKit.intOf i).toNat)
        case atStart => exact ⟨0, by omega, rfl, by
          have h := HF.out.toQ
          have e : silJ q 0 = fun _ => false := by
            funext x
            unfold silJ
            by_cases h1 : 1 ≤ x
            · rw [decide_eq_false (p := x ≤ ((0 : Nat) : Int)) (by omega), Bool.and_false, Bool.false_and]
            · rw [decide_eq_false h1]; rfl
          rw [e]
          exact h⟩
        case round =>
          clear HF
          obtain ⟨j, hjn, rfl, hQ⟩ := hrel
          have HQ := Lib.hid hQ
          clear hQ
          have hj0 : (0 : Int) ≤ (j : Int) := by omega
          by_cases hlj : j < nn
          · have hljz : (j : Int) + 1 ≤ (nn : Int) := by omega
            have hj6 : (j : Int) < 6 := by omega
            have hj7 : (j : Int) + 1 < 7 := by omega
            have e0 := ((HQ1.out.keeps (Keeps.ofBelow (A := fun _ => True) HQ.out.below) trivial).cell' (i := j) (by rw [HQV.out]; exact quV_at q (by omega)))
            obtain ⟨e1, e2⟩ := HQ.out.cell (i := j + 1) (by omega)
            have HS := Lib.hid (HQ.out.silence (i := j + 1) (by omega) (q j))
            go_wp2_with fail
            generalize wr.setCell ⟨gq, j + 1, none⟩ (Value.bool (q j)) = w5 at HS ⊢
            go_roundw
            case rel =>
              refine ⟨j + 1, by omega, by go_num, ?_⟩
              have e : silJ q (j + 1) = fun x => if x = ((j + 1 : Nat) : Int) then q j else silJ q j x := by
                funext x
                unfold silJ
                by_cases hx : x = ((j + 1 : Nat) : Int)
                · rw [if_pos hx, hx, decide_eq_true (by omega), decide_eq_true (by omega)]
                  show q _ = q j
                  congr 1
                  omega
                · rw [if_neg hx]
                  have : decide (x ≤ ((j + 1 : Nat) : Int)) = decide (x ≤ (j : Int)) := by rw [decide_eq_decide]; omega
                  rw [this]
              rw [e]
              exact HS.out
            case measure => simp [RowKit.intOf]; omega
          · have hnlj : ¬ (j : Int) + 1 ≤ (nn : Int) := by omega
            have hje : j = nn := by omega
            have hQn := HQ.out
            rw [hje] at hQn
            obtain ⟨S, hS⟩ : ∃ S, S = silJ q nn := ⟨_, rfl⟩
            have HF := Lib.hid (show FinAt w1 wr p gS cS gq sp nn (2000 * r) S (fun i t => Sok t i nn S r 72) from hQn.silent fun i _ => by rw [hS])
            clear hQn hje HQ hS
            go_wp2_with fail
            go_loopw [11] (fun i wr => ∃ m : Nat, m ≤ 120 ∧ i = .int .i64 m ∧ FinAt w1 wr p gS cS gq sp nn (2000 * r + 2000 * m) S (fun i t => Sok t i nn S (r + m) (72 - m))) (fun i _ => 120 - (RowKit.intOf i).toNat)
            case atStart => exact ⟨0, by omega, rfl, HF.out⟩
            case round =>
              clear HF
              obtain ⟨m, hm, rfl, hF⟩ := hrel
              have HF := Lib.hid hF
              clear hF
              by_cases hltm : m < 120
              · have hmz : (m : Int) < 120 := by omega
                by_cases hl0 : 0 < l.length
                · have hl0z : (0 : Int) < (l.length : Int) := by omega
                  have hdr : (m : Int) % (l.length : Int) = ((m % l.length : Nat) : Int) := (Int.natCast_emod m l.length).symm
                  obtain ⟨g0, off, rfl, hg0, hcl⟩ := HL.out.2.2 hl0
                  have hml := Nat.mod_lt m hl0
                  have c0 := hcl (m % l.length) hml wr ((HF.out.below.block g0 (Nat.lt_of_lt_of_le hg0 HBB.out.size)).trans (HBB.out.block g0 hg0))
                  obtain ⟨d, hd⟩ : ∃ d, d = l[m % l.length] := ⟨_, rfl⟩
                  rw [← hd] at c0
                  generalize m % l.length = r2 at hdr hml c0
                  have hmr : (r2 : Int) < (l.length : Int) := by omega
                  clear hcl hd
                  go_wp2_with fail
                  clear hdr hml hmr c0
                  refine (HF.out.round hn (by omega) d 7).mono ?_
                  rintro e w4 ⟨rfl, hF4⟩
                  have HF4 := Lib.hid hF4
                  clear hF4 HF
                  go_wp2_with fail
                  go_roundw
                  case rel =>
                    refine ⟨m + 1, by omega, by go_num, ?_⟩
                    have h := HF4.out.mono (M' := 2000 * r + 2000 * (m + 1)) (by omega)
                    rw [show 72 - m - 1 = 72 - (m + 1) by omega, show r + m + 1 = r + (m + 1) by omega] at h
                    exact h
                  case measure => simp [RowKit.intOf]; omega
                · have hl0z : ¬ (0 : Int) < (l.length : Int) := by omega
                  go_wp2_with fail
                  refine (HF.out.round hn (by omega) (m : Int) 7).mono ?_
                  rintro e w4 ⟨rfl, hF4⟩
                  have HF4 := Lib.hid hF4
                  clear hF4 HF
                  go_wp2_with fail
                  go_roundw
                  case rel =>
                    refine ⟨m + 1, by omega, by go_num, ?_⟩
                    have h := HF4.out.mono (M' := 2000 * r + 2000 * (m + 1)) (by omega)
                    rw [show 72 - m - 1 = 72 - (m + 1) by omega, show r + m + 1 = r + (m + 1) by omega] at h
                    exact h
                  case measure => simp [RowKit.intOf]; omega
              · have hme : m = 120 := by omega
                subst hme
                have HG := Lib.hid (show FinAt w1 wr p gS cS gq sp nn (2000 * r + 240000) S (fun i t => Sok t i nn S (r + 120) 0) from HF.out)
                clear HF
                go_wp2_with fail
                go_loopw [13] (fun i wr => ∃ j : Nat, j ≤ nn ∧ i = .int .i64 ((j + 1 : Nat) : Int) ∧ FinAt w1 wr p gS cS gq sp nn (2000 * r + 240000) S (fun i t => Sok t i nn S (r + 120) 0)) (fun i _ => nn + 1 - (RowKit.intOf i).toNat)
                case atStart => exact ⟨0, by omega, rfl, HG.out⟩
                case round =>
                  clear HG
                  obtain ⟨j, hjn2, rfl, hG⟩ := hrel
                  have HG := Lib.hid hG
                  clear hG
                  have hj0 : (0 : Int) ≤ (j : Int) := by omega
                  by_cases hlj2 : j < nn
                  · have hljz : (j : Int) + 1 ≤ (nn : Int) := by omega
                    have hj7 : (j : Int) + 1 < 7 := by omega
                    have e1 := HG.out.cell (i := j + 1) (by omega)
                    have e1' : wr.cell? ⟨gq, j + 1, none⟩ = some (.bool (S ((j : Int) + 1))) := e1
                    clear e1
                    cases hSj : S ((j : Int) + 1)
                    · rw [hSj] at e1'
                      obtain ⟨t, ht, a0, a1, hall⟩ := HG.out.all (i := j + 1) (by omega) (by omega) hSj
                      obtain ⟨L, hL⟩ : ∃ L, L = Go.Proofs.Ytghefmppjdneoaa.all t.v := ⟨_, rfl⟩
                      rw [← hL] at hall
                      have HE := Lib.hid (show ∀ x ∈ L, (1 ≤ x.n ∧ x.n ≤ (nn : Int)) ∧ x.i = 0 ∧ x.s = if S x.n = true then 2 else 0 from by rw [hL]; exact fin_end ht hSj)
                      have hL6 : L.length ≤ 6 := by
                        rw [hL]
                        unfold Go.Proofs.Ytghefmppjdneoaa.all
                        exact Nat.le_trans (List.length_filterMap_le _ _) (by unfold nodes; decide)
                      have HALL := Lib.hid hall
                      have hjn1 : (j : Int) + 1 < (nn : Int) + 1 := by omega
                      clear hall ht hL hSj
                      go_wp2_with fail
                      refine HALL.out.mono ?_
                      rintro e w6 ⟨A6, c6, rfl, hM6, hb6⟩
                      have HM6 := Lib.hid hM6
                      have HG6 := Lib.hid (HG.out.up hb6)
                      clear hM6 hb6 HALL HG a0 a1 e1'
                      go_wp2_with fail
                      go_loopw [15] (fun i wr => ∃ k : Nat, k ≤ L.length ∧ i = .int .i64 k ∧ Below w6.heap.size w6 wr) (fun i _ => L.length - (RowKit.intOf i).toNat)
                      case atStart => exact ⟨0, by omega, rfl, Below.refl _ _⟩
                      case round =>
                        obtain ⟨k, hk, rfl, hB⟩ := hrel
                        have HB := Lib.hid hB
                        clear hB
                        by_cases hlk : k < L.length
                        · obtain ⟨x, hx⟩ : ∃ x, x = L[k] := ⟨_, rfl⟩
                          have hxe := HE.out x (by rw [hx]; exact List.getElem_mem _)
                          obtain ⟨a, ha⟩ : ∃ a : Nat, x.n = a := ⟨x.n.toNat, by omega⟩
                          obtain ⟨g, off, rfl, hgl, _, _, _⟩ := HM6.out.cells (w' := w6) (fun g off e hlt' => rfl) hlk
                          have hb7 : a < 7 := by omega
                          have HX0 := Lib.hid (show ∀ W, Behind wr W → W.cell? ⟨g, off + k * 3, none⟩ = some (.int .i64 (a : Int)) ∧ W.cell? ⟨g, off + k * 3 + 2, none⟩ = some (.int .i64 (if S a = true then 2 else 0)) ∧ W.cell? ⟨gq, a, none⟩ = some (.bool (S a)) from fun W h => by
                            have hbw := HB.out.trans (Below.mono h HB.out.size)
                            obtain ⟨g', off', e', _, c0, _, c2⟩ := HM6.out.cells (w' := W) (fun g off e hlt' => hbw.block g hlt') hlk
                            injection e' with e'
                            injection e' with e1 e2 _
                            subst e1 e2
                            rw [← hx, ha] at c0
                            rw [← hx, hxe.2.2, ha] at c2
                            exact ⟨c0, c2, (World.cell?_of_block (w := w6) (hbw.block gq HG6.out.ltq)).trans (HG6.out.cell hb7)⟩)
                          have i1 : (0 : Int) ≤ (k : Int) := by omega
                          have i2 : (k : Int) < (L.length : Int) := by omega
                          have i3 : (0 : Int) ≤ (a : Int) := by omega
                          have i4 : (a : Int) < 7 := by omega
                          clear hx hxe ha hgl
                          cases hsa : S (a : Int)
                          · skip
                            have HX := Lib.hid (show ∀ W, Behind wr W → W.cell? ⟨g, off + k * 3, none⟩ = some (.int .i64 (a : Int)) ∧ W.cell? ⟨g, off + k * 3 + 2, none⟩ = some (.int .i64 0) ∧ W.cell? ⟨gq, a, none⟩ = some (.bool false) from fun W h => by
                              have hx := HX0.out W h
                              rw [hsa] at hx
                              exact hx)
                            clear HX0 hsa
                            go_wp2_with fail
                            refine wp_region_class (Behind wr) (by kernel_rfl) (by kernel_rfl) (Below.refl _ _).drew ?_
                            iterate 34 (first
                              | go_big_quiet_skip
                              | ((with_reducible refine wpQuiet_load1 (.int .i64 (a : Int)) (by with_unfolding_all rfl) 3 _ (by with_unfolding_all rfl) .i64 Try.underlying3 g (off + k * 3) (by with_unfolding_all rfl) (fun w h => (HX.out w h).1) ?_); simp only [Act.put, List.setIfInBounds_toArray, List.set_cons_zero, List.set_cons_succ])
                              | ((with_reducible refine wpQuiet_load1 (.int .i64 0) (by with_unfolding_all rfl) 3 _ (by with_unfolding_all rfl) .i64 Try.underlying3 g (off + k * 3 + 2) (by with_unfolding_all rfl) (fun w h => (HX.out w h).2.1) ?_); simp only [Act.put, List.setIfInBounds_toArray, List.set_cons_zero, List.set_cons_succ])
                              | ((with_reducible refine wpQuiet_loadB (.bool false) (by with_unfolding_all rfl) 4 _ (by with_unfolding_all rfl) Try.underlying4 gq (a) (by with_unfolding_all rfl) (fun w h => (HX.out w h).2.2) ?_); simp only [Act.put, List.setIfInBounds_toArray, List.set_cons_zero, List.set_cons_succ])
                              | (go_big_quiet_step (exact fun _ => rfl)))
                            with_reducible refine wpQuiet_nil ?_
                            intro wy hwy
                            have HY := Lib.hid (HB.out.trans (Below.mono hwy HB.out.size))
                            clear hwy
                            go_wp2_with fail
                            go_roundw
                            case rel => exact ⟨k + 1, by omega, by go_num, HY.out⟩
                            case measure => simp [RowKit.intOf]; omega
                          · skip
                            have HX := Lib.hid (show ∀ W, Behind wr W → W.cell? ⟨g, off + k * 3, none⟩ = some (.int .i64 (a : Int)) ∧ W.cell? ⟨g, off + k * 3 + 2, none⟩ = some (.int .i64 2) ∧ W.cell? ⟨gq, a, none⟩ = some (.bool true) from fun W h => by
                              have hx := HX0.out W h
                              rw [hsa] at hx
                              exact hx)
                            clear HX0 hsa
                            go_wp2_with fail
                            refine wp_region_class (Behind wr) (by kernel_rfl) (by kernel_rfl) (Below.refl _ _).drew ?_
                            iterate 34 (first
                              | go_big_quiet_skip
                              | ((with_reducible refine wpQuiet_load1 (.int .i64 (a : Int)) (by with_unfolding_all rfl) 3 _ (by with_unfolding_all rfl) .i64 Try.underlying3 g (off + k * 3) (by with_unfolding_all rfl) (fun w h => (HX.out w h).1) ?_); simp only [Act.put, List.setIfInBounds_toArray, List.set_cons_zero, List.set_cons_succ])
                              | ((with_reducible refine wpQuiet_load1 (.int .i64 2) (by with_unfolding_all rfl) 3 _ (by with_unfolding_all rfl) .i64 Try.underlying3 g (off + k * 3 + 2) (by with_unfolding_all rfl) (fun w h => (HX.out w h).2.1) ?_); simp only [Act.put, List.setIfInBounds_toArray, List.set_cons_zero, List.set_cons_succ])
                              | ((with_reducible refine wpQuiet_loadB (.bool true) (by with_unfolding_all rfl) 4 _ (by with_unfolding_all rfl) Try.underlying4 gq (a) (by with_unfolding_all rfl) (fun w h => (HX.out w h).2.2) ?_); simp only [Act.put, List.setIfInBounds_toArray, List.set_cons_zero, List.set_cons_succ])
                              | (go_big_quiet_step (exact fun _ => rfl)))
                            with_reducible refine wpQuiet_nil ?_
                            intro wy hwy
                            have HY := Lib.hid (HB.out.trans (Below.mono hwy HB.out.size))
                            clear hwy
                            go_wp2_with fail
                            go_roundw
                            case rel => exact ⟨k + 1, by omega, by go_num, HY.out⟩
                            case measure => simp [RowKit.intOf]; omega
                        · have hnk : ¬ (k : Int) < (L.length : Int) := by omega
                          go_wp2_with fail
                          go_roundw
                          case rel => exact ⟨j + 1, by omega, by go_num, HG6.out.up HB.out⟩
                          case measure => simp [RowKit.intOf]; omega
                    · rw [hSj] at e1'
                      clear hSj
                      go_wp2_with fail
                      go_roundw
                      case rel => exact ⟨j + 1, by omega, by go_num, HG.out⟩
                      case measure => simp [RowKit.intOf]; omega
                  · have hnlj2 : ¬ (j : Int) + 1 ≤ (nn : Int) := by omega
                    go_wp2_with fail
                    go_ret
                    exact ⟨rfl, HBB.out.trans (HG.out.below.mono HBB.out.size)⟩
end Go.Proofs.Ytghefmppjdneoaa
