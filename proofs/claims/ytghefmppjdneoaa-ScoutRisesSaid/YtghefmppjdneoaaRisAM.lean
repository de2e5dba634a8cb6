/- Layer 12: ScoutRises, its walk. -/
import Derived.Test.YtghefmppjdneoaaRisQM
namespace Go.Proofs.Ytghefmppjdneoaa
open Go.Proofs Stab Go.Shelf Go.RowKit Go.Lib Go.Sort Go.Maps

set_option maxRecDepth 100000 in
set_option maxHeartbeats 4000000 in
theorem rises_walk (me n : Int) (A : Option Addr) (c : Nat) (l : List SAct) (w : World) (hl : ActsIn w A l) (hok : ∀ a ∈ l, a.Ok w) (hlen0 : l.length ≤ maxLen) :
    Calls Try.prog 6 #[.int .i64 me, .int .i64 n, .slice A l.length c] w fun e w' => e = .returned (.bool true) ∧ Below w.heap.size w w' := by
  have HL := Lib.hid (And.intro hl hok)
  have hlen : l.length ≤ 9223372036854775807 := hlen0
  clear hl hok hlen0
  go_enter Try.func6, Try.ntmps6
  go_wp2_with fail
  refine (awake_any (H := Unit) _).mono ?_
  rintro e w1 ⟨rfl, hb1⟩
  have HB1 := Lib.hid hb1
  clear hb1
  have hN := wrap_rem2 n 1 6 (by omega) (by omega) (by omega) (by omega)
  have hU := u64_small (n := wrap64 (1 + wrap64 ((IntKind.u64.wrap n).tmod 6))) (by omega) (by omega)
  have hU0 : ¬ IntKind.u64.wrap (wrap64 (1 + wrap64 ((IntKind.u64.wrap n).tmod 6))) = 0 := by omega
  go_wp2_with fail
  clear hU hU0
  generalize wrap64 (1 + wrap64 ((IntKind.u64.wrap n).tmod 6)) = N at hN ⊢
  have hM := wrap_rem2 me 1 N (by omega) (by omega) (by omega) (by omega)
  generalize wrap64 (1 + wrap64 ((IntKind.u64.wrap me).tmod N)) = ME at hM ⊢
  generalize wrap64 ((IntKind.u64.wrap n).tmod 6) = N1
  generalize wrap64 ((IntKind.u64.wrap me).tmod N) = M1
  generalize (IntKind.u64.wrap n).tmod 6 = N2
  generalize (IntKind.u64.wrap me).tmod N = M2
  generalize IntKind.u64.wrap n = N3
  generalize IntKind.u64.wrap me = M3
  have HN := Lib.hid (show (1 ≤ N ∧ N ≤ 6) ∧ (1 ≤ ME ∧ ME ≤ N) by omega)
  clear hN hM
  refine (own_new (H := Unit) (me := ME) (nodes := N) (by have := HN.out; omega)).mono ?_
  rintro e w2 ⟨s, O, rfl, hS, hb2, hO⟩
  have HR0 := Lib.hid (show RisS w w2 O 0 s (Sct.fresh ME N) ME N from ⟨hS, Fit.fresh HN.out.2 HN.out.1.2, fun i hi => Nat.le_trans HB1.out.size (hO i hi), HB1.out.trans (hb2.mono HB1.out.size)⟩)
  clear hS hb2 hO HB1
  go_wp2_with fail
  go_loopw [8, 9] (fun b i wr => ∃ (k : Nat) (L : Bool), k ≤ l.length ∧ k ≤ 100 ∧ b = .bool L ∧ i = .int .i64 k ∧ ∃ O t, RisS w wr O (30 * k) s t ME N ∧ t.left = L) (fun _ i _ => 100 - (RowKit.intOf i).toNat)
  case atStart => exact ⟨0, false, by omega, by omega, rfl, rfl, _, _, HR0.out, rfl⟩
  case round =>
    clear HR0
    obtain ⟨k, L, hkl, hk100, rfl, rfl, O, t, hR, htl⟩ := hrel
    have HR := Lib.hid hR
    have HTL := Lib.hid htl
    clear hR htl
    have hk0 : (0 : Int) ≤ (k : Int) := by omega
    by_cases hlt : k < l.length
    · have hltz : (k : Int) < (l.length : Int) := by omega
      by_cases hlt1 : k < 100
      · have hlt1z : (k : Int) < 100 := by omega
        obtain ⟨a, ha⟩ : ∃ a, a = l[k] := ⟨_, rfl⟩
        obtain ⟨g0, off, rfl, hg0, hrow⟩ := HL.out.1 (by omega)
        have hrk := hrow k hlt
        rw [← ha] at hrk
        have HOK := Lib.hid (show a.Ok w by rw [ha]; exact HL.out.2 _ (List.getElem_mem _))
        have HRW := Lib.hid (show wr.rangeAt g0 (off + k * 239) (actC a) from fun j v hv => (World.cell?_of_block (w := w) (HR.out.below.block g0 hg0)).trans (hrk j v hv))
        obtain ⟨AC, hAC⟩ : ∃ AC, AC = actC a := ⟨_, rfl⟩
        obtain ⟨Z, hZ⟩ : ∃ Z, Z = actZ := ⟨_, rfl⟩
        have HZ := Lib.hid (show ∀ w, (zeroValue 63).run Try.prog w = .ok (.agg Z.toArray) w by rw [hZ]; exact zeroAct)
        have HZl := Lib.hid (show Z.length = 239 by rw [hZ]; exact actZ_len)
        have HSl := Lib.hid (show AC.length = 239 by rw [hAC]; exact actC_len a HOK.out)
        have HS1 := Lib.hid (show ∀ v ∈ AC, v.oneCell' = true by rw [hAC]; exact actC_one a HOK.out)
        have HRA := Lib.hid (show wr.rangeAt g0 (off + k * 239) AC by rw [hAC]; exact HRW.out)
        have HAC := Lib.hid hAC
        have h20' := HOK.out.len
        have h20m : a.x.rum.length ≤ 9223372036854775807 := h20'
        clear ha hrow hrk hAC hZ HRW h20'
        have hq : (k : Int) * 239 = ((k * 239 : Nat) : Int) := by omega
        by_cases h20 : a.x.rum.length ≤ 20
        · have h20z : ¬ (20 : Int) < (a.x.rum.length : Int) := by omega
          go_wp2_with (first
            | (with_reducible refine wpList_loadW (by with_unfolding_all rfl) 63 _ (by with_unfolding_all rfl) g0 (off + k * 239) (by with_unfolding_all rfl) AC _ HRA.out Try.underlying63 rfl (by rw [HSl.out]; exact info_act) ?_)
            | ((with_reducible refine wpList_allocZ (o := ⟨some 10, _, _, _, _, _⟩) 63 Z (by with_unfolding_all rfl) (by with_unfolding_all rfl) HZ.out ?_); intro gx w4 hg hat hb; have HAX := Lib.hid hat; have HB4 := Lib.hid hb; have HGX := Lib.hid hg; clear hat hb hg)
            | ((with_reducible refine wpList_storeAll (by with_unfolding_all rfl) 63 _ _ (by with_unfolding_all rfl) gx (by with_unfolding_all rfl) 63 Z AC HAX.out (by with_unfolding_all rfl) (HSl.out.trans HZl.out.symm) (by rw [HSl.out]; exact info_act) HS1.out ?_); intro w5 hat2 hg2 _; have HB5 := Lib.hid (Below.ofGrown HB4.out hg2 HB4.out.size (Nat.le_of_eq HGX.out.symm)); have HX5 := Lib.hid (show ActAt w5 O gx a from ⟨HAC.out ▸ hat2, fun ho => (by have := HR.out.own.bound gx ho; have := HGX.out; omega)⟩); have HR5 := Lib.hid (HR.out.up HB5.out); clear hat2 hg2; have zr := HX5.out.1.cell' (i := 238) HOK.out.fr.r))
          go_wp2_with fail
          refine HR5.out.all.mono ?_
          rintro e w6 ⟨AW, cw, rfl, hW6, hb6⟩
          have HW6 := Lib.hid hW6
          have HR6 := Lib.hid (HR5.out.up hb6)
          have HX6 := Lib.hid (HX5.out.up hb6)
          obtain ⟨LW, hLW⟩ : ∃ LW, LW = Go.Proofs.Ytghefmppjdneoaa.all t.v := ⟨_, rfl⟩
          rw [← hLW] at HW6
          have hw6 : LW.length ≤ 6 := by
            rw [hLW]
            unfold Go.Proofs.Ytghefmppjdneoaa.all
            exact Nat.le_trans (List.length_filterMap_le _ _) (by unfold nodes; decide)
          have HLW := Lib.hid hLW
          rw [← hLW]
          have z0 := HX6.out.1.cell' (i := 0) (v := .int .i64 a.kind) rfl
          have z1 := HX6.out.1.cell' (i := 1) (v := .int .i64 a.n) rfl
          clear hW6 hb6 hLW HR5 HX5 HR
          obtain ⟨kd, hkd⟩ : ∃ kd, kd = a.kind := ⟨_, rfl⟩
          obtain ⟨an, han⟩ : ∃ an, an = a.n := ⟨_, rfl⟩
          rw [← hkd] at z0
          rw [← han] at z1
          have HN64 := Lib.hid (show -9223372036854775808 ≤ an ∧ an ≤ 9223372036854775807 by rw [han]; exact HOK.out.n64)
          clear hkd han
          by_cases h1 : kd = 1
          · subst h1
            go_wp2_with fail
            refine (HR6.out.tick HN.out.2 (by omega) an HN64.out).mono ?_
            rintro e w7 ⟨v7, rfl, hD⟩
            obtain ⟨O7, t7, hR7, hU7, hL7, hK7, hO7⟩ := hD
            have HR7 := Lib.hid hR7
            have HL7 := Lib.hid (hL7.trans HTL.out)
            have HX7 := Lib.hid (HX6.out.keep hK7 hO7)
            have HW7 := Lib.hid (HW6.out.keep hK7 hO7)
            have HRI := Lib.hid (show (Go.Proofs.Ytghefmppjdneoaa.all t7.v).length = LW.length ∧ ∀ i (h1 : i < (Go.Proofs.Ytghefmppjdneoaa.all t7.v).length) (h2 : i < LW.length), (Go.Proofs.Ytghefmppjdneoaa.all t7.v)[i] = LW[i] ∨ ((Go.Proofs.Ytghefmppjdneoaa.all t7.v)[i]).above LW[i] = true from by have h := HLW.out; subst h; exact HR6.out.fit.rises hR7.fit hU7)
            clear hR7 hU7 hL7 hK7 hO7 HW6 HX6
            clear z0 z1
            as_aux_lemma =>
              go_wp2_with fail
              refine HR7.out.all.mono ?_
              rintro e w8 ⟨AN, cn, rfl, hM8, hb8⟩
              have HN8 := Lib.hid hM8
              have HW8 := Lib.hid (HW7.out.up hb8)
              have HR8 := Lib.hid (HR7.out.up hb8)
              obtain ⟨LN, hLN⟩ : ∃ LN, LN = Go.Proofs.Ytghefmppjdneoaa.all t7.v := ⟨_, rfl⟩
              rw [← hLN] at HN8 HRI ⊢
              rw [HRI.out.1]
              clear hM8 hb8 hLN HR7 HW7 HX7
              go_wp2_with fail
              go_loopw [14] (fun i wr => ∃ q : Nat, q ≤ LW.length ∧ i = .int .i64 q ∧ Below w8.heap.size w8 wr) (fun i _ => LW.length - (RowKit.intOf i).toNat)
              case atStart => exact ⟨0, by omega, rfl, Below.refl _ _⟩
              case round =>
                obtain ⟨q, hq, rfl, hB⟩ := hrel
                have HB := Lib.hid hB
                by_cases hlq : q < LW.length
                · obtain ⟨gn, on, rfl, hgn, hrn⟩ := HN8.out.1 (by rw [HRI.out.1]; omega)
                  obtain ⟨gw, ow, rfl, hgw, hrw⟩ := HW8.out.1 (by omega)
                  obtain ⟨x, hx⟩ : ∃ x, x = LN[q]'(by rw [HRI.out.1]; exact hlq) := ⟨_, rfl⟩
                  obtain ⟨y, hy⟩ : ∃ y, y = LW[q] := ⟨_, rfl⟩
                  have hxy : x = y ∨ x.above y = true := by rw [hx, hy]; exact HRI.out.2 q (by rw [HRI.out.1]; exact hlq) hlq
                  have hrx := hrn q (by rw [HRI.out.1]; exact hlq)
                  have hry := hrw q hlq
                  rw [← hx] at hrx
                  rw [← hy] at hry
                  have HRX := Lib.hid (show ∀ w', Behind wr w' → w'.rangeAt gn (on + q * 3) (cellsM x) from fun w' h j v hv => (World.cell?_of_block (w := w8) (((HB.out.trans (Below.mono h HB.out.size))).block gn hgn)).trans (hrx j v hv))
                  have HRY := Lib.hid (show ∀ w', Behind wr w' → w'.rangeAt gw (ow + q * 3) (cellsM y) from fun w' h j v hv => (World.cell?_of_block (w := w8) (((HB.out.trans (Below.mono h HB.out.size))).block gw hgw)).trans (hry j v hv))
                  have HAB := Lib.hid (show ∀ w', Behind wr w' → Calls Try.prog 15 #[memV x, memV y] w' fun e w'' => e = .returned (.bool (x.above y)) ∧ Behind wr w'' from fun w' h => (above_any x y w').mono fun e w'' ⟨he, hbx⟩ => ⟨he, Below.trans h (hbx.mono (Below.size h))⟩)
                  have HU := Lib.hid Try.underlying38
                  have HIx := Lib.hid (info_memC (m := x))
                  have HIy := Lib.hid (info_memC (m := y))
                  have q0 : (0 : Int) ≤ (q : Int) := by omega
                  have q1 : (q : Int) < (LW.length : Int) := by omega
                  clear hx hy hrx hry hrn hrw hB hgn hgw
                  by_cases hd : x = y
                  · have HQ := Lib.hid (show ∀ w, (binOp .neq 38 (memV x) (memV y)).run Try.prog w = .ok (.bool false) w from fun w => by rw [run_neq_mem, decide_eq_true hd]; rfl)
                    have HXY := Lib.hid hd
                    clear hd hxy
                    go_wp2_with fail
                    refine wp_region_class (Behind wr) (by kernel_rfl) (by kernel_rfl) (Below.refl _ _).drew ?_
                    iterate 21 (first
                      | go_big_quiet_skip
                      | (with_reducible refine wpQuiet_loadAll (by with_unfolding_all rfl) 38 _ (by with_unfolding_all rfl) gn (on + q * 3) (by with_unfolding_all rfl) (cellsM x) _ (fun w h => HRX.out w h) HU.out (by with_unfolding_all rfl) HIx.out ?_; simp only [Act.put, List.setIfInBounds_toArray, List.set_cons_zero, List.set_cons_succ])
                      | (with_reducible refine wpQuiet_loadAll (by with_unfolding_all rfl) 38 _ (by with_unfolding_all rfl) gw (ow + q * 3) (by with_unfolding_all rfl) (cellsM y) _ (fun w h => HRY.out w h) HU.out (by with_unfolding_all rfl) HIy.out ?_; simp only [Act.put, List.setIfInBounds_toArray, List.set_cons_zero, List.set_cons_succ])
                      | (with_reducible refine wpQuiet_call 15 [memV x, memV y] (.bool _) (by with_unfolding_all rfl) _ _ (by with_unfolding_all rfl) (by with_unfolding_all rfl) (fun _ => by kernel_rfl) (fun w' h => HAB.out w' h) ?_; simp only [Act.put, List.setIfInBounds_toArray, List.set_cons_zero, List.set_cons_succ])
                      | (with_reducible refine wpQuiet_bin (by with_unfolding_all rfl) .neq 38 _ _ _ (by with_unfolding_all rfl) (memV x) (memV y) (.bool _) (by with_unfolding_all rfl) (by with_unfolding_all rfl) (fun w => run_eqGuard_mem w _ _ _ x y) (fun w => HQ.out w) ?_; simp only [Act.put, List.setIfInBounds_toArray, List.set_cons_zero, List.set_cons_succ])
                      | (go_big_quiet_step (exact fun _ => rfl)))
                    with_reducible refine wpQuiet_nil ?_
                    intro wy hwy'
                    have hwy : Behind wr wy := hwy'
                    go_wp2_with fail
                    go_roundw
                    case rel => exact ⟨q + 1, by omega, by go_num, HB.out.trans (Below.mono hwy HB.out.size)⟩
                    case measure => simp [RowKit.intOf]; omega
                  · have HQ := Lib.hid (show ∀ w, (binOp .neq 38 (memV x) (memV y)).run Try.prog w = .ok (.bool true) w from fun w => by rw [run_neq_mem, decide_eq_false hd]; rfl)
                    rw [hxy.resolve_left hd] at HAB
                    have HXY := Lib.hid hd
                    clear hd hxy
                    go_wp2_with fail
                    refine wp_region_class (Behind wr) (by kernel_rfl) (by kernel_rfl) (Below.refl _ _).drew ?_
                    iterate 21 (first
                      | go_big_quiet_skip
                      | (with_reducible refine wpQuiet_loadAll (by with_unfolding_all rfl) 38 _ (by with_unfolding_all rfl) gn (on + q * 3) (by with_unfolding_all rfl) (cellsM x) _ (fun w h => HRX.out w h) HU.out (by with_unfolding_all rfl) HIx.out ?_; simp only [Act.put, List.setIfInBounds_toArray, List.set_cons_zero, List.set_cons_succ])
                      | (with_reducible refine wpQuiet_loadAll (by with_unfolding_all rfl) 38 _ (by with_unfolding_all rfl) gw (ow + q * 3) (by with_unfolding_all rfl) (cellsM y) _ (fun w h => HRY.out w h) HU.out (by with_unfolding_all rfl) HIy.out ?_; simp only [Act.put, List.setIfInBounds_toArray, List.set_cons_zero, List.set_cons_succ])
                      | (with_reducible refine wpQuiet_call 15 [memV x, memV y] (.bool _) (by with_unfolding_all rfl) _ _ (by with_unfolding_all rfl) (by with_unfolding_all rfl) (fun _ => by kernel_rfl) (fun w' h => HAB.out w' h) ?_; simp only [Act.put, List.setIfInBounds_toArray, List.set_cons_zero, List.set_cons_succ])
                      | (with_reducible refine wpQuiet_bin (by with_unfolding_all rfl) .neq 38 _ _ _ (by with_unfolding_all rfl) (memV x) (memV y) (.bool _) (by with_unfolding_all rfl) (by with_unfolding_all rfl) (fun w => run_eqGuard_mem w _ _ _ x y) (fun w => HQ.out w) ?_; simp only [Act.put, List.setIfInBounds_toArray, List.set_cons_zero, List.set_cons_succ])
                      | (go_big_quiet_step (exact fun _ => rfl)))
                    with_reducible refine wpQuiet_nil ?_
                    intro wy hwy'
                    have hwy : Behind wr wy := hwy'
                    go_wp2_with fail
                    go_roundw
                    case rel => exact ⟨q + 1, by omega, by go_num, HB.out.trans (Below.mono hwy HB.out.size)⟩
                    case measure => simp [RowKit.intOf]; omega
                · have hqe : ¬ (q : Int) < (LW.length : Int) := by omega
                  have HR9 := Lib.hid (HR8.out.up HB.out)
                  clear HN8 HW8 HR8 hB HRI
                  cases L
                  · skip
                    go_wp2_with fail
                    refine (HR9.out.getMeF HL7.out).mono ?_
                    rintro e w9 ⟨mx, my, rfl, hb9⟩
                    have HRa := Lib.hid (HR9.out.up hb9)
                    clear hb9
                    go_wp2_with (first | (with_reducible refine wpList_val (.int .i64 0) (by with_unfolding_all rfl) (exec_field_state _ (by with_unfolding_all rfl) (by with_unfolding_all rfl) _) ?_))
                    refine (HRa.out.getMeF HL7.out).mono ?_
                    rintro e wA ⟨mx2, my2, rfl, hb9⟩
                    have HRb := Lib.hid (HRa.out.up hb9)
                    clear hb9
                    go_wp2_with (first | (with_reducible refine wpList_val (.int .i64 0) (by with_unfolding_all rfl) (exec_field_state _ (by with_unfolding_all rfl) (by with_unfolding_all rfl) _) ?_))
                    go_roundw
                    case rel => exact ⟨k + 1, false, by omega, by omega, rfl, by go_num, _, _, HRb.out.mono (by omega), HL7.out⟩
                    case measure => simp [RowKit.intOf]; omega
                  · skip
                    go_wp2_with fail
                    refine (HR9.out.getMeT HL7.out).mono ?_
                    rintro e w9 ⟨mx, my, rfl, hb9⟩
                    have HRa := Lib.hid (HR9.out.up hb9)
                    clear hb9
                    go_wp2_with (first | (with_reducible refine wpList_val (.int .i64 3) (by with_unfolding_all rfl) (exec_field_state _ (by with_unfolding_all rfl) (by with_unfolding_all rfl) _) ?_))
                    go_roundw
                    case rel => exact ⟨k + 1, true, by omega, by omega, rfl, by go_num, _, _, HRa.out.mono (by omega), HL7.out⟩
                    case measure => simp [RowKit.intOf]; omega
          · by_cases h2 : kd = 2
            · subst h2
              have hrF : w6.rangeAt gx 2 a.F := fun j v hv => by
                rw [Nat.add_comm]
                exact HX6.out.1.cell' (i := j + 2) hv
              have HRF := Lib.hid hrF
              obtain ⟨F, hF⟩ : ∃ F, F = a.F := ⟨_, rfl⟩
              rw [← hF] at HRF
              have HFl := Lib.hid (show F.length = 237 by rw [hF]; exact HOK.out.fr.len)
              have HFI := Lib.hid (show FrIs F a.x a.A a.c by rw [hF]; exact HOK.out.fr)
              clear hrF hF
              go_wp2_with (first
                | (with_reducible refine wpList_loadW (by with_unfolding_all rfl) 57 _ (by with_unfolding_all rfl) gx 2 (by with_unfolding_all rfl) F _ HRF.out Try.underlying57 rfl (by rw [HFl.out]; exact info_frame) ?_))
              refine (HR6.out.hear (by omega) HFI.out HOK.out.mems h20 HOK.out.wf HOK.out.f64).mono ?_
              rintro e w7 ⟨A7, c7, rfl, hD⟩
              have HAN := Lib.hid (fun hk => HR6.out.fit.answers a.x hk)
              obtain ⟨O7, t7, hR7, hU7, hL7, hK7, hO7⟩ := hD
              have HR7 := Lib.hid hR7
              have HL7 := Lib.hid (hL7.trans HTL.out)
              have HX7 := Lib.hid (HX6.out.keep hK7 hO7)
              have HW7 := Lib.hid (HW6.out.keep hK7 hO7)
              have HRI := Lib.hid (show (Go.Proofs.Ytghefmppjdneoaa.all t7.v).length = LW.length ∧ ∀ i (h1 : i < (Go.Proofs.Ytghefmppjdneoaa.all t7.v).length) (h2 : i < LW.length), (Go.Proofs.Ytghefmppjdneoaa.all t7.v)[i] = LW[i] ∨ ((Go.Proofs.Ytghefmppjdneoaa.all t7.v)[i]).above LW[i] = true from by have h := HLW.out; subst h; exact HR6.out.fit.rises hR7.fit hU7)
              clear hR7 hU7 hL7 hK7 hO7 HW6 HX6
              clear z0 z1 HRF
              have z2 := HX7.out.1.cell' (i := 2) HOK.out.fr.k
              have z3 := HX7.out.1.cell' (i := 3) HOK.out.fr.f
              obtain ⟨xk, hxk⟩ : ∃ xk, xk = a.x.kind := ⟨_, rfl⟩
              obtain ⟨xf, hxf⟩ : ∃ xf, xf = a.x.frm := ⟨_, rfl⟩
              rw [← hxk] at z2
              rw [← hxf] at z3
              obtain ⟨nl, hnl⟩ : ∃ nl, nl = (t.hear a.x).2.length := ⟨_, rfl⟩
              rw [← hnl]
              have HNL := Lib.hid (show xk = 1 → nl = if L = false ∧ 1 ≤ xf ∧ xf ≤ N ∧ xf ≠ ME then 1 else 0 from fun hk => by rw [hnl, hxf, ← HTL.out]; exact HAN.out (by rw [← hxk]; exact hk))
              clear hxk hxf hnl HAN
              by_cases hk1 : xk = 1
              · subst hk1
                have hnl := HNL.out rfl
                cases L
                · by_cases hf1 : 1 ≤ xf
                  · by_cases hf2 : xf ≤ N
                    · by_cases hf3 : xf = ME
                      · rw [if_neg (fun h => h.2.2.2 hf3)] at hnl
                        subst hnl
                        as_aux_lemma =>
                          go_wp2_with fail
                          refine HR7.out.all.mono ?_
                          rintro e w8 ⟨AN, cn, rfl, hM8, hb8⟩
                          have HN8 := Lib.hid hM8
                          have HW8 := Lib.hid (HW7.out.up hb8)
                          have HR8 := Lib.hid (HR7.out.up hb8)
                          obtain ⟨LN, hLN⟩ : ∃ LN, LN = Go.Proofs.Ytghefmppjdneoaa.all t7.v := ⟨_, rfl⟩
                          rw [← hLN] at HN8 HRI ⊢
                          rw [HRI.out.1]
                          clear hM8 hb8 hLN HR7 HW7 HX7
                          go_wp2_with fail
                          go_loopw [14] (fun i wr => ∃ q : Nat, q ≤ LW.length ∧ i = .int .i64 q ∧ Below w8.heap.size w8 wr) (fun i _ => LW.length - (RowKit.intOf i).toNat)
                          case atStart => exact ⟨0, by omega, rfl, Below.refl _ _⟩
                          case round =>
                            obtain ⟨q, hq, rfl, hB⟩ := hrel
                            have HB := Lib.hid hB
                            by_cases hlq : q < LW.length
                            · obtain ⟨gn, on, rfl, hgn, hrn⟩ := HN8.out.1 (by rw [HRI.out.1]; omega)
                              obtain ⟨gw, ow, rfl, hgw, hrw⟩ := HW8.out.1 (by omega)
                              obtain ⟨x, hx⟩ : ∃ x, x = LN[q]'(by rw [HRI.out.1]; exact hlq) := ⟨_, rfl⟩
                              obtain ⟨y, hy⟩ : ∃ y, y = LW[q] := ⟨_, rfl⟩
                              have hxy : x = y ∨ x.above y = true := by rw [hx, hy]; exact HRI.out.2 q (by rw [HRI.out.1]; exact hlq) hlq
                              have hrx := hrn q (by rw [HRI.out.1]; exact hlq)
                              have hry := hrw q hlq
                              rw [← hx] at hrx
                              rw [← hy] at hry
                              have HRX := Lib.hid (show ∀ w', Behind wr w' → w'.rangeAt gn (on + q * 3) (cellsM x) from fun w' h j v hv => (World.cell?_of_block (w := w8) (((HB.out.trans (Below.mono h HB.out.size))).block gn hgn)).trans (hrx j v hv))
                              have HRY := Lib.hid (show ∀ w', Behind wr w' → w'.rangeAt gw (ow + q * 3) (cellsM y) from fun w' h j v hv => (World.cell?_of_block (w := w8) (((HB.out.trans (Below.mono h HB.out.size))).block gw hgw)).trans (hry j v hv))
                              have HAB := Lib.hid (show ∀ w', Behind wr w' → Calls Try.prog 15 #[memV x, memV y] w' fun e w'' => e = .returned (.bool (x.above y)) ∧ Behind wr w'' from fun w' h => (above_any x y w').mono fun e w'' ⟨he, hbx⟩ => ⟨he, Below.trans h (hbx.mono (Below.size h))⟩)
                              have HU := Lib.hid Try.underlying38
                              have HIx := Lib.hid (info_memC (m := x))
                              have HIy := Lib.hid (info_memC (m := y))
                              have q0 : (0 : Int) ≤ (q : Int) := by omega
                              have q1 : (q : Int) < (LW.length : Int) := by omega
                              clear hx hy hrx hry hrn hrw hB hgn hgw
                              by_cases hd : x = y
                              · have HQ := Lib.hid (show ∀ w, (binOp .neq 38 (memV x) (memV y)).run Try.prog w = .ok (.bool false) w from fun w => by rw [run_neq_mem, decide_eq_true hd]; rfl)
                                have HXY := Lib.hid hd
                                clear hd hxy
                                go_wp2_with fail
                                refine wp_region_class (Behind wr) (by kernel_rfl) (by kernel_rfl) (Below.refl _ _).drew ?_
                                iterate 21 (first
                                  | go_big_quiet_skip
                                  | (with_reducible refine wpQuiet_loadAll (by with_unfolding_all rfl) 38 _ (by with_unfolding_all rfl) gn (on + q * 3) (by with_unfolding_all rfl) (cellsM x) _ (fun w h => HRX.out w h) HU.out (by with_unfolding_all rfl) HIx.out ?_; simp only [Act.put, List.setIfInBounds_toArray, List.set_cons_zero, List.set_cons_succ])
                                  | (with_reducible refine wpQuiet_loadAll (by with_unfolding_all rfl) 38 _ (by with_unfolding_all rfl) gw (ow + q * 3) (by with_unfolding_all rfl) (cellsM y) _ (fun w h => HRY.out w h) HU.out (by with_unfolding_all rfl) HIy.out ?_; simp only [Act.put, List.setIfInBounds_toArray, List.set_cons_zero, List.set_cons_succ])
                                  | (with_reducible refine wpQuiet_call 15 [memV x, memV y] (.bool _) (by with_unfolding_all rfl) _ _ (by with_unfolding_all rfl) (by with_unfolding_all rfl) (fun _ => by kernel_rfl) (fun w' h => HAB.out w' h) ?_; simp only [Act.put, List.setIfInBounds_toArray, List.set_cons_zero, List.set_cons_succ])
                                  | (with_reducible refine wpQuiet_bin (by with_unfolding_all rfl) .neq 38 _ _ _ (by with_unfolding_all rfl) (memV x) (memV y) (.bool _) (by with_unfolding_all rfl) (by with_unfolding_all rfl) (fun w => run_eqGuard_mem w _ _ _ x y) (fun w => HQ.out w) ?_; simp only [Act.put, List.setIfInBounds_toArray, List.set_cons_zero, List.set_cons_succ])
                                  | (go_big_quiet_step (exact fun _ => rfl)))
                                with_reducible refine wpQuiet_nil ?_
                                intro wy hwy'
                                have hwy : Behind wr wy := hwy'
                                go_wp2_with fail
                                go_roundw
                                case rel => exact ⟨q + 1, by omega, by go_num, HB.out.trans (Below.mono hwy HB.out.size)⟩
                                case measure => simp [RowKit.intOf]; omega
                              · have HQ := Lib.hid (show ∀ w, (binOp .neq 38 (memV x) (memV y)).run Try.prog w = .ok (.bool true) w from fun w => by rw [run_neq_mem, decide_eq_false hd]; rfl)
                                rw [hxy.resolve_left hd] at HAB
                                have HXY := Lib.hid hd
                                clear hd hxy
                                go_wp2_with fail
                                refine wp_region_class (Behind wr) (by kernel_rfl) (by kernel_rfl) (Below.refl _ _).drew ?_
                                iterate 21 (first
                                  | go_big_quiet_skip
                                  | (with_reducible refine wpQuiet_loadAll (by with_unfolding_all rfl) 38 _ (by with_unfolding_all rfl) gn (on + q * 3) (by with_unfolding_all rfl) (cellsM x) _ (fun w h => HRX.out w h) HU.out (by with_unfolding_all rfl) HIx.out ?_; simp only [Act.put, List.setIfInBounds_toArray, List.set_cons_zero, List.set_cons_succ])
                                  | (with_reducible refine wpQuiet_loadAll (by with_unfolding_all rfl) 38 _ (by with_unfolding_all rfl) gw (ow + q * 3) (by with_unfolding_all rfl) (cellsM y) _ (fun w h => HRY.out w h) HU.out (by with_unfolding_all rfl) HIy.out ?_; simp only [Act.put, List.setIfInBounds_toArray, List.set_cons_zero, List.set_cons_succ])
                                  | (with_reducible refine wpQuiet_call 15 [memV x, memV y] (.bool _) (by with_unfolding_all rfl) _ _ (by with_unfolding_all rfl) (by with_unfolding_all rfl) (fun _ => by kernel_rfl) (fun w' h => HAB.out w' h) ?_; simp only [Act.put, List.setIfInBounds_toArray, List.set_cons_zero, List.set_cons_succ])
                                  | (with_reducible refine wpQuiet_bin (by with_unfolding_all rfl) .neq 38 _ _ _ (by with_unfolding_all rfl) (memV x) (memV y) (.bool _) (by with_unfolding_all rfl) (by with_unfolding_all rfl) (fun w => run_eqGuard_mem w _ _ _ x y) (fun w => HQ.out w) ?_; simp only [Act.put, List.setIfInBounds_toArray, List.set_cons_zero, List.set_cons_succ])
                                  | (go_big_quiet_step (exact fun _ => rfl)))
                                with_reducible refine wpQuiet_nil ?_
                                intro wy hwy'
                                have hwy : Behind wr wy := hwy'
                                go_wp2_with fail
                                go_roundw
                                case rel => exact ⟨q + 1, by omega, by go_num, HB.out.trans (Below.mono hwy HB.out.size)⟩
                                case measure => simp [RowKit.intOf]; omega
                            · have hqe : ¬ (q : Int) < (LW.length : Int) := by omega
                              have HR9 := Lib.hid (HR8.out.up HB.out)
                              clear HN8 HW8 HR8 hB HRI
                              go_wp2_with fail
                              refine (HR9.out.getMeF HL7.out).mono ?_
                              rintro e w9 ⟨mx, my, rfl, hb9⟩
                              have HRa := Lib.hid (HR9.out.up hb9)
                              clear hb9
                              go_wp2_with (first | (with_reducible refine wpList_val (.int .i64 0) (by with_unfolding_all rfl) (exec_field_state _ (by with_unfolding_all rfl) (by with_unfolding_all rfl) _) ?_))
                              refine (HRa.out.getMeF HL7.out).mono ?_
                              rintro e wA ⟨mx2, my2, rfl, hb9⟩
                              have HRb := Lib.hid (HRa.out.up hb9)
                              clear hb9
                              go_wp2_with (first | (with_reducible refine wpList_val (.int .i64 0) (by with_unfolding_all rfl) (exec_field_state _ (by with_unfolding_all rfl) (by with_unfolding_all rfl) _) ?_))
                              go_roundw
                              case rel => exact ⟨k + 1, false, by omega, by omega, rfl, by go_num, _, _, HRb.out.mono (by omega), HL7.out⟩
                              case measure => simp [RowKit.intOf]; omega
                      · rw [if_pos ⟨rfl, hf1, hf2, hf3⟩] at hnl
                        subst hnl
                        as_aux_lemma =>
                          have hf4 : (xf != ME) = true := bne_iff_ne.2 hf3
                          go_wp2_with fail
                          clear hf4 hf3
                          refine HR7.out.all.mono ?_
                          rintro e w8 ⟨AN, cn, rfl, hM8, hb8⟩
                          have HN8 := Lib.hid hM8
                          have HW8 := Lib.hid (HW7.out.up hb8)
                          have HR8 := Lib.hid (HR7.out.up hb8)
                          obtain ⟨LN, hLN⟩ : ∃ LN, LN = Go.Proofs.Ytghefmppjdneoaa.all t7.v := ⟨_, rfl⟩
                          rw [← hLN] at HN8 HRI ⊢
                          rw [HRI.out.1]
                          clear hM8 hb8 hLN HR7 HW7 HX7
                          go_wp2_with fail
                          go_loopw [14] (fun i wr => ∃ q : Nat, q ≤ LW.length ∧ i = .int .i64 q ∧ Below w8.heap.size w8 wr) (fun i _ => LW.length - (RowKit.intOf i).toNat)
                          case atStart => exact ⟨0, by omega, rfl, Below.refl _ _⟩
                          case round =>
                            obtain ⟨q, hq, rfl, hB⟩ := hrel
                            have HB := Lib.hid hB
                            by_cases hlq : q < LW.length
                            · obtain ⟨gn, on, rfl, hgn, hrn⟩ := HN8.out.1 (by rw [HRI.out.1]; omega)
                              obtain ⟨gw, ow, rfl, hgw, hrw⟩ := HW8.out.1 (by omega)
                              obtain ⟨x, hx⟩ : ∃ x, x = LN[q]'(by rw [HRI.out.1]; exact hlq) := ⟨_, rfl⟩
                              obtain ⟨y, hy⟩ : ∃ y, y = LW[q] := ⟨_, rfl⟩
                              have hxy : x = y ∨ x.above y = true := by rw [hx, hy]; exact HRI.out.2 q (by rw [HRI.out.1]; exact hlq) hlq
                              have hrx := hrn q (by rw [HRI.out.1]; exact hlq)
                              have hry := hrw q hlq
                              rw [← hx] at hrx
                              rw [← hy] at hry
                              have HRX := Lib.hid (show ∀ w', Behind wr w' → w'.rangeAt gn (on + q * 3) (cellsM x) from fun w' h j v hv => (World.cell?_of_block (w := w8) (((HB.out.trans (Below.mono h HB.out.size))).block gn hgn)).trans (hrx j v hv))
                              have HRY := Lib.hid (show ∀ w', Behind wr w' → w'.rangeAt gw (ow + q * 3) (cellsM y) from fun w' h j v hv => (World.cell?_of_block (w := w8) (((HB.out.trans (Below.mono h HB.out.size))).block gw hgw)).trans (hry j v hv))
                              have HAB := Lib.hid (show ∀ w', Behind wr w' → Calls Try.prog 15 #[memV x, memV y] w' fun e w'' => e = .returned (.bool (x.above y)) ∧ Behind wr w'' from fun w' h => (above_any x y w').mono fun e w'' ⟨he, hbx⟩ => ⟨he, Below.trans h (hbx.mono (Below.size h))⟩)
                              have HU := Lib.hid Try.underlying38
                              have HIx := Lib.hid (info_memC (m := x))
                              have HIy := Lib.hid (info_memC (m := y))
                              have q0 : (0 : Int) ≤ (q : Int) := by omega
                              have q1 : (q : Int) < (LW.length : Int) := by omega
                              clear hx hy hrx hry hrn hrw hB hgn hgw
                              by_cases hd : x = y
                              · have HQ := Lib.hid (show ∀ w, (binOp .neq 38 (memV x) (memV y)).run Try.prog w = .ok (.bool false) w from fun w => by rw [run_neq_mem, decide_eq_true hd]; rfl)
                                have HXY := Lib.hid hd
                                clear hd hxy
                                go_wp2_with fail
                                refine wp_region_class (Behind wr) (by kernel_rfl) (by kernel_rfl) (Below.refl _ _).drew ?_
                                iterate 21 (first
                                  | go_big_quiet_skip
                                  | (with_reducible refine wpQuiet_loadAll (by with_unfolding_all rfl) 38 _ (by with_unfolding_all rfl) gn (on + q * 3) (by with_unfolding_all rfl) (cellsM x) _ (fun w h => HRX.out w h) HU.out (by with_unfolding_all rfl) HIx.out ?_; simp only [Act.put, List.setIfInBounds_toArray, List.set_cons_zero, List.set_cons_succ])
                                  | (with_reducible refine wpQuiet_loadAll (by with_unfolding_all rfl) 38 _ (by with_unfolding_all rfl) gw (ow + q * 3) (by with_unfolding_all rfl) (cellsM y) _ (fun w h => HRY.out w h) HU.out (by with_unfolding_all rfl) HIy.out ?_; simp only [Act.put, List.setIfInBounds_toArray, List.set_cons_zero, List.set_cons_succ])
                                  | (with_reducible refine wpQuiet_call 15 [memV x, memV y] (.bool _) (by with_unfolding_all rfl) _ _ (by with_unfolding_all rfl) (by with_unfolding_all rfl) (fun _ => by kernel_rfl) (fun w' h => HAB.out w' h) ?_; simp only [Act.put, List.setIfInBounds_toArray, List.set_cons_zero, List.set_cons_succ])
                                  | (with_reducible refine wpQuiet_bin (by with_unfolding_all rfl) .neq 38 _ _ _ (by with_unfolding_all rfl) (memV x) (memV y) (.bool _) (by with_unfolding_all rfl) (by with_unfolding_all rfl) (fun w => run_eqGuard_mem w _ _ _ x y) (fun w => HQ.out w) ?_; simp only [Act.put, List.setIfInBounds_toArray, List.set_cons_zero, List.set_cons_succ])
                                  | (go_big_quiet_step (exact fun _ => rfl)))
                                with_reducible refine wpQuiet_nil ?_
                                intro wy hwy'
                                have hwy : Behind wr wy := hwy'
                                go_wp2_with fail
                                go_roundw
                                case rel => exact ⟨q + 1, by omega, by go_num, HB.out.trans (Below.mono hwy HB.out.size)⟩
                                case measure => simp [RowKit.intOf]; omega
                              · have HQ := Lib.hid (show ∀ w, (binOp .neq 38 (memV x) (memV y)).run Try.prog w = .ok (.bool true) w from fun w => by rw [run_neq_mem, decide_eq_false hd]; rfl)
                                rw [hxy.resolve_left hd] at HAB
                                have HXY := Lib.hid hd
                                clear hd hxy
                                go_wp2_with fail
                                refine wp_region_class (Behind wr) (by kernel_rfl) (by kernel_rfl) (Below.refl _ _).drew ?_
                                iterate 21 (first
                                  | go_big_quiet_skip
                                  | (with_reducible refine wpQuiet_loadAll (by with_unfolding_all rfl) 38 _ (by with_unfolding_all rfl) gn (on + q * 3) (by with_unfolding_all rfl) (cellsM x) _ (fun w h => HRX.out w h) HU.out (by with_unfolding_all rfl) HIx.out ?_; simp only [Act.put, List.setIfInBounds_toArray, List.set_cons_zero, List.set_cons_succ])
                                  | (with_reducible refine wpQuiet_loadAll (by with_unfolding_all rfl) 38 _ (by with_unfolding_all rfl) gw (ow + q * 3) (by with_unfolding_all rfl) (cellsM y) _ (fun w h => HRY.out w h) HU.out (by with_unfolding_all rfl) HIy.out ?_; simp only [Act.put, List.setIfInBounds_toArray, List.set_cons_zero, List.set_cons_succ])
                                  | (with_reducible refine wpQuiet_call 15 [memV x, memV y] (.bool _) (by with_unfolding_all rfl) _ _ (by with_unfolding_all rfl) (by with_unfolding_all rfl) (fun _ => by kernel_rfl) (fun w' h => HAB.out w' h) ?_; simp only [Act.put, List.setIfInBounds_toArray, List.set_cons_zero, List.set_cons_succ])
                                  | (with_reducible refine wpQuiet_bin (by with_unfolding_all rfl) .neq 38 _ _ _ (by with_unfolding_all rfl) (memV x) (memV y) (.bool _) (by with_unfolding_all rfl) (by with_unfolding_all rfl) (fun w => run_eqGuard_mem w _ _ _ x y) (fun w => HQ.out w) ?_; simp only [Act.put, List.setIfInBounds_toArray, List.set_cons_zero, List.set_cons_succ])
                                  | (go_big_quiet_step (exact fun _ => rfl)))
                                with_reducible refine wpQuiet_nil ?_
                                intro wy hwy'
                                have hwy : Behind wr wy := hwy'
                                go_wp2_with fail
                                go_roundw
                                case rel => exact ⟨q + 1, by omega, by go_num, HB.out.trans (Below.mono hwy HB.out.size)⟩
                                case measure => simp [RowKit.intOf]; omega
                            · have hqe : ¬ (q : Int) < (LW.length : Int) := by omega
                              have HR9 := Lib.hid (HR8.out.up HB.out)
                              clear HN8 HW8 HR8 hB HRI
                              go_wp2_with fail
                              refine (HR9.out.getMeF HL7.out).mono ?_
                              rintro e w9 ⟨mx, my, rfl, hb9⟩
                              have HRa := Lib.hid (HR9.out.up hb9)
                              clear hb9
                              go_wp2_with (first | (with_reducible refine wpList_val (.int .i64 0) (by with_unfolding_all rfl) (exec_field_state _ (by with_unfolding_all rfl) (by with_unfolding_all rfl) _) ?_))
                              refine (HRa.out.getMeF HL7.out).mono ?_
                              rintro e wA ⟨mx2, my2, rfl, hb9⟩
                              have HRb := Lib.hid (HRa.out.up hb9)
                              clear hb9
                              go_wp2_with (first | (with_reducible refine wpList_val (.int .i64 0) (by with_unfolding_all rfl) (exec_field_state _ (by with_unfolding_all rfl) (by with_unfolding_all rfl) _) ?_))
                              go_roundw
                              case rel => exact ⟨k + 1, false, by omega, by omega, rfl, by go_num, _, _, HRb.out.mono (by omega), HL7.out⟩
                              case measure => simp [RowKit.intOf]; omega
                    · rw [if_neg (fun h => hf2 h.2.2.1)] at hnl
                      subst hnl
                      as_aux_lemma =>
                        go_wp2_with fail
                        refine HR7.out.all.mono ?_
                        rintro e w8 ⟨AN, cn, rfl, hM8, hb8⟩
                        have HN8 := Lib.hid hM8
                        have HW8 := Lib.hid (HW7.out.up hb8)
                        have HR8 := Lib.hid (HR7.out.up hb8)
                        obtain ⟨LN, hLN⟩ : ∃ LN, LN = Go.Proofs.Ytghefmppjdneoaa.all t7.v := ⟨_, rfl⟩
                        rw [← hLN] at HN8 HRI ⊢
                        rw [HRI.out.1]
                        clear hM8 hb8 hLN HR7 HW7 HX7
                        go_wp2_with fail
                        go_loopw [14] (fun i wr => ∃ q : Nat, q ≤ LW.length ∧ i = .int .i64 q ∧ Below w8.heap.size w8 wr) (fun i _ => LW.length - (RowKit.intOf i).toNat)
                        case atStart => exact ⟨0, by omega, rfl, Below.refl _ _⟩
                        case round =>
                          obtain ⟨q, hq, rfl, hB⟩ := hrel
                          have HB := Lib.hid hB
                          by_cases hlq : q < LW.length
                          · obtain ⟨gn, on, rfl, hgn, hrn⟩ := HN8.out.1 (by rw [HRI.out.1]; omega)
                            obtain ⟨gw, ow, rfl, hgw, hrw⟩ := HW8.out.1 (by omega)
                            obtain ⟨x, hx⟩ : ∃ x, x = LN[q]'(by rw [HRI.out.1]; exact hlq) := ⟨_, rfl⟩
                            obtain ⟨y, hy⟩ : ∃ y, y = LW[q] := ⟨_, rfl⟩
                            have hxy : x = y ∨ x.above y = true := by rw [hx, hy]; exact HRI.out.2 q (by rw [HRI.out.1]; exact hlq) hlq
                            have hrx := hrn q (by rw [HRI.out.1]; exact hlq)
                            have hry := hrw q hlq
                            rw [← hx] at hrx
                            rw [← hy] at hry
                            have HRX := Lib.hid (show ∀ w', Behind wr w' → w'.rangeAt gn (on + q * 3) (cellsM x) from fun w' h j v hv => (World.cell?_of_block (w := w8) (((HB.out.trans (Below.mono h HB.out.size))).block gn hgn)).trans (hrx j v hv))
                            have HRY := Lib.hid (show ∀ w', Behind wr w' → w'.rangeAt gw (ow + q * 3) (cellsM y) from fun w' h j v hv => (World.cell?_of_block (w := w8) (((HB.out.trans (Below.mono h HB.out.size))).block gw hgw)).trans (hry j v hv))
                            have HAB := Lib.hid (show ∀ w', Behind wr w' → Calls Try.prog 15 #[memV x, memV y] w' fun e w'' => e = .returned (.bool (x.above y)) ∧ Behind wr w'' from fun w' h => (above_any x y w').mono fun e w'' ⟨he, hbx⟩ => ⟨he, Below.trans h (hbx.mono (Below.size h))⟩)
                            have HU := Lib.hid Try.underlying38
                            have HIx := Lib.hid (info_memC (m := x))
                            have HIy := Lib.hid (info_memC (m := y))
                            have q0 : (0 : Int) ≤ (q : Int) := by omega
                            have q1 : (q : Int) < (LW.length : Int) := by omega
                            clear hx hy hrx hry hrn hrw hB hgn hgw
                            by_cases hd : x = y
                            · have HQ := Lib.hid (show ∀ w, (binOp .neq 38 (memV x) (memV y)).run Try.prog w = .ok (.bool false) w from fun w => by rw [run_neq_mem, decide_eq_true hd]; rfl)
                              have HXY := Lib.hid hd
                              clear hd hxy
                              go_wp2_with fail
                              refine wp_region_class (Behind wr) (by kernel_rfl) (by kernel_rfl) (Below.refl _ _).drew ?_
                              iterate 21 (first
                                | go_big_quiet_skip
                                | (with_reducible refine wpQuiet_loadAll (by with_unfolding_all rfl) 38 _ (by with_unfolding_all rfl) gn (on + q * 3) (by with_unfolding_all rfl) (cellsM x) _ (fun w h => HRX.out w h) HU.out (by with_unfolding_all rfl) HIx.out ?_; simp only [Act.put, List.setIfInBounds_toArray, List.set_cons_zero, List.set_cons_succ])
                                | (with_reducible refine wpQuiet_loadAll (by with_unfolding_all rfl) 38 _ (by with_unfolding_all rfl) gw (ow + q * 3) (by with_unfolding_all rfl) (cellsM y) _ (fun w h => HRY.out w h) HU.out (by with_unfolding_all rfl) HIy.out ?_; simp only [Act.put, List.setIfInBounds_toArray, List.set_cons_zero, List.set_cons_succ])
                                | (with_reducible refine wpQuiet_call 15 [memV x, memV y] (.bool _) (by with_unfolding_all rfl) _ _ (by with_unfolding_all rfl) (by with_unfolding_all rfl) (fun _ => by kernel_rfl) (fun w' h => HAB.out w' h) ?_; simp only [Act.put, List.setIfInBounds_toArray, List.set_cons_zero, List.set_cons_succ])
                                | (with_reducible refine wpQuiet_bin (by with_unfolding_all rfl) .neq 38 _ _ _ (by with_unfolding_all rfl) (memV x) (memV y) (.bool _) (by with_unfolding_all rfl) (by with_unfolding_all rfl) (fun w => run_eqGuard_mem w _ _ _ x y) (fun w => HQ.out w) ?_; simp only [Act.put, List.setIfInBounds_toArray, List.set_cons_zero, List.set_cons_succ])
                                | (go_big_quiet_step (exact fun _ => rfl)))
                              with_reducible refine wpQuiet_nil ?_
                              intro wy hwy'
                              have hwy : Behind wr wy := hwy'
                              go_wp2_with fail
                              go_roundw
                              case rel => exact ⟨q + 1, by omega, by go_num, HB.out.trans (Below.mono hwy HB.out.size)⟩
                              case measure => simp [RowKit.intOf]; omega
                            · have HQ := Lib.hid (show ∀ w, (binOp .neq 38 (memV x) (memV y)).run Try.prog w = .ok (.bool true) w from fun w => by rw [run_neq_mem, decide_eq_false hd]; rfl)
                              rw [hxy.resolve_left hd] at HAB
                              have HXY := Lib.hid hd
                              clear hd hxy
                              go_wp2_with fail
                              refine wp_region_class (Behind wr) (by kernel_rfl) (by kernel_rfl) (Below.refl _ _).drew ?_
                              iterate 21 (first
                                | go_big_quiet_skip
                                | (with_reducible refine wpQuiet_loadAll (by with_unfolding_all rfl) 38 _ (by with_unfolding_all rfl) gn (on + q * 3) (by with_unfolding_all rfl) (cellsM x) _ (fun w h => HRX.out w h) HU.out (by with_unfolding_all rfl) HIx.out ?_; simp only [Act.put, List.setIfInBounds_toArray, List.set_cons_zero, List.set_cons_succ])
                                | (with_reducible refine wpQuiet_loadAll (by with_unfolding_all rfl) 38 _ (by with_unfolding_all rfl) gw (ow + q * 3) (by with_unfolding_all rfl) (cellsM y) _ (fun w h => HRY.out w h) HU.out (by with_unfolding_all rfl) HIy.out ?_; simp only [Act.put, List.setIfInBounds_toArray, List.set_cons_zero, List.set_cons_succ])
                                | (with_reducible refine wpQuiet_call 15 [memV x, memV y] (.bool _) (by with_unfolding_all rfl) _ _ (by with_unfolding_all rfl) (by with_unfolding_all rfl) (fun _ => by kernel_rfl) (fun w' h => HAB.out w' h) ?_; simp only [Act.put, List.setIfInBounds_toArray, List.set_cons_zero, List.set_cons_succ])
                                | (with_reducible refine wpQuiet_bin (by with_unfolding_all rfl) .neq 38 _ _ _ (by with_unfolding_all rfl) (memV x) (memV y) (.bool _) (by with_unfolding_all rfl) (by with_unfolding_all rfl) (fun w => run_eqGuard_mem w _ _ _ x y) (fun w => HQ.out w) ?_; simp only [Act.put, List.setIfInBounds_toArray, List.set_cons_zero, List.set_cons_succ])
                                | (go_big_quiet_step (exact fun _ => rfl)))
                              with_reducible refine wpQuiet_nil ?_
                              intro wy hwy'
                              have hwy : Behind wr wy := hwy'
                              go_wp2_with fail
                              go_roundw
                              case rel => exact ⟨q + 1, by omega, by go_num, HB.out.trans (Below.mono hwy HB.out.size)⟩
                              case measure => simp [RowKit.intOf]; omega
                          · have hqe : ¬ (q : Int) < (LW.length : Int) := by omega
                            have HR9 := Lib.hid (HR8.out.up HB.out)
                            clear HN8 HW8 HR8 hB HRI
                            go_wp2_with fail
                            refine (HR9.out.getMeF HL7.out).mono ?_
                            rintro e w9 ⟨mx, my, rfl, hb9⟩
                            have HRa := Lib.hid (HR9.out.up hb9)
                            clear hb9
                            go_wp2_with (first | (with_reducible refine wpList_val (.int .i64 0) (by with_unfolding_all rfl) (exec_field_state _ (by with_unfolding_all rfl) (by with_unfolding_all rfl) _) ?_))
                            refine (HRa.out.getMeF HL7.out).mono ?_
                            rintro e wA ⟨mx2, my2, rfl, hb9⟩
                            have HRb := Lib.hid (HRa.out.up hb9)
                            clear hb9
                            go_wp2_with (first | (with_reducible refine wpList_val (.int .i64 0) (by with_unfolding_all rfl) (exec_field_state _ (by with_unfolding_all rfl) (by with_unfolding_all rfl) _) ?_))
                            go_roundw
                            case rel => exact ⟨k + 1, false, by omega, by omega, rfl, by go_num, _, _, HRb.out.mono (by omega), HL7.out⟩
                            case measure => simp [RowKit.intOf]; omega
                  · rw [if_neg (fun h => hf1 h.2.1)] at hnl
                    subst hnl
                    as_aux_lemma =>
                      go_wp2_with fail
                      refine HR7.out.all.mono ?_
                      rintro e w8 ⟨AN, cn, rfl, hM8, hb8⟩
                      have HN8 := Lib.hid hM8
                      have HW8 := Lib.hid (HW7.out.up hb8)
                      have HR8 := Lib.hid (HR7.out.up hb8)
                      obtain ⟨LN, hLN⟩ : ∃ LN, LN = Go.Proofs.Ytghefmppjdneoaa.all t7.v := ⟨_, rfl⟩
                      rw [← hLN] at HN8 HRI ⊢
                      rw [HRI.out.1]
                      clear hM8 hb8 hLN HR7 HW7 HX7
                      go_wp2_with fail
                      go_loopw [14] (fun i wr => ∃ q : Nat, q ≤ LW.length ∧ i = .int .i64 q ∧ Below w8.heap.size w8 wr) (fun i _ => LW.length - (RowKit.intOf i).toNat)
                      case atStart => exact ⟨0, by omega, rfl, Below.refl _ _⟩
                      case round =>
                        obtain ⟨q, hq, rfl, hB⟩ := hrel
                        have HB := Lib.hid hB
                        by_cases hlq : q < LW.length
                        · obtain ⟨gn, on, rfl, hgn, hrn⟩ := HN8.out.1 (by rw [HRI.out.1]; omega)
                          obtain ⟨gw, ow, rfl, hgw, hrw⟩ := HW8.out.1 (by omega)
                          obtain ⟨x, hx⟩ : ∃ x, x = LN[q]'(by rw [HRI.out.1]; exact hlq) := ⟨_, rfl⟩
                          obtain ⟨y, hy⟩ : ∃ y, y = LW[q] := ⟨_, rfl⟩
                          have hxy : x = y ∨ x.above y = true := by rw [hx, hy]; exact HRI.out.2 q (by rw [HRI.out.1]; exact hlq) hlq
                          have hrx := hrn q (by rw [HRI.out.1]; exact hlq)
                          have hry := hrw q hlq
                          rw [← hx] at hrx
                          rw [← hy] at hry
                          have HRX := Lib.hid (show ∀ w', Behind wr w' → w'.rangeAt gn (on + q * 3) (cellsM x) from fun w' h j v hv => (World.cell?_of_block (w := w8) (((HB.out.trans (Below.mono h HB.out.size))).block gn hgn)).trans (hrx j v hv))
                          have HRY := Lib.hid (show ∀ w', Behind wr w' → w'.rangeAt gw (ow + q * 3) (cellsM y) from fun w' h j v hv => (World.cell?_of_block (w := w8) (((HB.out.trans (Below.mono h HB.out.size))).block gw hgw)).trans (hry j v hv))
                          have HAB := Lib.hid (show ∀ w', Behind wr w' → Calls Try.prog 15 #[memV x, memV y] w' fun e w'' => e = .returned (.bool (x.above y)) ∧ Behind wr w'' from fun w' h => (above_any x y w').mono fun e w'' ⟨he, hbx⟩ => ⟨he, Below.trans h (hbx.mono (Below.size h))⟩)
                          have HU := Lib.hid Try.underlying38
                          have HIx := Lib.hid (info_memC (m := x))
                          have HIy := Lib.hid (info_memC (m := y))
                          have q0 : (0 : Int) ≤ (q : Int) := by omega
                          have q1 : (q : Int) < (LW.length : Int) := by omega
                          clear hx hy hrx hry hrn hrw hB hgn hgw
                          by_cases hd : x = y
                          · have HQ := Lib.hid (show ∀ w, (binOp .neq 38 (memV x) (memV y)).run Try.prog w = .ok (.bool false) w from fun w => by rw [run_neq_mem, decide_eq_true hd]; rfl)
                            have HXY := Lib.hid hd
                            clear hd hxy
                            go_wp2_with fail
                            refine wp_region_class (Behind wr) (by kernel_rfl) (by kernel_rfl) (Below.refl _ _).drew ?_
                            iterate 21 (first
                              | go_big_quiet_skip
                              | (with_reducible refine wpQuiet_loadAll (by with_unfolding_all rfl) 38 _ (by with_unfolding_all rfl) gn (on + q * 3) (by with_unfolding_all rfl) (cellsM x) _ (fun w h => HRX.out w h) HU.out (by with_unfolding_all rfl) HIx.out ?_; simp only [Act.put, List.setIfInBounds_toArray, List.set_cons_zero, List.set_cons_succ])
                              | (with_reducible refine wpQuiet_loadAll (by with_unfolding_all rfl) 38 _ (by with_unfolding_all rfl) gw (ow + q * 3) (by with_unfolding_all rfl) (cellsM y) _ (fun w h => HRY.out w h) HU.out (by with_unfolding_all rfl) HIy.out ?_; simp only [Act.put, List.setIfInBounds_toArray, List.set_cons_zero, List.set_cons_succ])
                              | (with_reducible refine wpQuiet_call 15 [memV x, memV y] (.bool _) (by with_unfolding_all rfl) _ _ (by with_unfolding_all rfl) (by with_unfolding_all rfl) (fun _ => by kernel_rfl) (fun w' h => HAB.out w' h) ?_; simp only [Act.put, List.setIfInBounds_toArray, List.set_cons_zero, List.set_cons_succ])
                              | (with_reducible refine wpQuiet_bin (by with_unfolding_all rfl) .neq 38 _ _ _ (by with_unfolding_all rfl) (memV x) (memV y) (.bool _) (by with_unfolding_all rfl) (by with_unfolding_all rfl) (fun w => run_eqGuard_mem w _ _ _ x y) (fun w => HQ.out w) ?_; simp only [Act.put, List.setIfInBounds_toArray, List.set_cons_zero, List.set_cons_succ])
                              | (go_big_quiet_step (exact fun _ => rfl)))
                            with_reducible refine wpQuiet_nil ?_
                            intro wy hwy'
                            have hwy : Behind wr wy := hwy'
                            go_wp2_with fail
                            go_roundw
                            case rel => exact ⟨q + 1, by omega, by go_num, HB.out.trans (Below.mono hwy HB.out.size)⟩
                            case measure => simp [RowKit.intOf]; omega
                          · have HQ := Lib.hid (show ∀ w, (binOp .neq 38 (memV x) (memV y)).run Try.prog w = .ok (.bool true) w from fun w => by rw [run_neq_mem, decide_eq_false hd]; rfl)
                            rw [hxy.resolve_left hd] at HAB
                            have HXY := Lib.hid hd
                            clear hd hxy
                            go_wp2_with fail
                            refine wp_region_class (Behind wr) (by kernel_rfl) (by kernel_rfl) (Below.refl _ _).drew ?_
                            iterate 21 (first
                              | go_big_quiet_skip
                              | (with_reducible refine wpQuiet_loadAll (by with_unfolding_all rfl) 38 _ (by with_unfolding_all rfl) gn (on + q * 3) (by with_unfolding_all rfl) (cellsM x) _ (fun w h => HRX.out w h) HU.out (by with_unfolding_all rfl) HIx.out ?_; simp only [Act.put, List.setIfInBounds_toArray, List.set_cons_zero, List.set_cons_succ])
                              | (with_reducible refine wpQuiet_loadAll (by with_unfolding_all rfl) 38 _ (by with_unfolding_all rfl) gw (ow + q * 3) (by with_unfolding_all rfl) (cellsM y) _ (fun w h => HRY.out w h) HU.out (by with_unfolding_all rfl) HIy.out ?_; simp only [Act.put, List.setIfInBounds_toArray, List.set_cons_zero, List.set_cons_succ])
                              | (with_reducible refine wpQuiet_call 15 [memV x, memV y] (.bool _) (by with_unfolding_all rfl) _ _ (by with_unfolding_all rfl) (by with_unfolding_all rfl) (fun _ => by kernel_rfl) (fun w' h => HAB.out w' h) ?_; simp only [Act.put, List.setIfInBounds_toArray, List.set_cons_zero, List.set_cons_succ])
                              | (with_reducible refine wpQuiet_bin (by with_unfolding_all rfl) .neq 38 _ _ _ (by with_unfolding_all rfl) (memV x) (memV y) (.bool _) (by with_unfolding_all rfl) (by with_unfolding_all rfl) (fun w => run_eqGuard_mem w _ _ _ x y) (fun w => HQ.out w) ?_; simp only [Act.put, List.setIfInBounds_toArray, List.set_cons_zero, List.set_cons_succ])
                              | (go_big_quiet_step (exact fun _ => rfl)))
                            with_reducible refine wpQuiet_nil ?_
                            intro wy hwy'
                            have hwy : Behind wr wy := hwy'
                            go_wp2_with fail
                            go_roundw
                            case rel => exact ⟨q + 1, by omega, by go_num, HB.out.trans (Below.mono hwy HB.out.size)⟩
                            case measure => simp [RowKit.intOf]; omega
                        · have hqe : ¬ (q : Int) < (LW.length : Int) := by omega
                          have HR9 := Lib.hid (HR8.out.up HB.out)
                          clear HN8 HW8 HR8 hB HRI
                          go_wp2_with fail
                          refine (HR9.out.getMeF HL7.out).mono ?_
                          rintro e w9 ⟨mx, my, rfl, hb9⟩
                          have HRa := Lib.hid (HR9.out.up hb9)
                          clear hb9
                          go_wp2_with (first | (with_reducible refine wpList_val (.int .i64 0) (by with_unfolding_all rfl) (exec_field_state _ (by with_unfolding_all rfl) (by with_unfolding_all rfl) _) ?_))
                          refine (HRa.out.getMeF HL7.out).mono ?_
                          rintro e wA ⟨mx2, my2, rfl, hb9⟩
                          have HRb := Lib.hid (HRa.out.up hb9)
                          clear hb9
                          go_wp2_with (first | (with_reducible refine wpList_val (.int .i64 0) (by with_unfolding_all rfl) (exec_field_state _ (by with_unfolding_all rfl) (by with_unfolding_all rfl) _) ?_))
                          go_roundw
                          case rel => exact ⟨k + 1, false, by omega, by omega, rfl, by go_num, _, _, HRb.out.mono (by omega), HL7.out⟩
                          case measure => simp [RowKit.intOf]; omega
                · rw [if_neg (fun h => by cases h.1)] at hnl
                  subst hnl
                  as_aux_lemma =>
                    go_wp2_with fail
                    refine HR7.out.all.mono ?_
                    rintro e w8 ⟨AN, cn, rfl, hM8, hb8⟩
                    have HN8 := Lib.hid hM8
                    have HW8 := Lib.hid (HW7.out.up hb8)
                    have HR8 := Lib.hid (HR7.out.up hb8)
                    obtain ⟨LN, hLN⟩ : ∃ LN, LN = Go.Proofs.Ytghefmppjdneoaa.all t7.v := ⟨_, rfl⟩
                    rw [← hLN] at HN8 HRI ⊢
                    rw [HRI.out.1]
                    clear hM8 hb8 hLN HR7 HW7 HX7
                    go_wp2_with fail
                    go_loopw [14] (fun i wr => ∃ q : Nat, q ≤ LW.length ∧ i = .int .i64 q ∧ Below w8.heap.size w8 wr) (fun i _ => LW.length - (RowKit.intOf i).toNat)
                    case atStart => exact ⟨0, by omega, rfl, Below.refl _ _⟩
                    case round =>
                      obtain ⟨q, hq, rfl, hB⟩ := hrel
                      have HB := Lib.hid hB
                      by_cases hlq : q < LW.length
                      · obtain ⟨gn, on, rfl, hgn, hrn⟩ := HN8.out.1 (by rw [HRI.out.1]; omega)
                        obtain ⟨gw, ow, rfl, hgw, hrw⟩ := HW8.out.1 (by omega)
                        obtain ⟨x, hx⟩ : ∃ x, x = LN[q]'(by rw [HRI.out.1]; exact hlq) := ⟨_, rfl⟩
                        obtain ⟨y, hy⟩ : ∃ y, y = LW[q] := ⟨_, rfl⟩
                        have hxy : x = y ∨ x.above y = true := by rw [hx, hy]; exact HRI.out.2 q (by rw [HRI.out.1]; exact hlq) hlq
                        have hrx := hrn q (by rw [HRI.out.1]; exact hlq)
                        have hry := hrw q hlq
                        rw [← hx] at hrx
                        rw [← hy] at hry
                        have HRX := Lib.hid (show ∀ w', Behind wr w' → w'.rangeAt gn (on + q * 3) (cellsM x) from fun w' h j v hv => (World.cell?_of_block (w := w8) (((HB.out.trans (Below.mono h HB.out.size))).block gn hgn)).trans (hrx j v hv))
                        have HRY := Lib.hid (show ∀ w', Behind wr w' → w'.rangeAt gw (ow + q * 3) (cellsM y) from fun w' h j v hv => (World.cell?_of_block (w := w8) (((HB.out.trans (Below.mono h HB.out.size))).block gw hgw)).trans (hry j v hv))
                        have HAB := Lib.hid (show ∀ w', Behind wr w' → Calls Try.prog 15 #[memV x, memV y] w' fun e w'' => e = .returned (.bool (x.above y)) ∧ Behind wr w'' from fun w' h => (above_any x y w').mono fun e w'' ⟨he, hbx⟩ => ⟨he, Below.trans h (hbx.mono (Below.size h))⟩)
                        have HU := Lib.hid Try.underlying38
                        have HIx := Lib.hid (info_memC (m := x))
                        have HIy := Lib.hid (info_memC (m := y))
                        have q0 : (0 : Int) ≤ (q : Int) := by omega
                        have q1 : (q : Int) < (LW.length : Int) := by omega
                        clear hx hy hrx hry hrn hrw hB hgn hgw
                        by_cases hd : x = y
                        · have HQ := Lib.hid (show ∀ w, (binOp .neq 38 (memV x) (memV y)).run Try.prog w = .ok (.bool false) w from fun w => by rw [run_neq_mem, decide_eq_true hd]; rfl)
                          have HXY := Lib.hid hd
                          clear hd hxy
                          go_wp2_with fail
                          refine wp_region_class (Behind wr) (by kernel_rfl) (by kernel_rfl) (Below.refl _ _).drew ?_
                          iterate 21 (first
                            | go_big_quiet_skip
                            | (with_reducible refine wpQuiet_loadAll (by with_unfolding_all rfl) 38 _ (by with_unfolding_all rfl) gn (on + q * 3) (by with_unfolding_all rfl) (cellsM x) _ (fun w h => HRX.out w h) HU.out (by with_unfolding_all rfl) HIx.out ?_; simp only [Act.put, List.setIfInBounds_toArray, List.set_cons_zero, List.set_cons_succ])
                            | (with_reducible refine wpQuiet_loadAll (by with_unfolding_all rfl) 38 _ (by with_unfolding_all rfl) gw (ow + q * 3) (by with_unfolding_all rfl) (cellsM y) _ (fun w h => HRY.out w h) HU.out (by with_unfolding_all rfl) HIy.out ?_; simp only [Act.put, List.setIfInBounds_toArray, List.set_cons_zero, List.set_cons_succ])
                            | (with_reducible refine wpQuiet_call 15 [memV x, memV y] (.bool _) (by with_unfolding_all rfl) _ _ (by with_unfolding_all rfl) (by with_unfolding_all rfl) (fun _ => by kernel_rfl) (fun w' h => HAB.out w' h) ?_; simp only [Act.put, List.setIfInBounds_toArray, List.set_cons_zero, List.set_cons_succ])
                            | (with_reducible refine wpQuiet_bin (by with_unfolding_all rfl) .neq 38 _ _ _ (by with_unfolding_all rfl) (memV x) (memV y) (.bool _) (by with_unfolding_all rfl) (by with_unfolding_all rfl) (fun w => run_eqGuard_mem w _ _ _ x y) (fun w => HQ.out w) ?_; simp only [Act.put, List.setIfInBounds_toArray, List.set_cons_zero, List.set_cons_succ])
                            | (go_big_quiet_step (exact fun _ => rfl)))
                          with_reducible refine wpQuiet_nil ?_
                          intro wy hwy'
                          have hwy : Behind wr wy := hwy'
                          go_wp2_with fail
                          go_roundw
                          case rel => exact ⟨q + 1, by omega, by go_num, HB.out.trans (Below.mono hwy HB.out.size)⟩
                          case measure => simp [RowKit.intOf]; omega
                        · have HQ := Lib.hid (show ∀ w, (binOp .neq 38 (memV x) (memV y)).run Try.prog w = .ok (.bool true) w from fun w => by rw [run_neq_mem, decide_eq_false hd]; rfl)
                          rw [hxy.resolve_left hd] at HAB
                          have HXY := Lib.hid hd
                          clear hd hxy
                          go_wp2_with fail
                          refine wp_region_class (Behind wr) (by kernel_rfl) (by kernel_rfl) (Below.refl _ _).drew ?_
                          iterate 21 (first
                            | go_big_quiet_skip
                            | (with_reducible refine wpQuiet_loadAll (by with_unfolding_all rfl) 38 _ (by with_unfolding_all rfl) gn (on + q * 3) (by with_unfolding_all rfl) (cellsM x) _ (fun w h => HRX.out w h) HU.out (by with_unfolding_all rfl) HIx.out ?_; simp only [Act.put, List.setIfInBounds_toArray, List.set_cons_zero, List.set_cons_succ])
                            | (with_reducible refine wpQuiet_loadAll (by with_unfolding_all rfl) 38 _ (by with_unfolding_all rfl) gw (ow + q * 3) (by with_unfolding_all rfl) (cellsM y) _ (fun w h => HRY.out w h) HU.out (by with_unfolding_all rfl) HIy.out ?_; simp only [Act.put, List.setIfInBounds_toArray, List.set_cons_zero, List.set_cons_succ])
                            | (with_reducible refine wpQuiet_call 15 [memV x, memV y] (.bool _) (by with_unfolding_all rfl) _ _ (by with_unfolding_all rfl) (by with_unfolding_all rfl) (fun _ => by kernel_rfl) (fun w' h => HAB.out w' h) ?_; simp only [Act.put, List.setIfInBounds_toArray, List.set_cons_zero, List.set_cons_succ])
                            | (with_reducible refine wpQuiet_bin (by with_unfolding_all rfl) .neq 38 _ _ _ (by with_unfolding_all rfl) (memV x) (memV y) (.bool _) (by with_unfolding_all rfl) (by with_unfolding_all rfl) (fun w => run_eqGuard_mem w _ _ _ x y) (fun w => HQ.out w) ?_; simp only [Act.put, List.setIfInBounds_toArray, List.set_cons_zero, List.set_cons_succ])
                            | (go_big_quiet_step (exact fun _ => rfl)))
                          with_reducible refine wpQuiet_nil ?_
                          intro wy hwy'
                          have hwy : Behind wr wy := hwy'
                          go_wp2_with fail
                          go_roundw
                          case rel => exact ⟨q + 1, by omega, by go_num, HB.out.trans (Below.mono hwy HB.out.size)⟩
                          case measure => simp [RowKit.intOf]; omega
                      · have hqe : ¬ (q : Int) < (LW.length : Int) := by omega
                        have HR9 := Lib.hid (HR8.out.up HB.out)
                        clear HN8 HW8 HR8 hB HRI
                        go_wp2_with fail
                        refine (HR9.out.getMeT HL7.out).mono ?_
                        rintro e w9 ⟨mx, my, rfl, hb9⟩
                        have HRa := Lib.hid (HR9.out.up hb9)
                        clear hb9
                        go_wp2_with (first | (with_reducible refine wpList_val (.int .i64 3) (by with_unfolding_all rfl) (exec_field_state _ (by with_unfolding_all rfl) (by with_unfolding_all rfl) _) ?_))
                        go_roundw
                        case rel => exact ⟨k + 1, true, by omega, by omega, rfl, by go_num, _, _, HRa.out.mono (by omega), HL7.out⟩
                        case measure => simp [RowKit.intOf]; omega
              · clear HNL
                as_aux_lemma =>
                  go_wp2_with fail
                  refine HR7.out.all.mono ?_
                  rintro e w8 ⟨AN, cn, rfl, hM8, hb8⟩
                  have HN8 := Lib.hid hM8
                  have HW8 := Lib.hid (HW7.out.up hb8)
                  have HR8 := Lib.hid (HR7.out.up hb8)
                  obtain ⟨LN, hLN⟩ : ∃ LN, LN = Go.Proofs.Ytghefmppjdneoaa.all t7.v := ⟨_, rfl⟩
                  rw [← hLN] at HN8 HRI ⊢
                  rw [HRI.out.1]
                  clear hM8 hb8 hLN HR7 HW7 HX7
                  go_wp2_with fail
                  go_loopw [14] (fun i wr => ∃ q : Nat, q ≤ LW.length ∧ i = .int .i64 q ∧ Below w8.heap.size w8 wr) (fun i _ => LW.length - (RowKit.intOf i).toNat)
                  case atStart => exact ⟨0, by omega, rfl, Below.refl _ _⟩
                  case round =>
                    obtain ⟨q, hq, rfl, hB⟩ := hrel
                    have HB := Lib.hid hB
                    by_cases hlq : q < LW.length
                    · obtain ⟨gn, on, rfl, hgn, hrn⟩ := HN8.out.1 (by rw [HRI.out.1]; omega)
                      obtain ⟨gw, ow, rfl, hgw, hrw⟩ := HW8.out.1 (by omega)
                      obtain ⟨x, hx⟩ : ∃ x, x = LN[q]'(by rw [HRI.out.1]; exact hlq) := ⟨_, rfl⟩
                      obtain ⟨y, hy⟩ : ∃ y, y = LW[q] := ⟨_, rfl⟩
                      have hxy : x = y ∨ x.above y = true := by rw [hx, hy]; exact HRI.out.2 q (by rw [HRI.out.1]; exact hlq) hlq
                      have hrx := hrn q (by rw [HRI.out.1]; exact hlq)
                      have hry := hrw q hlq
                      rw [← hx] at hrx
                      rw [← hy] at hry
                      have HRX := Lib.hid (show ∀ w', Behind wr w' → w'.rangeAt gn (on + q * 3) (cellsM x) from fun w' h j v hv => (World.cell?_of_block (w := w8) (((HB.out.trans (Below.mono h HB.out.size))).block gn hgn)).trans (hrx j v hv))
                      have HRY := Lib.hid (show ∀ w', Behind wr w' → w'.rangeAt gw (ow + q * 3) (cellsM y) from fun w' h j v hv => (World.cell?_of_block (w := w8) (((HB.out.trans (Below.mono h HB.out.size))).block gw hgw)).trans (hry j v hv))
                      have HAB := Lib.hid (show ∀ w', Behind wr w' → Calls Try.prog 15 #[memV x, memV y] w' fun e w'' => e = .returned (.bool (x.above y)) ∧ Behind wr w'' from fun w' h => (above_any x y w').mono fun e w'' ⟨he, hbx⟩ => ⟨he, Below.trans h (hbx.mono (Below.size h))⟩)
                      have HU := Lib.hid Try.underlying38
                      have HIx := Lib.hid (info_memC (m := x))
                      have HIy := Lib.hid (info_memC (m := y))
                      have q0 : (0 : Int) ≤ (q : Int) := by omega
                      have q1 : (q : Int) < (LW.length : Int) := by omega
                      clear hx hy hrx hry hrn hrw hB hgn hgw
                      by_cases hd : x = y
                      · have HQ := Lib.hid (show ∀ w, (binOp .neq 38 (memV x) (memV y)).run Try.prog w = .ok (.bool false) w from fun w => by rw [run_neq_mem, decide_eq_true hd]; rfl)
                        have HXY := Lib.hid hd
                        clear hd hxy
                        go_wp2_with fail
                        refine wp_region_class (Behind wr) (by kernel_rfl) (by kernel_rfl) (Below.refl _ _).drew ?_
                        iterate 21 (first
                          | go_big_quiet_skip
                          | (with_reducible refine wpQuiet_loadAll (by with_unfolding_all rfl) 38 _ (by with_unfolding_all rfl) gn (on + q * 3) (by with_unfolding_all rfl) (cellsM x) _ (fun w h => HRX.out w h) HU.out (by with_unfolding_all rfl) HIx.out ?_; simp only [Act.put, List.setIfInBounds_toArray, List.set_cons_zero, List.set_cons_succ])
                          | (with_reducible refine wpQuiet_loadAll (by with_unfolding_all rfl) 38 _ (by with_unfolding_all rfl) gw (ow + q * 3) (by with_unfolding_all rfl) (cellsM y) _ (fun w h => HRY.out w h) HU.out (by with_unfolding_all rfl) HIy.out ?_; simp only [Act.put, List.setIfInBounds_toArray, List.set_cons_zero, List.set_cons_succ])
                          | (with_reducible refine wpQuiet_call 15 [memV x, memV y] (.bool _) (by with_unfolding_all rfl) _ _ (by with_unfolding_all rfl) (by with_unfolding_all rfl) (fun _ => by kernel_rfl) (fun w' h => HAB.out w' h) ?_; simp only [Act.put, List.setIfInBounds_toArray, List.set_cons_zero, List.set_cons_succ])
                          | (with_reducible refine wpQuiet_bin (by with_unfolding_all rfl) .neq 38 _ _ _ (by with_unfolding_all rfl) (memV x) (memV y) (.bool _) (by with_unfolding_all rfl) (by with_unfolding_all rfl) (fun w => run_eqGuard_mem w _ _ _ x y) (fun w => HQ.out w) ?_; simp only [Act.put, List.setIfInBounds_toArray, List.set_cons_zero, List.set_cons_succ])
                          | (go_big_quiet_step (exact fun _ => rfl)))
                        with_reducible refine wpQuiet_nil ?_
                        intro wy hwy'
                        have hwy : Behind wr wy := hwy'
                        go_wp2_with fail
                        go_roundw
                        case rel => exact ⟨q + 1, by omega, by go_num, HB.out.trans (Below.mono hwy HB.out.size)⟩
                        case measure => simp [RowKit.intOf]; omega
                      · have HQ := Lib.hid (show ∀ w, (binOp .neq 38 (memV x) (memV y)).run Try.prog w = .ok (.bool true) w from fun w => by rw [run_neq_mem, decide_eq_false hd]; rfl)
                        rw [hxy.resolve_left hd] at HAB
                        have HXY := Lib.hid hd
                        clear hd hxy
                        go_wp2_with fail
                        refine wp_region_class (Behind wr) (by kernel_rfl) (by kernel_rfl) (Below.refl _ _).drew ?_
                        iterate 21 (first
                          | go_big_quiet_skip
                          | (with_reducible refine wpQuiet_loadAll (by with_unfolding_all rfl) 38 _ (by with_unfolding_all rfl) gn (on + q * 3) (by with_unfolding_all rfl) (cellsM x) _ (fun w h => HRX.out w h) HU.out (by with_unfolding_all rfl) HIx.out ?_; simp only [Act.put, List.setIfInBounds_toArray, List.set_cons_zero, List.set_cons_succ])
                          | (with_reducible refine wpQuiet_loadAll (by with_unfolding_all rfl) 38 _ (by with_unfolding_all rfl) gw (ow + q * 3) (by with_unfolding_all rfl) (cellsM y) _ (fun w h => HRY.out w h) HU.out (by with_unfolding_all rfl) HIy.out ?_; simp only [Act.put, List.setIfInBounds_toArray, List.set_cons_zero, List.set_cons_succ])
                          | (with_reducible refine wpQuiet_call 15 [memV x, memV y] (.bool _) (by with_unfolding_all rfl) _ _ (by with_unfolding_all rfl) (by with_unfolding_all rfl) (fun _ => by kernel_rfl) (fun w' h => HAB.out w' h) ?_; simp only [Act.put, List.setIfInBounds_toArray, List.set_cons_zero, List.set_cons_succ])
                          | (with_reducible refine wpQuiet_bin (by with_unfolding_all rfl) .neq 38 _ _ _ (by with_unfolding_all rfl) (memV x) (memV y) (.bool _) (by with_unfolding_all rfl) (by with_unfolding_all rfl) (fun w => run_eqGuard_mem w _ _ _ x y) (fun w => HQ.out w) ?_; simp only [Act.put, List.setIfInBounds_toArray, List.set_cons_zero, List.set_cons_succ])
                          | (go_big_quiet_step (exact fun _ => rfl)))
                        with_reducible refine wpQuiet_nil ?_
                        intro wy hwy'
                        have hwy : Behind wr wy := hwy'
                        go_wp2_with fail
                        go_roundw
                        case rel => exact ⟨q + 1, by omega, by go_num, HB.out.trans (Below.mono hwy HB.out.size)⟩
                        case measure => simp [RowKit.intOf]; omega
                    · have hqe : ¬ (q : Int) < (LW.length : Int) := by omega
                      have HR9 := Lib.hid (HR8.out.up HB.out)
                      clear HN8 HW8 HR8 hB HRI
                      cases L
                      · skip
                        go_wp2_with fail
                        refine (HR9.out.getMeF HL7.out).mono ?_
                        rintro e w9 ⟨mx, my, rfl, hb9⟩
                        have HRa := Lib.hid (HR9.out.up hb9)
                        clear hb9
                        go_wp2_with (first | (with_reducible refine wpList_val (.int .i64 0) (by with_unfolding_all rfl) (exec_field_state _ (by with_unfolding_all rfl) (by with_unfolding_all rfl) _) ?_))
                        refine (HRa.out.getMeF HL7.out).mono ?_
                        rintro e wA ⟨mx2, my2, rfl, hb9⟩
                        have HRb := Lib.hid (HRa.out.up hb9)
                        clear hb9
                        go_wp2_with (first | (with_reducible refine wpList_val (.int .i64 0) (by with_unfolding_all rfl) (exec_field_state _ (by with_unfolding_all rfl) (by with_unfolding_all rfl) _) ?_))
                        go_roundw
                        case rel => exact ⟨k + 1, false, by omega, by omega, rfl, by go_num, _, _, HRb.out.mono (by omega), HL7.out⟩
                        case measure => simp [RowKit.intOf]; omega
                      · skip
                        go_wp2_with fail
                        refine (HR9.out.getMeT HL7.out).mono ?_
                        rintro e w9 ⟨mx, my, rfl, hb9⟩
                        have HRa := Lib.hid (HR9.out.up hb9)
                        clear hb9
                        go_wp2_with (first | (with_reducible refine wpList_val (.int .i64 3) (by with_unfolding_all rfl) (exec_field_state _ (by with_unfolding_all rfl) (by with_unfolding_all rfl) _) ?_))
                        go_roundw
                        case rel => exact ⟨k + 1, true, by omega, by omega, rfl, by go_num, _, _, HRa.out.mono (by omega), HL7.out⟩
                        case measure => simp [RowKit.intOf]; omega
            · by_cases h3 : kd = 3
              · subst h3
                go_wp2_with fail
                refine (HR6.out.leave HN.out.2 HN.out.1.2 (by omega)).mono ?_
                rintro e w7 ⟨v7, rfl, hD⟩
                obtain ⟨O7, t7, hR7, hU7, hL7, hK7, hO7⟩ := hD
                have HR7 := Lib.hid hR7
                have HL7 := Lib.hid hL7
                have HX7 := Lib.hid (HX6.out.keep hK7 hO7)
                have HW7 := Lib.hid (HW6.out.keep hK7 hO7)
                have HRI := Lib.hid (show (Go.Proofs.Ytghefmppjdneoaa.all t7.v).length = LW.length ∧ ∀ i (h1 : i < (Go.Proofs.Ytghefmppjdneoaa.all t7.v).length) (h2 : i < LW.length), (Go.Proofs.Ytghefmppjdneoaa.all t7.v)[i] = LW[i] ∨ ((Go.Proofs.Ytghefmppjdneoaa.all t7.v)[i]).above LW[i] = true from by have h := HLW.out; subst h; exact HR6.out.fit.rises hR7.fit hU7)
                clear hR7 hU7 hL7 hK7 hO7 HW6 HX6
                clear z0 z1
                as_aux_lemma =>
                  go_wp2_with fail
                  refine HR7.out.all.mono ?_
                  rintro e w8 ⟨AN, cn, rfl, hM8, hb8⟩
                  have HN8 := Lib.hid hM8
                  have HW8 := Lib.hid (HW7.out.up hb8)
                  have HR8 := Lib.hid (HR7.out.up hb8)
                  obtain ⟨LN, hLN⟩ : ∃ LN, LN = Go.Proofs.Ytghefmppjdneoaa.all t7.v := ⟨_, rfl⟩
                  rw [← hLN] at HN8 HRI ⊢
                  rw [HRI.out.1]
                  clear hM8 hb8 hLN HR7 HW7 HX7
                  go_wp2_with fail
                  go_loopw [14] (fun i wr => ∃ q : Nat, q ≤ LW.length ∧ i = .int .i64 q ∧ Below w8.heap.size w8 wr) (fun i _ => LW.length - (RowKit.intOf i).toNat)
                  case atStart => exact ⟨0, by omega, rfl, Below.refl _ _⟩
                  case round =>
                    obtain ⟨q, hq, rfl, hB⟩ := hrel
                    have HB := Lib.hid hB
                    by_cases hlq : q < LW.length
                    · obtain ⟨gn, on, rfl, hgn, hrn⟩ := HN8.out.1 (by rw [HRI.out.1]; omega)
                      obtain ⟨gw, ow, rfl, hgw, hrw⟩ := HW8.out.1 (by omega)
                      obtain ⟨x, hx⟩ : ∃ x, x = LN[q]'(by rw [HRI.out.1]; exact hlq) := ⟨_, rfl⟩
                      obtain ⟨y, hy⟩ : ∃ y, y = LW[q] := ⟨_, rfl⟩
                      have hxy : x = y ∨ x.above y = true := by rw [hx, hy]; exact HRI.out.2 q (by rw [HRI.out.1]; exact hlq) hlq
                      have hrx := hrn q (by rw [HRI.out.1]; exact hlq)
                      have hry := hrw q hlq
                      rw [← hx] at hrx
                      rw [← hy] at hry
                      have HRX := Lib.hid (show ∀ w', Behind wr w' → w'.rangeAt gn (on + q * 3) (cellsM x) from fun w' h j v hv => (World.cell?_of_block (w := w8) (((HB.out.trans (Below.mono h HB.out.size))).block gn hgn)).trans (hrx j v hv))
                      have HRY := Lib.hid (show ∀ w', Behind wr w' → w'.rangeAt gw (ow + q * 3) (cellsM y) from fun w' h j v hv => (World.cell?_of_block (w := w8) (((HB.out.trans (Below.mono h HB.out.size))).block gw hgw)).trans (hry j v hv))
                      have HAB := Lib.hid (show ∀ w', Behind wr w' → Calls Try.prog 15 #[memV x, memV y] w' fun e w'' => e = .returned (.bool (x.above y)) ∧ Behind wr w'' from fun w' h => (above_any x y w').mono fun e w'' ⟨he, hbx⟩ => ⟨he, Below.trans h (hbx.mono (Below.size h))⟩)
                      have HU := Lib.hid Try.underlying38
                      have HIx := Lib.hid (info_memC (m := x))
                      have HIy := Lib.hid (info_memC (m := y))
                      have q0 : (0 : Int) ≤ (q : Int) := by omega
                      have q1 : (q : Int) < (LW.length : Int) := by omega
                      clear hx hy hrx hry hrn hrw hB hgn hgw
                      by_cases hd : x = y
                      · have HQ := Lib.hid (show ∀ w, (binOp .neq 38 (memV x) (memV y)).run Try.prog w = .ok (.bool false) w from fun w => by rw [run_neq_mem, decide_eq_true hd]; rfl)
                        have HXY := Lib.hid hd
                        clear hd hxy
                        go_wp2_with fail
                        refine wp_region_class (Behind wr) (by kernel_rfl) (by kernel_rfl) (Below.refl _ _).drew ?_
                        iterate 21 (first
                          | go_big_quiet_skip
                          | (with_reducible refine wpQuiet_loadAll (by with_unfolding_all rfl) 38 _ (by with_unfolding_all rfl) gn (on + q * 3) (by with_unfolding_all rfl) (cellsM x) _ (fun w h => HRX.out w h) HU.out (by with_unfolding_all rfl) HIx.out ?_; simp only [Act.put, List.setIfInBounds_toArray, List.set_cons_zero, List.set_cons_succ])
                          | (with_reducible refine wpQuiet_loadAll (by with_unfolding_all rfl) 38 _ (by with_unfolding_all rfl) gw (ow + q * 3) (by with_unfolding_all rfl) (cellsM y) _ (fun w h => HRY.out w h) HU.out (by with_unfolding_all rfl) HIy.out ?_; simp only [Act.put, List.setIfInBounds_toArray, List.set_cons_zero, List.set_cons_succ])
                          | (with_reducible refine wpQuiet_call 15 [memV x, memV y] (.bool _) (by with_unfolding_all rfl) _ _ (by with_unfolding_all rfl) (by with_unfolding_all rfl) (fun _ => by kernel_rfl) (fun w' h => HAB.out w' h) ?_; simp only [Act.put, List.setIfInBounds_toArray, List.set_cons_zero, List.set_cons_succ])
                          | (with_reducible refine wpQuiet_bin (by with_unfolding_all rfl) .neq 38 _ _ _ (by with_unfolding_all rfl) (memV x) (memV y) (.bool _) (by with_unfolding_all rfl) (by with_unfolding_all rfl) (fun w => run_eqGuard_mem w _ _ _ x y) (fun w => HQ.out w) ?_; simp only [Act.put, List.setIfInBounds_toArray, List.set_cons_zero, List.set_cons_succ])
                          | (go_big_quiet_step (exact fun _ => rfl)))
                        with_reducible refine wpQuiet_nil ?_
                        intro wy hwy'
                        have hwy : Behind wr wy := hwy'
                        go_wp2_with fail
                        go_roundw
                        case rel => exact ⟨q + 1, by omega, by go_num, HB.out.trans (Below.mono hwy HB.out.size)⟩
                        case measure => simp [RowKit.intOf]; omega
                      · have HQ := Lib.hid (show ∀ w, (binOp .neq 38 (memV x) (memV y)).run Try.prog w = .ok (.bool true) w from fun w => by rw [run_neq_mem, decide_eq_false hd]; rfl)
                        rw [hxy.resolve_left hd] at HAB
                        have HXY := Lib.hid hd
                        clear hd hxy
                        go_wp2_with fail
                        refine wp_region_class (Behind wr) (by kernel_rfl) (by kernel_rfl) (Below.refl _ _).drew ?_
                        iterate 21 (first
                          | go_big_quiet_skip
                          | (with_reducible refine wpQuiet_loadAll (by with_unfolding_all rfl) 38 _ (by with_unfolding_all rfl) gn (on + q * 3) (by with_unfolding_all rfl) (cellsM x) _ (fun w h => HRX.out w h) HU.out (by with_unfolding_all rfl) HIx.out ?_; simp only [Act.put, List.setIfInBounds_toArray, List.set_cons_zero, List.set_cons_succ])
                          | (with_reducible refine wpQuiet_loadAll (by with_unfolding_all rfl) 38 _ (by with_unfolding_all rfl) gw (ow + q * 3) (by with_unfolding_all rfl) (cellsM y) _ (fun w h => HRY.out w h) HU.out (by with_unfolding_all rfl) HIy.out ?_; simp only [Act.put, List.setIfInBounds_toArray, List.set_cons_zero, List.set_cons_succ])
                          | (with_reducible refine wpQuiet_call 15 [memV x, memV y] (.bool _) (by with_unfolding_all rfl) _ _ (by with_unfolding_all rfl) (by with_unfolding_all rfl) (fun _ => by kernel_rfl) (fun w' h => HAB.out w' h) ?_; simp only [Act.put, List.setIfInBounds_toArray, List.set_cons_zero, List.set_cons_succ])
                          | (with_reducible refine wpQuiet_bin (by with_unfolding_all rfl) .neq 38 _ _ _ (by with_unfolding_all rfl) (memV x) (memV y) (.bool _) (by with_unfolding_all rfl) (by with_unfolding_all rfl) (fun w => run_eqGuard_mem w _ _ _ x y) (fun w => HQ.out w) ?_; simp only [Act.put, List.setIfInBounds_toArray, List.set_cons_zero, List.set_cons_succ])
                          | (go_big_quiet_step (exact fun _ => rfl)))
                        with_reducible refine wpQuiet_nil ?_
                        intro wy hwy'
                        have hwy : Behind wr wy := hwy'
                        go_wp2_with fail
                        go_roundw
                        case rel => exact ⟨q + 1, by omega, by go_num, HB.out.trans (Below.mono hwy HB.out.size)⟩
                        case measure => simp [RowKit.intOf]; omega
                    · have hqe : ¬ (q : Int) < (LW.length : Int) := by omega
                      have HR9 := Lib.hid (HR8.out.up HB.out)
                      clear HN8 HW8 HR8 hB HRI
                      go_wp2_with fail
                      refine (HR9.out.getMeT HL7.out).mono ?_
                      rintro e w9 ⟨mx, my, rfl, hb9⟩
                      have HRa := Lib.hid (HR9.out.up hb9)
                      clear hb9
                      go_wp2_with (first | (with_reducible refine wpList_val (.int .i64 3) (by with_unfolding_all rfl) (exec_field_state _ (by with_unfolding_all rfl) (by with_unfolding_all rfl) _) ?_))
                      go_roundw
                      case rel => exact ⟨k + 1, true, by omega, by omega, rfl, by go_num, _, _, HRa.out.mono (by omega), HL7.out⟩
                      case measure => simp [RowKit.intOf]; omega
              · clear HN64
                have HD := Lib.hid (show Did w w6 w6 O (30 * k + 30) s t ME N L from ⟨O, t, HR6.out.mono (by omega), Up.refl _, HTL.out, Keeps.refl _ _, fun i hi => .inl hi⟩)
                obtain ⟨O7, t7, hR7, hU7, hL7, hK7, hO7⟩ := HD.out
                have HR7 := Lib.hid hR7
                have HL7 := Lib.hid hL7
                have HX7 := Lib.hid (HX6.out.keep hK7 hO7)
                have HW7 := Lib.hid (HW6.out.keep hK7 hO7)
                have HRI := Lib.hid (show (Go.Proofs.Ytghefmppjdneoaa.all t7.v).length = LW.length ∧ ∀ i (h1 : i < (Go.Proofs.Ytghefmppjdneoaa.all t7.v).length) (h2 : i < LW.length), (Go.Proofs.Ytghefmppjdneoaa.all t7.v)[i] = LW[i] ∨ ((Go.Proofs.Ytghefmppjdneoaa.all t7.v)[i]).above LW[i] = true from by have h := HLW.out; subst h; exact HR6.out.fit.rises hR7.fit hU7)
                clear hR7 hU7 hL7 hK7 hO7 HW6 HX6 HD
                as_aux_lemma =>
                  go_wp2_with fail
                  refine HR7.out.all.mono ?_
                  rintro e w8 ⟨AN, cn, rfl, hM8, hb8⟩
                  have HN8 := Lib.hid hM8
                  have HW8 := Lib.hid (HW7.out.up hb8)
                  have HR8 := Lib.hid (HR7.out.up hb8)
                  obtain ⟨LN, hLN⟩ : ∃ LN, LN = Go.Proofs.Ytghefmppjdneoaa.all t7.v := ⟨_, rfl⟩
                  rw [← hLN] at HN8 HRI ⊢
                  rw [HRI.out.1]
                  clear hM8 hb8 hLN HR7 HW7 HX7
                  go_wp2_with fail
                  go_loopw [14] (fun i wr => ∃ q : Nat, q ≤ LW.length ∧ i = .int .i64 q ∧ Below w8.heap.size w8 wr) (fun i _ => LW.length - (RowKit.intOf i).toNat)
                  case atStart => exact ⟨0, by omega, rfl, Below.refl _ _⟩
                  case round =>
                    obtain ⟨q, hq, rfl, hB⟩ := hrel
                    have HB := Lib.hid hB
                    by_cases hlq : q < LW.length
                    · obtain ⟨gn, on, rfl, hgn, hrn⟩ := HN8.out.1 (by rw [HRI.out.1]; omega)
                      obtain ⟨gw, ow, rfl, hgw, hrw⟩ := HW8.out.1 (by omega)
                      obtain ⟨x, hx⟩ : ∃ x, x = LN[q]'(by rw [HRI.out.1]; exact hlq) := ⟨_, rfl⟩
                      obtain ⟨y, hy⟩ : ∃ y, y = LW[q] := ⟨_, rfl⟩
                      have hxy : x = y ∨ x.above y = true := by rw [hx, hy]; exact HRI.out.2 q (by rw [HRI.out.1]; exact hlq) hlq
                      have hrx := hrn q (by rw [HRI.out.1]; exact hlq)
                      have hry := hrw q hlq
                      rw [← hx] at hrx
                      rw [← hy] at hry
                      have HRX := Lib.hid (show ∀ w', Behind wr w' → w'.rangeAt gn (on + q * 3) (cellsM x) from fun w' h j v hv => (World.cell?_of_block (w := w8) (((HB.out.trans (Below.mono h HB.out.size))).block gn hgn)).trans (hrx j v hv))
                      have HRY := Lib.hid (show ∀ w', Behind wr w' → w'.rangeAt gw (ow + q * 3) (cellsM y) from fun w' h j v hv => (World.cell?_of_block (w := w8) (((HB.out.trans (Below.mono h HB.out.size))).block gw hgw)).trans (hry j v hv))
                      have HAB := Lib.hid (show ∀ w', Behind wr w' → Calls Try.prog 15 #[memV x, memV y] w' fun e w'' => e = .returned (.bool (x.above y)) ∧ Behind wr w'' from fun w' h => (above_any x y w').mono fun e w'' ⟨he, hbx⟩ => ⟨he, Below.trans h (hbx.mono (Below.size h))⟩)
                      have HU := Lib.hid Try.underlying38
                      have HIx := Lib.hid (info_memC (m := x))
                      have HIy := Lib.hid (info_memC (m := y))
                      have q0 : (0 : Int) ≤ (q : Int) := by omega
                      have q1 : (q : Int) < (LW.length : Int) := by omega
                      clear hx hy hrx hry hrn hrw hB hgn hgw
                      by_cases hd : x = y
                      · have HQ := Lib.hid (show ∀ w, (binOp .neq 38 (memV x) (memV y)).run Try.prog w = .ok (.bool false) w from fun w => by rw [run_neq_mem, decide_eq_true hd]; rfl)
                        have HXY := Lib.hid hd
                        clear hd hxy
                        go_wp2_with fail
                        refine wp_region_class (Behind wr) (by kernel_rfl) (by kernel_rfl) (Below.refl _ _).drew ?_
                        iterate 21 (first
                          | go_big_quiet_skip
                          | (with_reducible refine wpQuiet_loadAll (by with_unfolding_all rfl) 38 _ (by with_unfolding_all rfl) gn (on + q * 3) (by with_unfolding_all rfl) (cellsM x) _ (fun w h => HRX.out w h) HU.out (by with_unfolding_all rfl) HIx.out ?_; simp only [Act.put, List.setIfInBounds_toArray, List.set_cons_zero, List.set_cons_succ])
                          | (with_reducible refine wpQuiet_loadAll (by with_unfolding_all rfl) 38 _ (by with_unfolding_all rfl) gw (ow + q * 3) (by with_unfolding_all rfl) (cellsM y) _ (fun w h => HRY.out w h) HU.out (by with_unfolding_all rfl) HIy.out ?_; simp only [Act.put, List.setIfInBounds_toArray, List.set_cons_zero, List.set_cons_succ])
                          | (with_reducible refine wpQuiet_call 15 [memV x, memV y] (.bool _) (by with_unfolding_all rfl) _ _ (by with_unfolding_all rfl) (by with_unfolding_all rfl) (fun _ => by kernel_rfl) (fun w' h => HAB.out w' h) ?_; simp only [Act.put, List.setIfInBounds_toArray, List.set_cons_zero, List.set_cons_succ])
                          | (with_reducible refine wpQuiet_bin (by with_unfolding_all rfl) .neq 38 _ _ _ (by with_unfolding_all rfl) (memV x) (memV y) (.bool _) (by with_unfolding_all rfl) (by with_unfolding_all rfl) (fun w => run_eqGuard_mem w _ _ _ x y) (fun w => HQ.out w) ?_; simp only [Act.put, List.setIfInBounds_toArray, List.set_cons_zero, List.set_cons_succ])
                          | (go_big_quiet_step (exact fun _ => rfl)))
                        with_reducible refine wpQuiet_nil ?_
                        intro wy hwy'
                        have hwy : Behind wr wy := hwy'
                        go_wp2_with fail
                        go_roundw
                        case rel => exact ⟨q + 1, by omega, by go_num, HB.out.trans (Below.mono hwy HB.out.size)⟩
                        case measure => simp [RowKit.intOf]; omega
                      · have HQ := Lib.hid (show ∀ w, (binOp .neq 38 (memV x) (memV y)).run Try.prog w = .ok (.bool true) w from fun w => by rw [run_neq_mem, decide_eq_false hd]; rfl)
                        rw [hxy.resolve_left hd] at HAB
                        have HXY := Lib.hid hd
                        clear hd hxy
                        go_wp2_with fail
                        refine wp_region_class (Behind wr) (by kernel_rfl) (by kernel_rfl) (Below.refl _ _).drew ?_
                        iterate 21 (first
                          | go_big_quiet_skip
                          | (with_reducible refine wpQuiet_loadAll (by with_unfolding_all rfl) 38 _ (by with_unfolding_all rfl) gn (on + q * 3) (by with_unfolding_all rfl) (cellsM x) _ (fun w h => HRX.out w h) HU.out (by with_unfolding_all rfl) HIx.out ?_; simp only [Act.put, List.setIfInBounds_toArray, List.set_cons_zero, List.set_cons_succ])
                          | (with_reducible refine wpQuiet_loadAll (by with_unfolding_all rfl) 38 _ (by with_unfolding_all rfl) gw (ow + q * 3) (by with_unfolding_all rfl) (cellsM y) _ (fun w h => HRY.out w h) HU.out (by with_unfolding_all rfl) HIy.out ?_; simp only [Act.put, List.setIfInBounds_toArray, List.set_cons_zero, List.set_cons_succ])
                          | (with_reducible refine wpQuiet_call 15 [memV x, memV y] (.bool _) (by with_unfolding_all rfl) _ _ (by with_unfolding_all rfl) (by with_unfolding_all rfl) (fun _ => by kernel_rfl) (fun w' h => HAB.out w' h) ?_; simp only [Act.put, List.setIfInBounds_toArray, List.set_cons_zero, List.set_cons_succ])
                          | (with_reducible refine wpQuiet_bin (by with_unfolding_all rfl) .neq 38 _ _ _ (by with_unfolding_all rfl) (memV x) (memV y) (.bool _) (by with_unfolding_all rfl) (by with_unfolding_all rfl) (fun w => run_eqGuard_mem w _ _ _ x y) (fun w => HQ.out w) ?_; simp only [Act.put, List.setIfInBounds_toArray, List.set_cons_zero, List.set_cons_succ])
                          | (go_big_quiet_step (exact fun _ => rfl)))
                        with_reducible refine wpQuiet_nil ?_
                        intro wy hwy'
                        have hwy : Behind wr wy := hwy'
                        go_wp2_with fail
                        go_roundw
                        case rel => exact ⟨q + 1, by omega, by go_num, HB.out.trans (Below.mono hwy HB.out.size)⟩
                        case measure => simp [RowKit.intOf]; omega
                    · have hqe : ¬ (q : Int) < (LW.length : Int) := by omega
                      have HR9 := Lib.hid (HR8.out.up HB.out)
                      clear HN8 HW8 HR8 hB HRI
                      cases L
                      · skip
                        go_wp2_with fail
                        refine (HR9.out.getMeF HL7.out).mono ?_
                        rintro e w9 ⟨mx, my, rfl, hb9⟩
                        have HRa := Lib.hid (HR9.out.up hb9)
                        clear hb9
                        go_wp2_with (first | (with_reducible refine wpList_val (.int .i64 0) (by with_unfolding_all rfl) (exec_field_state _ (by with_unfolding_all rfl) (by with_unfolding_all rfl) _) ?_))
                        refine (HRa.out.getMeF HL7.out).mono ?_
                        rintro e wA ⟨mx2, my2, rfl, hb9⟩
                        have HRb := Lib.hid (HRa.out.up hb9)
                        clear hb9
                        go_wp2_with (first | (with_reducible refine wpList_val (.int .i64 0) (by with_unfolding_all rfl) (exec_field_state _ (by with_unfolding_all rfl) (by with_unfolding_all rfl) _) ?_))
                        go_roundw
                        case rel => exact ⟨k + 1, false, by omega, by omega, rfl, by go_num, _, _, HRb.out.mono (by omega), HL7.out⟩
                        case measure => simp [RowKit.intOf]; omega
                      · skip
                        go_wp2_with fail
                        refine (HR9.out.getMeT HL7.out).mono ?_
                        rintro e w9 ⟨mx, my, rfl, hb9⟩
                        have HRa := Lib.hid (HR9.out.up hb9)
                        clear hb9
                        go_wp2_with (first | (with_reducible refine wpList_val (.int .i64 3) (by with_unfolding_all rfl) (exec_field_state _ (by with_unfolding_all rfl) (by with_unfolding_all rfl) _) ?_))
                        go_roundw
                        case rel => exact ⟨k + 1, true, by omega, by omega, rfl, by go_num, _, _, HRa.out.mono (by omega), HL7.out⟩
                        case measure => simp [RowKit.intOf]; omega
        · have h20z : (20 : Int) < (a.x.rum.length : Int) := by omega
          go_wp2_with (first
            | (with_reducible refine wpList_loadW (by with_unfolding_all rfl) 63 _ (by with_unfolding_all rfl) g0 (off + k * 239) (by with_unfolding_all rfl) AC _ HRA.out Try.underlying63 rfl (by rw [HSl.out]; exact info_act) ?_)
            | ((with_reducible refine wpList_allocZ (o := ⟨some 10, _, _, _, _, _⟩) 63 Z (by with_unfolding_all rfl) (by with_unfolding_all rfl) HZ.out ?_); intro gx w4 hg hat hb; have HAX := Lib.hid hat; have HB4 := Lib.hid hb; have HGX := Lib.hid hg; clear hat hb hg)
            | ((with_reducible refine wpList_storeAll (by with_unfolding_all rfl) 63 _ _ (by with_unfolding_all rfl) gx (by with_unfolding_all rfl) 63 Z AC HAX.out (by with_unfolding_all rfl) (HSl.out.trans HZl.out.symm) (by rw [HSl.out]; exact info_act) HS1.out ?_); intro w5 hat2 hg2 _; have HB5 := Lib.hid (Below.ofGrown HB4.out hg2 HB4.out.size (Nat.le_of_eq HGX.out.symm)); have HX5 := Lib.hid (show ActAt w5 O gx a from ⟨HAC.out ▸ hat2, fun ho => (by have := HR.out.own.bound gx ho; have := HGX.out; omega)⟩); have HR5 := Lib.hid (HR.out.up HB5.out); clear hat2 hg2; have zr := HX5.out.1.cell' (i := 238) HOK.out.fr.r))
          go_ret
          exact ⟨rfl, HR5.out.below⟩
      · have hke : k = 100 := by omega
        subst hke
        as_aux_lemma =>
          go_wp2_with fail
          refine (none_tick 0 _).mono ?_
          rintro e wA ⟨rfl, hbA⟩
          have HA := Lib.hid (HR.out.below.trans (hbA.mono HR.out.below.size))
          clear hbA
          go_wp2_with fail
          refine (none_hear _).mono ?_
          rintro e wB ⟨rfl, hbB⟩
          have HB := Lib.hid (HA.out.trans (hbB.mono HA.out.size))
          clear hbB
          go_wp2_with fail
          refine (none_leave _).mono ?_
          rintro e wC ⟨rfl, hbC⟩
          have HC := Lib.hid (HB.out.trans (hbC.mono HB.out.size))
          clear hbC
          go_wp2_with fail
          refine (none_tell _ _).mono ?_
          rintro e wE ⟨rfl, hbE⟩
          have HE := Lib.hid (HC.out.trans ((below_alloc_then hbE).mono HC.out.size))
          clear hbE
          go_wp2_with fail
          refine (none_all _).mono ?_
          rintro e wF ⟨rfl, hbF⟩
          have HF := Lib.hid (HE.out.trans (hbF.mono HE.out.size))
          clear hbF
          go_wp2_with fail
          refine (none_pres _).mono ?_
          rintro e wG ⟨rfl, hbG⟩
          have HG := Lib.hid (HF.out.trans (hbG.mono HF.out.size))
          clear hbG
          go_wp2_with fail
          refine (none_me _).mono ?_
          unfold memV Mem.zero
          rintro e wH ⟨rfl, hbH⟩
          have HH := Lib.hid (HG.out.trans (hbH.mono HG.out.size))
          clear hbH
          go_wp2_with fail
          go_ret
          exact ⟨rfl, HH.out⟩
    · have hnltz : ¬ (k : Int) < (l.length : Int) := by omega
      as_aux_lemma =>
        go_wp2_with fail
        refine (none_tick 0 _).mono ?_
        rintro e wA ⟨rfl, hbA⟩
        have HA := Lib.hid (HR.out.below.trans (hbA.mono HR.out.below.size))
        clear hbA
        go_wp2_with fail
        refine (none_hear _).mono ?_
        rintro e wB ⟨rfl, hbB⟩
        have HB := Lib.hid (HA.out.trans (hbB.mono HA.out.size))
        clear hbB
        go_wp2_with fail
        refine (none_leave _).mono ?_
        rintro e wC ⟨rfl, hbC⟩
        have HC := Lib.hid (HB.out.trans (hbC.mono HB.out.size))
        clear hbC
        go_wp2_with fail
        refine (none_tell _ _).mono ?_
        rintro e wE ⟨rfl, hbE⟩
        have HE := Lib.hid (HC.out.trans ((below_alloc_then hbE).mono HC.out.size))
        clear hbE
        go_wp2_with fail
        refine (none_all _).mono ?_
        rintro e wF ⟨rfl, hbF⟩
        have HF := Lib.hid (HE.out.trans (hbF.mono HE.out.size))
        clear hbF
        go_wp2_with fail
        refine (none_pres _).mono ?_
        rintro e wG ⟨rfl, hbG⟩
        have HG := Lib.hid (HF.out.trans (hbG.mono HF.out.size))
        clear hbG
        go_wp2_with fail
        refine (none_me _).mono ?_
        unfold memV Mem.zero
        rintro e wH ⟨rfl, hbH⟩
        have HH := Lib.hid (HG.out.trans (hbH.mono HG.out.size))
        clear hbH
        go_wp2_with fail
        go_ret
        exact ⟨rfl, HH.out⟩
theorem srises_any (me n : Int) (A : Option Addr) (c : Nat) (l : List SAct) (w : World) (_hm : -9223372036854775808 ≤ me ∧ me ≤ 9223372036854775807) (_hn : -9223372036854775808 ≤ n ∧ n ≤ 9223372036854775807) (hl : ActsIn w A l) (hok : ∀ a ∈ l, a.Ok w) (hlen : l.length ≤ maxLen) :
    Calls Try.prog 6 #[.int .i64 me, .int .i64 n, .slice A l.length c] w fun e w' => e = .returned (.bool true) ∧ Below w.heap.size w w' := rises_walk me n A c l w hl hok hlen
end Go.Proofs.Ytghefmppjdneoaa
