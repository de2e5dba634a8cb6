/- Layer 12: ScoutTurns, its walk. -/
import Derived.Test.YtghefmppjdneoaaScZrM
namespace Go.Proofs.Ytghefmppjdneoaa
open Go.Proofs Stab Go.Shelf Go.RowKit Go.Lib Go.Sort Go.Maps

set_option maxRecDepth 100000 in
set_option maxHeartbeats 4000000 in
theorem turns_walk (n me : Int) (A : Option Addr) (c : Nat) (l : List Int) (w : World) (hl : DRow w A l) :
    Calls Try.prog 5 #[.int .i64 n, .int .i64 me, .slice A l.length c] w fun e w' => e = .returned (.bool true) ∧ Below w.heap.size w w' := by
  have HL := Lib.hid hl
  have hlen : l.length ≤ 9223372036854775807 := hl.2.1
  clear hl
  go_enter Try.func5, Try.ntmps5
  go_wp2_with fail
  refine (awake_any (H := Unit) _).mono ?_
  rintro e w1 ⟨rfl, hb1⟩
  have HB1 := Lib.hid hb1
  clear hb1
  have hN := wrap_rem2 n 2 5 (by omega) (by omega) (by omega) (by omega)
  have hU := u64_small (n := wrap64 (2 + wrap64 ((IntKind.u64.wrap n).tmod 5))) (by omega) (by omega)
  have hU0 : ¬ IntKind.u64.wrap (wrap64 (2 + wrap64 ((IntKind.u64.wrap n).tmod 5))) = 0 := by omega
  go_wp2_with fail
  skip
  clear hU hU0
  generalize wrap64 (2 + wrap64 ((IntKind.u64.wrap n).tmod 5)) = N at hN ⊢
  have hM := wrap_rem2 me 1 N (by omega) (by omega) (by omega) (by omega)
  generalize wrap64 (1 + wrap64 ((IntKind.u64.wrap me).tmod N)) = ME at hM ⊢
  generalize wrap64 ((IntKind.u64.wrap n).tmod 5) = N1
  generalize wrap64 ((IntKind.u64.wrap me).tmod N) = M1
  generalize (IntKind.u64.wrap n).tmod 5 = N2
  generalize (IntKind.u64.wrap me).tmod N = M2
  generalize IntKind.u64.wrap n = N3
  generalize IntKind.u64.wrap me = M3
  have HN := Lib.hid (show (2 ≤ N ∧ N ≤ 6) ∧ (1 ≤ ME ∧ ME ≤ N) by omega)
  clear hN hM
  refine (own_new (H := Unit) (me := ME) (nodes := N) (by have := HN.out; omega)).mono ?_
  rintro e w2 ⟨s, O, rfl, hS, hb2, hO⟩
  have HT0 := Lib.hid (show TurnS w w2 O s (Sct.fresh ME N) ME N 0 [] from ⟨hS, calm_fresh, fun i hi => Nat.le_trans HB1.out.size (hO i hi), HB1.out.trans (hb2.mono HB1.out.size)⟩)
  clear hS hb2 hO HB1
  go_wp2_with fail
  go_loopw [8, 9] (fun a i wr => ∃ T q : Nat, T ≤ 3 ∧ a = .int .i64 q ∧ i = .int .i64 T ∧ q % 4 = 0 ∧ q ≤ 20 * T ∧ ∃ O t, TurnS w wr O s t ME N q []) (fun _ i _ => 3 - (RowKit.intOf i).toNat)
  case atStart => exact ⟨0, 0, by omega, rfl, rfl, rfl, by omega, _, _, HT0.out⟩
  case round =>
    clear HT0
    obtain ⟨T, q, hT3, rfl, rfl, hq4, hq20, O, t, hT⟩ := hrel
    have HT := Lib.hid hT
    have HQ := Lib.hid (And.intro hq4 hq20)
    clear hT hq4 hq20
    by_cases hlt : T < 3
    · have hltz : (T : Int) < 3 := by omega
      go_wp2_with (first
        | (with_reducible refine wpList_build (zBools 7).toArray (by with_unfolding_all rfl) 42 #[] rfl builtB7 ?_)
        | ((with_reducible refine wpList_allocZ (o := ⟨some 10, _, _, _, _, _⟩) 42 (zBools 7) rfl rfl zeroB7 ?_); intro gs wa hg hat hb; have HAS := Lib.hid hat; have HBa := Lib.hid hb; have HGs := Lib.hid hg; clear hat hb hg)
        | ((with_reducible refine wpList_storeAll rfl 42 (.tmp 10) (.tmp 41) rfl gs rfl _ _ (zBools 7) HAS.out rfl rfl infoB7 (zBools_one _) ?_); intro wb hat hg hs; have HAT := Lib.hid hat; have HBB := Lib.hid (Below.ofGrown HBa.out hg HBa.out.size (Nat.le_of_eq HGs.out.symm)); clear hat hg hs))
      have HT1 := Lib.hid (HT.out.up HBB.out)
      have HS1 := Lib.hid (show SeenS w wb O gs [] from ⟨TblAt.made (z := .bool false) HAT.out (fun i => rfl), fun ho => by have := HT.out.own.bound gs ho; have := HGs.out; omega, by have := HT.out.below.size; have := HGs.out; omega⟩)
      clear HAS HBa HGs HAT HBB HT
      go_loopw [8, 11] (fun a i wr => ∃ k q' : Nat, (k : Int) ≤ N - 1 ∧ a = .int .i64 q' ∧ i = .int .i64 k ∧ q' % 4 = 0 ∧ q' ≤ 20 * T + 4 * k ∧ ∃ O t asked line, TurnS w wr O s t ME N q' line ∧ SeenS w wr O gs asked ∧ Asked ME N k asked line) (fun _ i _ => 6 - (RowKit.intOf i).toNat)
      case atStart => exact ⟨0, q, by have := HN.out; omega, rfl, rfl, HQ.out.1, by have := HQ.out; omega, _, _, _, _, HT1.out, HS1.out, Asked.zero⟩
      case round =>
        clear HT1 HS1 HQ O t
        obtain ⟨k, q1, hkN, rfl, rfl, hq4, hq20, O, t, asked, line, hT, hS, hAs⟩ := hrel
        have HT := Lib.hid hT
        have HS := Lib.hid hS
        have HA := Lib.hid hAs
        have HQ := Lib.hid (And.intro hq4 hq20)
        have hk5 : k ≤ 5 := by have := HN.out; omega
        have hN1 := HN.out.1.1
        have hN2 := HN.out.1.2
        clear hT hS hAs hq4 hq20
        by_cases hlk : (k : Int) < N - 1
        · go_wp2_with fail
          go_loopw [8, 12] (fun a i wr => ∃ j q' : Nat, j ≤ 4 ∧ a = .int .i64 q' ∧ i = .int .i64 j ∧ q' = q1 + j ∧ ∃ O t asked line, TurnS w wr O s t ME N q' line ∧ SeenS w wr O gs asked ∧ Asked ME N (if j = 0 then k else k + 1) asked line) (fun _ i _ => 4 - (RowKit.intOf i).toNat)
          case atStart => exact ⟨0, q1, by omega, rfl, rfl, rfl, _, _, _, _, HT.out, HS.out, HA.out⟩
          case round =>
            clear HT HS HA O t asked line
            obtain ⟨j, q2, hj4, rfl, rfl, hq2, O, t, asked, line, hT, hS, hAs⟩ := hrel
            have HT := Lib.hid hT
            have HS := Lib.hid hS
            have HA := Lib.hid hAs
            have HQ2 := Lib.hid hq2
            have hq100 : q2 ≤ 90 := by have := HQ.out; omega
            clear hT hS hAs hq2
            by_cases hlj : j < 4
            · have hljz : (j : Int) < 4 := by omega
              by_cases hl0 : 0 < l.length
              · have hl0z : (0 : Int) < (l.length : Int) := by omega
                have hdr : (q2 : Int) % (l.length : Int) = ((q2 % l.length : Nat) : Int) := (Int.natCast_emod q2 l.length).symm
                obtain ⟨g0, off, rfl, hg0, hcl⟩ := HL.out.2.2 hl0
                have hml := Nat.mod_lt q2 hl0
                have c0 := hcl (q2 % l.length) hml wr (HT.out.below.block g0 hg0)
                obtain ⟨d, hd⟩ : ∃ d, d = l[q2 % l.length] := ⟨_, rfl⟩
                have HD := Lib.hid (show -9223372036854775808 ≤ d ∧ d ≤ 9223372036854775807 by rw [hd]; exact HL.out.1 _ (List.getElem_mem _))
                rw [← hd] at c0
                generalize q2 % l.length = r at hdr hml c0
                have hmz : (r : Int) < (l.length : Int) := by omega
                clear hcl hd
                go_wp2_with fail
                clear hdr hml hmz c0
                by_cases hj0 : j = 0
                · skip
                  subst hj0
                  have hAs := HA.out
                  rw [if_pos rfl] at hAs
                  obtain ⟨x, rest, hx, ho, hna, hA2⟩ := hAs.step HN.out.1 HN.out.2 hlk d
                  have hob := (mem_others HN.out.1.2).1 ho
                  obtain ⟨X, rfl⟩ : ∃ X : Nat, x = (X : Int) := ⟨x.toNat, by omega⟩
                  have hqm : q2 % 4 = 0 := by have := HQ.out; have := HQ2.out; omega
                  have HX := Lib.hid (And.intro hx (And.intro ho (And.intro hna hA2)))
                  have HLI := Lib.hid hAs.line
                  have hX7 : X < 7 := by omega
                  have hXM : ¬ (X : Int) = ME := hob.2.2
                  have hX0 : (0 : Int) ≤ (X : Int) := by omega
                  have hX7z : (X : Int) < 7 := by omega
                  refine (HT.out.asks HS.out hqm (by omega) HLI.out d HD.out HX.out.1 (by omega)).mono ?_
                  rintro e w3 ⟨g, cap, O', A', c', y, rfl, hK⟩
                  obtain ⟨SC, hSC⟩ : ∃ SC, SC = sentC ⟨X, 1, ME, y, 0, []⟩ A' c' := ⟨_, rfl⟩
                  obtain ⟨Z, hZ⟩ : ∃ Z, Z = bareC ⟨0, 0, 0, 0, 0, []⟩ := ⟨_, rfl⟩
                  have HZ := Lib.hid (show ∀ w, (zeroValue 59).run Try.prog w = .ok (.agg Z.toArray) w by rw [hZ]; exact zeroSent)
                  have HZl := Lib.hid (show Z.length = 238 by rw [hZ]; exact sentC_len _ _ _)
                  have HSl := Lib.hid (show SC.length = 238 by rw [hSC]; exact sentC_len _ _ _)
                  have HS1 := Lib.hid (show ∀ v ∈ SC, v.oneCell' = true by rw [hSC]; exact sentC_one _ _ _)
                  have HSC := Lib.hid (show SC[0]? = some (.int .i64 X) ∧ SC[1]? = some (.int .i64 1) ∧ SC[3]? = some (.int .i64 y) by rw [hSC]; exact ⟨rfl, rfl, rfl⟩)
                  have HR := Lib.hid (show w3.rangeAt g 0 SC by rw [hSC]; exact hK.row)
                  have HK := Lib.hid hK
                  clear hK hSC hZ hx ho hna hA2 hAs hob HT HS HA
                  go_wp2_with (first
                    | (with_reducible refine wpList_loadW (by with_unfolding_all rfl) 59 _ (by with_unfolding_all rfl) g 0 (by with_unfolding_all rfl) SC _ HR.out Try.underlying59 rfl (by rw [HSl.out]; exact info_sent) ?_)
                    | ((with_reducible refine wpList_allocZ (o := ⟨some 15, _, _, _, _, _⟩) 59 Z (by with_unfolding_all rfl) (by with_unfolding_all rfl) HZ.out ?_); intro gx w4 hg hat hb; have HAX := Lib.hid hat; have HB4 := Lib.hid hb; have HGX := Lib.hid hg; clear hat hb hg)
                    | ((with_reducible refine wpList_storeAll (by with_unfolding_all rfl) 59 _ _ (by with_unfolding_all rfl) gx (by with_unfolding_all rfl) 59 Z SC HAX.out (by with_unfolding_all rfl) (HSl.out.trans HZl.out.symm) (by rw [HSl.out]; exact info_sent) HS1.out ?_); intro w5 hat2 hg2 _; have HAT2 := Lib.hid hat2; have HB5 := Lib.hid (Below.ofGrown HB4.out hg2 HB4.out.size (Nat.le_of_eq HGX.out.symm)); clear hat2 hg2; obtain ⟨x0, x1, x3⟩ := (show w5.cell? ⟨gx, 0, none⟩ = some (.int .i64 X) ∧ w5.cell? ⟨gx, 1, none⟩ = some (.int .i64 1) ∧ w5.cell? ⟨gx, 3, none⟩ = some (.int .i64 y) from ⟨HAT2.out.cell' HSC.out.1, HAT2.out.cell' HSC.out.2.1, HAT2.out.cell' HSC.out.2.2⟩); have HK5 := Lib.hid (HK.out.up HB5.out); have s0 := HK5.out.seen.tbl.cell10 hX7 (v := .bool false) (by unfold seenT; rw [decide_eq_false HX.out.2.2.1]); have sf := HK5.out.seen.tbl.frozen X; have hgsx : gs ≠ gx := fun e => (by have := HK.out.seen.tbl.lt; have := HGX.out; omega); have hgsg : g ≠ gs := HK.out.ne)
                    | (with_reducible refine wpList_build _ (by with_unfolding_all rfl) 57 #[(0, .const (.int .i64 2)), (1, .tmp 100), (2, .tmp 103), (3, .tmp 105)] (by with_unfolding_all rfl) (built_at' (built_frame4 2 X y X) (by with_unfolding_all rfl)) ?_))
                  refine ((HK5.out.mark X rfl hX7).hear HN.out.1.2 hqm (by omega) HLI.out HX.out.1 HX.out.2.1).mono ?_
                  rintro e w6 ⟨v6, O6, t6, rfl, hT6, hS6⟩
                  have HT6 := Lib.hid hT6
                  have HS6 := Lib.hid hS6
                  clear hT6 hS6 HK5 HK x0 x1 x3 s0 sf hgsx hgsg
                  go_wp2_with fail
                  go_roundw
                  case rel => exact ⟨1, q2 + 1, by omega, by go_num, by go_num, by have := HQ2.out; omega, _, _, _, _, HT6.out, HS6.out, by rw [if_neg (by omega)]; exact HX.out.2.2.2⟩
                  case measure => simp [RowKit.intOf]
                · skip
                  have hj0z : ¬ (j : Int) = 0 := by omega
                  have hjp : (0 : Int) < (j : Int) := by omega
                  have hqm : q2 % 4 ≠ 0 := by have := HQ.out; have := HQ2.out; omega
                  refine (HT.out.quiet HS.out hqm (by omega) d HD.out).mono ?_
                  rintro e w3 ⟨A3, c3, O3, t3, rfl, hTa, hSa⟩
                  have HTa := Lib.hid hTa
                  have HSa := Lib.hid hSa
                  clear hTa hSa HT HS
                  go_wp2_with fail
                  go_roundw
                  case rel => exact ⟨j + 1, q2 + 1, by omega, by go_num, by go_num, by have := HQ2.out; omega, _, _, _, _, HTa.out, HSa.out, by have h := HA.out; rw [if_neg hj0] at h; rw [if_neg (by omega)]; exact h⟩
                  case measure => simp [RowKit.intOf]; omega
              · have hl0z : ¬ (0 : Int) < (l.length : Int) := by omega
                have HD := Lib.hid (show -9223372036854775808 ≤ (q2 : Int) ∧ (q2 : Int) ≤ 9223372036854775807 by omega)
                go_wp2_with fail
                by_cases hj0 : j = 0
                · skip
                  subst hj0
                  have hAs := HA.out
                  rw [if_pos rfl] at hAs
                  obtain ⟨x, rest, hx, ho, hna, hA2⟩ := hAs.step HN.out.1 HN.out.2 hlk (q2 : Int)
                  have hob := (mem_others HN.out.1.2).1 ho
                  obtain ⟨X, rfl⟩ : ∃ X : Nat, x = (X : Int) := ⟨x.toNat, by omega⟩
                  have hqm : q2 % 4 = 0 := by have := HQ.out; have := HQ2.out; omega
                  have HX := Lib.hid (And.intro hx (And.intro ho (And.intro hna hA2)))
                  have HLI := Lib.hid hAs.line
                  have hX7 : X < 7 := by omega
                  have hXM : ¬ (X : Int) = ME := hob.2.2
                  have hX0 : (0 : Int) ≤ (X : Int) := by omega
                  have hX7z : (X : Int) < 7 := by omega
                  refine (HT.out.asks HS.out hqm (by omega) HLI.out (q2 : Int) HD.out HX.out.1 (by omega)).mono ?_
                  rintro e w3 ⟨g, cap, O', A', c', y, rfl, hK⟩
                  obtain ⟨SC, hSC⟩ : ∃ SC, SC = sentC ⟨X, 1, ME, y, 0, []⟩ A' c' := ⟨_, rfl⟩
                  obtain ⟨Z, hZ⟩ : ∃ Z, Z = bareC ⟨0, 0, 0, 0, 0, []⟩ := ⟨_, rfl⟩
                  have HZ := Lib.hid (show ∀ w, (zeroValue 59).run Try.prog w = .ok (.agg Z.toArray) w by rw [hZ]; exact zeroSent)
                  have HZl := Lib.hid (show Z.length = 238 by rw [hZ]; exact sentC_len _ _ _)
                  have HSl := Lib.hid (show SC.length = 238 by rw [hSC]; exact sentC_len _ _ _)
                  have HS1 := Lib.hid (show ∀ v ∈ SC, v.oneCell' = true by rw [hSC]; exact sentC_one _ _ _)
                  have HSC := Lib.hid (show SC[0]? = some (.int .i64 X) ∧ SC[1]? = some (.int .i64 1) ∧ SC[3]? = some (.int .i64 y) by rw [hSC]; exact ⟨rfl, rfl, rfl⟩)
                  have HR := Lib.hid (show w3.rangeAt g 0 SC by rw [hSC]; exact hK.row)
                  have HK := Lib.hid hK
                  clear hK hSC hZ hx ho hna hA2 hAs hob HT HS HA
                  go_wp2_with (first
                    | (with_reducible refine wpList_loadW (by with_unfolding_all rfl) 59 _ (by with_unfolding_all rfl) g 0 (by with_unfolding_all rfl) SC _ HR.out Try.underlying59 rfl (by rw [HSl.out]; exact info_sent) ?_)
                    | ((with_reducible refine wpList_allocZ (o := ⟨some 15, _, _, _, _, _⟩) 59 Z (by with_unfolding_all rfl) (by with_unfolding_all rfl) HZ.out ?_); intro gx w4 hg hat hb; have HAX := Lib.hid hat; have HB4 := Lib.hid hb; have HGX := Lib.hid hg; clear hat hb hg)
                    | ((with_reducible refine wpList_storeAll (by with_unfolding_all rfl) 59 _ _ (by with_unfolding_all rfl) gx (by with_unfolding_all rfl) 59 Z SC HAX.out (by with_unfolding_all rfl) (HSl.out.trans HZl.out.symm) (by rw [HSl.out]; exact info_sent) HS1.out ?_); intro w5 hat2 hg2 _; have HAT2 := Lib.hid hat2; have HB5 := Lib.hid (Below.ofGrown HB4.out hg2 HB4.out.size (Nat.le_of_eq HGX.out.symm)); clear hat2 hg2; obtain ⟨x0, x1, x3⟩ := (show w5.cell? ⟨gx, 0, none⟩ = some (.int .i64 X) ∧ w5.cell? ⟨gx, 1, none⟩ = some (.int .i64 1) ∧ w5.cell? ⟨gx, 3, none⟩ = some (.int .i64 y) from ⟨HAT2.out.cell' HSC.out.1, HAT2.out.cell' HSC.out.2.1, HAT2.out.cell' HSC.out.2.2⟩); have HK5 := Lib.hid (HK.out.up HB5.out); have s0 := HK5.out.seen.tbl.cell10 hX7 (v := .bool false) (by unfold seenT; rw [decide_eq_false HX.out.2.2.1]); have sf := HK5.out.seen.tbl.frozen X; have hgsx : gs ≠ gx := fun e => (by have := HK.out.seen.tbl.lt; have := HGX.out; omega); have hgsg : g ≠ gs := HK.out.ne)
                    | (with_reducible refine wpList_build _ (by with_unfolding_all rfl) 57 #[(0, .const (.int .i64 2)), (1, .tmp 100), (2, .tmp 103), (3, .tmp 105)] (by with_unfolding_all rfl) (built_at' (built_frame4 2 X y X) (by with_unfolding_all rfl)) ?_))
                  refine ((HK5.out.mark X rfl hX7).hear HN.out.1.2 hqm (by omega) HLI.out HX.out.1 HX.out.2.1).mono ?_
                  rintro e w6 ⟨v6, O6, t6, rfl, hT6, hS6⟩
                  have HT6 := Lib.hid hT6
                  have HS6 := Lib.hid hS6
                  clear hT6 hS6 HK5 HK x0 x1 x3 s0 sf hgsx hgsg
                  go_wp2_with fail
                  go_roundw
                  case rel => exact ⟨1, q2 + 1, by omega, by go_num, by go_num, by have := HQ2.out; omega, _, _, _, _, HT6.out, HS6.out, by rw [if_neg (by omega)]; exact HX.out.2.2.2⟩
                  case measure => simp [RowKit.intOf]
                · skip
                  have hj0z : ¬ (j : Int) = 0 := by omega
                  have hjp : (0 : Int) < (j : Int) := by omega
                  have hqm : q2 % 4 ≠ 0 := by have := HQ.out; have := HQ2.out; omega
                  refine (HT.out.quiet HS.out hqm (by omega) (q2 : Int) HD.out).mono ?_
                  rintro e w3 ⟨A3, c3, O3, t3, rfl, hTa, hSa⟩
                  have HTa := Lib.hid hTa
                  have HSa := Lib.hid hSa
                  clear hTa hSa HT HS
                  go_wp2_with fail
                  go_roundw
                  case rel => exact ⟨j + 1, q2 + 1, by omega, by go_num, by go_num, by have := HQ2.out; omega, _, _, _, _, HTa.out, HSa.out, by have h := HA.out; rw [if_neg hj0] at h; rw [if_neg (by omega)]; exact h⟩
                  case measure => simp [RowKit.intOf]; omega
            · have hj4e : j = 4 := by omega
              subst hj4e
              have hAs := HA.out
              rw [if_neg (by omega)] at hAs
              have HA2 := Lib.hid hAs
              clear hAs HA
              go_wp2_with fail
              go_roundw
              case rel => exact ⟨k + 1, q2, by omega, rfl, by go_num, by have := HQ.out; have := HQ2.out; omega, by have := HQ.out; have := HQ2.out; omega, _, _, _, _, HT.out, HS.out, HA2.out⟩
              case measure => simp [RowKit.intOf]; omega
        · have hln := HA.out.done HN.out.1 HN.out.2 (by omega)
          subst hln
          go_wp2_with fail
          go_roundw
          case rel => exact ⟨T + 1, q1, by omega, rfl, by go_num, HQ.out.1, by have := HQ.out; omega, _, _, HT.out⟩
          case measure => simp [RowKit.intOf]; omega
    · have hT3e : T = 3 := by omega
      subst hT3e
      have hall := HT.out.own.all
      rw [HT.out.calm.v] at hall
      obtain ⟨L, hL⟩ : ∃ L, L = Go.Proofs.Ytghefmppjdneoaa.all (upTo N) := ⟨_, rfl⟩
      rw [← hL] at hall
      have HL0 := Lib.hid (show ∀ m ∈ L, m.s = 0 from fun m hm => (all_upTo.1 (by rw [← hL]; exact hm)).2.2.2.2)
      have hLn : L.length ≤ 6 := by
        rw [hL]
        unfold Go.Proofs.Ytghefmppjdneoaa.all
        exact Nat.le_trans (List.length_filterMap_le _ _) (by unfold nodes; decide)
      have HALL := Lib.hid hall
      clear hall hL
      go_wp2_with fail
      refine HALL.out.mono ?_
      rintro e w9 ⟨A9, c9, rfl, hM9, _, hb9⟩
      have HM9 := Lib.hid hM9
      have HB9 := Lib.hid (HT.out.below.trans (hb9.mono HT.out.below.size))
      clear hM9 hb9 HALL
      go_wp2_with fail
      go_loopw [17] (fun i wr => ∃ k : Nat, k ≤ L.length ∧ i = .int .i64 k ∧ Below w9.heap.size w9 wr) (fun i _ => L.length - (RowKit.intOf i).toNat)
      case atStart => exact ⟨0, by omega, rfl, Below.refl _ _⟩
      case round =>
        obtain ⟨k, hk, rfl, hB⟩ := hrel
        have HBr := Lib.hid hB
        by_cases hlk : k < L.length
        · obtain ⟨g, off, rfl, hgl, c0, c1, c2⟩ := HM9.out.cells (w' := wr) (fun g off e hlt' => hB.block g hlt') hlk
          have hs0 := HL0.out L[k] (List.getElem_mem _)
          rw [hs0] at c2
          have i1 : (0 : Int) ≤ (k : Int) := by omega
          have i2 : (k : Int) < (L.length : Int) := by omega
          clear hB c0 c1 hs0
          go_wp2_with fail
          go_roundw
          case rel => exact ⟨k + 1, by omega, by go_num, HBr.out⟩
          case measure => simp [RowKit.intOf]; omega
        · have hke : k = L.length := by omega
          have HKE := Lib.hid hke
          clear hB hke
          have hkl : ¬ (k : Int) < (L.length : Int) := by omega
          go_wp2_with fail
          go_ret
          exact ⟨rfl, HB9.out.trans (HBr.out.mono HB9.out.size)⟩
theorem turns_any (n me : Int) (A : Option Addr) (c : Nat) (l : List Int) (w : World) (_hn : -9223372036854775808 ≤ n ∧ n ≤ 9223372036854775807) (_hm : -9223372036854775808 ≤ me ∧ me ≤ 9223372036854775807) (hl : DRow w A l) :
    Calls Try.prog 5 #[.int .i64 n, .int .i64 me, .slice A l.length c] w fun e w' => e = .returned (.bool true) ∧ Below w.heap.size w w' := turns_walk n me A c l w hl
end Go.Proofs.Ytghefmppjdneoaa
