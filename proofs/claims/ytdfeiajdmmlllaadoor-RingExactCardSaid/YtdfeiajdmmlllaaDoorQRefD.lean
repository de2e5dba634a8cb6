/- The reference's Of: the digest of one text. -/
import Derived.Test.YtdfeiajdmmlllaaDoorQRefC
import Derived.Test.YtdfeiajdmmlllaaDoorQParts
namespace Go.Proofs.YtdfeiajdmmlllaaDoor
open Go.RowKit

theorem extract_mid (E : ByteArray) (a : Nat) (ha : a + 64 ≤ E.size) : (E.extract a (a + 64)).data.toList = (E.data.toList.drop a).take 64 ∧ (E.extract a (a + 64)).size = 64 := by
  constructor
  · rw [ByteArray.data_extract, Array.toList_extract, List.extract_eq_take_drop, show a + 64 - a = 64 by omega]
  · simp
    omega
theorem at_range {w : World} {b : Nat} {t : TypeId} {cs : List Value} (h : At w b t cs) (n : Nat) : (w.drewN n).rangeAt b 0 cs := fun j v hv => by
  rw [Nat.zero_add]
  exact h.cell' hv
theorem stV_oneCell (st : Sha.St) : ∀ v ∈ stV st, v.oneCell' = true := by
  intro v hv
  simp only [stV, u32s, List.mem_map] at hv
  obtain ⟨n, _, rfl⟩ := hv
  rfl
theorem u32s_oneCell (l : List Nat) : ∀ v ∈ u32s l, v.oneCell' = true := by
  intro v hv
  simp only [u32s, List.mem_map] at hv
  obtain ⟨n, _, rfl⟩ := hv
  rfl
set_option maxRecDepth 100000 in
set_option maxHeartbeats 4000000 in
theorem refof_any (s : ByteArray) (hs : s.size < 1099511627776) (w : World) :
    Calls Tryd.prog 34 #[.string s] w fun e w' => e = .returned (dgV (Sha.sha s.data.toList)) ∧ Below w.heap.size w w' := by
  have hD : At (w.alloc (.cells #[.int .u8 0, .int .u8 0, .int .u8 0, .int .u8 0, .int .u8 0, .int .u8 0, .int .u8 0, .int .u8 0, .int .u8 0, .int .u8 0, .int .u8 0, .int .u8 0, .int .u8 0, .int .u8 0, .int .u8 0, .int .u8 0, .int .u8 0, .int .u8 0, .int .u8 0, .int .u8 0, .int .u8 0, .int .u8 0, .int .u8 0, .int .u8 0, .int .u8 0, .int .u8 0, .int .u8 0, .int .u8 0, .int .u8 0, .int .u8 0, .int .u8 0, .int .u8 0] 23)) w.heap.size 23 zero32 := At.newA _ _ rfl
  have hB1 : Below w.heap.size w (w.alloc (.cells #[.int .u8 0, .int .u8 0, .int .u8 0, .int .u8 0, .int .u8 0, .int .u8 0, .int .u8 0, .int .u8 0, .int .u8 0, .int .u8 0, .int .u8 0, .int .u8 0, .int .u8 0, .int .u8 0, .int .u8 0, .int .u8 0, .int .u8 0, .int .u8 0, .int .u8 0, .int .u8 0, .int .u8 0, .int .u8 0, .int .u8 0, .int .u8 0, .int .u8 0, .int .u8 0, .int .u8 0, .int .u8 0, .int .u8 0, .int .u8 0, .int .u8 0, .int .u8 0] 23)) := (Below.refl _ _).alloc (Nat.le_refl _) _
  have hs1 : (w.alloc (.cells #[.int .u8 0, .int .u8 0, .int .u8 0, .int .u8 0, .int .u8 0, .int .u8 0, .int .u8 0, .int .u8 0, .int .u8 0, .int .u8 0, .int .u8 0, .int .u8 0, .int .u8 0, .int .u8 0, .int .u8 0, .int .u8 0, .int .u8 0, .int .u8 0, .int .u8 0, .int .u8 0, .int .u8 0, .int .u8 0, .int .u8 0, .int .u8 0, .int .u8 0, .int .u8 0, .int .u8 0, .int .u8 0, .int .u8 0, .int .u8 0, .int .u8 0, .int .u8 0] 23)).heap.size = w.heap.size + 1 := by simp
  have HD := Lib.hid hD
  have HB := Lib.hid hB1
  have HS1 := Lib.hid hs1
  obtain ⟨i0, hi, hz0, hz1, hz2⟩ := info_parts info_u8
  obtain ⟨p, hp⟩ : ∃ p, p = padn s.size := ⟨_, rfl⟩
  have hp2 : p = (119 - s.size % 64) % 64 := by rw [hp]; rfl
  have hplt : p < 64 := by omega
  have HP := Lib.hid (And.intro hp hp2)
  clear hD hB1 hs1 hp hp2
  have hnc : ¬ 9223372036854775807 < s.size + 1 := by omega
  go_enter Tryd.func34, Tryd.ntmps34
  go_wp2_with fail
  generalize w.alloc (.cells #[.int .u8 0, .int .u8 0, .int .u8 0, .int .u8 0, .int .u8 0, .int .u8 0, .int .u8 0, .int .u8 0, .int .u8 0, .int .u8 0, .int .u8 0, .int .u8 0, .int .u8 0, .int .u8 0, .int .u8 0, .int .u8 0, .int .u8 0, .int .u8 0, .int .u8 0, .int .u8 0, .int .u8 0, .int .u8 0, .int .u8 0, .int .u8 0, .int .u8 0, .int .u8 0, .int .u8 0, .int .u8 0, .int .u8 0, .int .u8 0, .int .u8 0, .int .u8 0] 23) = w1 at HD HB HS1 ⊢
  go_loopw [0] (fun v wr => ∃ (j : Nat) (S : ByteArray), j ≤ p ∧ v = .string S ∧ S.size = s.size + 1 + j ∧ S.data.toList = s.data.toList ++ 128 :: List.replicate j 0 ∧ wr = w1) (fun v _ => match v with | .string S => s.size + 1 + p - S.size | _ => 0)
  case atStart =>
    refine ⟨0, s ++ ⟨#[128]⟩, by omega, rfl, ?_, ?_, rfl⟩
    · rw [ByteArray.size_append]
      rfl
    · simp [ByteArray.data_append]
  case round =>
    obtain ⟨j, S, hj, rfl, hS, hSl, rfl⟩ := hrel
    have HSL := Lib.hid hSl
    have HSz := Lib.hid hS
    have hPn := HP.out.2
    by_cases hlt : j < p
    · have hm : ¬ ((S.size : Nat) : Int) % 64 = 56 := by rw [hS]; omega
      have hnc2 : ¬ 9223372036854775807 < S.size + 1 := by omega
      clear hS hSl hPn
      go_wp2_with fail
      go_roundw
      case rel =>
        refine ⟨j + 1, S ++ ⟨#[0]⟩, by omega, rfl, ?_, ?_, by first | rfl | trivial⟩
        · rw [ByteArray.size_append, HSz.out]
          rfl
        · rw [ByteArray.data_append, Array.toList_append, HSL.out, List.replicate_succ']
          simp
      case measure =>
        have := HSz.out
        simp only [ByteArray.size_append]
        show s.size + 1 + p - (S.size + 1) < s.size + 1 + p - S.size
        omega
    · have hjp : j = p := by omega
      have hm : ((S.size : Nat) : Int) % 64 = 56 := by rw [hS]; omega
      have hnS : S.size < 1099511627876 := by omega
      subst hjp
      clear hS hSl hPn
      go_wp2_with fail
      obtain ⟨Bq, hBq⟩ : ∃ Bq, Bq = wr.heap.size := ⟨_, rfl⟩
      have hBw : Bq = w.heap.size + 1 := by rw [hBq]; exact HS1.out
      have hO1 : Own (wr.alloc (.cells #[] 5)) Bq 5 1 (.slice (some ⟨wr.heap.size, 0, none⟩) 0 0) 0 (u8s ((Sha.bytes 8 (8 * s.size)).take 0)) := Own.made (base := Bq) wr 5 1 [] 0 0 (by omega) (Nat.le_refl _) (by simp [maxLen]) rfl
      have hD1 := HD.out.alloc (.cells #[] 5)
      have hB1 := HB.out.alloc HB.out.size (.cells #[] 5)
      have hl1 : Bq ≤ (wr.alloc (.cells #[] 5)).heap.size := by simp; omega
      rw [← hBq] at hO1 ⊢
      generalize wr.alloc (.cells #[] 5) = w2 at hO1 hD1 hB1 hl1 ⊢
      have HO := Lib.hid hO1
      have HD1 := Lib.hid hD1
      have HB1 := Lib.hid hB1
      have HL1 := Lib.hid hl1
      have HBq := Lib.hid hBw
      have HM := Lib.hid hm
      obtain ⟨N, hN⟩ : ∃ N : Nat, N = 8 * s.size := ⟨_, rfl⟩
      have hN1 : (8 : Int) * ((s.size : Nat) : Int) = (N : Int) := by omega
      have hN2 : N < 9223372036854775808 := by omega
      rw [← hN] at HO
      have HN := Lib.hid hN
      clear hO1 hD1 hB1 hl1 hBw hBq hN hm HD HB HS1
      go_loopw [4, 5] (fun v i wj => ∃ k : Nat, k ≤ 8 ∧ i = .int .i64 (7 - (k : Int)) ∧ Own wj Bq 5 1 v k (u8s ((Sha.bytes 8 N).take k)) ∧ Below w.heap.size w wj ∧ At wj w.heap.size 23 zero32 ∧ Bq ≤ wj.heap.size) (fun _ i _ => (intOf i + 1).toNat)
      case atStart => exact ⟨0, by omega, rfl, HO.out, HB1.out, HD1.out, HL1.out⟩
      case round =>
        rename_i v _
        obtain ⟨k, hk, rfl, hO, hB, hD, hl⟩ := hrel
        clear HO HB1 HD1 HL1
        by_cases hlt2 : k < 8
        · obtain ⟨y, hy⟩ : ∃ y : Nat, y = 8 * (7 - k) := ⟨_, rfl⟩
          have hy1 : (8 : Int) * (7 - (k : Int)) = (y : Int) := by omega
          have hy2 : y ≤ 56 := by omega
          have hsh : ∀ w, (Op.shift .shr .i64 (N : Int) .i64 (y : Int)).run Tryd.prog w = .ok (.int .i64 ((N / 2 ^ y : Nat) : Int)) w := by
            intro w
            rw [shift_shr_i64 _ _ _ (by omega) (by omega), Int.toNat_natCast]
            simp
          have i1 : (0 : Int) ≤ 7 - (k : Int) := by omega
          have HY := Lib.hid hy
          have HB2 := Lib.hid hB
          have HD2 := Lib.hid hD
          clear hy hB hD
          go_wp2_with (at_builtin; (refine wpList_append_Own _ rfl (.tmp 26) (.tmp 33) 44 rfl Bq 5 i0 _ 1 1 Tryd.underlying44 hi hz0 hz1 hz2 rfl (by omega) _ _ _ rfl (hO.alloc _) ⟨_, 0, none⟩ 1 1 [.int .u8 _] rfl rfl (one_new _ _ _) (oneCell_one _ _) ?_ ?_ ?_ ?_); (focus (unfold maxLen; omega)); (focus omega); (focus (simp; omega)); intro v2 w2 hO2 hg2 hat2)
          go_roundw
          case rel =>
            refine ⟨k + 1, by omega, by congr 1; omega, ?_, (HB2.out.alloc HB2.out.size _).grown hg2 (by have := HB2.out.size; simp; omega) (fun q hq => by have := (hO.lt q hq).1; have := HBq.out; omega), (HD2.out.alloc _).grown hg2 (fun e => by have := (hO.lt _ e.symm).1; have := HBq.out; omega), ?_⟩
            · have hb := bytes_get N k hlt2
              rw [take_snoc _ k (by rw [Sha.bytes_length]; exact hlt2), u8s_append]
              have e : u8s [(Sha.bytes 8 N)[k]'(by rw [Sha.bytes_length]; exact hlt2)] = [.int .u8 ((N : Int) / 2 ^ y % 256)] := by
                rw [hb]
                have h2 : (UInt8.ofNat (N / 2 ^ y % 256)).toNat = N / 2 ^ y % 256 := by simp
                rw [← HY.out]
                simp [u8s, h2]
              rw [e]
              exact hO2
            · have := hg2.size
              simp at this
              omega
          case measure => simp [intOf]; omega
        · have hk8 : k = 8 := by omega
          subst hk8
          have hng : ¬ (0 : Int) ≤ 7 - ((8 : Nat) : Int) := by omega
          obtain ⟨g, cap, rfl, hgb, hgl, _, _⟩ := hO.form (by omega)
          have hbl : (Sha.bytes 8 N).length = 8 := Sha.bytes_length 8 N
          rw [List.take_of_length_le (by omega)] at hO
          have hc := run_convert_bytes_back (P := Tryd.prog) wr 44 9 5 ⟨g, 0, none⟩ cap (Sha.bytes 8 N) Tryd.underlying44 Tryd.underlying5 Tryd.underlying9 (by
            intro j hj
            have e : (⟨g, 0, none⟩ : Addr).add j = ⟨g, j, none⟩ := by unfold Addr.add; split <;> simp_all
            rw [e, hO.cellAt rfl j (by omega)]
            simp [u8s, hj])
          rw [hbl] at hc
          obtain ⟨b8, hb8⟩ : ∃ b8 : ByteArray, b8 = ⟨(Sha.bytes 8 N).toArray⟩ := ⟨_, rfl⟩
          rw [← hb8] at hc
          have hb8s : b8.size = 8 := by rw [hb8, str_size, hbl]
          have hnc3 : ¬ 9223372036854775807 < S.size + b8.size := by omega
          have HB8 := Lib.hid (And.intro hb8 hb8s)
          have HB := Lib.hid hB
          have HD := Lib.hid hD
          clear hb8 hb8s hB hD hO hbl
          go_wp2_with fail
          have hH : At (wr.alloc (.cells #[.int .u32 1779033703, .int .u32 3144134277, .int .u32 1013904242, .int .u32 2773480762, .int .u32 1359893119, .int .u32 2600822924, .int .u32 528734635, .int .u32 1541459225] 80)) wr.heap.size 80 (stV Sha.begun) := At.newA _ _ rfl
          have hB1 := HB.out.alloc HB.out.size (.cells #[.int .u32 1779033703, .int .u32 3144134277, .int .u32 1013904242, .int .u32 2773480762, .int .u32 1359893119, .int .u32 2600822924, .int .u32 528734635, .int .u32 1541459225] 80)
          have hD1 := HD.out.alloc (.cells #[.int .u32 1779033703, .int .u32 3144134277, .int .u32 1013904242, .int .u32 2773480762, .int .u32 1359893119, .int .u32 2600822924, .int .u32 528734635, .int .u32 1541459225] 80)
          obtain ⟨H, hH0⟩ : ∃ H, H = wr.heap.size := ⟨_, rfl⟩
          have hDH : w.heap.size < H := by rw [hH0]; exact HD.out.lt
          rw [← hH0] at hH ⊢
          clear HB HD hH0 hc
          generalize wr.alloc (.cells #[.int .u32 1779033703, .int .u32 3144134277, .int .u32 1013904242, .int .u32 2773480762, .int .u32 1359893119, .int .u32 2600822924, .int .u32 528734635, .int .u32 1541459225] 80) = w3 at hH hB1 hD1 ⊢
          have HH := Lib.hid hH
          have HB := Lib.hid hB1
          have HD := Lib.hid hD1
          clear hH hB1 hD1
          refine (consts_any _).mono ?_
          rintro e w4 ⟨rfl, hb4⟩
          have HH4 := Lib.hid (HH.out.below hb4 HH.out.lt)
          have HD4 := Lib.hid (HD.out.below hb4 HD.out.lt)
          have HB4 := Lib.hid (HB.out.trans (hb4.mono HB.out.size))
          clear HH HD HB hb4
          obtain ⟨E, hE⟩ : ∃ E, E = S ++ b8 := ⟨_, rfl⟩
          have hes : E.data.toList = s.data.toList ++ Sha.pad s.data.toList.length := by
            rw [hE, ByteArray.data_append, Array.toList_append, HSL.out, HB8.out.1, bytes_length, pad_eq s.size (by omega), HN.out, HP.out.1]
            simp
          have hEs : E.size = S.size + 8 := by rw [hE, ByteArray.size_append, HB8.out.2]
          have hE64 : E.size % 64 = 0 := by have := HM.out; omega
          have hEb : E.size < 1099511628000 := by omega
          rw [← hE]
          have HES := Lib.hid hes
          clear hes hE hEs
          have HI := Lib.hid (show (Tryd.prog.info? 81).map (·.size) = some (u32s Sha.words).length by kernel_rfl)
          go_wp2_with (refine wpList_storeAll rfl 81 (.tmp 7) (.tmp 40) rfl _ rfl 81 zeros64 (u32s Sha.words) (at_new_at (cs := zeros64) _ _ rfl (by kernel_rfl)) rfl rfl HI.out (u32s_oneCell _) ?_; intro w5 hat5 hg5 hs5)
          obtain ⟨K, hK⟩ : ∃ K, K = w4.heap.size := ⟨_, rfl⟩
          rw [← hK] at hat5 hg5 ⊢
          have hHl := HH4.out.lt
          have hDl := HD4.out.lt
          have hH5 := (HH4.out.alloc _).grown hg5 (by intro e; injection e; omega)
          have hD5 := (HD4.out.alloc _).grown hg5 (by intro e; injection e; omega)
          have hB5 := Below.ofGrown (HB4.out.alloc HB4.out.size _) hg5 (by simp; have := HB4.out.size; omega) (by omega)
          have hKH : H < K := by omega
          have HH := Lib.hid hH5
          have HD := Lib.hid hD5
          have HB := Lib.hid hB5
          have HK := Lib.hid hat5
          clear HH4 HD4 HB4 hat5 hg5 hs5 hK hHl hDl hH5 hD5 hB5
          go_wp2_with fail
          go_loopw [8] (fun i wj => ∃ (a : Nat) (st' : Sha.St), a ≤ E.size ∧ a % 64 = 0 ∧ i = .int .i64 (a : Int) ∧ st'.Ok ∧ Sha.run st' (E.data.toList.drop a) = Sha.run Sha.begun E.data.toList ∧ At wj H 80 (stV st') ∧ At wj K 81 (u32s Sha.words) ∧ At wj w.heap.size 23 zero32 ∧ Below w.heap.size w wj) (fun i _ => E.size - (intOf i).toNat)
          case atStart => exact ⟨0, Sha.begun, by omega, rfl, rfl, Sha.begun_ok, by simp, HH.out, HK.out, HD.out, HB.out⟩
          case round =>
            obtain ⟨a, st', ha, ha64, rfl, hok, hrun, hH, hK, hD, hB⟩ := hrel
            clear HH HK HD HB
            by_cases hlt3 : a < E.size
            · have hle : a + 64 ≤ E.size := by omega
              obtain ⟨hx1, hx2⟩ := extract_mid E a hle
              have i1 : (0 : Int) ≤ (a : Int) := by omega
              have i2 : (a : Int) ≤ (a : Int) + 64 := by omega
              have i3 : (a : Int) + 64 ≤ (E.size : Int) := by omega
              have ww : IntKind.i64.wrap ((a : Int) + 64) = (a : Int) + 64 := IntWalk.i64_in _ (by omega)
              have n1 : ((a : Int) + 64).toNat = a + 64 := by omega
              have HX := Lib.hid (And.intro hx1 hx2)
              have HR := Lib.hid (And.intro hok hrun)
              have HH := Lib.hid hH
              have HK := Lib.hid hK
              have HD := Lib.hid hD
              have HB := Lib.hid hB
              have HI8 := Lib.hid (show (Tryd.prog.info? 80).map (·.size) = some (stV st').length by kernel_rfl)
              clear hx1 hx2 hok hrun hH hK hD hB
              go_wp2_with fail
              refine wp_region_then (fun w' => ∃ n, w' = wr.drewN n) 7 (by kernel_rfl) (by kernel_rfl) (by kernel_rfl) (by kernel_rfl) (by decide) ⟨1, rfl⟩ ?_
              simp only [List.take_succ_cons, List.take_zero, List.drop_succ_cons, List.drop_zero]
              refine wpQuiet_loadAll rfl 80 (.tmp 6) rfl H 0 rfl (stV st') _ (fun w' ⟨n, e⟩ => by subst e; exact at_range HH.out n) Tryd.underlying80 rfl HI8.out ?_
              refine wpQuiet_loadAll rfl 81 (.tmp 7) rfl K 0 rfl (u32s Sha.words) _ (fun w' ⟨n, e⟩ => by subst e; exact at_range HK.out n) Tryd.underlying81 rfl HI.out ?_
              simp only [Act.put, List.setIfInBounds_toArray, List.set_cons_zero, List.set_cons_succ]
              repeat (go_big_quiet_step (fail))
              refine wpQuiet_nil ?_
              intro _ hw'
              obtain ⟨nq, rfl⟩ := hw'
              go_wp2_with fail
              refine (refblock_any (E.extract a (a + 64)) HX.out.2 st' HR.out.1 _).mono ?_
              rintro e w6 ⟨rfl, hb6⟩
              rw [HX.out.1]
              have hH6 : At w6 H 80 (stV st') := At.below (w := wr.drewN nq) HH.out hb6 HH.out.lt
              have hK6 : At w6 K 81 (u32s Sha.words) := At.below (w := wr.drewN nq) HK.out hb6 HK.out.lt
              have hD6 : At w6 w.heap.size 23 zero32 := At.below (w := wr.drewN nq) HD.out hb6 HD.out.lt
              have hB6 := (below_drewN HB.out nq).trans (hb6.mono HB.out.size)
              obtain ⟨M, hM⟩ : ∃ M, M = Sha.mix st' ((E.data.toList.drop a).take 64) := ⟨_, rfl⟩
              rw [← hM]
              have HM2 := Lib.hid hM
              have HH6 := Lib.hid hH6
              have HK6 := Lib.hid hK6
              have HD6 := Lib.hid hD6
              have HB6 := Lib.hid hB6
              clear hM hH6 hK6 hD6 hB6 hb6 HH HK HD HB
              go_wp2_with (refine wpList_storeAll rfl 80 (.tmp 6) (.tmp 54) rfl H rfl 80 (stV st') (stV M) HH6.out rfl rfl (by kernel_rfl) (stV_oneCell M) ?_; intro w7 hat7 hg7 hs7)
              go_roundw
              case rel =>
                refine ⟨a + 64, M, by omega, by omega, by go_num, by rw [HM2.out]; exact Sha.sum_ok _ _, ?_, hat7, HK6.out.grown hg7 (by intro e; injection e; omega), HD6.out.grown hg7 (by intro e; injection e; omega), Below.ofGrown HB6.out hg7 HB6.out.size (by omega)⟩
                have hlen : 64 ≤ (E.data.toList.drop a).length := by rw [List.length_drop, bytes_length]; omega
                rw [HM2.out, ← HR.out.2, Sha.run_step st' _ hlen, List.drop_drop]
              case measure => simp [intOf]; omega
            · have haE : a = E.size := by omega
              have hst : st' = (Sha.run Sha.begun E.data.toList).1 := by
                rw [← hrun, List.drop_of_length_le (by rw [bytes_length]; omega), Sha.run_end _ _ (by simp)]
              have HST := Lib.hid hst
              have HH := Lib.hid hH
              have HD := Lib.hid hD
              have HB := Lib.hid hB
              clear hst hrun hH hK hD hB
              go_wp2_with (refine wpList_storeAll rfl 23 (.tmp 9) (.tmp 55) rfl _ rfl 23 zero32 zero32 (at_new_at (cs := zero32) _ _ rfl (by kernel_rfl)) rfl rfl zero32_info zero32_oneCell ?_; intro w8 hat8 hg8 hs8)
              obtain ⟨G, hG⟩ : ∃ G, G = wr.heap.size := ⟨_, rfl⟩
              rw [← hG] at hat8 hg8 ⊢
              have hHl := HH.out.lt
              have hDl := HD.out.lt
              have hHG : H < G := by omega
              have hH8 := (HH.out.alloc _).grown hg8 (by intro e; injection e; omega)
              have hD8 := (HD.out.alloc _).grown hg8 (by intro e; injection e; omega)
              have hB8 := Below.ofGrown (HB.out.alloc HB.out.size _) hg8 (by simp; have := HB.out.size; omega) (by omega)
              have HH8 := Lib.hid hH8
              have HD8 := Lib.hid hD8
              have HB8' := Lib.hid hB8
              have HA8 := Lib.hid hat8
              clear HH HD HB hat8 hg8 hs8 hG hHl hDl hH8 hD8 hB8
              go_wp2_with fail
              go_loopw [10] (fun i wj => ∃ k : Nat, k ≤ 32 ∧ i = .int .i64 k ∧ At wj G 23 (filled (Sha.digest st') k 32) ∧ At wj H 80 (stV st') ∧ At wj w.heap.size 23 zero32 ∧ Below w.heap.size w wj) (fun i _ => 32 - (intOf i).toNat)
              case atStart => exact ⟨0, by omega, rfl, HA8.out, HH8.out, HD8.out, HB8'.out⟩
              case round =>
                obtain ⟨k, hk, rfl, hG, hH, hD, hB⟩ := hrel
                clear HA8 HH8 HD8 HB8'
                by_cases hlt4 : k < 32
                · have i1 : (0 : Int) ≤ (k : Int) := by omega
                  have i2 : (k : Int) < 32 := by omega
                  obtain ⟨x, hx⟩ : ∃ x, x = st'.list.getD (k / 4) 0 := ⟨_, rfl⟩
                  obtain ⟨y, hy⟩ : ∃ y, y = 24 - k % 4 * 8 := ⟨_, rfl⟩
                  obtain ⟨q, hq⟩ : ∃ q, q = k / 4 := ⟨_, rfl⟩
                  have hq2 : (k : Int) / 4 = (q : Int) := by omega
                  have hq3 : (k : Int).tdiv 4 = (q : Int) := by rw [Int.tdiv_eq_ediv_of_nonneg (by omega)]; omega
                  have q1 : q < 8 := by omega
                  have hcell : wr.cell? ⟨H, q, none⟩ = some (.int .u32 (x : Int)) := by
                    refine hH.cell' ?_
                    rw [hx, ← hq]
                    exact u32s_getD st'.list q (by simpa [Sha.St.list] using q1)
                  have hy2 : (24 : Int) - 8 * ((k : Int) % 4) = (y : Int) := by omega
                  have hy3 : (24 : Int) - 8 * ((k : Int).tmod 4) = (y : Int) := by rw [Int.tmod_eq_emod_of_nonneg (by omega)]; omega
                  have hd := hG.cell' (i := k) (v := .int .u8 0) (by
                    unfold filled
                    rw [List.getElem?_append_right (by rw [u8s_length, List.length_take, digest_length]; omega), u8s_length, List.length_take, digest_length, Nat.min_eq_left (by omega), Nat.sub_self, List.getElem?_replicate, if_pos (by omega)])
                  have hf := hG.frozen k
                  have HG := Lib.hid hG
                  have HH := Lib.hid hH
                  have HD := Lib.hid hD
                  have HB := Lib.hid hB
                  have HX := Lib.hid hx
                  have HY := Lib.hid hy
                  have hy4 : y ≤ 24 := by omega
                  clear hG hH hD hB hx hy hq
                  go_wp2_with fail
                  go_roundw
                  case rel =>
                    refine ⟨k + 1, by omega, by go_num, ?_, HH.out.far (p := ⟨G, k, none⟩) (by simp; omega) _, HD.out.far (p := ⟨G, k, none⟩) (by simp; omega) _, HB.out.setCell (by simp; omega) _⟩
                    have h := digest_get st' k hlt4
                    rw [← HX.out, ← HY.out] at h
                    rw [← filled_set _ k 32 hlt4 (digest_length st') _ h (.int .u8 ((x : Int) / 2 ^ y % 256)) ?_]
                    · exact HG.out.set k _
                    · have : (UInt8.ofNat (x / 2 ^ y % 256)).toNat = x / 2 ^ y % 256 := by simp
                      rw [this]
                      simp
                  case measure => simp [intOf]; omega
                · have hk32 : k = 32 := by omega
                  rw [hk32, filled_all _ _ (digest_length st')] at hG
                  have hsha : Sha.digest st' = Sha.sha s.data.toList := by rw [HST.out, HES.out]; rfl
                  rw [hsha] at hG
                  obtain ⟨d, hd⟩ : ∃ d, d = Sha.sha s.data.toList := ⟨_, rfl⟩
                  rw [← hd] at hG
                  have HDE := Lib.hid hd
                  have hdl : d.length = 32 := by rw [hd]; exact sha_length _
                  have HI9 := Lib.hid (show (Tryd.prog.info? 23).map (·.size) = some (u8s d).length by rw [u8s_length, hdl]; kernel_rfl)
                  have HDL := Lib.hid (show (u8s d).length = zero32.length by rw [u8s_length, hdl]; rfl)
                  have HG := Lib.hid hG
                  have HD := Lib.hid hD
                  have HB := Lib.hid hB
                  clear hG hH hD hB hsha hd hdl hk32
                  go_wp2_with (first
                    | (refine wpList_loadAll rfl 23 (.tmp 9) rfl _ rfl _ _ _ HG.out Tryd.underlying23 rfl HI9.out ?_)
                    | (refine wpList_storeAll rfl 23 (.tmp 2) (.tmp 72) rfl w.heap.size rfl 23 zero32 (u8s d) HD.out rfl HDL.out HI9.out (u8s_oneCell _) ?_; intro w9 hat9 hg9 hs9))
                  refine ret_cellAll rfl rfl w.heap.size _ _ _ rfl hat9 Tryd.underlying23 rfl HI9.out ⟨by rw [HDE.out]; rfl, ?_⟩
                  exact Below.ofGrown HB.out hg9 HB.out.size (Nat.le_refl _)
end Go.Proofs.YtdfeiajdmmlllaaDoor
