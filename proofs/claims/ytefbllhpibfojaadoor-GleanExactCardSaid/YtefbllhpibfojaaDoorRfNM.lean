/- The references of layers 1 and 3: a number's text, a digest's. -/
import Derived.Test.YtefbllhpibfojaaDoorQRefEM
import Derived.Test.YtefbllhpibfojaaDoorRecTM
namespace Go.Proofs.YtefbllhpibfojaaDoor
open Go.Proofs Stab Go.Shelf Go.RowKit Go.Lib Go.Sort

theorem num_neg (n : Nat) : Sap.num (-1 - (n : Int)) = UInt8.ofNat (128 + Sap.width 8 n) :: Sha.bytes (Sap.width 8 n) n := by
  have h : Sap.mag (-1 - (n : Int)) = n := by
    unfold Sap.mag
    rw [if_pos (by omega)]
    omega
  unfold Sap.num
  rw [if_pos (by omega), h]
set_option maxRecDepth 100000 in
set_option maxHeartbeats 1000000 in
theorem refnum_pos (n : Nat) (hn : n < 9223372036854775808) (w : World) :
    Calls Tryd.prog 60 #[.int .i64 ((n : Int))] w fun e w' => e = .returned (.string ⟨(Sap.num ((n : Int))).toArray⟩) ∧ Below w.heap.size w w' := by
  obtain ⟨i0, hi, hz0, hz1, hz2⟩ := info_parts info_u8
  have hnn : ¬ (n : Int) < 0 := by omega
  have hwp : ∀ j, (j < Sap.width 8 n ↔ 0 < n / 256 ^ j) := fun j => Sap.width_pos 8 n j (by omega)
  have hw8 := Sap.width_le 8 n
  obtain ⟨W, hW⟩ : ∃ W, W = Sap.width 8 n := ⟨_, rfl⟩
  rw [← hW] at hw8 hwp
  have HW := Lib.hid hW
  have HWP := Lib.hid hwp
  clear hW hwp
  go_enter Tryd.func60, Tryd.ntmps60
  go_wp2_with fail
  have hB1 : Below w.heap.size w (w.alloc (.cells #[] 5)) := (Below.refl _ _).alloc (Nat.le_refl _) _
  have hl1 : w.heap.size < (w.alloc (.cells #[] 5)).heap.size := by simp
  have HB := Lib.hid hB1
  have HL := Lib.hid hl1
  clear hB1 hl1
  generalize w.alloc (.cells #[] 5) = w1 at HB HL ⊢
  go_loopw [0, 4] (fun m v wr => ∃ (j g cap : Nat), j ≤ W ∧ m = .int .i64 ((n / 256 ^ j : Nat) : Int) ∧ v = .slice (some ⟨g, 0, none⟩) j cap ∧ g < wr.heap.size ∧ (∀ i (h : i < (Sha.bytes j n).length), wr.cell? ⟨g, i, none⟩ = some (.int .u8 ((Sha.bytes j n)[i].toNat : Int))) ∧ Below w.heap.size w wr) (fun m _ _ => (intOf m).toNat)
  case atStart => exact ⟨0, w.heap.size, 0, by omega, by simp, rfl, HL.out, fun i h => by simp [Sha.bytes] at h, HB.out⟩
  case round =>
    obtain ⟨j, g, cap, hj, rfl, rfl, hg, hc, hb⟩ := hrel
    clear HB HL
    obtain ⟨m, hm⟩ : ∃ m, m = n / 256 ^ j := ⟨_, rfl⟩
    rw [← hm]
    have hbl : (Sha.bytes j n).length = j := Sha.bytes_length j n
    by_cases hlt : 0 < m
    · have hjW : j < W := (HWP.out j).2 (by rw [← hm]; exact hlt)
      have hp : (0 : Int) < (m : Int) := by omega
      have hm62 : m < 9223372036854775808 := by rw [hm]; exact Nat.lt_of_le_of_lt (Nat.div_le_self _ _) hn
      have hr2 : (m : Int).tmod 256 = ((m % 256 : Nat) : Int) := by rw [Int.tmod_eq_emod_of_nonneg (by omega)]; omega
      have hq2 : (m : Int).tdiv 256 = ((m / 256 : Nat) : Int) := by rw [Int.tdiv_eq_ediv_of_nonneg (by omega)]; omega
      have hO1 : Own (wr.alloc (.cells #[.int .u8 ((m : Int) % 256)] 5)) w.heap.size 5 1 (.slice (some ⟨wr.heap.size, 0, none⟩) 1 1) 1 [.int .u8 ((m : Int) % 256)] := Own.made (base := w.heap.size) wr 5 1 [.int .u8 ((m : Int) % 256)] 1 1 hb.size (Nat.le_refl _) (by simp [maxLen]) rfl
      have hBa := hb.alloc hb.size (.cells #[.int .u8 ((m : Int) % 256)] 5)
      have hnew : ∀ i u, (u8s (Sha.bytes j n))[i]? = some u → (wr.alloc (.cells #[.int .u8 ((m : Int) % 256)] 5)).cell? ((⟨g, 0, none⟩ : Addr).add i) = some u := by
        intro i u hu
        have e : (⟨g, 0, none⟩ : Addr).add i = ⟨g, i, none⟩ := by unfold Addr.add; split <;> simp_all
        have hi : i < (Sha.bytes j n).length := by
          have := (List.getElem?_eq_some_iff.1 hu).1
          rwa [u8s_length] at this
        rw [e, World.cell?_alloc_lt _ _ _ hg, hc i hi]
        simpa [u8s, hi] using hu
      have hul : (u8s (Sha.bytes j n)).length = j * 1 := by rw [u8s_length, hbl, Nat.mul_one]
      have HM := Lib.hid hm
      have HBL := Lib.hid hbl
      have HB := Lib.hid hb
      clear hm hbl hc hb
      go_wp2_with (at_builtin; (refine wpList_append_Own _ rfl (.tmp 15) (.tmp 16) 70 rfl w.heap.size 5 i0 _ 1 1 Tryd.underlying70 hi hz0 hz1 hz2 rfl (by omega) _ _ _ rfl hO1 ⟨g, 0, none⟩ j cap (u8s (Sha.bytes j n)) rfl hul hnew (u8s_oneCell _) ?_ ?_ ?_ ?_); (focus (unfold maxLen; omega)); (focus omega); (focus exact hBa.size); intro v2 w2 hO2 hg2 hat2)
      refine ⟨?_, ?_⟩
      · obtain ⟨g2, cap2, rfl, hgb, hgl, _, _⟩ := hO2.form (by omega)
        have e1 : m / 256 = n / 256 ^ (j + 1) := by rw [HM.out, Nat.pow_succ, Nat.div_div_eq_div_mul]
        have e2 : [.int .u8 ((m : Int) % 256)] ++ u8s (Sha.bytes j n) = u8s (Sha.bytes (j + 1) n) := by
          rw [Sap.bytes_snoc_head, ← HM.out]
          simp [u8s]
        rw [e2] at hO2
        refine ⟨j + 1, g2, cap2, by omega, ?_, by rw [Nat.add_comm], hgl, fun i h => ?_, own_below hO1 hBa hBa.size hg2⟩
        · rw [← e1]
          congr 1
        · have hil : i < 1 + j := by rw [Sha.bytes_length] at h; omega
          rw [hO2.cellAt rfl i (by omega)]
          simp [u8s, h]
      · simp [intOf]
        omega
    · have hjW : j = W := by
        have := (HWP.out j)
        rw [← hm] at this
        omega
      have hm0 : m = 0 := by omega
      have hcv := run_convert_bytes_back (P := Tryd.prog) (wr.alloc (.cells #[.int .u8 (j : Int)] 5)) 70 9 5 ⟨g, 0, none⟩ cap (Sha.bytes j n) Tryd.underlying70 Tryd.underlying5 Tryd.underlying9 (by
        intro i hi
        have e : (⟨g, 0, none⟩ : Addr).add i = ⟨g, i, none⟩ := by unfold Addr.add; split <;> simp_all
        rw [e, World.cell?_alloc_lt _ _ _ hg]
        exact hc i hi)
      rw [hbl] at hcv
      have hc1 := conv_one (W := wr.alloc (.cells #[.int .u8 (j : Int)] 5)) (b := wr.heap.size) j _ (by omega) rfl (by simp [go_sem])
      obtain ⟨s1, hs1⟩ : ∃ s1 : ByteArray, s1 = ⟨[UInt8.ofNat j].toArray⟩ := ⟨_, rfl⟩
      obtain ⟨s2, hs2⟩ : ∃ s2 : ByteArray, s2 = ⟨(Sha.bytes j n).toArray⟩ := ⟨_, rfl⟩
      rw [← hs2] at hcv
      rw [← hs1] at hc1
      have hl1 : s1.size = 1 := by rw [hs1]; rfl
      have hl2 : s2.size = j := by rw [hs2, str_size, hbl]
      have hnc : ¬ 9223372036854775807 < s1.size + s2.size := by omega
      have HS := Lib.hid (And.intro hs1 (And.intro hs2 hjW))
      have HB := Lib.hid (hb.alloc hb.size (.cells #[.int .u8 (j : Int)] 5))
      have i1 : (0 : Int) ≤ (j : Int) := by omega
      have i2 : (j : Int) < 256 := by omega
      clear hs1 hs2 hl1 hl2 hjW hm hb hc
      subst hm0
      have HC1 := Lib.hid hc1
      have HCV := Lib.hid hcv
      clear hc1 hcv
      go_wp2_with fail
      rw [HC1.out]
      simp only [Result.andThen]
      rw [Oper.upon_value]
      go_wp2_with fail
      rw [HCV.out]
      simp only [Result.andThen]
      rw [Oper.upon_value]
      go_wp2_with fail
      go_ret
      refine ⟨?_, HB.out⟩
      rw [num_nat, HS.out.1, HS.out.2.1, ← HW.out, ← HS.out.2.2]
      refine ret_val ?_
      show Value.string _ = _
      congr 1
set_option maxRecDepth 100000 in
set_option maxHeartbeats 1000000 in
theorem refnum_neg (n : Nat) (hn : n < 9223372036854775808) (w : World) :
    Calls Tryd.prog 60 #[.int .i64 (-1 - (n : Int))] w fun e w' => e = .returned (.string ⟨(Sap.num (-1 - (n : Int))).toArray⟩) ∧ Below w.heap.size w w' := by
  obtain ⟨i0, hi, hz0, hz1, hz2⟩ := info_parts info_u8
  have hnn : -1 - (n : Int) < 0 := by omega
  have hwp : ∀ j, (j < Sap.width 8 n ↔ 0 < n / 256 ^ j) := fun j => Sap.width_pos 8 n j (by omega)
  have hw8 := Sap.width_le 8 n
  obtain ⟨W, hW⟩ : ∃ W, W = Sap.width 8 n := ⟨_, rfl⟩
  rw [← hW] at hw8 hwp
  have HW := Lib.hid hW
  have HWP := Lib.hid hwp
  clear hW hwp
  go_enter Tryd.func60, Tryd.ntmps60
  go_wp2_with fail
  have hB1 : Below w.heap.size w (w.alloc (.cells #[] 5)) := (Below.refl _ _).alloc (Nat.le_refl _) _
  have hl1 : w.heap.size < (w.alloc (.cells #[] 5)).heap.size := by simp
  have HB := Lib.hid hB1
  have HL := Lib.hid hl1
  clear hB1 hl1
  generalize w.alloc (.cells #[] 5) = w1 at HB HL ⊢
  go_loopw [0, 4] (fun m v wr => ∃ (j g cap : Nat), j ≤ W ∧ m = .int .i64 ((n / 256 ^ j : Nat) : Int) ∧ v = .slice (some ⟨g, 0, none⟩) j cap ∧ g < wr.heap.size ∧ (∀ i (h : i < (Sha.bytes j n).length), wr.cell? ⟨g, i, none⟩ = some (.int .u8 ((Sha.bytes j n)[i].toNat : Int))) ∧ Below w.heap.size w wr) (fun m _ _ => (intOf m).toNat)
  case atStart => exact ⟨0, w.heap.size, 0, by omega, by (simp; omega), rfl, HL.out, fun i h => by simp [Sha.bytes] at h, HB.out⟩
  case round =>
    obtain ⟨j, g, cap, hj, rfl, rfl, hg, hc, hb⟩ := hrel
    clear HB HL
    obtain ⟨m, hm⟩ : ∃ m, m = n / 256 ^ j := ⟨_, rfl⟩
    rw [← hm]
    have hbl : (Sha.bytes j n).length = j := Sha.bytes_length j n
    by_cases hlt : 0 < m
    · have hjW : j < W := (HWP.out j).2 (by rw [← hm]; exact hlt)
      have hp : (0 : Int) < (m : Int) := by omega
      have hm62 : m < 9223372036854775808 := by rw [hm]; exact Nat.lt_of_le_of_lt (Nat.div_le_self _ _) hn
      have hr2 : (m : Int).tmod 256 = ((m % 256 : Nat) : Int) := by rw [Int.tmod_eq_emod_of_nonneg (by omega)]; omega
      have hq2 : (m : Int).tdiv 256 = ((m / 256 : Nat) : Int) := by rw [Int.tdiv_eq_ediv_of_nonneg (by omega)]; omega
      have hO1 : Own (wr.alloc (.cells #[.int .u8 ((m : Int) % 256)] 5)) w.heap.size 5 1 (.slice (some ⟨wr.heap.size, 0, none⟩) 1 1) 1 [.int .u8 ((m : Int) % 256)] := Own.made (base := w.heap.size) wr 5 1 [.int .u8 ((m : Int) % 256)] 1 1 hb.size (Nat.le_refl _) (by simp [maxLen]) rfl
      have hBa := hb.alloc hb.size (.cells #[.int .u8 ((m : Int) % 256)] 5)
      have hnew : ∀ i u, (u8s (Sha.bytes j n))[i]? = some u → (wr.alloc (.cells #[.int .u8 ((m : Int) % 256)] 5)).cell? ((⟨g, 0, none⟩ : Addr).add i) = some u := by
        intro i u hu
        have e : (⟨g, 0, none⟩ : Addr).add i = ⟨g, i, none⟩ := by unfold Addr.add; split <;> simp_all
        have hi : i < (Sha.bytes j n).length := by
          have := (List.getElem?_eq_some_iff.1 hu).1
          rwa [u8s_length] at this
        rw [e, World.cell?_alloc_lt _ _ _ hg, hc i hi]
        simpa [u8s, hi] using hu
      have hul : (u8s (Sha.bytes j n)).length = j * 1 := by rw [u8s_length, hbl, Nat.mul_one]
      have HM := Lib.hid hm
      have HBL := Lib.hid hbl
      have HB := Lib.hid hb
      clear hm hbl hc hb
      go_wp2_with (at_builtin; (refine wpList_append_Own _ rfl (.tmp 15) (.tmp 16) 70 rfl w.heap.size 5 i0 _ 1 1 Tryd.underlying70 hi hz0 hz1 hz2 rfl (by omega) _ _ _ rfl hO1 ⟨g, 0, none⟩ j cap (u8s (Sha.bytes j n)) rfl hul hnew (u8s_oneCell _) ?_ ?_ ?_ ?_); (focus (unfold maxLen; omega)); (focus omega); (focus exact hBa.size); intro v2 w2 hO2 hg2 hat2)
      refine ⟨?_, ?_⟩
      · obtain ⟨g2, cap2, rfl, hgb, hgl, _, _⟩ := hO2.form (by omega)
        have e1 : m / 256 = n / 256 ^ (j + 1) := by rw [HM.out, Nat.pow_succ, Nat.div_div_eq_div_mul]
        have e2 : [.int .u8 ((m : Int) % 256)] ++ u8s (Sha.bytes j n) = u8s (Sha.bytes (j + 1) n) := by
          rw [Sap.bytes_snoc_head, ← HM.out]
          simp [u8s]
        rw [e2] at hO2
        refine ⟨j + 1, g2, cap2, by omega, ?_, by rw [Nat.add_comm], hgl, fun i h => ?_, own_below hO1 hBa hBa.size hg2⟩
        · rw [← e1]
          congr 1
        · have hil : i < 1 + j := by rw [Sha.bytes_length] at h; omega
          rw [hO2.cellAt rfl i (by omega)]
          simp [u8s, h]
      · simp [intOf]
        omega
    · have hjW : j = W := by
        have := (HWP.out j)
        rw [← hm] at this
        omega
      have hm0 : m = 0 := by omega
      have hcv := run_convert_bytes_back (P := Tryd.prog) (wr.alloc (.cells #[.int .u8 (128 + (j : Int))] 5)) 70 9 5 ⟨g, 0, none⟩ cap (Sha.bytes j n) Tryd.underlying70 Tryd.underlying5 Tryd.underlying9 (by
        intro i hi
        have e : (⟨g, 0, none⟩ : Addr).add i = ⟨g, i, none⟩ := by unfold Addr.add; split <;> simp_all
        rw [e, World.cell?_alloc_lt _ _ _ hg]
        exact hc i hi)
      rw [hbl] at hcv
      have hc1 := conv_one (W := wr.alloc (.cells #[.int .u8 (128 + (j : Int))] 5)) (b := wr.heap.size) (128 + j) _ (by omega) rfl (by simp [go_sem])
      obtain ⟨s1, hs1⟩ : ∃ s1 : ByteArray, s1 = ⟨[UInt8.ofNat (128 + j)].toArray⟩ := ⟨_, rfl⟩
      obtain ⟨s2, hs2⟩ : ∃ s2 : ByteArray, s2 = ⟨(Sha.bytes j n).toArray⟩ := ⟨_, rfl⟩
      rw [← hs2] at hcv
      rw [← hs1] at hc1
      have hl1 : s1.size = 1 := by rw [hs1]; rfl
      have hl2 : s2.size = j := by rw [hs2, str_size, hbl]
      have hnc : ¬ 9223372036854775807 < s1.size + s2.size := by omega
      have HS := Lib.hid (And.intro hs1 (And.intro hs2 hjW))
      have HB := Lib.hid (hb.alloc hb.size (.cells #[.int .u8 (128 + (j : Int))] 5))
      have i1 : (0 : Int) ≤ (j : Int) := by omega
      have i2 : (j : Int) < 9 := by omega
      clear hs1 hs2 hl1 hl2 hjW hm hb hc
      subst hm0
      have HC1 := Lib.hid hc1
      have HCV := Lib.hid hcv
      clear hc1 hcv
      go_wp2_with fail
      rw [HC1.out]
      simp only [Result.andThen]
      rw [Oper.upon_value]
      go_wp2_with fail
      rw [HCV.out]
      simp only [Result.andThen]
      rw [Oper.upon_value]
      go_wp2_with fail
      go_ret
      refine ⟨?_, HB.out⟩
      rw [num_neg, HS.out.1, HS.out.2.1, ← HW.out, ← HS.out.2.2]
      refine ret_val ?_
      show Value.string _ = _
      congr 1
theorem refnumi_any (x : Int) (h1 : -9223372036854775808 ≤ x) (h2 : x ≤ 9223372036854775807) (w : World) :
    Calls Tryd.prog 60 #[.int .i64 x] w fun e w' => e = .returned (.string ⟨(Sap.num x).toArray⟩) ∧ Below w.heap.size w w' := by
  by_cases h : x < 0
  · obtain ⟨n, rfl⟩ : ∃ n : Nat, x = -1 - (n : Int) := ⟨(-1 - x).toNat, by omega⟩
    exact refnum_neg n (by omega) w
  · obtain ⟨n, rfl⟩ : ∃ n : Nat, x = (n : Int) := ⟨x.toNat, by omega⟩
    exact refnum_pos n (by omega) w
set_option maxRecDepth 100000 in
set_option maxHeartbeats 4000000 in
theorem refbytes0_any (k : List UInt8) (hk : k.length = 32) (w : World) :
    Calls Tryd.prog 86 #[.agg (u8s k).toArray] w fun e w' => e = .returned (.string ⟨k.toArray⟩) ∧ Below w.heap.size w w' := by
  obtain ⟨i0, hi, hz0, hz1, hz2⟩ := info_parts info_u8
  have h0 := At.new w 24 (u8s k)
  have hb0 : Below w.heap.size w (w.alloc (.cells (u8s k).toArray 24)) := (Below.refl _ _).alloc (Nat.le_refl _) _
  have HAT := Lib.hid h0
  have HB0 := Lib.hid hb0
  have HK := Lib.hid hk
  clear h0 hb0 hk
  go_enter Tryd.func86, Tryd.ntmps86
  go_upto_region 1 with (fail)
  obtain ⟨g1, hg1⟩ : ∃ g, g = w.heap.size := ⟨_, rfl⟩
  rw [← hg1] at HAT ⊢
  clear hg1
  generalize w.alloc (.cells (u8s k).toArray 24) = w0 at HAT HB0 ⊢
  go_wp2_with fail
  have hO1 := own_none1 w0 5 (base := w0.heap.size) (Nat.le_refl _)
  have hb1 : Below w0.heap.size w0 (w0.alloc (.cells #[] 5)) := (Below.refl _ _).alloc (Nat.le_refl _) _
  have HO1 := Lib.hid hO1
  have HB1 := Lib.hid hb1
  clear hO1 hb1
  generalize w0.alloc (.cells #[] 5) = w1 at HO1 HB1 ⊢
  go_loopg [3, 4] 32 (fun gg s3 s4 wr => ∃ (i : Nat) (v : Value), v = s3 ∧ s4 = .int .i64 i ∧ i ≤ 32 ∧ 32 - i ≤ gg ∧ Hid (Own wr w0.heap.size 5 1 v i (u8s (k.take i))) ∧ Hid (Below w0.heap.size w0 wr))
  case atStart => exact ⟨0, _, rfl, rfl, by omega, by omega, HO1.out, HB1.out⟩
  case round =>
    obtain ⟨i, v, hv, rfl, hi32, hgg, HO, HBW⟩ := hrel
    subst hv
    have hbs := HBW.out.size
    by_cases hlt : i < 32
    · have hltz : (i : Int) < 32 := by omega
      have i0' : (0 : Int) ≤ (i : Int) := by omega
      have hik : i < k.length := by rw [HK.out]; exact hlt
      obtain ⟨b, hb⟩ : ∃ b, b = k[i] := ⟨_, rfl⟩
      have hc : wr.cell? ⟨g1, i, none⟩ = some (.int .u8 (b.toNat : Int)) := (HAT.out.below HBW.out HAT.out.lt).cell' (by rw [hb]; simp [u8s, hik])
      have hOA := HO.out.alloc (.cells #[.int .u8 (b.toNat : Int)] 5)
      have hBA := HBW.out.alloc hbs (.cells #[.int .u8 (b.toNat : Int)] 5)
      have HBK := Lib.hid hb
      clear hb
      go_wp2_with (at_builtin; (refine wpList_append_Own _ rfl (.tmp 10) (.tmp 14) 70 rfl w0.heap.size 5 i0 _ 1 1 Tryd.underlying70 hi hz0 hz1 hz2 rfl (by omega) _ _ _ rfl hOA ⟨wr.heap.size, 0, none⟩ 1 1 [.int .u8 (b.toNat : Int)] rfl rfl (one_new wr _ _) (by intro u hu; rw [List.mem_singleton.1 hu]; rfl) ?_ ?_ ?_ ?_); (focus (unfold maxLen; omega)); (focus omega); (focus (simp; omega)); intro v2 w2 hO2 hg2 _)
      go_roundg (32 - (i + 1))
      case measure => omega
      case rel =>
        refine ⟨i + 1, v2, rfl, by go_num, by omega, Nat.le_refl _, ?_, own_below2 hOA hBA (Nat.le_refl _) hBA.size hg2⟩
        show Own _ _ _ _ _ _ _
        rw [List.take_succ_eq_append_getElem hik, u8s_append, ← HBK.out]
        exact hO2
    · obtain rfl : i = 32 := by omega
      have hkt : k.take 32 = k := List.take_of_length_le (by rw [HK.out]; omega)
      have hO := HO.out
      rw [hkt] at hO
      obtain ⟨g2, cap, rfl, _, _, _, _⟩ := hO.form (by decide)
      have hr : wr.rangeAt g2 0 (u8s k) := fun j u hu => by
        have hj : j < 32 := by have := (List.getElem?_eq_some_iff.1 hu).1; rwa [u8s_length, HK.out] at this
        rw [Nat.zero_add, hO.cellAt rfl j (by omega)]
        exact hu
      have HR := Lib.hid hr
      clear hr hO hkt HO
      go_wp2_with (first
        | (with_reducible refine wpList_val (.string ⟨k.toArray⟩) rfl (exec_conv (.tmp 16) rfl (by with_unfolding_all rfl) HK.out.symm HR.out) ?_))
      go_ret
      exact ⟨rfl, HB0.out.trans (HBW.out.mono HB0.out.size)⟩
set_option maxRecDepth 100000 in
theorem refbytes_any (k : List UInt8) (hk : k.length = 32) (w : World) :
    Calls Tryd.prog 59 #[.agg (u8s k).toArray] w fun e w' => e = .returned (.string ⟨k.toArray⟩) ∧ Below w.heap.size w w' := by
  have h0 := At.new w 24 (u8s k)
  have hb0 : Below w.heap.size w (w.alloc (.cells (u8s k).toArray 24)) := (Below.refl _ _).alloc (Nat.le_refl _) _
  have HAT := Lib.hid h0
  have HB0 := Lib.hid hb0
  have HK := Lib.hid hk
  have HUD := Lib.hid Tryd.underlying24
  have HDG := Lib.hid (show (Tryd.prog.info? 24).map (·.size) = some (u8s k).length by rw [u8s_length, hk]; exact infoDg)
  have HBY := Lib.hid (refbytes0_any k hk)
  clear h0 hb0 hk
  go_enter Tryd.func59, Tryd.ntmps59
  go_upto_region 1 with (fail)
  obtain ⟨g1, hg1⟩ : ∃ g, g = w.heap.size := ⟨_, rfl⟩
  rw [← hg1] at HAT ⊢
  clear hg1
  generalize w.alloc (.cells (u8s k).toArray 24) = w0 at HAT HB0 ⊢
  go_wp2_with (first
    | (with_reducible refine wpList_loadW (by with_unfolding_all rfl) 24 (.tmp 1) rfl g1 0 (by with_unfolding_all rfl) (u8s k) _ (HAT.out.all) HUD.out (by with_unfolding_all rfl) (HDG.out) ?_)
    | (go_at_call 86; (with_reducible refine Calls.mono (HBY.out _) ?_); rintro e w1 ⟨rfl, hb⟩; have HB1 := Lib.hid (HB0.out.trans (hb.mono HB0.out.size)); clear hb))
  go_ret
  exact ⟨rfl, HB1.out⟩
end Go.Proofs.YtefbllhpibfojaaDoor
