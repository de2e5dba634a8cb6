/- The reference's Num, Text and Row, and layer 2's Row. -/
import Derived.Test.YtdfeiajdmmlllaaDoorQRefD
import Derived.Test.YtdfeiajdmmlllaaDoorQStrs
namespace Go.Proofs.YtdfeiajdmmlllaaDoor
open Go.RowKit

theorem own_below {w0 w w' : World} {B : Nat} {e : TypeId} {size n : Nat} {v : Value} {xs : List Value} (h : Own w B e size v n xs) (hb : Below B w0 w) (hB : B ≤ w.heap.size) (hg : w.grownBy w' v.ownBlock) : Below B w0 w' :=
  hb.grown hg hB (fun k hk => (h.lt k hk).1)
theorem mag_nat (n : Nat) : Sap.mag (n : Int) = n := by
  unfold Sap.mag
  rw [if_neg (by omega)]
  omega
theorem num_nat (n : Nat) : Sap.num (n : Int) = UInt8.ofNat (Sap.width 8 n) :: Sha.bytes (Sap.width 8 n) n := by
  unfold Sap.num
  rw [if_neg (by omega), mag_nat, Nat.zero_add]
set_option maxRecDepth 100000 in
set_option maxHeartbeats 1000000 in
theorem refnum_any (n : Nat) (hn : n < 4611686018427387904) (w : World) :
    Calls Tryd.prog 21 #[.int .i64 (n : Int)] w fun e w' => e = .returned (.string ⟨(Sap.num (n : Int)).toArray⟩) ∧ Below w.heap.size w w' := by
  obtain ⟨i0, hi, hz0, hz1, hz2⟩ := info_parts info_u8
  have hnn : ¬ (n : Int) < 0 := by omega
  have hwp : ∀ j, (j < Sap.width 8 n ↔ 0 < n / 256 ^ j) := fun j => Sap.width_pos 8 n j (by omega)
  have hw8 := Sap.width_le 8 n
  obtain ⟨W, hW⟩ : ∃ W, W = Sap.width 8 n := ⟨_, rfl⟩
  rw [← hW] at hw8 hwp
  have HW := Lib.hid hW
  have HWP := Lib.hid hwp
  clear hW hwp
  go_enter Tryd.func21, Tryd.ntmps21
  go_wp2_with fail
  have hB1 : Below w.heap.size w (w.alloc (.cells #[] 5)) := (Below.refl _ _).alloc (Nat.le_refl _) _
  have hl1 : w.heap.size < (w.alloc (.cells #[] 5)).heap.size := by simp
  have HB := Lib.hid hB1
  have HL := Lib.hid hl1
  clear hB1 hl1
  generalize w.alloc (.cells #[] 5) = w1 at HB HL ⊢
  go_loopw [0, 4] (fun m v wr => ∃ (j g cap : Nat), j ≤ W ∧ m = .int .i64 ((n / 256 ^ j : Nat) : Int) ∧ v = .slice (some ⟨g, 0, none⟩) j cap ∧ g < wr.heap.size ∧ (∀ i (h : i < (Sha.bytes j n).length), wr.cell? ⟨g, i, none⟩ = some (.int .u8 ((Sha.bytes j n)[i].toNat : Int))) ∧ Below w.heap.size w wr) (fun m _ _ => (intOf m).toNat)
  case atStart => exact ⟨0, w.heap.size, 0, by omega, by simp, rfl, HL.out, fun i h => by simp [Sha.bytes] at h, HB.out⟩
  case round =>
    obtain ⟨j, g, cap, hj, rfl, rfl, hg, hc, hb⟩ := hrel
    clear HB HL
    obtain ⟨m, hm⟩ : ∃ m, m = n / 256 ^ j := ⟨_, rfl⟩
    rw [← hm]
    have hbl : (Sha.bytes j n).length = j := Sha.bytes_length j n
    by_cases hlt : 0 < m
    · have hjW : j < W := (HWP.out j).2 (by rw [← hm]; exact hlt)
      have hp : (0 : Int) < (m : Int) := by omega
      have hm62 : m < 4611686018427387904 := by rw [hm]; exact Nat.lt_of_le_of_lt (Nat.div_le_self _ _) hn
      have hr2 : (m : Int).tmod 256 = ((m % 256 : Nat) : Int) := by rw [Int.tmod_eq_emod_of_nonneg (by omega)]; omega
      have hq2 : (m : Int).tdiv 256 = ((m / 256 : Nat) : Int) := by rw [Int.tdiv_eq_ediv_of_nonneg (by omega)]; omega
      have hO1 : Own (wr.alloc (.cells #[.int .u8 ((m : Int) % 256)] 5)) w.heap.size 5 1 (.slice (some ⟨wr.heap.size, 0, none⟩) 1 1) 1 [.int .u8 ((m : Int) % 256)] := Own.made (base := w.heap.size) wr 5 1 [.int .u8 ((m : Int) % 256)] 1 1 hb.size (Nat.le_refl _) (by simp [maxLen]) rfl
      have hBa := hb.alloc hb.size (.cells #[.int .u8 ((m : Int) % 256)] 5)
      have hnew : ∀ i u, (u8s (Sha.bytes j n))[i]? = some u → (wr.alloc (.cells #[.int .u8 ((m : Int) % 256)] 5)).cell? ((⟨g, 0, none⟩ : Addr).add i) = some u := by
        intro i u hu
        have e : (⟨g, 0, none⟩ : Addr).add i = ⟨g, i, none⟩ := by unfold Addr.add; split <;> simp_all
        have hi : i < (Sha.bytes j n).length := by
          have := (List.getElem?_eq_some_iff.1 hu).1
          rwa [u8s_length] at this
        rw [e, World.cell?_alloc_lt _ _ _ hg, hc i hi]
        simpa [u8s, hi] using hu
      have hul : (u8s (Sha.bytes j n)).length = j * 1 := by rw [u8s_length, hbl, Nat.mul_one]
      have HM := Lib.hid hm
      have HBL := Lib.hid hbl
      have HB := Lib.hid hb
      clear hm hbl hc hb
      go_wp2_with (at_builtin; (refine wpList_append_Own _ rfl (.tmp 15) (.tmp 16) 44 rfl w.heap.size 5 i0 _ 1 1 Tryd.underlying44 hi hz0 hz1 hz2 rfl (by omega) _ _ _ rfl hO1 ⟨g, 0, none⟩ j cap (u8s (Sha.bytes j n)) rfl hul hnew (u8s_oneCell _) ?_ ?_ ?_ ?_); (focus (unfold maxLen; omega)); (focus omega); (focus exact hBa.size); intro v2 w2 hO2 hg2 hat2)
      refine ⟨?_, ?_⟩
      · obtain ⟨g2, cap2, rfl, hgb, hgl, _, _⟩ := hO2.form (by omega)
        have e1 : m / 256 = n / 256 ^ (j + 1) := by rw [HM.out, Nat.pow_succ, Nat.div_div_eq_div_mul]
        have e2 : [.int .u8 ((m : Int) % 256)] ++ u8s (Sha.bytes j n) = u8s (Sha.bytes (j + 1) n) := by
          rw [Sap.bytes_snoc_head, ← HM.out]
          simp [u8s]
        rw [e2] at hO2
        refine ⟨j + 1, g2, cap2, by omega, ?_, by rw [Nat.add_comm], hgl, fun i h => ?_, own_below hO1 hBa hBa.size hg2⟩
        · rw [← e1]
          congr 1
        · have hil : i < 1 + j := by rw [Sha.bytes_length] at h; omega
          rw [hO2.cellAt rfl i (by omega)]
          simp [u8s, h]
      · simp [intOf]
        omega
    · have hjW : j = W := by
        have := (HWP.out j)
        rw [← hm] at this
        omega
      have hm0 : m = 0 := by omega
      have hcv := run_convert_bytes_back (P := Tryd.prog) (wr.alloc (.cells #[.int .u8 (j : Int)] 5)) 44 9 5 ⟨g, 0, none⟩ cap (Sha.bytes j n) Tryd.underlying44 Tryd.underlying5 Tryd.underlying9 (by
        intro i hi
        have e : (⟨g, 0, none⟩ : Addr).add i = ⟨g, i, none⟩ := by unfold Addr.add; split <;> simp_all
        rw [e, World.cell?_alloc_lt _ _ _ hg]
        exact hc i hi)
      rw [hbl] at hcv
      have hc1 := conv_one (W := wr.alloc (.cells #[.int .u8 (j : Int)] 5)) (b := wr.heap.size) j _ (by omega) rfl (by simp [go_sem])
      obtain ⟨s1, hs1⟩ : ∃ s1 : ByteArray, s1 = ⟨[UInt8.ofNat j].toArray⟩ := ⟨_, rfl⟩
      obtain ⟨s2, hs2⟩ : ∃ s2 : ByteArray, s2 = ⟨(Sha.bytes j n).toArray⟩ := ⟨_, rfl⟩
      rw [← hs2] at hcv
      rw [← hs1] at hc1
      have hl1 : s1.size = 1 := by rw [hs1]; rfl
      have hl2 : s2.size = j := by rw [hs2, str_size, hbl]
      have hnc : ¬ 9223372036854775807 < s1.size + s2.size := by omega
      have HS := Lib.hid (And.intro hs1 (And.intro hs2 hjW))
      have HB := Lib.hid (hb.alloc hb.size (.cells #[.int .u8 (j : Int)] 5))
      have i1 : (0 : Int) ≤ (j : Int) := by omega
      have i2 : (j : Int) < 256 := by omega
      clear hs1 hs2 hl1 hl2 hjW hm hb hc
      subst hm0
      have HC1 := Lib.hid hc1
      have HCV := Lib.hid hcv
      clear hc1 hcv
      go_wp2_with fail
      rw [HC1.out]
      simp only [Result.andThen]
      rw [Oper.upon_value]
      go_wp2_with fail
      rw [HCV.out]
      simp only [Result.andThen]
      rw [Oper.upon_value]
      go_wp2_with fail
      go_ret
      refine ⟨?_, HB.out⟩
      rw [num_nat, HS.out.1, HS.out.2.1, ← HW.out, ← HS.out.2.2]
      refine ret_val ?_
      show Value.string _ = _
      congr 1
set_option maxRecDepth 100000 in
theorem reftext_any (s : ByteArray) (hs : s.size < 1152921504606846976) (w : World) :
    Calls Tryd.prog 49 #[.string s] w fun e w' => e = .returned (.string ⟨(Sap.text s.data.toList).toArray⟩) ∧ Below w.heap.size w w' := by
  go_enter Tryd.func49, Tryd.ntmps49
  go_wp2_with fail
  refine (refnum_any s.size (by omega) _).mono ?_
  rintro e w1 ⟨rfl, hb⟩
  obtain ⟨nb, hnb⟩ : ∃ nb, nb = Sap.num (s.size : Int) := ⟨_, rfl⟩
  have hl := Sap.num_length (s.size : Int)
  rw [← hnb] at hl ⊢
  have HN := Lib.hid hnb
  have hcat : ¬ 9223372036854775807 < nb.length + s.size := by omega
  clear hnb
  go_wp2_with fail
  go_ret
  refine ⟨?_, hb⟩
  rw [Sap.text, bytes_length, ← HN.out, ← str_append]
  rfl
set_option maxRecDepth 100000 in
set_option maxHeartbeats 1000000 in
theorem refrow_any (A : Option Addr) (c : Nat) (ss : List ByteArray) (w w0 : World) (hs : StrsIn w0 A ss) (hb0 : Below w0.heap.size w0 w) (hsm : Small ss) :
    Calls Tryd.prog 35 #[.slice A ss.length c] w fun e w' => e = .returned (.string ⟨(Sap.row (lists ss)).toArray⟩) ∧ Below w.heap.size w w' := by
  have HS := Lib.hid hs
  have HB0 := Lib.hid hb0
  have HSM := Lib.hid hsm
  have hn : ss.length ≤ 100 := hsm.1
  clear hs hb0 hsm
  go_enter Tryd.func35, Tryd.ntmps35
  go_wp2_with fail
  refine (refnum_any ss.length (by omega) _).mono ?_
  rintro e w1 ⟨rfl, hb⟩
  have HB := Lib.hid hb
  clear hb
  go_wp2_with fail
  go_loopw [3, 4] (fun v i wr => ∃ (k : Nat) (S : ByteArray), k ≤ ss.length ∧ i = .int .i64 k ∧ v = .string S ∧ S.data.toList = Sap.num (ss.length : Int) ++ (lists (ss.take k)).flatMap Sap.text ∧ S.size ≤ 10 + 5000 * k ∧ Below w.heap.size w wr) (fun _ i _ => ss.length - (intOf i).toNat)
  case atStart =>
    refine ⟨0, _, by omega, rfl, rfl, by simp [lists], ?_, HB.out⟩
    rw [str_size]
    have := Sap.num_length (ss.length : Int)
    omega
  case round =>
    obtain ⟨k, S, hk, rfl, rfl, hS, hsz, hb⟩ := hrel
    have HB2 := Lib.hid hb
    have HSS := Lib.hid hS
    clear HB hb hS
    by_cases hlt : k < ss.length
    · obtain ⟨ad, rfl, hc⟩ := HS.out.cell (HB0.out.trans (HB2.out.mono HB0.out.size)) hlt
      obtain ⟨x, hx⟩ : ∃ x, x = ss[k] := ⟨_, rfl⟩
      rw [← hx] at hc
      have hxs : x.size ≤ 4096 := by rw [hx]; exact HSM.out.2 _ (List.getElem_mem hlt)
      have HX := Lib.hid hx
      clear hx
      go_wp2_with fail
      refine (reftext_any x (by omega) _).mono ?_
      rintro e w2 ⟨rfl, hb2⟩
      have HB3 := Lib.hid (HB2.out.trans (hb2.mono HB2.out.size))
      clear HB2 hb2
      obtain ⟨T, hT⟩ : ∃ T : ByteArray, T = ⟨(Sap.text x.data.toList).toArray⟩ := ⟨_, rfl⟩
      rw [← hT]
      have hTs : T.size ≤ 5000 := by
        have := text_length x.data.toList
        rw [bytes_length] at this
        rw [hT, str_size]
        omega
      have hnc : ¬ 9223372036854775807 < S.size + T.size := by omega
      have HT := Lib.hid hT
      clear hT
      go_wp2_with fail
      go_roundw
      case rel =>
        refine ⟨k + 1, S ++ T, by omega, by go_num, rfl, ?_, by rw [ByteArray.size_append]; omega, HB3.out⟩
        rw [ByteArray.data_append, Array.toList_append, HSS.out, HT.out, take_snoc _ k hlt, ← HX.out]
        simp [lists]
      case measure => simp [intOf]; omega
    · have hkn : k = ss.length := by omega
      subst hkn
      rw [List.take_length] at HSS
      go_wp2_with fail
      go_ret
      refine ⟨?_, HB2.out⟩
      refine ret_val ?_
      show Value.string S = _
      congr 1
      apply ByteArray.ext
      apply Array.ext'
      rw [HSS.out]
      simp [Sap.row, lists]
end Go.Proofs.YtdfeiajdmmlllaaDoor
