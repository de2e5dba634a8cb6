/- Layer 2's statement StampBlocks: the walk. -/
import Derived.Test.YthfkbdhfnoilgaaDoorStampJ
namespace Go.Proofs.YthfkbdhfnoilgaaDoor
open Go.RowKit

theorem press_below {w w' : World} {p : Nat} {msg : List UInt8} (h : PressAt w p msg) (hb : Below w.heap.size w w') : PressAt w' p msg := by
  obtain ⟨rs, h1, h2⟩ := h
  exact ⟨rs, h1, h2.below hb h2.lt⟩
theorem press_lt {w : World} {p : Nat} {msg : List UInt8} (h : PressAt w p msg) : p < w.heap.size := by
  obtain ⟨rs, h1, h2⟩ := h
  exact h2.lt

theorem blocks_n (n : Int) : ∃ N : Nat, wrap64 ((IntKind.u64.wrap n).tmod 300) = (N : Int) ∧ N < 300 := by
  have h0 : 0 ≤ IntKind.u64.wrap n := by rw [IntKind.wrap_u64]; omega
  rw [Int.tmod_eq_emod_of_nonneg h0]
  refine ⟨(IntKind.u64.wrap n % 300).toNat, ?_, by omega⟩
  rw [IntWalk.wrap64_in _ (by omega)]
  omega

set_option maxRecDepth 100000 in
set_option maxHeartbeats 2000000 in
theorem blocks_any (n b : Int) (w : World) (hw : Tab w 0 (u32s Sha.words)) :
    Calls Tryd.prog 8 #[.int .i64 n, .int .u8 b] w fun e w' => e = .returned (.bool true) ∧ Below w.heap.size w w' := by
  have HW := Lib.hid hw
  clear hw
  go_enter Tryd.func8, Tryd.ntmps8
  go_wp2_with fail
  refine (awake_any _ HW.out).mono ?_
  rintro e w1 ⟨rfl, hB1⟩
  have HB1 := Lib.hid hB1
  clear hB1
  go_wp2_with fail
  obtain ⟨N, hN, hN3⟩ := blocks_n n
  rw [hN]
  clear hN
  refine (new_any _).mono ?_
  rintro e w2 ⟨p, rfl, hp, hat, hb2⟩
  have HP := Lib.hid (press_new hat)
  have HB2 := Lib.hid (HB1.out.trans (hb2.mono HB1.out.size))
  have hpw : w.heap.size ≤ p := Nat.le_trans HB1.out.size hp
  have hw0 := HW.out.lt
  clear HB1 hb2 hp hat
  go_wp2_with fail
  go_loopw [6, 7] (fun s i wr => ∃ (k : Nat) (S : ByteArray), k ≤ N ∧ i = .int .i64 k ∧ s = .string S ∧ S.size = k ∧ PressAt wr p S.data.toList ∧ Below w.heap.size w wr) (fun _ i _ => N - (intOf i).toNat)
  case atStart => exact ⟨0, ByteArray.empty, by omega, rfl, rfl, rfl, HP.out, HB2.out⟩
  case round =>
    obtain ⟨k, S, hk, rfl, rfl, hS, hpr, hb⟩ := hrel
    clear HP HB2
    by_cases hlt : k < N
    · obtain ⟨x, hx, hx2⟩ : ∃ x : Nat, (b + (k : Int)) % 256 = (x : Int) ∧ x < 256 := ⟨((b + (k : Int)) % 256).toNat, by omega, by omega⟩
      have HS := Lib.hid hS
      have HP := Lib.hid hpr
      have HB := Lib.hid hb
      clear hS hpr hb
      have hcv := conv_one (W := wr.alloc (.cells #[.int .u8 ((b + (k : Int)) % 256)] 5)) (b := wr.heap.size) x _ hx2 hx (by simp [go_sem])
      have HX := Lib.hid hx
      clear hx
      have HPa := Lib.hid (press_alloc HP.out (.cells #[.int .u8 ((b + (k : Int)) % 256)] 5))
      have HBa := Lib.hid (HB.out.alloc HB.out.size (.cells #[.int .u8 ((b + (k : Int)) % 256)] 5))
      have hcs : k + 1 < 1000 := by omega
      have HCS := HS.out
      have hnc : ¬ 9223372036854775807 < S.size + 1 := by omega
      have HCV := Lib.hid hcv
      clear HCS HP HB hcv
      go_wp2_with fail
      rw [HCV.out]
      simp only [Result.andThen]
      rw [Oper.upon_value]
      go_wp2_with fail
      clear HCV
      have hsz : (wr.alloc (.cells #[.int .u8 ((b + (k : Int)) % 256)] 5)).heap.size = wr.heap.size + 1 := by simp
      generalize wr.alloc (.cells #[.int .u8 ((b + (k : Int)) % 256)] 5) = w3 at HPa HBa hsz ⊢
      rw [← hsz]
      have hBb := HBa.out.alloc HBa.out.size (.cells #[.string ⟨[UInt8.ofNat x].toArray⟩] 9)
      have hplt := press_lt HPa.out
      have hw4 : Tab (w3.alloc (.cells #[.string ⟨[UInt8.ofNat x].toArray⟩] 9)) 0 (u32s Sha.words) := HW.out.below hBb hw0
      have hfl : flat [(⟨[UInt8.ofNat x].toArray⟩ : ByteArray)] = [UInt8.ofNat x] := by simp [flat]
      have hadd := add_any p S.data.toList (some ⟨w3.heap.size, 0, none⟩) 1 [⟨[UInt8.ofNat x].toArray⟩] _ (press_alloc HPa.out _) (one_str w3 _ p (by omega)) (by rw [hfl, bytes_length, HS.out]; simp; omega) (by simp) hw4 (by omega)
      rw [hfl] at hadd
      refine hadd.mono ?_
      rintro e w5 ⟨rfl, hp5, hg5⟩
      have HP5 := Lib.hid hp5
      have HB5 := Lib.hid (Below.ofGrown hBb hg5 hBb.size hpw)
      clear hp5 hg5 hBb hw4 hfl hadd hsz hplt HPa HBa
      go_wp2_with fail
      go_roundw
      case rel =>
        refine ⟨k + 1, S ++ ⟨[UInt8.ofNat x].toArray⟩, by omega, by go_num, rfl, ?_, ?_, HB5.out⟩
        · rw [ByteArray.size_append, HS.out, str_size]
          rfl
        · simpa [ByteArray.data_append] using HP5.out
      case measure => simp [intOf]; omega
    · have hkN : k = N := by omega
      have HS := Lib.hid hS
      have HP := Lib.hid hpr
      have HB := Lib.hid hb
      have HKN := Lib.hid hkN
      clear hS hpr hb hkN
      go_wp2_with fail
      refine (sum_any p S.data.toList _ HP.out (by rw [bytes_length, HS.out]; omega) (HW.out.below HB.out hw0)).mono ?_
      rintro e w3 ⟨rfl, hb3⟩
      have HB3 := Lib.hid (HB.out.trans (hb3.mono HB.out.size))
      have HP3 := Lib.hid (press_below HP.out hb3)
      clear hb3 HP HB
      go_wp2_with fail
      have hw3 := Lib.hid (HW.out.below HB3.out hw0)
      refine (of_one S (by rw [HS.out]; omega) w3 w3 (Below.refl _ _) hw3.out).mono ?_
      rintro e w4 ⟨rfl, hb4⟩
      have HP4 := Lib.hid (press_below HP3.out hb4)
      have HB4 := Lib.hid (HB3.out.trans (hb4.mono HB3.out.size))
      clear hb4 hw3 HP3 HB3
      have he1 := fun w => run_eql_dg w (Sha.sha S.data.toList) (Sha.sha S.data.toList) (sha_length _) (sha_length _)
      simp only [beq_self_eq_true] at he1
      have he2 := fun w => run_eqGuard_dg w .eql
      go_wp2_with fail
      have hlen : PressAt w4 p S.data.toList := HP4.out
      obtain ⟨rs, hrs, hat⟩ := hlen
      have c9 := hat.cell' (i := 9) (v := .int .i64 (S.data.toList.length : Int)) rfl
      refine (len_any p _ w4 c9).mono ?_
      rintro e w5 ⟨rfl, rfl⟩
      have hkl : ((S.data.toList.length : Nat) : Int) = (N : Int) := by rw [bytes_length, HS.out, HKN.out]
      rw [hkl]
      clear hat hrs c9
      have hnc : ¬ 9223372036854775807 < S.size + 1 := by rw [HS.out]; omega
      go_wp2_with fail
      have hw4 := Lib.hid (HW.out.below HB4.out hw0)
      have hsx : (S ++ ⟨#[120]⟩ : ByteArray).size < 1000 := by rw [ByteArray.size_append, HS.out]; show k + 1 < 1000; omega
      refine (of_one (S ++ ⟨#[120]⟩) (by omega) w4 w4 (Below.refl _ _) hw4.out).mono ?_
      rintro e w5 ⟨rfl, hb5⟩
      have HP5 := Lib.hid (press_below HP4.out hb5)
      have HB5 := Lib.hid (HB4.out.trans (hb5.mono HB4.out.size))
      clear hb5 hw4 HP4 HB4
      go_wp2_with fail
      have hBb := HB5.out.alloc HB5.out.size (.cells #[.string ⟨#[120]⟩] 9)
      have hplt := press_lt HP5.out
      have hw6 : Tab (w5.alloc (.cells #[.string ⟨#[120]⟩] 9)) 0 (u32s Sha.words) := HW.out.below hBb hw0
      have hfl : flat [(⟨#[120]⟩ : ByteArray)] = [120] := by simp [flat]
      have hadd := add_any p S.data.toList (some ⟨w5.heap.size, 0, none⟩) 1 [⟨#[120]⟩] _ (press_alloc HP5.out _) (one_str w5 _ p (by omega)) (by rw [hfl, bytes_length, HS.out]; simp; omega) (by simp) hw6 (by omega)
      rw [hfl] at hadd
      refine hadd.mono ?_
      rintro e w7 ⟨rfl, hp7, hg7⟩
      have HP7 := Lib.hid hp7
      have HB7 := Lib.hid (Below.ofGrown hBb hg7 hBb.size hpw)
      clear hp7 hg7 hBb hw6 hfl hadd hplt HP5 HB5
      go_wp2_with fail
      refine (sum_any p (S.data.toList ++ [120]) _ HP7.out (by rw [List.length_append, bytes_length, HS.out]; simp; omega) (HW.out.below HB7.out hw0)).mono ?_
      rintro e w8 ⟨rfl, hb8⟩
      have HB8 := Lib.hid (HB7.out.trans (hb8.mono HB7.out.size))
      clear hb8 HP7 HB7
      have hms : (S ++ ⟨#[120]⟩ : ByteArray).data.toList = S.data.toList ++ [120] := by simp [ByteArray.data_append]
      have he3 := fun w => run_eql_dg w (Sha.sha (S.data.toList ++ [120])) (Sha.sha (S.data.toList ++ [120])) (sha_length _) (sha_length _)
      simp only [beq_self_eq_true] at he3
      try rw [hms]
      go_wp2_with fail
      go_ret
      exact ⟨rfl, HB8.out⟩
end Go.Proofs.YthfkbdhfnoilgaaDoor
