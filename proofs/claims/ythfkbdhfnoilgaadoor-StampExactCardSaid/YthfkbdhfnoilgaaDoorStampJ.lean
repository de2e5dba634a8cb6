/- Layer 2's statements: awake answers true. -/
import Derived.Test.YthfkbdhfnoilgaaDoorEqArr
namespace Go.Proofs.YthfkbdhfnoilgaaDoor
open Go.RowKit

def abc : List UInt8 := [97, 98, 99]
def abcHex : List UInt8 := [98, 97, 55, 56, 49, 54, 98, 102, 56, 102, 48, 49, 99, 102, 101, 97, 52, 49, 52, 49, 52, 48, 100, 101, 53, 100, 97, 101, 50, 50, 50, 51, 98, 48, 48, 51, 54, 49, 97, 51, 57, 54, 49, 55, 55, 97, 57, 99, 98, 52, 49, 48, 102, 102, 54, 49, 102, 50, 48, 48, 49, 53, 97, 100]
set_option maxRecDepth 100000 in
theorem abc_hex : hexL (Sha.sha abc) = abcHex := by decide +kernel
theorem sha_length (l : List UInt8) : (Sha.sha l).length = 32 := digest_length _
theorem abc_row : Sap.row [abc] = [1, 1, 1, 3, 97, 98, 99] := by decide +kernel
theorem two_strs (w : World) (s t : ByteArray) (p : Nat) (hp : w.heap.size ≠ p) : StrsAt (w.alloc (.cells #[.string s, .string t] 9)) (some ⟨w.heap.size, 0, none⟩) [s, t] p := fun _ =>
  ⟨_, rfl, hp, by simp, fun i hi => by
    have h := At.new w 9 [.string s, .string t]
    have e : (⟨w.heap.size, 0, none⟩ : Addr).add i = ⟨w.heap.size, i, none⟩ := by unfold Addr.add; split <;> simp_all
    rw [e]
    refine h.cell' ?_
    match i, hi with
    | 0, _ => rfl
    | 1, _ => rfl⟩
theorem press_alloc {w : World} {p : Nat} {msg : List UInt8} (h : PressAt w p msg) (o : Obj) : PressAt (w.alloc o) p msg := by
  obtain ⟨rs, h1, h2⟩ := h
  exact ⟨rs, h1, h2.alloc o⟩
/-- Of at one text that the call lays itself -/
theorem of_one (s : ByteArray) (hs : s.size < 1099511627776) (w w0 : World) (hb : Below w0.heap.size w0 w) (hw : Tab w0 0 (u32s Sha.words)) :
    Calls Tryd.prog 11 #[.slice (some ⟨w.heap.size, 0, none⟩) 1 1] (w.alloc (.cells #[.string s] 9)) fun e w' => e = .returned (dgV (Sha.sha s.data.toList)) ∧ Below w0.heap.size w0 w' := by
  have hb1 := hb.alloc hb.size (.cells #[.string s] 9)
  have hfl : flat [s] = s.data.toList := by simp [flat]
  have := of_any (some ⟨w.heap.size, 0, none⟩) 1 [s] (w.alloc (.cells #[.string s] 9)) (one_str w s _ (by simp)) (by rw [hfl, bytes_length]; omega) (by simp) (hw.below hb1 hw.lt)
  rw [hfl] at this
  refine this.mono fun e w' ⟨he, hb2⟩ => ⟨he, hb1.trans (hb2.mono hb1.size)⟩
theorem row_one (s : ByteArray) (hs : s.size < 1099511627776) (w w0 : World) (hb : Below w0.heap.size w0 w) (hw : Tab w0 0 (u32s Sha.words)) :
    Calls Tryd.prog 13 #[.slice (some ⟨w.heap.size, 0, none⟩) 1 1] (w.alloc (.cells #[.string s] 9)) fun e w' => e = .returned (dgV (Sha.sha (Sap.row [s.data.toList]))) ∧ Below w0.heap.size w0 w' := by
  have hb1 := hb.alloc hb.size (.cells #[.string s] 9)
  have hfl : flat [s] = s.data.toList := by simp [flat]
  have := row_any (some ⟨w.heap.size, 0, none⟩) 1 [s] (w.alloc (.cells #[.string s] 9)) (one_str w s _ (by simp)) (by rw [hfl, bytes_length]; exact hs) (by simp) (hw.below hb1 hw.lt)
  refine this.mono fun e w' ⟨he, hb2⟩ => ⟨he, hb1.trans (hb2.mono hb1.size)⟩

theorem less_of (x y : Value) (a b : List UInt8) (hx : x = dgV a) (hy : y = dgV b) (ha : a.length = 32) (hb : b.length = 32) (w : World) :
    Calls Tryd.prog 17 #[x, y] w fun e w' => e = .returned (.bool (lessB a b)) ∧ Below w.heap.size w w' := by
  subst hx hy
  exact less_any a b ha hb w

set_option maxRecDepth 100000 in
set_option maxHeartbeats 1000000 in
theorem awake_any (w : World) (hw : Tab w 0 (u32s Sha.words)) :
    Calls Tryd.prog 9 #[] w fun e w' => e = .returned (.bool true) ∧ Below w.heap.size w w' := by
  have HW := Lib.hid hw
  clear hw
  go_enter Tryd.func9, Tryd.ntmps9
  go_wp2_with fail
  refine (of_one ⟨#[97, 98, 99]⟩ (by decide) w w (Below.refl _ _) HW.out).mono ?_
  rintro e w1 ⟨rfl, hb1⟩
  have HB := Lib.hid hb1
  clear hb1
  go_wp2_with fail
  refine (hex_any _ (sha_length _) _).mono ?_
  rintro e w2 ⟨rfl, hb2⟩
  have HB2 := Lib.hid (HB.out.trans (hb2.mono HB.out.size))
  clear hb2 HB
  rw [show hexL (Sha.sha (ByteArray.mk #[97, 98, 99]).data.toList) = abcHex from abc_hex]
  unfold abcHex
  go_wp2_with fail
  refine (new_any _).mono ?_
  rintro e w3 ⟨p, rfl, hp, hat, hb3⟩
  have HB3 := Lib.hid (HB2.out.trans (hb3.mono HB2.out.size))
  have HP := Lib.hid (press_new hat)
  have hpw : w.heap.size ≤ p := Nat.le_trans HB2.out.size hp
  have hpl := hat.lt
  clear hb3 HB2 hat
  go_wp2_with fail
  have hw4 := HW.out.below (HB3.out.alloc HB3.out.size (.cells #[.string ⟨#[97]⟩, .string ⟨#[98, 99]⟩] 9)) HW.out.lt
  have hw0 := HW.out.lt
  refine (add_any p [] (some ⟨w3.heap.size, 0, none⟩) 2 [⟨#[97]⟩, ⟨#[98, 99]⟩] _ (press_alloc HP.out _) (two_strs w3 _ _ p (by omega)) (by decide) (by decide) hw4 (by omega)).mono ?_
  rintro e w5 ⟨rfl, hp5, hg5⟩
  have hp5' : PressAt w5 p abc := hp5
  have HP5 := Lib.hid hp5'
  have HB5 := Lib.hid (Below.ofGrown (HB3.out.alloc HB3.out.size (.cells #[.string ⟨#[97]⟩, .string ⟨#[98, 99]⟩] 9)) hg5 (HB3.out.alloc HB3.out.size (.cells #[.string ⟨#[97]⟩, .string ⟨#[98, 99]⟩] 9)).size hpw)
  clear hp5 hp5' hg5 HP HB3 hw4 hpl hp
  go_wp2_with fail
  refine (sum_any p abc _ HP5.out (by decide) (HW.out.below HB5.out HW.out.lt)).mono ?_
  rintro e w6 ⟨rfl, hb6⟩
  have HB6 := Lib.hid (HB5.out.trans (hb6.mono HB5.out.size))
  clear hb6 HB5 HP5
  go_wp2_with fail
  refine (of_one ⟨#[97, 98, 99]⟩ (by decide) w6 w HB6.out HW.out).mono ?_
  rintro e w7 ⟨rfl, hb7⟩
  have HB7 := Lib.hid hb7
  clear hb7 HB6
  rw [show Sha.sha (ByteArray.mk #[97, 98, 99]).data.toList = Sha.sha abc from rfl]
  have he1 := fun w => run_eql_dg w (Sha.sha abc) (Sha.sha abc) (sha_length _) (sha_length _)
  simp only [beq_self_eq_true] at he1
  have he2 := fun w => run_eqGuard_dg w .eql
  go_wp2_with fail
  refine (row_one ⟨#[97, 98, 99]⟩ (by decide) w7 w HB7.out HW.out).mono ?_
  rintro e w8 ⟨rfl, hb8⟩
  have HB8 := Lib.hid hb8
  clear hb8 HB7 he1 he2
  rw [show Sap.row [(ByteArray.mk #[97, 98, 99]).data.toList] = [1, 1, 1, 3, 97, 98, 99] from abc_row]
  go_wp2_with fail
  refine (of_one ⟨#[1, 1, 1, 3, 97, 98, 99]⟩ (by decide) w8 w HB8.out HW.out).mono ?_
  rintro e w9 ⟨rfl, hb9⟩
  have HB9 := Lib.hid hb9
  clear hb9 HB8
  rw [show Sha.sha (ByteArray.mk #[1, 1, 1, 3, 97, 98, 99]).data.toList = Sha.sha [1, 1, 1, 3, 97, 98, 99] from rfl]
  have he1 := fun w => run_eql_dg w (Sha.sha [1, 1, 1, 3, 97, 98, 99]) (Sha.sha [1, 1, 1, 3, 97, 98, 99]) (sha_length _) (sha_length _)
  simp only [beq_self_eq_true] at he1
  have he2 := fun w => run_eqGuard_dg w .eql
  go_wp2_with fail
  refine (less_of _ _ (List.replicate 32 0) (List.replicate 31 0 ++ [1]) ?hx ?hy rfl rfl _).mono ?_
  case hx => kernel_rfl
  case hy => kernel_rfl
  rintro e w10 ⟨rfl, hb10⟩
  have HB10 := Lib.hid (HB9.out.trans (hb10.mono HB9.out.size))
  clear hb10 HB9 he1 he2
  rw [show lessB (List.replicate 32 0) (List.replicate 31 0 ++ [1]) = true from by decide +kernel]
  go_wp2_with fail
  go_ret
  exact ⟨rfl, HB10.out⟩
end Go.Proofs.YthfkbdhfnoilgaaDoor
