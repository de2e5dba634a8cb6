/- Layer 14: awake. -/
import Derived.Test.YtcpnlojcmlldpaaHazeH
namespace Go.Proofs.Ytcpnlojcmlldpaa
open Go.RowKit Go.Maps Go.Sort

def kW : List UInt8 := [0, 1, 0, 1, 0, 1, 2, 0] ++ List.replicate 24 0
def hW : List UInt8 := 3 :: List.replicate 63 0
def oneW : List UInt8 := 1 :: List.replicate 63 0
def kZ : List UInt8 := List.replicate 32 0
def fW : Clouds := putS (fun _ => none) 3 hW 5
theorem built_kW : Try.prog.built 23 [(0, .int .u8 0), (1, .int .u8 1), (2, .int .u8 0), (3, .int .u8 1), (4, .int .u8 0), (5, .int .u8 1), (6, .int .u8 2), (7, .int .u8 0)] = some (u8s kW).toArray := by kernel_rfl
theorem built_hW : Try.prog.built 26 [(0, .int .u8 3)] = some (u8s hW).toArray := by kernel_rfl
theorem built_oneW : Try.prog.built 26 [(0, .int .u8 1)] = some (u8s oneW).toArray := by kernel_rfl
theorem with_W : Hz.withKeys Hz.zero [kW] = hW := by decide +kernel
theorem count_W : Hz.count hW = 2 := by decide +kernel
theorem has_W : Hz.has hW kW = true := by decide +kernel
theorem has_oneW : Hz.has oneW kW = false := by decide +kernel
theorem may_W45 : mayS fW kW 45 = [3] := by decide +kernel
theorem may_W46 : mayS fW kW 46 = [] := by decide +kernel
theorem may_W4 : mayS fW kW 4 = [] := by decide +kernel

set_option maxRecDepth 100000 in
set_option maxHeartbeats 400000 in
theorem awake_any (w : World) :
    Calls Try.prog 9 #[] w fun e w' => e = .returned (.bool true) ∧ Below w.heap.size w w' := by
  have HUD := Lib.hid Try.underlying23
  have HUH := Lib.hid Try.underlying26
  have HID := Lib.hid (show (Try.prog.info? 23).map (·.size) = some (u8s kW).length by kernel_rfl)
  have HIH := Lib.hid (show (Try.prog.info? 26).map (·.size) = some (u8s hW).length by kernel_rfl)
  have HZ1 := Lib.hid (show At (w.alloc (.cells (u8s kZ).toArray 23)) w.heap.size 23 (u8s kZ) from At.newA w _ rfl)
  go_enter Try.func9, Try.ntmps9
  go_wp2_with (first
    | (refine wpList_build (u8s kW).toArray rfl 23 _ rfl built_kW ?_)
    | (refine wpList_storeAll rfl 23 (.tmp 1) (.tmp 4) rfl _ rfl _ (u8s kZ) (u8s kW) HZ1.out rfl rfl HID.out (u8s_one kW) ?_; intro w1 hat1 hg1 hs1)
    | (with_reducible refine wpList_loadAll rfl 23 (.tmp 1) rfl _ rfl _ _ _ hat1 HUD.out rfl HID.out ?_)
    | (refine wpList_build_dg rfl kW rfl (.tmp 5) rfl rfl ?_))
  have hbw1 : Below w.heap.size w w1 := Below.ofGrown ((Below.refl _ _).alloc (Nat.le_refl _) _) hg1 ((Below.refl _ _).alloc (Nat.le_refl _) _).size (Nat.le_refl _)
  have hw1s : w1.heap.size = w.heap.size + 1 := by rw [hs1, World.size_alloc]
  refine (of_any _ _ [kW] _ (one_key_at w1 kW hw1s.symm) (by decide) (by decide)).mono ?_
  rw [with_W]
  rintro e w2 ⟨rfl, hb2⟩
  have hb12 : Below w1.heap.size w1 w2 := ((Below.refl _ _).alloc (Nat.le_refl _) _).trans (hb2.mono (by simp))
  have hA2 : At w2 w.heap.size 23 (u8s kW) := hat1.below hb12 hat1.lt
  have hB2 : Below w.heap.size w w2 := hbw1.trans (hb12.mono hbw1.size)
  have HZ2 := Lib.hid (show At (w2.alloc (.cells (u8s Hz.zero).toArray 26)) w2.heap.size 26 (u8s Hz.zero) from At.newA w2 _ rfl)
  have HA2 := Lib.hid hA2
  have HB2 := Lib.hid hB2
  have hlt2 : w.heap.size < w2.heap.size := hA2.lt
  clear hat1 hg1 hs1 hbw1 hw1s hb2 hb12 hA2 hB2 HZ1
  go_wp2_with (first
    | (refine wpList_storeAll rfl 26 (.tmp 2) (.tmp 7) rfl _ rfl _ (u8s Hz.zero) (u8s hW) HZ2.out rfl rfl HIH.out (u8s_one hW) ?_; intro w3 hat3 hg3 hs3))
  have hs3' : w3.heap.size = w2.heap.size + 1 := by rw [hs3, World.size_alloc]
  have hB3 : Below w2.heap.size w2 w3 := Below.ofGrown ((Below.refl _ _).alloc (Nat.le_refl _) _) hg3 ((Below.refl _ _).alloc (Nat.le_refl _) _).size (Nat.le_refl _)
  refine (sky_new (H := Unit) w3).mono ?_
  rintro e w4 ⟨p, b, rfl, hS4, hb4, hp4, hb4'⟩
  have HA4 := Lib.hid (HA2.out.below (hB3.trans (hb4.mono (by omega))) HA2.out.lt)
  have HH4 := Lib.hid (hat3.below hb4 hat3.lt)
  have HB4 := Lib.hid (HB2.out.trans ((hB3.trans (hb4.mono (by omega))).mono HB2.out.size))
  have HS4 := Lib.hid hS4
  clear hat3 hg3 hs3 hB3 hb4 hS4 HZ2 HA2 HB2
  go_wp2_with (first
    | (with_reducible refine wpList_loadAll rfl 26 (.tmp 2) rfl _ rfl _ _ _ HH4.out HUH.out rfl HIH.out ?_))
  refine (sky_put HS4.out (by omega) 3 hW rfl 5 (by omega)).mono ?_
  rintro e w5 ⟨rfl, hS5, hg5⟩
  have hA5 : At w5 w.heap.size 23 (u8s kW) := HA4.out.grown hg5 (by intro e; injection e with e; omega)
  have hH5 : At w5 w2.heap.size 26 (u8s hW) := HH4.out.grown hg5 (by intro e; injection e with e; omega)
  have hB5 : Below w.heap.size w w5 := Below.ofGrown HB4.out hg5 HB4.out.size (by omega)
  have hS5' : SkyAt Unit w5 p b (0 + 1) fW := hS5
  have HT := Lib.hid (show ∀ w', Below w5.heap.size w5 w' → (w'.rangeAt w.heap.size 0 (u8s kW) ∧ w'.rangeAt w2.heap.size 0 (u8s hW)) ∧ SkyAt Unit w' p b (0 + 1) fW ∧ Below w.heap.size w w' from fun w' hb =>
    ⟨⟨fun j v hv => by rw [Nat.zero_add]; exact (hA5.below hb hA5.lt).cell' hv, fun j v hv => by rw [Nat.zero_add]; exact (hH5.below hb hH5.lt).cell' hv⟩, sky_below hS5' hb, hB5.trans (hb.mono hB5.size)⟩)
  have HC := Lib.hid (Below.refl w5.heap.size w5)
  have he1 : ∀ w, (binOp .eql 26 (hzV hW) (hzV hW)).run Try.prog w = .ok (.bool true) w := fun w => run_eql_hz w hW hW rfl rfl
  clear hS5 hg5 hA5 hH5 hB5 hS5' HA4 HH4 HB4 HS4
  go_wp2_with (first
    | (with_reducible refine wpList_loadW rfl 26 (.tmp 2) rfl _ 0 rfl _ _ (HT.out _ HC.out).1.2 HUH.out rfl HIH.out ?_)
    | (refine wpList_build (u8s hW).toArray rfl 26 #[(0, .const (.int .u8 3))] rfl built_hW ?_)
    | (refine wpList_eq (.bool true) rfl .eql 26 (.tmp 12) (.tmp 13) 26 rfl (hzV hW) (hzV hW) rfl rfl (fun w => run_eqGuard_hz w _ _ _ _ _) he1 ?_))
  refine (count_any hW rfl _).mono ?_
  rw [count_W]
  rintro e w6 ⟨rfl, hb⟩
  have HC' := Lib.hid (HC.out.trans (hb.mono HC.out.size))
  clear HC hb
  have HC := HC'
  clear HC'
  go_wp2_with (first
    | (with_reducible refine wpList_loadW rfl 26 (.tmp 2) rfl _ 0 rfl _ _ (HT.out _ HC.out).1.2 HUH.out rfl HIH.out ?_)
    | (with_reducible refine wpList_loadW rfl 23 (.tmp 1) rfl _ 0 rfl _ _ (HT.out _ HC.out).1.1 HUD.out rfl HID.out ?_)
    | (refine wpList_build (u8s oneW).toArray rfl 26 #[(0, .const (.int .u8 1))] rfl built_oneW ?_))
  refine (has_any hW kW rfl rfl _).mono ?_
  rw [has_W]
  rintro e w7 ⟨rfl, hb⟩
  have HC' := Lib.hid (HC.out.trans (hb.mono HC.out.size))
  clear HC hb
  have HC := HC'
  clear HC'
  go_wp2_with (first
    | (with_reducible refine wpList_loadW rfl 26 (.tmp 2) rfl _ 0 rfl _ _ (HT.out _ HC.out).1.2 HUH.out rfl HIH.out ?_)
    | (with_reducible refine wpList_loadW rfl 23 (.tmp 1) rfl _ 0 rfl _ _ (HT.out _ HC.out).1.1 HUD.out rfl HID.out ?_)
    | (refine wpList_build (u8s oneW).toArray rfl 26 #[(0, .const (.int .u8 1))] rfl built_oneW ?_))
  refine (has_any oneW kW rfl rfl _).mono ?_
  rw [has_oneW]
  rintro e w8 ⟨rfl, hb⟩
  have HC' := Lib.hid (HC.out.trans (hb.mono HC.out.size))
  clear HC hb
  have HC := HC'
  clear HC'
  go_wp2_with (first
    | (with_reducible refine wpList_loadW rfl 26 (.tmp 2) rfl _ 0 rfl _ _ (HT.out _ HC.out).1.2 HUH.out rfl HIH.out ?_)
    | (with_reducible refine wpList_loadW rfl 23 (.tmp 1) rfl _ 0 rfl _ _ (HT.out _ HC.out).1.1 HUD.out rfl HID.out ?_)
    | (refine wpList_build (u8s oneW).toArray rfl 26 #[(0, .const (.int .u8 1))] rfl built_oneW ?_))
  refine (may_any (HT.out _ HC.out).2.1 kW rfl 45).mono ?_
  rw [may_W45]
  rintro e w9 ⟨v, rfl, hO, hb⟩
  obtain ⟨A, c, rfl, hI⟩ := ints_own hO
  have HI := Lib.hid hI
  have HC' := Lib.hid (HC.out.trans (hb.mono HC.out.size))
  clear HC hb
  have HC := HC'
  clear HC'
  clear hO hI
  go_wp2_with (first
    | (with_reducible refine wpList_loadW rfl 26 (.tmp 2) rfl _ 0 rfl _ _ (HT.out _ HC.out).1.2 HUH.out rfl HIH.out ?_)
    | (with_reducible refine wpList_loadW rfl 23 (.tmp 1) rfl _ 0 rfl _ _ (HT.out _ HC.out).1.1 HUD.out rfl HID.out ?_)
    | (refine wpList_build (u8s oneW).toArray rfl 26 #[(0, .const (.int .u8 1))] rfl built_oneW ?_))
  refine (refInts_any _ _ _ _ [3] [3] _ (by decide) (HI.out.below ((Below.refl _ _).alloc (Nat.le_refl _) _)) (ints_laid _ [3] _ rfl _ rfl)).mono ?_
  rintro e w10 ⟨rfl, hb'⟩
  have hb := ((Below.refl _ _).alloc (Nat.le_refl _) (.cells #[.int .i64 3] 3)).trans (hb'.mono ((Below.refl w9.heap.size w9).alloc (Nat.le_refl _) (.cells #[.int .i64 3] 3)).size)
  clear hb' HI
  have HC' := Lib.hid (HC.out.trans (hb.mono HC.out.size))
  clear HC hb
  have HC := HC'
  clear HC'
  simp only [decide_true]
  go_wp2_with (first
    | (with_reducible refine wpList_loadW rfl 26 (.tmp 2) rfl _ 0 rfl _ _ (HT.out _ HC.out).1.2 HUH.out rfl HIH.out ?_)
    | (with_reducible refine wpList_loadW rfl 23 (.tmp 1) rfl _ 0 rfl _ _ (HT.out _ HC.out).1.1 HUD.out rfl HID.out ?_)
    | (refine wpList_build (u8s oneW).toArray rfl 26 #[(0, .const (.int .u8 1))] rfl built_oneW ?_))
  refine (may_any (HT.out _ HC.out).2.1 kW rfl 46).mono ?_
  rw [may_W46]
  rintro e w11 ⟨v, rfl, hO, hb⟩
  obtain ⟨A2, c2, rfl, _⟩ := ints_own hO
  have HC' := Lib.hid (HC.out.trans (hb.mono HC.out.size))
  clear HC hb
  have HC := HC'
  clear HC'
  clear hO
  go_wp2_with (first
    | (with_reducible refine wpList_loadW rfl 26 (.tmp 2) rfl _ 0 rfl _ _ (HT.out _ HC.out).1.2 HUH.out rfl HIH.out ?_)
    | (with_reducible refine wpList_loadW rfl 23 (.tmp 1) rfl _ 0 rfl _ _ (HT.out _ HC.out).1.1 HUD.out rfl HID.out ?_)
    | (refine wpList_build (u8s oneW).toArray rfl 26 #[(0, .const (.int .u8 1))] rfl built_oneW ?_))
  refine (may_any (HT.out _ HC.out).2.1 kW rfl 4).mono ?_
  rw [may_W4]
  rintro e w12 ⟨v, rfl, hO, hb⟩
  obtain ⟨A3, c3, rfl, _⟩ := ints_own hO
  have HC' := Lib.hid (HC.out.trans (hb.mono HC.out.size))
  clear HC hb
  have HC := HC'
  clear HC'
  clear hO
  go_wp2_with (first
    | (with_reducible refine wpList_loadW rfl 26 (.tmp 2) rfl _ 0 rfl _ _ (HT.out _ HC.out).1.2 HUH.out rfl HIH.out ?_)
    | (with_reducible refine wpList_loadW rfl 23 (.tmp 1) rfl _ 0 rfl _ _ (HT.out _ HC.out).1.1 HUD.out rfl HID.out ?_)
    | (refine wpList_build (u8s oneW).toArray rfl 26 #[(0, .const (.int .u8 1))] rfl built_oneW ?_))
  go_ret
  exact ⟨rfl, (HT.out _ HC.out).2.2⟩
end Go.Proofs.Ytcpnlojcmlldpaa
