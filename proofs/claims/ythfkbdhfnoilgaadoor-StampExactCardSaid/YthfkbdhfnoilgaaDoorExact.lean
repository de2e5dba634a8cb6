/- Layer 2's statement StampExact: the walk. -/
import Derived.Test.YthfkbdhfnoilgaaDoorRefE
namespace Go.Proofs.YthfkbdhfnoilgaaDoor
open Go.RowKit

set_option maxRecDepth 100000 in
set_option maxHeartbeats 1000000 in
theorem refrowof_any (A : Option Addr) (c : Nat) (ss : List ByteArray) (w w0 : World) (hs : StrsIn w0 A ss) (hb0 : Below w0.heap.size w0 w) (hsm : Small ss) (hl : (Sap.row (lists ss)).length < 1099511627776) :
    Calls Tryd.prog 14 #[.slice A ss.length c] w fun e w' => e = .returned (dgV (Sha.sha (Sap.row (lists ss)))) ∧ Below w.heap.size w w' := by
  have hD : At (w.alloc (.cells #[.int .u8 0, .int .u8 0, .int .u8 0, .int .u8 0, .int .u8 0, .int .u8 0, .int .u8 0, .int .u8 0, .int .u8 0, .int .u8 0, .int .u8 0, .int .u8 0, .int .u8 0, .int .u8 0, .int .u8 0, .int .u8 0, .int .u8 0, .int .u8 0, .int .u8 0, .int .u8 0, .int .u8 0, .int .u8 0, .int .u8 0, .int .u8 0, .int .u8 0, .int .u8 0, .int .u8 0, .int .u8 0, .int .u8 0, .int .u8 0, .int .u8 0, .int .u8 0] 27)) w.heap.size 27 zero32 := At.newA _ _ rfl
  have hB1 : Below w.heap.size w (w.alloc (.cells #[.int .u8 0, .int .u8 0, .int .u8 0, .int .u8 0, .int .u8 0, .int .u8 0, .int .u8 0, .int .u8 0, .int .u8 0, .int .u8 0, .int .u8 0, .int .u8 0, .int .u8 0, .int .u8 0, .int .u8 0, .int .u8 0, .int .u8 0, .int .u8 0, .int .u8 0, .int .u8 0, .int .u8 0, .int .u8 0, .int .u8 0, .int .u8 0, .int .u8 0, .int .u8 0, .int .u8 0, .int .u8 0, .int .u8 0, .int .u8 0, .int .u8 0, .int .u8 0] 27)) := (Below.refl _ _).alloc (Nat.le_refl _) _
  have HS := Lib.hid hs
  have HB0 := Lib.hid hb0
  clear hs hb0
  go_enter Tryd.func14, Tryd.ntmps14
  go_wp2_with fail
  generalize w.alloc (.cells #[.int .u8 0, .int .u8 0, .int .u8 0, .int .u8 0, .int .u8 0, .int .u8 0, .int .u8 0, .int .u8 0, .int .u8 0, .int .u8 0, .int .u8 0, .int .u8 0, .int .u8 0, .int .u8 0, .int .u8 0, .int .u8 0, .int .u8 0, .int .u8 0, .int .u8 0, .int .u8 0, .int .u8 0, .int .u8 0, .int .u8 0, .int .u8 0, .int .u8 0, .int .u8 0, .int .u8 0, .int .u8 0, .int .u8 0, .int .u8 0, .int .u8 0, .int .u8 0] 27) = w1 at hD hB1 ⊢
  refine (refrow_any A c ss w1 w0 HS.out (HB0.out.trans (hB1.mono HB0.out.size)) hsm).mono ?_
  rintro e w2 ⟨rfl, hb2⟩
  have HD := Lib.hid (hD.below hb2 hD.lt)
  have HB := Lib.hid (hB1.trans (hb2.mono hB1.size))
  clear hD hB1 hb2
  obtain ⟨X, hX⟩ : ∃ X, X = Sap.row (lists ss) := ⟨_, rfl⟩
  rw [← hX] at hl ⊢
  have HX := Lib.hid hX
  clear hX
  go_wp2_with fail
  refine (refof_any ⟨X.toArray⟩ (by rw [str_size]; exact hl) _).mono ?_
  rintro e w3 ⟨rfl, hb3⟩
  have HD3 := Lib.hid (HD.out.below hb3 HD.out.lt)
  have HB3 := Lib.hid (HB.out.trans (hb3.mono HB.out.size))
  clear HD HB hb3
  obtain ⟨d, hd⟩ : ∃ d, d = Sha.sha X := ⟨_, rfl⟩
  rw [show Sha.sha (⟨X.toArray⟩ : ByteArray).data.toList = d by rw [hd]]
  have hdl : d.length = 32 := by rw [hd]; exact sha_length _
  have HDE := Lib.hid hd
  have HI9 := Lib.hid (show (Tryd.prog.info? 27).map (·.size) = some (u8s d).length by rw [u8s_length, hdl]; kernel_rfl)
  have HDL := Lib.hid (show (u8s d).length = zero32.length by rw [u8s_length, hdl]; rfl)
  clear hd hdl
  unfold dgV
  go_wp2_with (refine wpList_storeAll rfl 27 (.tmp 2) (.tmp 5) rfl w.heap.size rfl 27 zero32 (u8s d) HD3.out rfl HDL.out HI9.out (u8s_oneCell _) ?_; intro w9 hat9 hg9 hs9)
  refine ret_cellAll rfl rfl w.heap.size _ _ _ rfl hat9 Tryd.underlying27 rfl HI9.out ⟨by rw [HDE.out, HX.out]; rfl, ?_⟩
  exact Below.ofGrown HB3.out hg9 HB3.out.size (Nat.le_refl _)

set_option maxRecDepth 100000 in
set_option maxHeartbeats 2000000 in
theorem exact_any (A : Option Addr) (c : Nat) (ss : List ByteArray) (w : World) (hs : StrsIn w A ss) (hm : ss.length ≤ maxLen) (hw : Tab w 0 (u32s Sha.words)) :
    Calls Tryd.prog 3 #[.slice A ss.length c] w fun e w' => e = .returned (.bool true) ∧ Below w.heap.size w w' := by
  have HW := Lib.hid hw
  have HS := Lib.hid hs
  have hn' : ss.length ≤ 9223372036854775807 := hm
  have hw0 := HW.out.lt
  clear hw hs
  go_enter Tryd.func3, Tryd.ntmps3
  go_wp2_with fail
  refine (awake_any _ HW.out).mono ?_
  rintro e w1 ⟨rfl, hB1⟩
  have HB1 := Lib.hid hB1
  clear hB1
  go_wp2_with fail
  refine (joined_any A c ss w1 (HS.out.below HB1.out) hm).mono ?_
  rintro e w2 ⟨he, hb2⟩
  have HB2 := Lib.hid (HB1.out.trans (hb2.mono HB1.out.size))
  clear hb2 HB1
  rcases he with rfl | ⟨S, rfl, hsm, hS⟩
  · go_wp2_with fail
    go_ret
    exact ⟨rfl, HB2.out⟩
  have hF : (flat ss).length ≤ 409600 := by
    have h1 := flat_le hsm.2
    have h2 : 4096 * ss.length ≤ 4096 * 100 := Nat.mul_le_mul_left _ hsm.1
    omega
  have hn100 := hsm.1
  have hS2 : S.size ≤ 409600 := by rw [← bytes_length, hS]; exact hF
  have hXl : (Sap.row (lists ss)).length < 1099511627776 := by
    have h1 := texts_length ss
    have h2 := Sap.num_length ((lists ss).length : Int)
    rw [Sap.row, List.length_append]
    omega
  have HSS := Lib.hid (And.intro hsm hS)
  clear hsm hS
  have HXl := Lib.hid hXl
  clear hXl
  go_wp2_with fail
  refine (of_any A c ss w2 (HS.out.at HB2.out HB2.out.size) (by omega) (by omega) (HW.out.below HB2.out hw0)).mono ?_
  rintro e w3 ⟨rfl, hb3⟩
  have HB3 := Lib.hid (HB2.out.trans (hb3.mono HB2.out.size))
  clear hb3 HB2
  go_wp2_with fail
  refine (refof_any S (by omega) _).mono ?_
  rintro e w4 ⟨rfl, hb4⟩
  have HB4 := Lib.hid (HB3.out.trans (hb4.mono HB3.out.size))
  clear hb4 HB3
  rw [HSS.out.2]
  have he1 := fun w l => run_eql_dg w (Sha.sha l) (Sha.sha l) (sha_length _) (sha_length _)
  simp only [beq_self_eq_true] at he1
  have he3 := fun w => run_eqGuard_dg w .eql
  go_wp2_with fail
  refine (row_any A c ss w4 (HS.out.at HB4.out HB4.out.size) (by omega) (by omega) (HW.out.below HB4.out hw0)).mono ?_
  rintro e w5 ⟨rfl, hb5⟩
  have HB5 := Lib.hid (HB4.out.trans (hb5.mono HB4.out.size))
  clear hb5 HB4
  go_wp2_with fail
  refine (refrowof_any A c ss w5 w HS.out HB5.out HSS.out.1 HXl.out).mono ?_
  rintro e w6 ⟨rfl, hb6⟩
  have HB6 := Lib.hid (HB5.out.trans (hb6.mono HB5.out.size))
  clear hb6 HB5
  go_wp2_with fail
  go_ret
  exact ⟨rfl, HB6.out⟩
end Go.Proofs.YthfkbdhfnoilgaaDoor
