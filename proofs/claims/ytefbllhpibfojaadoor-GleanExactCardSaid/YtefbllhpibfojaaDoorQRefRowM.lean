/- Layer 2's statement StampExact: the walk. -/
import Derived.Test.YtefbllhpibfojaaDoorQRefEM
namespace Go.Proofs.YtefbllhpibfojaaDoor
open Go.RowKit

set_option maxRecDepth 100000 in
set_option maxHeartbeats 1000000 in
theorem refrowof_any (A : Option Addr) (c : Nat) (ss : List ByteArray) (w w0 : World) (hs : StrsIn w0 A ss) (hb0 : Below w0.heap.size w0 w) (hsm : Small ss) (hl : (Sap.row (lists ss)).length < 1099511627776) :
    Calls Tryd.prog 61 #[.slice A ss.length c] w fun e w' => e = .returned (dgV (Sha.sha (Sap.row (lists ss)))) ∧ Below w.heap.size w w' := by
  have hD : At (w.alloc (.cells #[.int .u8 0, .int .u8 0, .int .u8 0, .int .u8 0, .int .u8 0, .int .u8 0, .int .u8 0, .int .u8 0, .int .u8 0, .int .u8 0, .int .u8 0, .int .u8 0, .int .u8 0, .int .u8 0, .int .u8 0, .int .u8 0, .int .u8 0, .int .u8 0, .int .u8 0, .int .u8 0, .int .u8 0, .int .u8 0, .int .u8 0, .int .u8 0, .int .u8 0, .int .u8 0, .int .u8 0, .int .u8 0, .int .u8 0, .int .u8 0, .int .u8 0, .int .u8 0] 24)) w.heap.size 24 zero32 := At.newA _ _ rfl
  have hB1 : Below w.heap.size w (w.alloc (.cells #[.int .u8 0, .int .u8 0, .int .u8 0, .int .u8 0, .int .u8 0, .int .u8 0, .int .u8 0, .int .u8 0, .int .u8 0, .int .u8 0, .int .u8 0, .int .u8 0, .int .u8 0, .int .u8 0, .int .u8 0, .int .u8 0, .int .u8 0, .int .u8 0, .int .u8 0, .int .u8 0, .int .u8 0, .int .u8 0, .int .u8 0, .int .u8 0, .int .u8 0, .int .u8 0, .int .u8 0, .int .u8 0, .int .u8 0, .int .u8 0, .int .u8 0, .int .u8 0] 24)) := (Below.refl _ _).alloc (Nat.le_refl _) _
  have HS := Lib.hid hs
  have HB0 := Lib.hid hb0
  clear hs hb0
  go_enter Tryd.func61, Tryd.ntmps61
  go_wp2_with fail
  generalize w.alloc (.cells #[.int .u8 0, .int .u8 0, .int .u8 0, .int .u8 0, .int .u8 0, .int .u8 0, .int .u8 0, .int .u8 0, .int .u8 0, .int .u8 0, .int .u8 0, .int .u8 0, .int .u8 0, .int .u8 0, .int .u8 0, .int .u8 0, .int .u8 0, .int .u8 0, .int .u8 0, .int .u8 0, .int .u8 0, .int .u8 0, .int .u8 0, .int .u8 0, .int .u8 0, .int .u8 0, .int .u8 0, .int .u8 0, .int .u8 0, .int .u8 0, .int .u8 0, .int .u8 0] 24) = w1 at hD hB1 ⊢
  refine (refrow_any A c ss w1 w0 HS.out (HB0.out.trans (hB1.mono HB0.out.size)) hsm).mono ?_
  rintro e w2 ⟨rfl, hb2⟩
  have HD := Lib.hid (hD.below hb2 hD.lt)
  have HB := Lib.hid (hB1.trans (hb2.mono hB1.size))
  clear hD hB1 hb2
  obtain ⟨X, hX⟩ : ∃ X, X = Sap.row (lists ss) := ⟨_, rfl⟩
  rw [← hX] at hl ⊢
  have HX := Lib.hid hX
  clear hX
  go_wp2_with fail
  refine (refof_any ⟨X.toArray⟩ (by rw [str_size]; exact hl) _).mono ?_
  rintro e w3 ⟨rfl, hb3⟩
  have HD3 := Lib.hid (HD.out.below hb3 HD.out.lt)
  have HB3 := Lib.hid (HB.out.trans (hb3.mono HB.out.size))
  clear HD HB hb3
  obtain ⟨d, hd⟩ : ∃ d, d = Sha.sha X := ⟨_, rfl⟩
  rw [show Sha.sha (⟨X.toArray⟩ : ByteArray).data.toList = d by rw [hd]]
  have hdl : d.length = 32 := by rw [hd]; exact sha_length _
  have HDE := Lib.hid hd
  have HI9 := Lib.hid (show (Tryd.prog.info? 24).map (·.size) = some (u8s d).length by rw [u8s_length, hdl]; kernel_rfl)
  have HDL := Lib.hid (show (u8s d).length = zero32.length by rw [u8s_length, hdl]; rfl)
  clear hd hdl
  unfold dgV
  go_wp2_with (refine wpList_storeAll rfl 24 (.tmp 2) (.tmp 5) rfl w.heap.size rfl 24 zero32 (u8s d) HD3.out rfl HDL.out HI9.out (u8s_oneCell _) ?_; intro w9 hat9 hg9 hs9)
  refine ret_cellAll rfl rfl w.heap.size _ _ _ rfl hat9 Tryd.underlying24 rfl HI9.out ⟨by rw [HDE.out, HX.out]; rfl, ?_⟩
  exact Below.ofGrown HB3.out hg9 HB3.out.size (Nat.le_refl _)
end Go.Proofs.YtefbllhpibfojaaDoor
