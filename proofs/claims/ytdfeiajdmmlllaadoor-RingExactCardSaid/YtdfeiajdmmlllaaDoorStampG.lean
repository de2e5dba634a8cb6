/- Layer 2: the digest of texts one behind the other: what Of computes. -/
import Derived.Test.YtdfeiajdmmlllaaDoorStampF
namespace Go.Proofs.YtdfeiajdmmlllaaDoor
open Go.RowKit

theorem press_new {w : World} {p : Nat} (h : At w p 100 (stV Sha.begun ++ [.string ByteArray.empty, .int .i64 0])) : PressAt w p [] := ⟨ByteArray.empty, rfl, h⟩
theorem strs_keep {w w' : World} {A : Option Addr} {ss : List ByteArray} {p p' : Nat} (h : StrsAt w A ss p) (hb : Below w.heap.size w w') (hp : w.heap.size ≤ p') : StrsAt w' A ss p' := fun h0 => by
  obtain ⟨ad, rfl, _, hlt, hc⟩ := h h0
  refine ⟨ad, rfl, by omega, Nat.lt_of_lt_of_le hlt hb.size, fun i hi => ?_⟩
  have hbk : (ad.add i).block = ad.block := by unfold Addr.add; split <;> rfl
  rw [hb.cell (by rw [hbk]; exact hlt)]
  exact hc i hi

theorem of_any (A : Option Addr) (c : Nat) (ss : List ByteArray) (w : World) (hs : StrsAt w A ss w.heap.size) (hlen : (flat ss).length < 1152921504606846976) (hn : ss.length < 4611686018427387904)
    (hw : Tab w 0 (u32s Sha.words)) :
    Calls Tryd.prog 32 #[.slice A ss.length c] w fun e w' => e = .returned (dgV (Sha.sha (flat ss))) ∧ Below w.heap.size w w' := by
  have HS := Lib.hid hs
  have HW := Lib.hid hw
  clear hs hw
  go_enter Tryd.func32, Tryd.ntmps32
  go_wp2_with fail
  have hD : At (w.alloc (.cells #[.int .u8 0, .int .u8 0, .int .u8 0, .int .u8 0, .int .u8 0, .int .u8 0, .int .u8 0, .int .u8 0, .int .u8 0, .int .u8 0, .int .u8 0, .int .u8 0, .int .u8 0, .int .u8 0, .int .u8 0, .int .u8 0, .int .u8 0, .int .u8 0, .int .u8 0, .int .u8 0, .int .u8 0, .int .u8 0, .int .u8 0, .int .u8 0, .int .u8 0, .int .u8 0, .int .u8 0, .int .u8 0, .int .u8 0, .int .u8 0, .int .u8 0, .int .u8 0] 23)) w.heap.size 23 (List.replicate 32 (.int .u8 0)) := At.newA _ _ rfl
  have hB1 : Below w.heap.size w (w.alloc (.cells #[.int .u8 0, .int .u8 0, .int .u8 0, .int .u8 0, .int .u8 0, .int .u8 0, .int .u8 0, .int .u8 0, .int .u8 0, .int .u8 0, .int .u8 0, .int .u8 0, .int .u8 0, .int .u8 0, .int .u8 0, .int .u8 0, .int .u8 0, .int .u8 0, .int .u8 0, .int .u8 0, .int .u8 0, .int .u8 0, .int .u8 0, .int .u8 0, .int .u8 0, .int .u8 0, .int .u8 0, .int .u8 0, .int .u8 0, .int .u8 0, .int .u8 0, .int .u8 0] 23)) := (Below.refl _ _).alloc (Nat.le_refl _) _
  generalize w.alloc (.cells #[.int .u8 0, .int .u8 0, .int .u8 0, .int .u8 0, .int .u8 0, .int .u8 0, .int .u8 0, .int .u8 0, .int .u8 0, .int .u8 0, .int .u8 0, .int .u8 0, .int .u8 0, .int .u8 0, .int .u8 0, .int .u8 0, .int .u8 0, .int .u8 0, .int .u8 0, .int .u8 0, .int .u8 0, .int .u8 0, .int .u8 0, .int .u8 0, .int .u8 0, .int .u8 0, .int .u8 0, .int .u8 0, .int .u8 0, .int .u8 0, .int .u8 0, .int .u8 0] 23) = w1 at hD hB1 ⊢
  refine (new_any _).mono ?_
  rintro e w2 ⟨p, rfl, hp, hat, hb⟩
  have hB2 := hB1.trans (hb.mono hB1.size)
  have hD2 := hD.below hb hD.lt
  have hp2 : w.heap.size ≤ p := Nat.le_trans hB1.size hp
  have hDp : w.heap.size ≠ p := by have := hD.lt; omega
  have hw2 : Tab w2 0 (u32s Sha.words) := HW.out.below hB2 HW.out.lt
  have hwlt := HW.out.lt
  clear hD hB1 hb
  go_wp2_with fail
  refine (add_any p [] A c ss _ (press_new hat) (strs_keep HS.out hB2 hp2) (by simp; omega) hn hw2 (by omega)).mono ?_
  rintro e w3 ⟨rfl, hpr, hg⟩
  rw [List.nil_append] at hpr
  have hB3 := Below.ofGrown hB2 hg hB2.size hp2
  have hD3 := hD2.grown hg (by intro e; injection e; omega)
  have hw3 : Tab w3 0 (u32s Sha.words) := HW.out.below hB3 HW.out.lt
  clear hB2 hD2 hg hat
  go_wp2_with fail
  refine (sum_any p (flat ss) _ hpr hlen hw3).mono ?_
  rintro e w4 ⟨rfl, hb4⟩
  have hB4 := hB3.trans (hb4.mono hB3.size)
  have hD4 := hD3.below hb4 hD3.lt
  have HI := Lib.hid (show (Tryd.prog.info? 23).map (·.size) = some (u8s (Sha.sha (flat ss))).length by rw [u8s_length, Sha.sha, digest_length]; kernel_rfl)
  have HB := Lib.hid hB4
  clear hB3 hD3 hb4 hpr hB4 hw2 hw3
  unfold dgV
  go_wp2_with (with_reducible refine wpList_storeAll rfl 23 (.tmp 2) (.tmp 6) rfl _ rfl _ _ _ hD4 rfl ?_ HI.out (u8s_oneCell _) ?_; (focus (rw [u8s_length, Sha.sha, digest_length, List.length_replicate])); intro w4 hat4 hg4 hs4)
  refine ret_cellAll rfl rfl w.heap.size _ _ _ rfl hat4 Tryd.underlying23 rfl HI.out ⟨rfl, ?_⟩
  exact Below.ofGrown HB.out hg4 HB.out.size (Nat.le_refl _)
end Go.Proofs.YtdfeiajdmmlllaaDoor
