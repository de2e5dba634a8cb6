/- The reference of layer 16: ranges, records, Begin, Answer. -/
import Derived.Test.YtefbllhpibfojaaDoorGleBM
import Derived.Test.YtefbllhpibfojaaDoorRfEM
namespace Go.Proofs.YtefbllhpibfojaaDoor
open Go.Proofs Stab Go.Shelf Go.RowKit Go.Lib Go.Sort

theorem cutA_block {A : Option Addr} {c k : Nat} {ad : Addr} (h : cutA A 0 c k = some ad) : ∃ ad', A = some ad' ∧ ad'.block = ad.block := by
  unfold cutA at h
  split at h
  · exact ⟨ad, h, rfl⟩
  · cases A with
    | none => cases h
    | some b =>
      refine ⟨b, rfl, ?_⟩
      rw [← Option.some.inj h]
      unfold Addr.add
      split <;> rfl
set_option maxRecDepth 100000 in
set_option maxHeartbeats 1000000 in
theorem reffirst_rngs (A : Option Addr) (c n : Nat) (l : List Rng) (w : World) (hln : n = l.length) (hnc : n ≤ c) (hE : EncIn encG 35 w A l) (hn : n < 1099511627776) (M : Nat) (hM : M = (l.take 16).length) :
    Calls Tryd.prog 67 #[.slice A n c] w fun e w' => ∃ A', e = .returned (.slice A' M c) ∧ EncIn encG 35 w' A' (l.take 16) ∧ (∀ ad, A' = some ad → ∃ ad', A = some ad' ∧ ad'.block = ad.block) ∧ w = w' := by
  have hmn : M = min 16 n := by rw [hM, List.length_take, hln]
  have HT := Lib.hid (EncIn.take (m := 16) (c := c) hE (by omega))
  by_cases h : 16 < n
  · obtain rfl : M = 16 := by omega
    have hz : (16 : Int) < (n : Int) := by omega
    clear hmn hE hln hM
    go_enter Tryd.func67, Tryd.ntmps67
    go_wp2_with (first
      | (with_reducible refine wpList_val (.slice (cutA A 0 c 35) 16 c) rfl (exec_slice_rngs (.tmp 6) (.const (.int .i64 16)) rfl A n c 16 (by with_unfolding_all rfl) (by with_unfolding_all rfl) (by omega) _) ?_))
    go_ret
    exact ⟨_, rfl, HT.out, fun ad e => cutA_block e, rfl⟩
  · obtain rfl : M = n := by omega
    have hz : ¬ (16 : Int) < (M : Int) := by omega
    have HE := Lib.hid (show EncIn encG 35 w A (l.take 16) by rw [List.take_of_length_le (by omega)]; exact hE)
    clear hmn hE hln hM
    go_enter Tryd.func67, Tryd.ntmps67
    go_wp2_with fail
    go_ret
    exact ⟨_, rfl, HE.out, fun ad e => ⟨ad, e, rfl⟩, rfl⟩
set_option maxRecDepth 100000 in
set_option maxHeartbeats 1000000 in
theorem reffirst_recs (A : Option Addr) (c n : Nat) (l : List Rec) (w : World) (hln : n = l.length) (hnc : n ≤ c) (hE : EncIn encR 65 w A l) (hn : n < 1099511627776) (M : Nat) (hM : M = (l.take 16).length) :
    Calls Tryd.prog 68 #[.slice A n c] w fun e w' => ∃ A', e = .returned (.slice A' M c) ∧ EncIn encR 65 w' A' (l.take 16) ∧ (∀ ad, A' = some ad → ∃ ad', A = some ad' ∧ ad'.block = ad.block) ∧ w = w' := by
  have hmn : M = min 16 n := by rw [hM, List.length_take, hln]
  have HT := Lib.hid (EncIn.take (m := 16) (c := c) hE (by omega))
  by_cases h : 16 < n
  · obtain rfl : M = 16 := by omega
    have hz : (16 : Int) < (n : Int) := by omega
    clear hmn hE hln hM
    go_enter Tryd.func68, Tryd.ntmps68
    go_wp2_with (first
      | (with_reducible refine wpList_val (.slice (cutA A 0 c 65) 16 c) rfl (exec_slice_recs (.tmp 6) (.const (.int .i64 16)) rfl A n c 16 (by with_unfolding_all rfl) (by with_unfolding_all rfl) (by omega) _) ?_))
    go_ret
    exact ⟨_, rfl, HT.out, fun ad e => cutA_block e, rfl⟩
  · obtain rfl : M = n := by omega
    have hz : ¬ (16 : Int) < (M : Int) := by omega
    have HE := Lib.hid (show EncIn encR 65 w A (l.take 16) by rw [List.take_of_length_le (by omega)]; exact hE)
    clear hmn hE hln hM
    go_enter Tryd.func68, Tryd.ntmps68
    go_wp2_with fail
    go_ret
    exact ⟨_, rfl, HE.out, fun ad e => ⟨ad, e, rfl⟩, rfl⟩
set_option maxRecDepth 100000 in
set_option maxHeartbeats 2000000 in
theorem refbegin_any (A : Option Addr) (c n : Nat) (l : List Rec) (w : World) (hln : n = l.length) (hE : EncIn encR 65 w A l) (hn : n ≤ 80) :
    Calls Tryd.prog 35 #[.slice A n c] w fun e w' => ∃ A', e = .returned (.slice A' 1 1) ∧ EncIn encG 35 w' A' [ofR r00 l] ∧ Below w.heap.size w w' := by
  obtain ⟨z, hz⟩ : ∃ z, z = ofR r00 l := ⟨_, rfl⟩
  have HOF := Lib.hid (show Calls Tryd.prog 23 #[.int .i64 0, .int .i64 0, .slice A n c] w fun e w' => e = .returned (.tuple #[.agg (encG z).toArray, .int .i64 0]) ∧ Below w.heap.size w w' from refof_good r00 place00 A c n l w hln hE hn z hz)
  have HLG := Lib.hid (show ∀ x, (Tryd.prog.info? 26).map (·.size) = some (encG x).length from fun x => by rw [encG_len]; exact infoRng)
  have HLL := Lib.hid (show ∀ x y, (encG x).length = (encG y).length from fun x y => by rw [encG_len, encG_len])
  have HBw := Lib.hid (show Below w.heap.size w w from Below.refl _ _)
  have HZ := Lib.hid hz
  clear hln hE hz
  go_enter Tryd.func35, Tryd.ntmps35
  go_wp2_with (first
    | (go_at_call 23; (with_reducible refine Calls.mono (HOF.out) ?_); rintro e u1 ⟨rfl, hb⟩; have HBu1 := Lib.hid (HBw.out.trans (hb.mono HBw.out.size)); clear hb)
    | ((with_reducible refine wpList_allocZ (o := ⟨some 3, _, _, _, _, _⟩) 26 (encG default) rfl rfl zeroRng ?_); intro g3 u2 hg hat hb; have HAT3 := Lib.hid hat; have HBA3 := Lib.hid hb; have HGE3 := Lib.hid hg; clear hat hb hg)
    | ((with_reducible refine wpList_storeAll rfl 26 (.tmp 3) (.tmp 8) rfl g3 rfl _ _ (encG z) HAT3.out rfl (HLL.out _ _) (HLG.out _) (encG_one _) ?_); intro u3 hat hg hs; have hbb := Below.ofGrown HBA3.out hg HBA3.out.size (Nat.le_of_eq HGE3.out.symm); have HZ3u3 := Lib.hid hat; have HBu3 := Lib.hid (HBu1.out.trans (hbb.mono HBu1.out.size)); clear hat hg hs hbb)
    | (with_reducible refine wpList_loadAll rfl 26 (.tmp 3) rfl g3 rfl _ _ _ (HZ3u3.out) Tryd.underlying26 rfl (HLG.out _) ?_)
    | ((with_reducible refine wpList_one rfl 45 26 35 z (.tmp 10) rfl (by with_unfolding_all rfl) Tryd.underlying45 info2Rng (by decide) (by decide) (encG_len z) ?_); intro g11 u4 hg hb hE; have HEO := Lib.hid hE; have HBO := Lib.hid (HBu3.out.trans (hb.mono HBu3.out.size)); clear hg hb hE))
  go_ret
  exact ⟨_, rfl, by rw [← HZ.out]; exact HEO.out, HBO.out⟩
end Go.Proofs.YtefbllhpibfojaaDoor
