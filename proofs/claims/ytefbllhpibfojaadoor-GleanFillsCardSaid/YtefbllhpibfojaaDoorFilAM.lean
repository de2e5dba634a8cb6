/- GleanFills: the walk. -/
import Derived.Test.YtefbllhpibfojaaDoorGleHM
import Derived.Test.YtefbllhpibfojaaDoorGleJM
import Derived.Test.YtefbllhpibfojaaDoorRefRM
namespace Go.Proofs.YtefbllhpibfojaaDoor
open Go.Proofs Stab Go.Shelf Go.RowKit Go.Lib Go.Sort

set_option maxRecDepth 100000 in
set_option maxHeartbeats 8000000 in
theorem fills_any (A0 : Option Addr) (c0 : Nat) (a : List Rng) (A1 : Option Addr) (c1 : Nat) (t : List Rec) (A2 : Option Addr) (c2 : Nat) (l : List Rec) (w : World)
    (hE0 : EncIn encG 35 w A0 a) (_ : a.length ≤ c0) (hm0 : c0 ≤ maxLen) (_ : A0 = none → c0 = 0) (hE1 : EncIn encR 65 w A1 t) (_ : t.length ≤ c1) (hm1 : c1 ≤ maxLen) (_ : A1 = none → c1 = 0) (hE2 : EncIn encR 65 w A2 l) (_ : l.length ≤ c2) (hm2 : c2 ≤ maxLen) (_ : A2 = none → c2 = 0) (hwd : Tab w 0 (u32s Sha.words)) :
    Calls Tryd.prog 9 #[.slice A0 a.length c0, .slice A1 t.length c1, .slice A2 l.length c2] w fun e w' => e = .returned (.bool true) ∧ Below w.heap.size w w' := by
  have hn0 : a.length ≤ 9223372036854775807 := by unfold maxLen at hm0; omega
  have hn1 : t.length ≤ 9223372036854775807 := by unfold maxLen at hm1; omega
  have hn2 : l.length ≤ 9223372036854775807 := by unfold maxLen at hm2; omega
  have HE0 := Lib.hid hE0
  have HE1 := Lib.hid hE1
  have HE2 := Lib.hid hE2
  have HLR := Lib.hid (show ∀ x, (Tryd.prog.info? 38).map (·.size) = some (encR x).length from fun x => by rw [encR_len]; exact infoRec)
  have HLG := Lib.hid (show ∀ x, (Tryd.prog.info? 26).map (·.size) = some (encG x).length from fun x => by rw [encG_len]; exact infoRng)
  have HUD := Lib.hid Tryd.underlying24
  have HDG := Lib.hid (show ∀ l : List UInt8, l.length = 32 → (Tryd.prog.info? 24).map (·.size) = some (u8s l).length from fun l hl => by rw [u8s_length, hl]; exact infoDg)
  have HAW := Lib.hid (awake16_any w hwd)
  clear hE0 hE1 hE2 hm0 hm1 hm2 hwd
  obtain ⟨na, hna⟩ : ∃ n, n = a.length := ⟨_, rfl⟩
  obtain ⟨nt, hnt⟩ : ∃ n, n = t.length := ⟨_, rfl⟩
  obtain ⟨n, hn⟩ : ∃ n, n = l.length := ⟨_, rfl⟩
  rw [← hna] at hn0 ⊢
  rw [← hnt] at hn1 ⊢
  rw [← hn] at hn2 ⊢
  have HNA := Lib.hid hna
  have HNT := Lib.hid hnt
  have HN := Lib.hid hn
  clear hna hnt hn
  go_enter Tryd.func9, Tryd.ntmps9
  go_upto_region 3 with (first
    | (go_at_call 31; (with_reducible refine Calls.mono HAW.out ?_); rintro e w1 ⟨rfl, hb⟩; have HB1 := Lib.hid hb; clear hb))
  by_cases h0 : 60 < na
  · have hz : (60 : Int) < (na : Int) := by omega
    go_wp2_with fail
    go_ret
    exact ⟨rfl, HB1.out⟩
  have hz0 : ¬ (60 : Int) < (na : Int) := by omega
  by_cases h1 : 60 < nt
  · have hz : (60 : Int) < (nt : Int) := by omega
    go_wp2_with fail
    go_ret
    exact ⟨rfl, HB1.out⟩
  have hz1 : ¬ (60 : Int) < (nt : Int) := by omega
  by_cases h2 : 60 < n
  · have hz : (60 : Int) < (n : Int) := by omega
    go_wp2_with fail
    go_ret
    exact ⟨rfl, HB1.out⟩
  have hz2 : ¬ (60 : Int) < (n : Int) := by omega
  obtain ⟨L, hL⟩ : ∃ L, L = fillR a t l := ⟨_, rfl⟩
  obtain ⟨N, hNL⟩ : ∃ N, N = L.length := ⟨_, rfl⟩
  have hN16 : N ≤ 16 := by rw [hNL, hL]; unfold fillR; rw [List.length_take]; omega
  have HNL := Lib.hid hNL
  have HF1 := Lib.hid (show ∀ W, Below w.heap.size w W → Calls Tryd.prog 36 #[.slice A0 na c0, .slice A1 nt c1, .slice A2 n c2] W fun e w' => ∃ A' c', e = .returned (.slice A' N c') ∧ N ≤ c' ∧ EncIn encR 65 w' A' L ∧ Below W.heap.size W w' from fun W hW => by rw [hL] at hNL ⊢; exact fill_any A0 c0 na a A1 c1 nt t A2 c2 n l W HNA.out (HE0.out.up hW) (by omega) HNT.out (HE1.out.up hW) (by omega) HN.out (HE2.out.up hW) (by omega) N hNL)
  have HF2 := Lib.hid (show ∀ W, Below w.heap.size w W → Calls Tryd.prog 37 #[.slice A0 na c0, .slice A1 nt c1, .slice A2 n c2] W fun e w' => ∃ A' c', e = .returned (.slice A' N c') ∧ N ≤ c' ∧ EncIn encR 65 w' A' L ∧ Below W.heap.size W w' from fun W hW => by rw [hL] at hNL ⊢; exact reffill_any A0 c0 na a A1 c1 nt t A2 c2 n l W HNA.out (HE0.out.up hW) (by omega) HNT.out (HE1.out.up hW) (by omega) HN.out (HE2.out.up hW) (by omega) N hNL)
  have HRC := Lib.hid (show ∀ W P Q p q, EncIn encR 65 W P L → EncIn encR 65 W Q L → Calls Tryd.prog 16 #[.slice P N p, .slice Q N q] W fun e w' => e = .returned (.bool true) ∧ Below W.heap.size W w' from fun W P Q p q hP hQ => by
    have h := records_any P Q p q L L N N W HNL.out HNL.out hP hQ (by omega) (by omega)
    rw [decide_eq_true rfl] at h
    exact h)
  clear hL hNL
  go_wp2_with (first
    | (go_at_call 36; (with_reducible refine Calls.mono (HF1.out _ HB1.out) ?_); rintro e w3 ⟨A7, c7, rfl, _, hE, hb⟩; have HE7 := Lib.hid hE; have HB3 := Lib.hid (HB1.out.trans (hb.mono HB1.out.size)); clear hE hb)
    | (go_at_call 37; (with_reducible refine Calls.mono (HF2.out _ HB3.out) ?_); rintro e w4 ⟨A8, c8, rfl, _, hE, hb⟩; have HE8 := Lib.hid hE; have HE7b := Lib.hid (HE7.out.up hb); have HB4 := Lib.hid (HB3.out.trans (hb.mono HB3.out.size)); clear hE hb)
    | (go_at_call 16; (with_reducible refine Calls.mono (HRC.out _ _ _ _ _ HE7b.out HE8.out) ?_); rintro e w5 ⟨rfl, hb⟩; have HB5 := Lib.hid (HB4.out.trans (hb.mono HB4.out.size)); clear hb))
  go_ret
  exact ⟨rfl, HB5.out⟩
end Go.Proofs.YtefbllhpibfojaaDoor
