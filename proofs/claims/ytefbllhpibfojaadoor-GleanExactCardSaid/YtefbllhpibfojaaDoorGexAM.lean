/- GleanExact: the walk. -/
import Derived.Test.YtefbllhpibfojaaDoorGleHM
import Derived.Test.YtefbllhpibfojaaDoorGleKM
import Derived.Test.YtefbllhpibfojaaDoorRefRM
namespace Go.Proofs.YtefbllhpibfojaaDoor
open Go.Proofs Stab Go.Shelf Go.RowKit Go.Lib Go.Sort

set_option maxRecDepth 100000 in
set_option maxHeartbeats 8000000 in
theorem gexact_any (A0 : Option Addr) (c0 : Nat) (a : List Rng) (A2 : Option Addr) (c2 : Nat) (l : List Rec) (w : World)
    (hE0 : EncIn encG 35 w A0 a) (hc0 : a.length ≤ c0) (hm0 : c0 ≤ maxLen) (_ : A0 = none → c0 = 0) (hE2 : EncIn encR 65 w A2 l) (_ : l.length ≤ c2) (hm2 : c2 ≤ maxLen) (_ : A2 = none → c2 = 0) (hwd : Tab w 0 (u32s Sha.words)) :
    Calls Tryd.prog 8 #[.slice A0 a.length c0, .slice A2 l.length c2] w fun e w' => e = .returned (.bool true) ∧ Below w.heap.size w w' := by
  have hn0 : a.length ≤ 9223372036854775807 := by unfold maxLen at hm0; omega
  have hn2 : l.length ≤ 9223372036854775807 := by unfold maxLen at hm2; omega
  have HE0 := Lib.hid hE0
  have HE2 := Lib.hid hE2
  have HC0 := Lib.hid hc0
  have HAW := Lib.hid (awake16_any w hwd)
  have HW := Lib.hid (show ∀ W, Below w.heap.size w W → Tab W 0 (u32s Sha.words) from fun W h => hwd.below h hwd.lt)
  clear hE0 hE2 hm0 hm2 hwd
  obtain ⟨na, hna⟩ : ∃ n, n = a.length := ⟨_, rfl⟩
  obtain ⟨n, hn⟩ : ∃ n, n = l.length := ⟨_, rfl⟩
  rw [← hna] at hn0 hc0 HC0 ⊢
  rw [← hn] at hn2 ⊢
  have HNA := Lib.hid hna
  have HN := Lib.hid hn
  clear hna hn hc0
  go_enter Tryd.func8, Tryd.ntmps8
  go_upto_region 3 with (first
    | (go_at_call 31; (with_reducible refine Calls.mono HAW.out ?_); rintro e w1 ⟨rfl, hb⟩; have HB1 := Lib.hid hb; clear hb))
  by_cases h0 : 60 < na
  · have hz : (60 : Int) < (na : Int) := by omega
    go_wp2_with fail
    go_ret
    exact ⟨rfl, HB1.out⟩
  have hz0 : ¬ (60 : Int) < (na : Int) := by omega
  by_cases h2 : 60 < n
  · have hz : (60 : Int) < (n : Int) := by omega
    go_wp2_with fail
    go_ret
    exact ⟨rfl, HB1.out⟩
  have hz2 : ¬ (60 : Int) < (n : Int) := by omega
  obtain ⟨X, hX⟩ : ∃ X, (foldA a l).1.take 16 = X := ⟨_, rfl⟩
  obtain ⟨Y, hY⟩ : ∃ Y, (foldA a l).2.1.take 16 = Y := ⟨_, rfl⟩
  obtain ⟨Z, hZ⟩ : ∃ Z, (foldA a l).2.2.take 16 = Z := ⟨_, rfl⟩
  obtain ⟨M4, h4⟩ : ∃ M, M = X.length := ⟨_, rfl⟩
  obtain ⟨M5, h5⟩ : ∃ M, M = Y.length := ⟨_, rfl⟩
  obtain ⟨M6, h6⟩ : ∃ M, M = Z.length := ⟨_, rfl⟩
  have b4 : M4 ≤ 16 := by rw [h4, ← hX, List.length_take]; omega
  have b5 : M5 ≤ 16 := by rw [h5, ← hY, List.length_take]; omega
  have b6 : M6 ≤ 16 := by rw [h6, ← hZ, List.length_take]; omega
  have HF1 := Lib.hid (show ∀ W, Below w.heap.size w W → Calls Tryd.prog 32 #[.slice A0 na c0, .slice A2 n c2] W fun e w' => ∃ A4 A5 A6 c4 c5 c6, e = .returned (.tuple #[.slice A4 M4 c4, .slice A5 M5 c5, .slice A6 M6 c6]) ∧ EncIn encG 35 w' A4 X ∧ EncIn encR 65 w' A5 Y ∧ EncIn encG 35 w' A6 Z ∧ M4 ≤ c4 ∧ M5 ≤ c5 ∧ M6 ≤ c6 ∧ Below W.heap.size W w' from fun W hW => answer_any A0 c0 na a A2 c2 n l W HNA.out HC0.out (HE0.out.up hW) (by omega) HN.out (HE2.out.up hW) (by omega) (HW.out W hW) X Y Z hX hY hZ M4 M5 M6 h4 h5 h6)
  have HF2 := Lib.hid (show ∀ W, Below w.heap.size w W → Calls Tryd.prog 33 #[.slice A0 na c0, .slice A2 n c2] W fun e w' => ∃ A4 A5 A6 c4 c5 c6, e = .returned (.tuple #[.slice A4 M4 c4, .slice A5 M5 c5, .slice A6 M6 c6]) ∧ EncIn encG 35 w' A4 X ∧ EncIn encR 65 w' A5 Y ∧ EncIn encG 35 w' A6 Z ∧ M4 ≤ c4 ∧ M5 ≤ c5 ∧ M6 ≤ c6 ∧ Below W.heap.size W w' from fun W hW => refanswer_any A0 c0 na a A2 c2 n l W HNA.out HC0.out (HE0.out.up hW) (by omega) HN.out (HE2.out.up hW) (by omega) X Y Z hX hY hZ M4 M5 M6 h4 h5 h6)
  have HRC := Lib.hid (show ∀ W P Q p q, EncIn encR 65 W P Y → EncIn encR 65 W Q Y → Calls Tryd.prog 16 #[.slice P M5 p, .slice Q M5 q] W fun e w' => e = .returned (.bool true) ∧ Below W.heap.size W w' from fun W P Q p q hP hQ => by
    have h := records_any P Q p q Y Y M5 M5 W h5 h5 hP hQ (by omega) (by omega)
    rw [decide_eq_true rfl] at h
    exact h)
  have HRG := Lib.hid (show ∀ W P Q p q (K : List Rng) N, N = K.length → N ≤ 16 → EncIn encG 35 W P K → EncIn encG 35 W Q K → Calls Tryd.prog 26 #[.slice P N p, .slice Q N q] W fun e w' => e = .returned (.bool true) ∧ Below W.heap.size W w' from fun W P Q p q K N hN hb hP hQ => by
    have h := ranges_any P Q p q K K N N W hN hN hP hQ (by omega) (by omega)
    rw [decide_eq_true rfl] at h
    exact h)
  have HBG := Lib.hid (show ∀ W, Below w.heap.size w W → Calls Tryd.prog 34 #[.slice A2 n c2] W fun e w' => ∃ A', e = .returned (.slice A' 1 1) ∧ EncIn encG 35 w' A' [ofR r00 l] ∧ Below W.heap.size W w' from fun W hW => begin_any A2 c2 n l W HN.out (HE2.out.up hW) (by omega) (HW.out W hW))
  have HRB := Lib.hid (show ∀ W, Below w.heap.size w W → Calls Tryd.prog 35 #[.slice A2 n c2] W fun e w' => ∃ A', e = .returned (.slice A' 1 1) ∧ EncIn encG 35 w' A' [ofR r00 l] ∧ Below W.heap.size W w' from fun W hW => refbegin_any A2 c2 n l W HN.out (HE2.out.up hW) (by omega))
  have H46 := Lib.hid (And.intro h4 (And.intro b4 (And.intro h6 b6)))
  clear hX hY hZ h4 h5 h6
  go_wp2_with (first
    | (go_at_call 32; (with_reducible refine Calls.mono (HF1.out _ HB1.out) ?_); rintro e w2 ⟨A4, A5, A6, c4, c5, c6, rfl, hx, hy, hz, _, _, _, hb⟩; have HX1 := Lib.hid hx; have HY1 := Lib.hid hy; have HZ1 := Lib.hid hz; have HB2 := Lib.hid (HB1.out.trans (hb.mono HB1.out.size)); clear hx hy hz hb)
    | (go_at_call 33; (with_reducible refine Calls.mono (HF2.out _ HB2.out) ?_); rintro e w3 ⟨B4, B5, B6, d4, d5, d6, rfl, hx, hy, hz, _, _, _, hb⟩; have HX2 := Lib.hid hx; have HY2 := Lib.hid hy; have HZ2 := Lib.hid hz; have HX1b := Lib.hid (HX1.out.up hb); have HY1b := Lib.hid (HY1.out.up hb); have HZ1b := Lib.hid (HZ1.out.up hb); have HB3 := Lib.hid (HB2.out.trans (hb.mono HB2.out.size)); clear hx hy hz hb)
    | (go_at_call 26; (with_reducible refine Calls.mono (HRG.out _ _ _ _ _ X M4 H46.out.1 H46.out.2.1 HX1b.out HX2.out) ?_); rintro e w4 ⟨rfl, hb⟩; have HY1c := Lib.hid (HY1b.out.up hb); have HY2c := Lib.hid (HY2.out.up hb); have HZ1c := Lib.hid (HZ1b.out.up hb); have HZ2c := Lib.hid (HZ2.out.up hb); have HB4 := Lib.hid (HB3.out.trans (hb.mono HB3.out.size)); clear hb)
    | (go_at_call 16; (with_reducible refine Calls.mono (HRC.out _ _ _ _ _ HY1c.out HY2c.out) ?_); rintro e w5 ⟨rfl, hb⟩; have HZ1d := Lib.hid (HZ1c.out.up hb); have HZ2d := Lib.hid (HZ2c.out.up hb); have HB5 := Lib.hid (HB4.out.trans (hb.mono HB4.out.size)); clear hb)
    | (go_at_call 26; (with_reducible refine Calls.mono (HRG.out _ _ _ _ _ Z M6 H46.out.2.2.1 H46.out.2.2.2 HZ1d.out HZ2d.out) ?_); rintro e w6 ⟨rfl, hb⟩; have HB6 := Lib.hid (HB5.out.trans (hb.mono HB5.out.size)); clear hb)
    | (go_at_call 34; (with_reducible refine Calls.mono (HBG.out _ HB6.out) ?_); rintro e w7 ⟨A7, rfl, hx, hb⟩; have HX7 := Lib.hid hx; have HB7 := Lib.hid (HB6.out.trans (hb.mono HB6.out.size)); clear hx hb)
    | (go_at_call 35; (with_reducible refine Calls.mono (HRB.out _ HB7.out) ?_); rintro e w8 ⟨A8, rfl, hx, hb⟩; have HX8 := Lib.hid hx; have HX7b := Lib.hid (HX7.out.up hb); have HB8 := Lib.hid (HB7.out.trans (hb.mono HB7.out.size)); clear hx hb)
    | (go_at_call 26; (with_reducible refine Calls.mono (HRG.out _ _ _ _ _ [ofR r00 l] 1 rfl (by decide) HX7b.out HX8.out) ?_); rintro e w9 ⟨rfl, hb⟩; have HB9 := Lib.hid (HB8.out.trans (hb.mono HB8.out.size)); clear hb))
  go_ret
  exact ⟨rfl, HB9.out⟩
end Go.Proofs.YtefbllhpibfojaaDoor
