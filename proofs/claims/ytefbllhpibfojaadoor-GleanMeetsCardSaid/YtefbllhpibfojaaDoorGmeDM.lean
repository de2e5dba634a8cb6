/- GleanMeets: the walk. -/
import Derived.Test.YtefbllhpibfojaaDoorGmeCM
import Derived.Deep.DeepCutAuto
namespace Go.Proofs.YtefbllhpibfojaaDoor
open Go.Proofs Stab Go.Shelf Go.RowKit Go.Lib Go.Sort

/-- the two nodes' records, as they stand -/
structure Here (w5 wr : World) (A5 : Option Addr) (n5 : Nat) (A6 : Option Addr) (n6 : Nat) (x y : List Rec) : Prop where
  b : Behind w5 wr
  n5 : n5 = x.length
  n6 : n6 = y.length
  e5 : EncIn encR 65 wr A5 x
  e6 : EncIn encR 65 wr A6 y
/-- the letter, as it stands -/
structure LetIn (wr : World) (g : Nat) (A4 : Option Addr) (n4 c4 : Nat) (A5 : Option Addr) (n5 c5 : Nat) (A6 : Option Addr) (n6 c6 : Nat) (l : Lett) : Prop where
  at_ : At wr g 64 (letC A4 n4 c4 A5 n5 c5 A6 n6 c6)
  k4 : n4 = l.sums.length
  k5 : n5 = l.items.length
  k6 : n6 = l.asks.length
  kc : n4 ≤ c4
  e4 : EncIn encG 35 wr A4 l.sums
  e5 : EncIn encR 65 wr A5 l.items
  e6 : EncIn encG 35 wr A6 l.asks
section
variable {w5 wr w' : World} {A5 A6 : Option Addr} {n5 n6 : Nat} {x y : List Rec}
theorem Here.up (h : Here w5 wr A5 n5 A6 n6 x y) (hb : Behind wr w') : Here w5 w' A5 n5 A6 n6 x y := ⟨Behind.trM h.b hb, h.n5, h.n6, h.e5.up hb, h.e6.up hb⟩
theorem LetIn.up {g : Nat} {A4 : Option Addr} {n4 c4 c5 c6 : Nat} {l : Lett} (h : LetIn wr g A4 n4 c4 A5 n5 c5 A6 n6 c6 l) (hb : Behind wr w') : LetIn w' g A4 n4 c4 A5 n5 c5 A6 n6 c6 l :=
  ⟨h.at_.below hb h.at_.lt, h.k4, h.k5, h.k6, h.kc, h.e4.up hb, h.e5.up hb, h.e6.up hb⟩
theorem Here.keep (h : Here w5 wr A5 n5 A6 n6 x y) {g : Nat} {t : TypeId} {cs : List Value} (hat : At wr g t cs) (hcs : ∀ v ∈ cs, ∀ kd n, v ≠ .int kd n) (hg : wr.grownBy w' (some g)) (hge : w5.heap.size ≤ g) : Here w5 w' A5 n5 A6 n6 x y :=
  ⟨Below.ofGrown h.b hg h.b.size hge, h.n5, h.n6, h.e5.keep encR_head hat hcs hg, h.e6.keep encR_head hat hcs hg⟩
end
theorem builtLet1 (A : Option Addr) (n c : Nat) : Tryd.prog.built 64 [(0, .slice A n c)] = some (letC A n c none 0 0 none 0 0).toArray := by kernel_rfl
/-- what holds within a turn, by who is told -/
def Turn (U K : List Rec) (t i who : Nat) (x y : List Rec) (l : Lett) (sh : Bool) : Prop := (who = 0 ∧ Inn U K t i x y l sh) ∨ (who = 1 ∧ Inn U K t i y x l sh)
theorem par_zero {t : Nat} (h : t % 2 = 0) : ((t : Int) % 2 == 1) = false := by
  have h1 : (t : Int) % 2 = 0 := by omega
  rw [h1]
  rfl
theorem par_one {t : Nat} (h : t % 2 = 1) : ((t : Int) % 2 == 1) = true := by
  have h1 : (t : Int) % 2 = 1 := by omega
  rw [h1]
  rfl
theorem par_cast (t : Nat) : (t : Int) % 2 = ((t % 2 : Nat) : Int) := by omega
theorem mod_two (t : Nat) : t % 2 = 0 ∨ t % 2 = 1 := by omega
set_option maxRecDepth 100000 in
set_option maxHeartbeats 16000000 in
theorem gmeets_any (A0 : Option Addr) (c0 : Nat) (a : List Rec) (A1 : Option Addr) (c1 : Nat) (b : List Rec) (w : World)
    (hE0 : EncIn encR 65 w A0 a) (_ : a.length ≤ c0) (hm0 : c0 ≤ maxLen) (_ : A0 = none → c0 = 0) (hE1 : EncIn encR 65 w A1 b) (_ : b.length ≤ c1) (hm1 : c1 ≤ maxLen) (_ : A1 = none → c1 = 0) (hwd : Tab w 0 (u32s Sha.words)) :
    Calls Tryd.prog 10 #[.slice A0 a.length c0, .slice A1 b.length c1] w fun e w' => e = .returned (.bool true) ∧ Below w.heap.size w w' := by
  have hn0 : a.length ≤ 9223372036854775807 := by unfold maxLen at hm0; omega
  have hn1 : b.length ≤ 9223372036854775807 := by unfold maxLen at hm1; omega
  have HE0 := Lib.hid (show ∀ W, Behind w W → EncIn encR 65 W A0 a from fun W h => hE0.up h)
  have HE1 := Lib.hid (show ∀ W, Behind w W → EncIn encR 65 W A1 b from fun W h => hE1.up h)
  have HAW := Lib.hid (awake16_any w hwd)
  have HW := Lib.hid (show ∀ W, Behind w W → Tab W 0 (u32s Sha.words) from fun W h => hwd.below h hwd.lt)
  clear hE0 hE1 hm0 hm1 hwd
  obtain ⟨na, hna⟩ : ∃ n, n = a.length := ⟨_, rfl⟩
  obtain ⟨nb, hnb⟩ : ∃ n, n = b.length := ⟨_, rfl⟩
  rw [← hna] at hn0 ⊢
  rw [← hnb] at hn1 ⊢
  have HNA := Lib.hid hna
  have HNB := Lib.hid hnb
  clear hna hnb
  go_enter Tryd.func10, Tryd.ntmps10
  go_upto_region 3 with (first
    | (go_at_call 31; (with_reducible refine Calls.mono HAW.out ?_); rintro e w1 ⟨rfl, hb⟩; have HB1 := Lib.hid (show Behind w w1 from hb); clear hb))
  by_cases h0 : 16 < na
  · have hz : (16 : Int) < (na : Int) := by omega
    go_wp2_with fail
    go_ret
    exact ⟨rfl, HB1.out⟩
  have hz0 : ¬ (16 : Int) < (na : Int) := by omega
  by_cases h1 : 16 < nb
  · have hz : (16 : Int) < (nb : Int) := by omega
    go_wp2_with fail
    go_ret
    exact ⟨rfl, HB1.out⟩
  have hz1 : ¬ (16 : Int) < (nb : Int) := by omega
  obtain ⟨x0, hx0⟩ : ∃ x, x = sortR a := ⟨_, rfl⟩
  obtain ⟨y0, hy0⟩ : ∃ y, y = sortR b := ⟨_, rfl⟩
  obtain ⟨K, hK⟩ : ∃ K, K = keptR x0 y0 := ⟨_, rfl⟩
  obtain ⟨N5, hN5⟩ : ∃ n, n = x0.length := ⟨_, rfl⟩
  obtain ⟨N6, hN6⟩ : ∃ n, n = y0.length := ⟨_, rfl⟩
  obtain ⟨N7, hN7⟩ : ∃ n, n = K.length := ⟨_, rfl⟩
  have b5 : N5 ≤ 16 := by have h := sortR_len a; rw [← hx0, ← hN5] at h; have := HNA.out; omega
  have b6 : N6 ≤ 16 := by have h := sortR_len b; rw [← hy0, ← hN6] at h; have := HNB.out; omega
  have b7 : N7 ≤ 32 := by have h := sortR_len (x0 ++ y0); rw [List.length_append, ← hN5, ← hN6] at h; rw [hN7, hK]; show (sortR (x0 ++ y0)).length ≤ 32; omega
  have HK5 := Lib.hid (show ∀ W, Behind w W → Calls Tryd.prog 38 #[.slice none 0 0, .slice A0 na c0] W fun e w' => ∃ A' c', e = .returned (.slice A' N5 c') ∧ N5 ≤ c' ∧ EncIn encR 65 w' A' x0 ∧ Below W.heap.size W w' from fun W hW => by
    rw [hx0] at hN5 ⊢
    exact kept_any none 0 0 [] A0 c0 na a W rfl HNA.out EncIn.nil (HE0.out W hW) (by decide) (by omega) N5 hN5)
  have HK6 := Lib.hid (show ∀ W, Behind w W → Calls Tryd.prog 38 #[.slice none 0 0, .slice A1 nb c1] W fun e w' => ∃ A' c', e = .returned (.slice A' N6 c') ∧ N6 ≤ c' ∧ EncIn encR 65 w' A' y0 ∧ Below W.heap.size W w' from fun W hW => by
    rw [hy0] at hN6 ⊢
    exact kept_any none 0 0 [] A1 c1 nb b W rfl HNB.out EncIn.nil (HE1.out W hW) (by decide) (by omega) N6 hN6)
  have HK7 := Lib.hid (show ∀ (P Q : Option Addr) (p q : Nat) W, EncIn encR 65 W P x0 → EncIn encR 65 W Q y0 → Calls Tryd.prog 38 #[.slice P N5 p, .slice Q N6 q] W fun e w' => ∃ A' c', e = .returned (.slice A' N7 c') ∧ N7 ≤ c' ∧ EncIn encR 65 w' A' K ∧ Below W.heap.size W w' from fun P Q p q W hP hQ => by
    rw [hK] at hN7 ⊢
    exact kept_any P p N5 x0 Q q N6 y0 W hN5 hN6 hP hQ (by omega) (by omega) N7 hN7)
  have HV8 := Lib.hid (show ∀ (P Q : Option Addr) (p q : Nat) W, Behind w W → EncIn encR 65 W P x0 → EncIn encR 65 W Q y0 → Calls Tryd.prog 39 #[.slice P N5 p, .slice Q N6 q] W fun e w' => Veils x0 y0 W e w' from fun P Q p q W hW hP hQ => veiled_any P p N5 x0 Q q N6 y0 W hN5 hN6 hP hQ (by omega) (by omega) (HW.out W hW))
  obtain ⟨U, hU⟩ : ∃ U, U = a ++ b := ⟨_, rfl⟩
  have HOUT := Lib.hid (show ∀ sh, Out U K 0 x0 y0 sh from fun sh => by rw [hU, hK, hx0, hy0]; exact Out.first_turn (by have := HNA.out; omega) (by have := HNB.out; omega) sh)
  have HRK := Lib.hid (show Rising K by rw [hK]; exact sortR_rising _)
  have HN5 := Lib.hid hN5
  have HN6 := Lib.hid hN6
  have HN7 := Lib.hid hN7
  clear hx0 hy0 hK hN5 hN6 hN7 hU
  go_upto_region 9 with (first
    | (go_at_call 38; (with_reducible refine Calls.mono (HK5.out _ HB1.out) ?_); rintro e w2 ⟨A5, c5, rfl, _, hE, hb⟩; have HX2 := Lib.hid hE; have HB2 := Lib.hid (Behind.trM HB1.out hb); clear hE hb)
    | (go_at_call 38; (with_reducible refine Calls.mono (HK6.out _ HB2.out) ?_); rintro e w3 ⟨A6, c6, rfl, _, hE, hb⟩; have HY3 := Lib.hid hE; have HX3 := Lib.hid (HX2.out.up hb); have HB3 := Lib.hid (Behind.trM HB2.out hb); clear hE hb)
    | (go_at_call 38; (with_reducible refine Calls.mono (HK7.out _ _ _ _ _ HX3.out HY3.out) ?_); rintro e w4 ⟨A7, c7, rfl, _, hE, hb⟩; have HKE4 := Lib.hid hE; have HX4 := Lib.hid (HX3.out.up hb); have HY4 := Lib.hid (HY3.out.up hb); have HB4 := Lib.hid (Behind.trM HB3.out hb); clear hE hb)
    | (go_at_call 39; (with_reducible refine Calls.mono (HV8.out _ _ _ _ _ HB4.out HX4.out HY4.out) ?_); rintro e w5 ⟨v0, rfl, _, hb⟩; have HX5 := Lib.hid (HX4.out.up hb); have HY5 := Lib.hid (HY4.out.up hb); have HKE := Lib.hid (HKE4.out.up hb); have HB5 := Lib.hid (Behind.trM HB4.out hb); clear hb))
  have HKS := Lib.hid (show ∀ W, Behind w5 W → EncIn encR 65 W A7 K from fun W h => HKE.out.up h)
  have HHR := Lib.hid (show Here w5 w5 A5 N5 A6 N6 x0 y0 from ⟨Behind.refl _, HN5.out, HN6.out, HX5.out, HY5.out⟩)
  clear HKE HX5 HY5 HK5 HK6 HK7 HV8 HAW
  go_wp2_with fail
  go_loopg [5, 6, 8, 9] 40 (fun gg s5 s6 s8 s9 wr => ∃ (t n5 d5 n6 d6 : Nat) (B5 B6 : Option Addr) (x y : List Rec) (sh : Bool), s5 = .slice B5 n5 d5 ∧ s6 = .slice B6 n6 d6 ∧ s8 = .bool sh ∧ s9 = .int .i64 t ∧ t ≤ 40 ∧ 40 - t ≤ gg ∧ Hid (Out U K t x y sh) ∧ Hid (Here w5 wr B5 n5 B6 n6 x y))
  case atStart => exact ⟨0, N5, c5, N6, c6, A5, A6, x0, y0, v0, rfl, rfl, rfl, rfl, Nat.zero_le _, by omega, HOUT.out v0, HHR.out⟩
  case round =>
    obtain ⟨t, n5, d5, n6, d6, B5, B6, x, y, sh, rfl, rfl, rfl, rfl, ht, hgg, HO, HH⟩ := hrel
    generalize wr = wo at *
    have hx32 : n5 ≤ 32 := by rw [HH.out.n5]; exact rising_len HO.out.n HO.out.rx HO.out.ux
    have hy32 : n6 ≤ 32 := by rw [HH.out.n6]; exact rising_len HO.out.n HO.out.ry HO.out.uy
    obtain ⟨kx, hkx⟩ : ∃ k, k = keysB x K := ⟨_, rfl⟩
    obtain ⟨ky, hky⟩ : ∃ k, k = keysB y K := ⟨_, rfl⟩
    have HKX := Lib.hid (show ∀ W, Behind wo W → Calls Tryd.prog 40 #[.slice B5 n5 d5, .slice A7 N7 c7] W fun e w' => e = .returned (.bool kx) ∧ Below W.heap.size W w' from fun W hW => by rw [hkx]; exact keys_any B5 A7 d5 c7 x K n5 N7 W HH.out.n5 HN7.out (HH.out.e5.up hW) (HKS.out W (Behind.trM HH.out.b hW)) (by omega) (by omega))
    have HKY := Lib.hid (show ∀ W, Behind wo W → Calls Tryd.prog 40 #[.slice B6 n6 d6, .slice A7 N7 c7] W fun e w' => e = .returned (.bool ky) ∧ Below W.heap.size W w' from fun W hW => by rw [hky]; exact keys_any B6 A7 d6 c7 y K n6 N7 W HH.out.n6 HN7.out (HH.out.e6.up hW) (HKS.out W (Behind.trM HH.out.b hW)) (by omega) (by omega))
    have HKK := Lib.hid (And.intro hkx hky)
    clear hkx hky
    go_upto_region 10 with fail
    go_cut [46] (fun s46 wx => ∃ v : Bool, s46 = .bool v ∧ Hid (v = true → t < 40 ∧ ¬ (kx = true ∧ ky = true)) ∧ Hid (v = false → t = 40 ∨ (kx = true ∧ ky = true)) ∧ Hid (Behind wo wx))
    case first =>
      by_cases hlt : t < 40
      · have hltz : (t : Int) < 40 := by omega
        cases kx with
        | false =>
          go_wp2_with (first
            | (go_at_call 40; (with_reducible refine Calls.mono (HKX.out _ (Behind.refl wo)) ?_); rintro e wa ⟨rfl, hb⟩; have HQa := Lib.hid (Behind.trM (Behind.refl wo) hb); clear hb))
          go_meet
          exact ⟨true, rfl, fun _ => ⟨hlt, fun h => by cases h.1⟩, fun h => (by cases h), HQa.out⟩
        | true =>
          cases ky with
          | false =>
            go_wp2_with (first
              | (go_at_call 40; (with_reducible refine Calls.mono (HKX.out _ (Behind.refl wo)) ?_); rintro e wa ⟨rfl, hb⟩; have HQa := Lib.hid (Behind.trM (Behind.refl wo) hb); clear hb)
              | (go_at_call 40; (with_reducible refine Calls.mono (HKY.out _ HQa.out) ?_); rintro e wb ⟨rfl, hb⟩; have HQb := Lib.hid (Behind.trM HQa.out hb); clear hb))
            go_meet
            exact ⟨true, rfl, fun _ => ⟨hlt, fun h => by cases h.2⟩, fun h => (by cases h), HQb.out⟩
          | true =>
            go_wp2_with (first
              | (go_at_call 40; (with_reducible refine Calls.mono (HKX.out _ (Behind.refl wo)) ?_); rintro e wa ⟨rfl, hb⟩; have HQa := Lib.hid (Behind.trM (Behind.refl wo) hb); clear hb)
              | (go_at_call 40; (with_reducible refine Calls.mono (HKY.out _ HQa.out) ?_); rintro e wb ⟨rfl, hb⟩; have HQb := Lib.hid (Behind.trM HQa.out hb); clear hb))
            go_meet
            exact ⟨false, rfl, fun h => (by cases h), fun _ => .inr (by simp), HQb.out⟩
      · have hltz : ¬ (t : Int) < 40 := by omega
        go_wp2_with fail
        go_meet
        exact ⟨false, rfl, fun h => (by cases h), fun _ => .inl (by omega), Behind.refl _⟩
    case rest =>
      obtain ⟨v, rfl, hv1, hv2, HQc⟩ := hcut
      cases v with
      | false =>
        have hfin : sh = true ∨ kx = true ∧ ky = true := by
          rcases hv2.out rfl with e | e
          · rcases HO.out.late (by omega) with e2 | e2
            · exact .inl e2
            · exact .inr ⟨by rw [HKK.out.1]; exact e2.1, by rw [HKK.out.2]; exact e2.2⟩
          · exact .inr e
        clear hv1 hv2
        cases sh with
        | true =>
          go_wp2_with fail
          go_ret
          exact ⟨rfl, Behind.trM HB5.out (Behind.trM HH.out.b HQc.out)⟩
        | false =>
          obtain ⟨rfl, rfl⟩ : kx = true ∧ ky = true := by rcases hfin with e | e; cases e; exact e
          clear hfin
          go_wp2_with (first
            | (go_at_call 40; (with_reducible refine Calls.mono (HKX.out _ HQc.out) ?_); rintro e wa ⟨rfl, hb⟩; have HQa := Lib.hid (Behind.trM HQc.out hb); clear hb)
            | (go_at_call 40; (with_reducible refine Calls.mono (HKY.out _ HQa.out) ?_); rintro e wb ⟨rfl, hb⟩; have HQb := Lib.hid (Behind.trM HQa.out hb); clear hb))
          go_ret
          exact ⟨rfl, Behind.trM HB5.out (Behind.trM HH.out.b HQb.out)⟩
      | true =>
        have hne : ¬ (keysB x K = true ∧ keysB y K = true) := by rw [← HKK.out.1, ← HKK.out.2]; exact (hv1.out rfl).2
        have hlt : t < 40 := (hv1.out rfl).1
        have HNE := Lib.hid hne
        have HBX := Lib.hid (show ∀ W, Behind wo W → Calls Tryd.prog 34 #[.slice B5 n5 d5] W fun e w' => ∃ A', e = .returned (.slice A' 1 1) ∧ EncIn encG 35 w' A' [ofR r00 x] ∧ Below W.heap.size W w' from fun W hW => begin_any B5 d5 n5 x W HH.out.n5 (HH.out.e5.up hW) (by omega) (HW.out W (Behind.trM HB5.out (Behind.trM HH.out.b hW))))
        have HBY := Lib.hid (show ∀ W, Behind wo W → Calls Tryd.prog 34 #[.slice B6 n6 d6] W fun e w' => ∃ A', e = .returned (.slice A' 1 1) ∧ EncIn encG 35 w' A' [ofR r00 y] ∧ Below W.heap.size W w' from fun W hW => begin_any B6 d6 n6 y W HH.out.n6 (HH.out.e6.up hW) (by omega) (HW.out W (Behind.trM HB5.out (Behind.trM HH.out.b hW))))
        clear hne hv1 hv2 HKX HKY HKK
        go_upto_if 54 with (first
          | (go_at_call 34; (with_reducible refine Calls.mono (HBX.out _ HQc.out) ?_); rintro e wd ⟨E4, rfl, hE, hb⟩; have HEd := Lib.hid hE; have HQd := Lib.hid (Behind.trM HQc.out hb); clear hE hb)
          | (with_reducible refine wpList_build (letC E4 1 1 none 0 0 none 0 0).toArray (by with_unfolding_all rfl) 64 #[(0, .tmp 50)] rfl (built_at (builtLet1 E4 1 1) (by with_unfolding_all rfl)) ?_)
          | ((with_reducible refine wpList_allocZ (o := ⟨some 10, _, _, _, _, _⟩) 64 (letC none 0 0 none 0 0 none 0 0) rfl rfl zeroLet ?_); intro g10 we hg hat hb; have HATe := Lib.hid hat; have HBA := Lib.hid hb; have HGE := Lib.hid hg; clear hat hb hg)
          | ((with_reducible refine wpList_storeAll rfl 64 (.tmp 10) (.tmp 51) rfl g10 rfl _ _ (letC E4 1 1 none 0 0 none 0 0) HATe.out rfl (by simp) (let_info _ _ _ _ _ _ _ _ _) (let_one _ _ _ _ _ _ _ _ _) ?_); intro wf hat hg hs; have hbb := Below.ofGrown HBA.out hg HBA.out.size (Nat.le_of_eq HGE.out.symm); have HATf := Lib.hid hat; have HEf := Lib.hid (HEd.out.up hbb); have HQf := Lib.hid (show Behind wo wf from Behind.trM HQd.out hbb); have HGL := Lib.hid (show w5.heap.size ≤ g10 ∧ wo.heap.size ≤ g10 from ⟨by have h1 := HGE.out; have h2 := HQd.out.size; have h3 := HH.out.b.size; omega, by have h1 := HGE.out; have h2 := HQd.out.size; omega⟩); clear hat hg hs hbb))
        have HHf := Lib.hid (HH.out.up HQf.out)
        go_cut [54] (fun s54 wx => ∃ (q : Value) (E : Option Addr), s54 = q ∧ Hid (LetIn wx g10 E 1 1 none 0 0 none 0 0 ⟨[ofR r00 (if t % 2 = 1 then y else x)], [], []⟩) ∧ Hid (Here w5 wx B5 n5 B6 n6 x y))
        case first =>
          rcases mod_two t with hp | hp
          · have hpz : ((t : Int) % 2 == 1) = false := par_zero hp
            have HIF := Lib.hid (show (if t % 2 = 1 then y else x) = x from if_neg (by omega))
            clear hp
            go_wp2_with fail
            go_meet
            exact ⟨_, E4, rfl, ⟨HATf.out, rfl, rfl, rfl, Nat.le_refl _, by rw [HIF.out]; exact HEf.out, EncIn.nil, EncIn.nil⟩, HHf.out⟩
          · have hpz : ((t : Int) % 2 == 1) = true := par_one hp
            have HIF := Lib.hid (show (if t % 2 = 1 then y else x) = y from if_pos hp)
            clear hp
            go_wp2_with (first
              | (go_at_call 34; (with_reducible refine Calls.mono (HBY.out _ HQf.out) ?_); rintro e wg ⟨E5, rfl, hE, hb⟩; have HEg := Lib.hid hE; have HATg := Lib.hid (HATf.out.below hb HATf.out.lt); have HHg := Lib.hid (HHf.out.up hb); clear hE hb)
              | (with_reducible refine wpList_build (letC E5 1 1 none 0 0 none 0 0).toArray (by with_unfolding_all rfl) 64 #[(0, .tmp 56)] rfl (built_at (builtLet1 E5 1 1) (by with_unfolding_all rfl)) ?_)
              | ((with_reducible refine wpList_storeAll rfl 64 (.tmp 10) (.tmp 57) rfl g10 rfl _ _ (letC E5 1 1 none 0 0 none 0 0) HATg.out rfl (by simp) (let_info _ _ _ _ _ _ _ _ _) (let_one _ _ _ _ _ _ _ _ _) ?_); intro wh hat hg hs; have HATh := Lib.hid hat; have HEh := Lib.hid (HEg.out.keep encG_head HATg.out (let_no _ _ _ _ _ _ _ _ _) hg); have HHh := Lib.hid (HHg.out.keep HATg.out (let_no _ _ _ _ _ _ _ _ _) hg HGL.out.1); clear hat hg hs))
            go_meet
            exact ⟨_, E5, rfl, ⟨HATh.out, rfl, rfl, rfl, Nat.le_refl _, by rw [HIF.out]; exact HEh.out, EncIn.nil, EncIn.nil⟩, HHh.out⟩
        case rest =>
          obtain ⟨_, E, rfl, HL0, HH0⟩ := hcut
          obtain ⟨p, hp⟩ : ∃ p, p = t % 2 := ⟨_, rfl⟩
          have hpz : (t : Int) % 2 = (p : Int) := by rw [hp]; exact par_cast t
          have HT0 := Lib.hid (show Turn U K t 0 p x y ⟨[ofR r00 (if t % 2 = 1 then y else x)], [], []⟩ sh from by
            rcases mod_two t with h | h
            · rw [if_neg (by omega), hp, h]
              exact .inl ⟨rfl, HO.out.begin HNE.out⟩
            · rw [if_pos h, hp, h]
              exact .inr ⟨rfl, HO.out.swap.begin fun e => HNE.out e.symm⟩)
          have HGL2 := Lib.hid HGL.out.1
          clear hp HBX HBY HQc HQf HQd HATf HEf HHf HATe HBA HGE HEd HGL HNE HH HO hx32 hy32
          generalize wc = wi at *
          generalize (⟨[ofR r00 (if t % 2 = 1 then y else x)], [], []⟩ : Lett) = l0 at HT0 HL0
          go_upto_region 17 with fail
          rw [hpz]
          clear hpz
          go_loopg [5, 6, 8, 11, 12] 40 (fun gg s5 s6 s8 s11 s12 wr => ∃ (i who n5 d5 n6 d6 m4 e4 m5 e5 m6 e6 : Nat) (B5 B6 M4 M5 M6 : Option Addr) (x y : List Rec) (l : Lett) (sh : Bool), s5 = .slice B5 n5 d5 ∧ s6 = .slice B6 n6 d6 ∧ s8 = .bool sh ∧ s11 = .int .i64 who ∧ s12 = .int .i64 i ∧ i ≤ 40 ∧ 40 - i ≤ gg ∧ Hid (Turn U K t i who x y l sh) ∧ Hid (Here w5 wr B5 n5 B6 n6 x y) ∧ Hid (LetIn wr g10 M4 m4 e4 M5 m5 e5 M6 m6 e6 l))
          case atStart => exact ⟨0, p, n5, d5, n6, d6, 1, 1, 0, 0, 0, 0, B5, B6, E, none, none, x, y, l0, sh, rfl, rfl, rfl, rfl, rfl, Nat.zero_le _, by omega, HT0.out, HH0.out, HL0.out⟩
          case round =>
            clear HT0 HH0 HL0
            clear x y sh n5 d5 n6 d6 B5 B6
            obtain ⟨i, who, n5, d5, n6, d6, m4, e4, m5, e5, m6, e6, B5, B6, M4, M5, M6, x, y, l, sh, rfl, rfl, rfl, rfl, rfl, hi, hgi, HT, HH, HL⟩ := hrel
            generalize wr = wu at *
            have hkeep : Keep U K x y l ∨ Keep U K y x l := by rcases HT.out with h | h; exact .inl h.2.keep; exact .inr h.2.keep
            have hph : Phase i l := by rcases HT.out with h | h; exact h.2.phase; exact h.2.phase
            have hx32 : n5 ≤ 32 := by rw [HH.out.n5]; rcases hkeep with h | h; exact rising_len h.n h.rs h.us; exact rising_len h.n h.rr h.ur
            have hy32 : n6 ≤ 32 := by rw [HH.out.n6]; rcases hkeep with h | h; exact rising_len h.n h.rr h.ur; exact rising_len h.n h.rs h.us
            have hll : l.sums.length ≤ 16 ∧ l.items.length ≤ 32 ∧ l.asks.length ≤ 16 := by rcases hkeep with h | h <;> exact h.len
            have hm4 : m4 ≤ 16 := by rw [HL.out.k4]; exact hll.1
            have hm5 : m5 ≤ 32 := by rw [HL.out.k5]; exact hll.2.1
            have hm6 : m6 ≤ 16 := by rw [HL.out.k6]; exact hll.2.2
            have hm4z : ¬ (16 : Int) < (m4 : Int) := by omega
            have hm6z : ¬ (16 : Int) < (m6 : Int) := by omega
            obtain ⟨q, hq⟩ : ∃ q, q = quietB l := ⟨_, rfl⟩
            have HQU := Lib.hid (show ∀ W, Calls Tryd.prog 41 #[.agg (letC M4 m4 e4 M5 m5 e5 M6 m6 e6).toArray] W fun e w' => e = .returned (.bool q) ∧ Below W.heap.size W w' from fun W => by rw [hq]; exact quiet_any M4 m4 e4 M5 m5 e5 M6 m6 e6 l W HL.out.k4 HL.out.k5 HL.out.k6)
            have HQL := Lib.hid hq
            have HPH := Lib.hid hph
            clear hkeep hph hll hq
            have hle : i < 40 ∨ i = 40 := by omega
            have HLE := Lib.hid hle
            clear hle
            by_cases hlt2 : i < 40
            · have hltz2 : (i : Int) < 40 := by omega
              cases q with
              | true =>
                have HOX := Lib.hid (show Out U K (t + 1) x y sh from by
                  rcases HT.out with h | h
                  · exact h.2.out HRK.out HQL.out.symm
                  · exact (h.2.out HRK.out HQL.out.symm).swap)
                go_wp2_with (first
                  | (with_reducible refine wpList_loadW (o := ⟨some 63, _, _, _, _, _⟩) (by with_unfolding_all rfl) 64 (.tmp 10) rfl g10 0 (by with_unfolding_all rfl) (letC M4 m4 e4 M5 m5 e5 M6 m6 e6) _ (HL.out.at_.all) Tryd.underlying64 (by with_unfolding_all rfl) (let_info _ _ _ _ _ _ _ _ _) ?_)
                  | (go_at_call 41; (with_reducible refine Calls.mono (HQU.out _) ?_); rintro e wv ⟨rfl, hb⟩; have HLv := Lib.hid (HL.out.up hb); have HHv := Lib.hid (HH.out.up hb); clear hb)
                  | (with_reducible refine wpList_loadW (o := ⟨some 101, _, _, _, _, _⟩) (by with_unfolding_all rfl) 64 (.tmp 10) rfl g10 0 (by with_unfolding_all rfl) (letC M4 m4 e4 M5 m5 e5 M6 m6 e6) _ (HLv.out.at_.all) Tryd.underlying64 (by with_unfolding_all rfl) (let_info _ _ _ _ _ _ _ _ _) ?_)
                  | (go_at_call 41; (with_reducible refine Calls.mono (HQU.out _) ?_); rintro e wz ⟨rfl, hb⟩; have HLz := Lib.hid (HLv.out.up hb); have HHz := Lib.hid (HHv.out.up hb); clear hb))
                go_roundg (40 - (t + 1))
                case measure => omega
                case rel => exact ⟨t + 1, n5, d5, n6, d6, B5, B6, x, y, sh, rfl, rfl, rfl, by go_num, by omega, Nat.le_refl _, HOX.out, HHz.out⟩
              | false =>
                rcases HT.out with ⟨hw, hin⟩ | ⟨hw, hin⟩
                · subst hw
                  have HIN := Lib.hid hin
                  have HAN := Lib.hid (show ∀ W, Behind wu W → Calls Tryd.prog 42 #[.agg (letC M4 m4 e4 M5 m5 e5 M6 m6 e6).toArray, .slice B6 n6 d6] W fun e w' => Answers l y W e w' from fun W hW => ans_any M4 m4 e4 M5 m5 e5 M6 m6 e6 l B6 d6 n6 y W HL.out.k4 HL.out.k5 HL.out.k6 HH.out.n6 HL.out.kc (HL.out.e4.up hW) (HL.out.e5.up hW) (HL.out.e6.up hW) (HH.out.e6.up hW) (by omega) (by omega) (by omega) (by omega) (HW.out W (Behind.trM HB5.out (Behind.trM HH.out.b hW))))
                  have hk32 := (HIN.out.keep.kept).2
                  clear hin HT
                  go_upto_region 24 with (first
                    | (with_reducible refine wpList_loadW (o := ⟨some 63, _, _, _, _, _⟩) (by with_unfolding_all rfl) 64 (.tmp 10) rfl g10 0 (by with_unfolding_all rfl) (letC M4 m4 e4 M5 m5 e5 M6 m6 e6) _ (HL.out.at_.all) Tryd.underlying64 (by with_unfolding_all rfl) (let_info _ _ _ _ _ _ _ _ _) ?_)
                    | (go_at_call 41; (with_reducible refine Calls.mono (HQU.out _) ?_); rintro e wv ⟨rfl, hb⟩; have HLv := Lib.hid (HL.out.up hb); have HHv := Lib.hid (HH.out.up hb); have HQv := Lib.hid (show Behind wu wv from hb); have cg0 : wv.cell? ⟨g10, 0, none⟩ = some (.slice M4 m4 e4) := HLv.out.at_.cell' (i := 0) rfl; have cg2 : wv.cell? ⟨g10, 2, none⟩ = some (.slice M6 m6 e6) := HLv.out.at_.cell' (i := 2) rfl; clear hb)
                    | (with_reducible refine wpList_loadW (o := ⟨some 82, _, _, _, _, _⟩) (by with_unfolding_all rfl) 64 (.tmp 10) rfl g10 0 (by with_unfolding_all rfl) (letC M4 m4 e4 M5 m5 e5 M6 m6 e6) _ (HLv.out.at_.all) Tryd.underlying64 (by with_unfolding_all rfl) (let_info _ _ _ _ _ _ _ _ _) ?_)
                    | (go_at_call 42; (with_reducible refine Calls.mono (HAN.out _ HQv.out) ?_); rintro e wa ⟨P4, p4, q4, P5, p5, q5, P6, p6, q6, P, pn, pc, rfl, k4, k5, k6, kn, kc, hE4, hE5, hE6, hEP, hb⟩; have HK4 := Lib.hid k4; have HK5 := Lib.hid k5; have HK6 := Lib.hid k6; have HKN := Lib.hid kn; have HKC := Lib.hid kc; have HE4 := Lib.hid hE4; have HE5 := Lib.hid hE5; have HE6 := Lib.hid hE6; have HEP := Lib.hid hEP; have HLa := Lib.hid (HLv.out.up hb); have HHa := Lib.hid (HHv.out.up hb); clear k4 k5 k6 kn kc hE4 hE5 hE6 hEP hb cg0 cg2)
                    | ((with_reducible refine wpList_storeAll rfl 64 (.tmp 10) (.tmp 85) rfl g10 rfl _ _ (letC P4 p4 q4 P5 p5 q5 P6 p6 q6) HLa.out.at_ rfl (by simp) (let_info _ _ _ _ _ _ _ _ _) (let_one _ _ _ _ _ _ _ _ _) ?_); intro wb hat hg hs; have HL2 := Lib.hid (show LetIn wb g10 P4 p4 q4 P5 p5 q5 P6 p6 q6 (ansL l y) from ⟨hat, HK4.out, HK5.out, HK6.out, HKC.out, HE4.out.keep encG_head HLa.out.at_ (let_no _ _ _ _ _ _ _ _ _) hg, HE5.out.keep encR_head HLa.out.at_ (let_no _ _ _ _ _ _ _ _ _) hg, HE6.out.keep encG_head HLa.out.at_ (let_no _ _ _ _ _ _ _ _ _) hg⟩); have HEP2 := Lib.hid (HEP.out.keep encR_head HLa.out.at_ (let_no _ _ _ _ _ _ _ _ _) hg); have HHb := Lib.hid (HHa.out.keep HLa.out.at_ (let_no _ _ _ _ _ _ _ _ _) hg HGL2.out); have HH2 := Lib.hid (show Here w5 wb B5 n5 P pn x (keptR y l.items) from ⟨HHb.out.b, HHb.out.n5, HKN.out, HHb.out.e5, HEP2.out⟩); clear hat hg hs HK4 HK5 HK6 HKN HKC HE4 HE5 HE6 HEP HEP2 HLa HHa HHb))
                  have hpn : pn ≤ 32 := by rw [HH2.out.n6]; exact hk32
                  have HIN2 := Lib.hid (show ∀ v : Bool, (sh = false → v = false → NoVeil x (keptR y l.items)) → Inn U K t (i + 1) (keptR y l.items) x (ansL l y) (sh || v) from fun v hv => HIN.out.step (fun h1 h2 => (hv h1 h2).symm))
                  clear HIN hk32 HL HH
                  cases sh with
                  | true =>
                    go_wp2_with fail
                    go_roundg (40 - (i + 1))
                    case measure => omega
                    case rel => exact ⟨i + 1, 1, n5, d5, pn, pc, p4, q4, p5, q5, p6, q6, B5, P, P4, P5, P6, x, keptR y l.items, ansL l y, true, rfl, rfl, rfl, by go_num, by go_num, by omega, Nat.le_refl _, .inr ⟨rfl, HIN2.out true (fun h => by cases h)⟩, HH2.out, HL2.out⟩
                  | false =>
                    go_wp2_with (first
                      | (go_at_call 39; (with_reducible refine Calls.mono (veiled_any B5 d5 n5 x P pc pn (keptR y l.items) wb HH2.out.n5 HH2.out.n6 HH2.out.e5 HH2.out.e6 (by omega) (by omega) (HW.out _ (Behind.trM HB5.out HH2.out.b))) ?_); rintro e wd ⟨v8, rfl, hv, hb⟩; have HNV := Lib.hid hv; have HL3 := Lib.hid (HL2.out.up hb); have HH3 := Lib.hid (HH2.out.up hb); clear hv hb))
                    go_roundg (40 - (i + 1))
                    case measure => omega
                    case rel => exact ⟨i + 1, 1, n5, d5, pn, pc, p4, q4, p5, q5, p6, q6, B5, P, P4, P5, P6, x, keptR y l.items, ansL l y, v8, rfl, rfl, rfl, by go_num, by go_num, by omega, Nat.le_refl _, .inr ⟨rfl, HIN2.out v8 (fun _ h => HNV.out h)⟩, HH3.out, HL3.out⟩
                · subst hw
                  have HIN := Lib.hid hin
                  have HAN := Lib.hid (show ∀ W, Behind wu W → Calls Tryd.prog 42 #[.agg (letC M4 m4 e4 M5 m5 e5 M6 m6 e6).toArray, .slice B5 n5 d5] W fun e w' => Answers l x W e w' from fun W hW => ans_any M4 m4 e4 M5 m5 e5 M6 m6 e6 l B5 d5 n5 x W HL.out.k4 HL.out.k5 HL.out.k6 HH.out.n5 HL.out.kc (HL.out.e4.up hW) (HL.out.e5.up hW) (HL.out.e6.up hW) (HH.out.e5.up hW) (by omega) (by omega) (by omega) (by omega) (HW.out W (Behind.trM HB5.out (Behind.trM HH.out.b hW))))
                  have hk32 := (HIN.out.keep.kept).2
                  clear hin HT
                  go_upto_region 24 with (first
                    | (with_reducible refine wpList_loadW (o := ⟨some 63, _, _, _, _, _⟩) (by with_unfolding_all rfl) 64 (.tmp 10) rfl g10 0 (by with_unfolding_all rfl) (letC M4 m4 e4 M5 m5 e5 M6 m6 e6) _ (HL.out.at_.all) Tryd.underlying64 (by with_unfolding_all rfl) (let_info _ _ _ _ _ _ _ _ _) ?_)
                    | (go_at_call 41; (with_reducible refine Calls.mono (HQU.out _) ?_); rintro e wv ⟨rfl, hb⟩; have HLv := Lib.hid (HL.out.up hb); have HHv := Lib.hid (HH.out.up hb); have HQv := Lib.hid (show Behind wu wv from hb); have cg0 : wv.cell? ⟨g10, 0, none⟩ = some (.slice M4 m4 e4) := HLv.out.at_.cell' (i := 0) rfl; have cg2 : wv.cell? ⟨g10, 2, none⟩ = some (.slice M6 m6 e6) := HLv.out.at_.cell' (i := 2) rfl; clear hb)
                    | (with_reducible refine wpList_loadW (o := ⟨some 88, _, _, _, _, _⟩) (by with_unfolding_all rfl) 64 (.tmp 10) rfl g10 0 (by with_unfolding_all rfl) (letC M4 m4 e4 M5 m5 e5 M6 m6 e6) _ (HLv.out.at_.all) Tryd.underlying64 (by with_unfolding_all rfl) (let_info _ _ _ _ _ _ _ _ _) ?_)
                    | (go_at_call 42; (with_reducible refine Calls.mono (HAN.out _ HQv.out) ?_); rintro e wa ⟨P4, p4, q4, P5, p5, q5, P6, p6, q6, P, pn, pc, rfl, k4, k5, k6, kn, kc, hE4, hE5, hE6, hEP, hb⟩; have HK4 := Lib.hid k4; have HK5 := Lib.hid k5; have HK6 := Lib.hid k6; have HKN := Lib.hid kn; have HKC := Lib.hid kc; have HE4 := Lib.hid hE4; have HE5 := Lib.hid hE5; have HE6 := Lib.hid hE6; have HEP := Lib.hid hEP; have HLa := Lib.hid (HLv.out.up hb); have HHa := Lib.hid (HHv.out.up hb); clear k4 k5 k6 kn kc hE4 hE5 hE6 hEP hb cg0 cg2)
                    | ((with_reducible refine wpList_storeAll rfl 64 (.tmp 10) (.tmp 91) rfl g10 rfl _ _ (letC P4 p4 q4 P5 p5 q5 P6 p6 q6) HLa.out.at_ rfl (by simp) (let_info _ _ _ _ _ _ _ _ _) (let_one _ _ _ _ _ _ _ _ _) ?_); intro wb hat hg hs; have HL2 := Lib.hid (show LetIn wb g10 P4 p4 q4 P5 p5 q5 P6 p6 q6 (ansL l x) from ⟨hat, HK4.out, HK5.out, HK6.out, HKC.out, HE4.out.keep encG_head HLa.out.at_ (let_no _ _ _ _ _ _ _ _ _) hg, HE5.out.keep encR_head HLa.out.at_ (let_no _ _ _ _ _ _ _ _ _) hg, HE6.out.keep encG_head HLa.out.at_ (let_no _ _ _ _ _ _ _ _ _) hg⟩); have HEP2 := Lib.hid (HEP.out.keep encR_head HLa.out.at_ (let_no _ _ _ _ _ _ _ _ _) hg); have HHb := Lib.hid (HHa.out.keep HLa.out.at_ (let_no _ _ _ _ _ _ _ _ _) hg HGL2.out); have HH2 := Lib.hid (show Here w5 wb P pn B6 n6 (keptR x l.items) y from ⟨HHb.out.b, HKN.out, HHb.out.n6, HEP2.out, HHb.out.e6⟩); clear hat hg hs HK4 HK5 HK6 HKN HKC HE4 HE5 HE6 HEP HEP2 HLa HHa HHb))
                  have hpn : pn ≤ 32 := by rw [HH2.out.n5]; exact hk32
                  have HIN2 := Lib.hid (show ∀ v : Bool, (sh = false → v = false → NoVeil (keptR x l.items) y) → Inn U K t (i + 1) (keptR x l.items) y (ansL l x) (sh || v) from fun v hv => HIN.out.step (fun h1 h2 => hv h1 h2))
                  clear HIN hk32 HL HH
                  cases sh with
                  | true =>
                    go_wp2_with fail
                    go_roundg (40 - (i + 1))
                    case measure => omega
                    case rel => exact ⟨i + 1, 0, pn, pc, n6, d6, p4, q4, p5, q5, p6, q6, P, B6, P4, P5, P6, keptR x l.items, y, ansL l x, true, rfl, rfl, rfl, by go_num, by go_num, by omega, Nat.le_refl _, .inl ⟨rfl, HIN2.out true (fun h => by cases h)⟩, HH2.out, HL2.out⟩
                  | false =>
                    go_wp2_with (first
                      | (go_at_call 39; (with_reducible refine Calls.mono (veiled_any P pc pn (keptR x l.items) B6 d6 n6 y wb HH2.out.n5 HH2.out.n6 HH2.out.e5 HH2.out.e6 (by omega) (by omega) (HW.out _ (Behind.trM HB5.out HH2.out.b))) ?_); rintro e wd ⟨v8, rfl, hv, hb⟩; have HNV := Lib.hid hv; have HL3 := Lib.hid (HL2.out.up hb); have HH3 := Lib.hid (HH2.out.up hb); clear hv hb))
                    go_roundg (40 - (i + 1))
                    case measure => omega
                    case rel => exact ⟨i + 1, 0, pn, pc, n6, d6, p4, q4, p5, q5, p6, q6, P, B6, P4, P5, P6, keptR x l.items, y, ansL l x, v8, rfl, rfl, rfl, by go_num, by go_num, by omega, Nat.le_refl _, .inl ⟨rfl, HIN2.out v8 (fun _ h => HNV.out h)⟩, HH3.out, HL3.out⟩
            · have hltz2 : ¬ (i : Int) < 40 := by omega
              have hqt : q = true := by rw [HQL.out]; exact HPH.out.quiet (by omega)
              subst hqt
              have HOX := Lib.hid (show Out U K (t + 1) x y sh from by
                rcases HT.out with h | h
                · exact h.2.out HRK.out HQL.out.symm
                · exact (h.2.out HRK.out HQL.out.symm).swap)
              go_wp2_with (first
                | (with_reducible refine wpList_loadW (o := ⟨some 101, _, _, _, _, _⟩) (by with_unfolding_all rfl) 64 (.tmp 10) rfl g10 0 (by with_unfolding_all rfl) (letC M4 m4 e4 M5 m5 e5 M6 m6 e6) _ (HL.out.at_.all) Tryd.underlying64 (by with_unfolding_all rfl) (let_info _ _ _ _ _ _ _ _ _) ?_)
                | (go_at_call 41; (with_reducible refine Calls.mono (HQU.out _) ?_); rintro e wz ⟨rfl, hb⟩; have HLz := Lib.hid (HL.out.up hb); have HHz := Lib.hid (HH.out.up hb); clear hb))
              go_roundg (40 - (t + 1))
              case measure => omega
              case rel => exact ⟨t + 1, n5, d5, n6, d6, B5, B6, x, y, sh, rfl, rfl, rfl, by go_num, by omega, Nat.le_refl _, HOX.out, HHz.out⟩
end Go.Proofs.YtefbllhpibfojaaDoor
