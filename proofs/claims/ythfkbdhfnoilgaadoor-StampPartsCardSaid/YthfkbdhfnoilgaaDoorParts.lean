/- Layer 2's statement StampParts: the walk. -/
import Derived.Test.YthfkbdhfnoilgaaDoorPartsA
import Derived.Test.YthfkbdhfnoilgaaDoorBlocks
import Derived.Deep.RegionHeld3
import Derived.Lib.Builder
namespace Go.Proofs.YthfkbdhfnoilgaaDoor
open Go.RowKit

/-- a press of these bytes lies at p; the table stands; nothing older has turned -/
def PartsS (w : World) (p : Nat) (msg : List UInt8) (w' : World) : Prop := PressAt w' p msg ∧ Tab w' 0 (u32s Sha.words) ∧ Below w.heap.size w w'
theorem PartsS.below {w w' w'' : World} {p : Nat} {msg : List UInt8} (h : PartsS w p msg w') (hb : Below w'.heap.size w' w'') : PartsS w p msg w'' :=
  ⟨press_below h.1 hb, h.2.1.below hb h.2.1.lt, h.2.2.trans (hb.mono h.2.2.size)⟩
theorem PartsS.alloc {w w' : World} {p : Nat} {msg : List UInt8} (h : PartsS w p msg w') (o : Obj) : PartsS w p msg (w'.alloc o) := h.below ((Below.refl _ _).alloc (Nat.le_refl _) o)
theorem PartsS.drew {w w' : World} {p : Nat} {msg : List UInt8} (h : PartsS w p msg w') : PartsS w p msg w'.drew := h.below (Below.refl _ _).drew
theorem sum_held {w w' : World} {p : Nat} {msg : List UInt8} (h : PartsS w p msg w') (hlen : msg.length < 1152921504606846976) :
    Calls Tryd.prog 21 #[.pointer (some ⟨p, 0, none⟩)] w' fun e w'' => e = .returned (dgV (Sha.sha msg)) ∧ Below w'.heap.size w' w'' := sum_any p msg w' h.1 hlen h.2.1
theorem len_held {w w' : World} {p : Nat} {msg : List UInt8} (h : PartsS w p msg w') :
    Calls Tryd.prog 22 #[.pointer (some ⟨p, 0, none⟩)] w' fun e w'' => e = .returned (.int .i64 (msg.length : Int)) ∧ Below w'.heap.size w' w'' := by
  obtain ⟨⟨rs, hrs, hat⟩, _, _⟩ := h
  refine (len_any p _ w' (hat.cell' (i := 9) (v := .int .i64 (msg.length : Int)) rfl)).mono ?_
  rintro e w'' ⟨rfl, rfl⟩
  exact ⟨rfl, Below.refl _ _⟩
/-- the digest of one text whose row the region has laid -/
theorem of_held {w w' : World} {p : Nat} {msg : List UInt8} (h : PartsS w p msg w') (s : ByteArray) (t : List UInt8) (ht : s.data.toList = t) (hs : s.size < 1152921504606846976) (b : Nat) (hS : StrsAt w' (some ⟨b, 0, none⟩) [s] w'.heap.size) :
    Calls Tryd.prog 11 #[.slice (some ⟨b, 0, none⟩) 1 1] w' fun e w'' => e = .returned (dgV (Sha.sha t)) ∧ Below w'.heap.size w' w'' := by
  subst ht
  have hfl : flat [s] = s.data.toList := by simp [flat]
  have := of_any (some ⟨b, 0, none⟩) 1 [s] w' hS (by rw [hfl, bytes_length]; exact hs) (by simp) h.2.1
  rw [hfl] at this
  exact this
theorem one_new_strs (w : World) (s : ByteArray) : StrsAt (w.alloc (.cells #[.string s] 9)) (some ⟨w.heap.size, 0, none⟩) [s] (w.alloc (.cells #[.string s] 9)).heap.size := one_str w s _ (by simp)
theorem one_drew_strs (w : World) (s : ByteArray) : StrsAt (w.alloc (.cells #[.string s] 9)).drew (some ⟨w.heap.size, 0, none⟩) [s] (w.alloc (.cells #[.string s] 9)).drew.heap.size := strs_keep (one_new_strs w s) (Below.refl _ _).drew (Nat.le_refl _)
theorem press_grown {w w' : World} {p q : Nat} {m : List UInt8} (h : PressAt w p m) (hg : w.grownBy w' (some q)) (hne : p ≠ q) : PressAt w' p m := by
  obtain ⟨rs, hrs, hat⟩ := h
  exact ⟨rs, hrs, hat.grown hg (by intro e; injection e with e; exact hne e)⟩
/-- the second press has come: it grows, the first one stands -/
theorem PartsS.grown {w w' w'' : World} {p q : Nat} {m : List UInt8} (h : PartsS w p m w') (hg : w'.grownBy w'' (some q)) (hq : w.heap.size ≤ q) (hpq : p ≠ q) (hw0 : 0 < w.heap.size) : PartsS w p m w'' :=
  ⟨press_grown h.1 hg hpq, h.2.1.grown hg (by intro e; injection e; omega), Below.ofGrown h.2.2 hg h.2.2.size hq⟩
theorem zero_eq (w : World) : (binOp .eql 27 (.agg zero32.toArray) (.agg zero32.toArray)).run Tryd.prog w = .ok (.bool true) w := run_eql_dg w (List.replicate 32 0) (List.replicate 32 0) rfl rfl
theorem zero_guard (w : World) (x y : Operand) : (eqGuard .eql 27 x y (.agg zero32.toArray) (.agg zero32.toArray)).run Tryd.prog w = .ok () w := run_eqGuard_dg w .eql x y (List.replicate 32 0) (List.replicate 32 0)
theorem press_ne_self (p : Nat) (w : World) : (binOp .neq 38 (.pointer (some ⟨p, 0, none⟩)) (.pointer (some ⟨p, 0, none⟩))).run Tryd.prog w = .ok (.bool false) w := by
  obtain ⟨j, hj⟩ : ∃ j, Tryd.prog.info? 65 = some j := Option.isSome_iff_exists.1 (by kernel_rfl)
  exact Go.Lib.run_neq_ptr_same _ _ Tryd.underlying38 hj
/-- one text more, whose row the region has laid -/
theorem add_held {w w5 : World} {p : Nat} {m : List UInt8} (h : PartsS w p m w5) (hpw : w.heap.size ≤ p) (hw0 : 0 < w.heap.size) (x : ByteArray) (hlen : m.length + x.size < 4611686018427387904) :
    Calls Tryd.prog 23 #[.pointer (some ⟨p, 0, none⟩), .slice (some ⟨w5.heap.size, 0, none⟩) 1 1] (w5.alloc (.cells #[.string x] 9)) fun e w' =>
      e = .returned (.pointer (some ⟨p, 0, none⟩)) ∧ PartsS w p (m ++ x.data.toList) w' := by
  have hBb := h.2.2.alloc h.2.2.size (.cells #[.string x] 9)
  have hplt := press_lt h.1
  have hw4 := h.2.1.below ((Below.refl _ _).alloc (Nat.le_refl _) (.cells #[.string x] 9)) h.2.1.lt
  have hfl : flat [x] = x.data.toList := by simp [flat]
  have hadd := add_any p m (some ⟨w5.heap.size, 0, none⟩) 1 [x] _ (press_alloc h.1 _) (one_str w5 _ p (by omega)) (by rw [hfl, bytes_length]; omega) (by simp) hw4 (by omega)
  rw [hfl] at hadd
  refine hadd.mono ?_
  rintro e w7 ⟨rfl, hp7, hg7⟩
  have hB7 := Below.ofGrown hBb hg7 hBb.size hpw
  exact ⟨rfl, hp7, hw4.grown hg7 (by intro e; injection e; omega), hB7⟩

set_option maxRecDepth 100000 in
set_option maxHeartbeats 4000000 in
theorem parts_any (A : Option Addr) (c : Nat) (ss : List ByteArray) (w : World) (hs : StrsIn w A ss) (hm : ss.length ≤ maxLen) (hw : Tab w 0 (u32s Sha.words)) :
    Calls Tryd.prog 7 #[.slice A ss.length c] w fun e w' => e = .returned (.bool true) ∧ Below w.heap.size w w' := by
  have HW := Lib.hid hw
  have HS := Lib.hid hs
  have hn' : ss.length ≤ 9223372036854775807 := hm
  have hw0 := HW.out.lt
  clear hw hs
  go_enter Tryd.func7, Tryd.ntmps7
  go_wp2_with fail
  refine (awake_any _ HW.out).mono ?_
  rintro e w1 ⟨rfl, hB1⟩
  have HB1 := Lib.hid hB1
  clear hB1
  go_wp2_with fail
  refine (joined_any A c ss w1 (HS.out.below HB1.out) hm).mono ?_
  rintro e w2 ⟨he, hb2⟩
  have HB2 := Lib.hid (HB1.out.trans (hb2.mono HB1.out.size))
  clear hb2 HB1
  rcases he with rfl | ⟨S, rfl, hsm, hS⟩
  · go_wp2_with fail
    go_ret
    exact ⟨rfl, HB2.out⟩
  have hF : (flat ss).length ≤ 409600 := by
    have h1 := flat_le hsm.2
    have h2 : 4096 * ss.length ≤ 4096 * 100 := Nat.mul_le_mul_left _ hsm.1
    omega
  have HSz := Lib.hid (show S.size = (flat ss).length by rw [← hS, bytes_length])
  have hF2 : S.size ≤ 409600 := by rw [HSz.out]; exact hF
  clear hF
  have HSS := Lib.hid (And.intro hsm hS)
  clear hsm hS
  go_wp2_with fail
  refine (new_any _).mono ?_
  rintro e w3 ⟨p, rfl, hp, hat, hb3⟩
  have HP := Lib.hid (show PartsS w p [] w3 from ⟨press_new hat, HW.out.below (HB2.out.trans (hb3.mono HB2.out.size)) hw0, HB2.out.trans (hb3.mono HB2.out.size)⟩)
  have hpw : w.heap.size ≤ p := Nat.le_trans HB2.out.size hp
  clear HB2 hb3 hp hat
  go_wp2_with fail
  go_loopw [6, 7] (fun n i wr => ∃ k : Nat, k ≤ ss.length ∧ i = .int .i64 k ∧ n = .int .i64 ((flat (ss.take k)).length : Int) ∧ PartsS w p (flat (ss.take k)) wr) (fun _ i _ => ss.length - (intOf i).toNat)
  case atStart => exact ⟨0, by omega, rfl, rfl, HP.out⟩
  case round =>
    obtain ⟨k, hk, rfl, rfl, hh⟩ := hrel
    clear HP
    obtain ⟨m, hm1⟩ : ∃ m, m = flat (ss.take k) := ⟨_, rfl⟩
    rw [← hm1] at hh ⊢
    have hml : m.length ≤ S.size := by rw [hm1, HSz.out]; exact flat_take ss k
    have hpre : (S.extract 0 m.length).data.toList = m := by rw [extract_take, HSS.out.2, hm1, flat_prefix]
    have HM := Lib.hid (And.intro hm1 hpre)
    have HH := Lib.hid hh
    clear hm1 hpre hh
    by_cases hlt : k < ss.length
    · obtain ⟨ad, rfl, hc⟩ := HS.out.cell HH.out.2.2 hlt
      obtain ⟨x, hx⟩ : ∃ x, x = ss[k] := ⟨_, rfl⟩
      rw [← hx] at hc
      have hxs : x.size ≤ 4096 := by rw [hx]; exact HSS.out.1.2 _ (List.getElem_mem hlt)
      have HX := Lib.hid hx
      clear hx
      have i1 : (0 : Int) ≤ (m.length : Int) := by omega
      have i2 : (m.length : Int) ≤ (S.size : Int) := by omega
      have he1 := fun w => run_neq_dg w (Sha.sha m) (Sha.sha m) (sha_length _) (sha_length _)
      simp only [beq_self_eq_true, Bool.not_true] at he1
      have he2 := fun w => run_eqGuard_dg w .neq
      go_wp2_with fail
      have HH' : PartsS w p m wr := HH.out
      go_region_held3 (fun w' => PartsS w p m w')
        (first
          | assumption
          | exact PartsS.drew (by assumption)
          | exact PartsS.below (by assumption) hbx
          | exact PartsS.alloc (by assumption) _)
        (first
          | (go_at_call 21; (with_reducible refine (sum_held (by assumption) (by omega)).mono ?_); rintro e w' ⟨rfl, hbx⟩)
          | (go_at_call 22; (with_reducible refine (len_held (by assumption)).mono ?_); rintro e w' ⟨rfl, hbx⟩)
          | (go_at_call 11; (with_reducible refine (of_held (by assumption) _ m HM.out.2 (by simp; omega) _ (by first | exact one_drew_strs _ _ | exact strs_keep (one_drew_strs _ _) hbx hbx.size | exact one_new_strs _ _ | exact strs_keep (one_new_strs _ _) hbx hbx.size)).mono ?_); rintro e w' ⟨rfl, hbx⟩))
      all_goals
        have hh5 := ‹PartsS w p m _›
        have HH5 := Lib.hid hh5
        obtain ⟨_, e5, hc5⟩ := HS.out.cell HH5.out.2.2 hlt
        cases e5
        rw [← HX.out] at hc5
        clear hc HH hh5 HH' he1 he2
        go_wp2_with fail
        refine (add_held HH5.out hpw hw0 x (by omega)).mono ?_
        rintro e w6 ⟨rfl, hh6⟩
        have HH6 := Lib.hid hh6
        obtain ⟨_, e6, hc6⟩ := HS.out.cell HH6.out.2.2 hlt
        cases e6
        rw [← HX.out] at hc6
        clear hc5 HH5 hh6
        have hpn := press_ne_self p
        go_wp2_with fail
        go_roundw
        case rel =>
          refine ⟨k + 1, by omega, by go_num, ?_, ?_⟩
          · rw [flat_snoc hlt, ← HM.out.1, ← HX.out, List.length_append, bytes_length]
            rfl
          · rw [flat_snoc hlt, ← HM.out.1, ← HX.out]
            exact HH6.out
        case measure => simp [intOf]; omega
    · have hkn : k = ss.length := by omega
      have hmf : m = flat ss := by rw [HM.out.1, hkn, List.take_length]
      subst hmf
      clear HM hk
      go_wp2_with fail
      refine (new_any _).mono ?_
      rintro e w4 ⟨q, rfl, hq, hat, hb4⟩
      have HQ := Lib.hid (press_new hat)
      have HH4 := Lib.hid (HH.out.below hb4)
      have hpq : p ≠ q := by have := press_lt HH.out.1; omega
      have hqw : w.heap.size ≤ q := Nat.le_trans HH.out.2.2.size hq
      clear HH hb4 hat hq
      go_wp2_with fail
      refine (add_any q [] A c ss w4 HQ.out (HS.out.at HH4.out.2.2 hqw) (by simp; omega) (by have := HSS.out.1.1; omega) HH4.out.2.1 (by omega)).mono ?_
      rintro e w5 ⟨rfl, hp5, hg5⟩
      rw [List.nil_append] at hp5
      have HQ5 := Lib.hid hp5
      have HH5 := Lib.hid (HH4.out.grown hg5 hqw hpq hw0)
      clear HQ HH4 hp5 hg5
      go_wp2_with fail
      refine (add_any q (flat ss) none 0 [] w5 HQ5.out (fun h => by simp at h) (by rw [show flat [] = ([] : List UInt8) from rfl, List.length_nil]; omega) (by simp) HH5.out.2.1 (by omega)).mono ?_
      rintro e w6 ⟨rfl, hp6, hg6⟩
      rw [show flat ss ++ flat [] = flat ss by simp [flat]] at hp6
      have HQ6 := Lib.hid hp6
      have HH6 := Lib.hid (HH5.out.grown hg6 hqw hpq hw0)
      clear HQ5 HH5 hp6 hg6
      go_wp2_with fail
      refine (sum_held HH6.out (by omega)).mono ?_
      rintro e w7 ⟨rfl, hb7⟩
      have HQ7 := Lib.hid (press_below HQ6.out hb7)
      have HH7 := Lib.hid (HH6.out.below hb7)
      clear HQ6 HH6 hb7
      go_wp2_with fail
      refine (of_held (HH7.out.alloc _) S (flat ss) HSS.out.2 (by omega) _ (one_new_strs _ _)).mono ?_
      rintro e w8 ⟨rfl, hb8⟩
      have hb8' := ((Below.refl w7.heap.size w7).alloc (Nat.le_refl _) (.cells #[.string S] 9)).trans (hb8.mono (by simp))
      have HQ8 := Lib.hid (press_below HQ7.out hb8')
      have HH8 := Lib.hid (HH7.out.below hb8')
      clear HQ7 HH7 hb8 hb8'
      have he1 := fun w => run_eql_dg w (Sha.sha (flat ss)) (Sha.sha (flat ss)) (sha_length _) (sha_length _)
      simp only [beq_self_eq_true] at he1
      have he2 := fun w => run_eqGuard_dg w .eql
      go_wp2_with fail
      refine (sum_any q (flat ss) _ HQ8.out (by omega) HH8.out.2.1).mono ?_
      rintro e w9 ⟨rfl, hb9⟩
      have HH9 := Lib.hid (HH8.out.below hb9)
      clear HQ8 HH8 hb9
      go_wp2_with fail
      refine (sum_held HH9.out (by omega)).mono ?_
      rintro e w10 ⟨rfl, hb10⟩
      have HH10 := Lib.hid (HH9.out.below hb10)
      clear HH9 hb10
      go_wp2_with fail
      refine (len_held HH10.out).mono ?_
      rintro e w11 ⟨rfl, hb11⟩
      have HH11 := Lib.hid (HH10.out.below hb11)
      clear HH10 hb11
      rw [← HSz.out]
      go_wp2_with fail
      refine (add_nil _ _ _ _).mono ?_
      rintro e w12 ⟨rfl, rfl⟩
      have HH12 := Lib.hid (HH11.out.alloc (.cells #[.string ⟨#[120]⟩] 9))
      clear HH11
      go_wp2_with fail
      refine (sum_nil _).mono ?_
      rintro e w13 ⟨rfl, hb13⟩
      have HH13 := Lib.hid (HH12.out.below hb13)
      clear HH12 hb13 he1 he2
      have he1 := zero_eq
      have he2 := zero_guard
      simp only [zero32] at he1 he2 ⊢
      go_wp2_with fail
      refine (len_nil _).mono ?_
      rintro e w14 ⟨rfl, rfl⟩
      go_wp2_with fail
      go_ret
      exact ⟨rfl, HH13.out.2.2⟩
end Go.Proofs.YthfkbdhfnoilgaaDoor
