/- HazeJoins: the walk. -/
import Derived.Test.YtcpnlojcmlldpaaMixB
import Derived.Test.YtcpnlojcmlldpaaJoinsP
namespace Go.Proofs.Ytcpnlojcmlldpaa
open Go.RowKit Go.Maps Go.Sort

theorem HaveHzInfo {h : List UInt8} (hh : h.length = 64) : (Try.prog.info? 26).map (·.size) = some (u8s h).length := by rw [u8s_len, hh]; kernel_rfl
theorem HaveHzLen {h : List UInt8} (hh : h.length = 64) : (u8s h).length = (u8s Hz.zero).length := by rw [u8s_len, hh]; rfl
theorem join_row {w : World} {g n m k : Nat} {l : List (List UInt8)} (h : RowR 64 l (.slice (some ⟨g, 0, none⟩) n m) w) (h64 : ∀ x ∈ l, x.length = 64) (hn : l.length ≤ maxLen) (c : Nat) {j : List UInt8} (hj : j = Hz.join l) (hk : k = l.length) :
    Calls Try.prog 21 #[.slice (some ⟨g, 0, none⟩) k c] w fun e w' => e = .returned (hzV j) ∧ Below w.heap.size w w' := by
  subst hj hk
  exact join_any _ c l w h.at h64 hn
theorem join_at {w0 w : World} {g k : Nat} {l : List (List UInt8)} (hS : Behind w0 w) (h : BytesIn w (some ⟨g, 0, none⟩) 64 l) (h64 : ∀ x ∈ l, x.length = 64) (hn : l.length ≤ maxLen) (c : Nat) {j : List UInt8} (hj : j = Hz.join l) (hk : k = l.length) :
    Calls Try.prog 21 #[.slice (some ⟨g, 0, none⟩) k c] w fun e w' => e = .returned (hzV j) ∧ Behind w0 w' := by
  subst hj hk
  exact behind_call hS (join_any _ c l w h h64 hn)
theorem made_grown {w w' : World} {w0 : World} {g : Nat} (hb : Behind w0 w) (hg : w0.heap.size ≤ g) (h : w.grownBy w' (some g)) : Behind w0 w' := Below.ofGrown hb h hb.size hg

set_option maxRecDepth 100000 in
set_option maxHeartbeats 1000000 in
theorem joins_any (a b : List UInt8) (A : Option Addr) (c : Nat) (l : List (List UInt8)) (w : World) (ha : a.length = 64) (hb : b.length = 64) (hk : BytesIn w A 32 l) (hk32 : ∀ k ∈ l, k.length = 32) (hlc : l.length ≤ c) (hcm : c ≤ maxLen) (_ : A = none → c = 0) :
    Calls Try.prog 8 #[.agg (u8s a).toArray, .agg (u8s b).toArray, .slice A l.length c] w fun e w' => e = .returned (.bool true) ∧ Below w.heap.size w w' := by
  have hia : (Try.prog.info? 26).map (·.size) = some (u8s a).toArray.size := by
    rw [List.size_toArray, u8s_len, ha]
    kernel_rfl
  have hib : (Try.prog.info? 26).map (·.size) = some (u8s b).toArray.size := by
    rw [List.size_toArray, u8s_len, hb]
    kernel_rfl
  have HUD := Lib.hid Try.underlying23
  have HUH := Lib.hid Try.underlying26
  have HUS := Lib.hid Try.underlying50
  have HIA := Lib.hid (HaveHzInfo ha)
  have HIB := Lib.hid (HaveHzInfo hb)
  have HLA := Lib.hid ha
  have HLB := Lib.hid hb
  have HK := Lib.hid hk
  have HK32 := Lib.hid hk32
  have hn : l.length ≤ 9223372036854775807 := Nat.le_trans hlc hcm
  clear ha hb hk hk32
  go_enter Try.func8, Try.ntmps8
  by_cases h60 : 60 < l.length
  · go_wp2_with fail
    refine (awake_any _).mono ?_
    rintro e w1 ⟨rfl, hb⟩
    have HB1 := Lib.hid hb
    clear hb
    go_wp2_with fail
    go_ret
    exact ⟨rfl, (((Below.refl w.heap.size w).alloc (Nat.le_refl _) (.cells (u8s a).toArray 26)).alloc (by simp) (.cells (u8s b).toArray 26)).trans (HB1.out.mono (by simp; omega))⟩
  go_wp2_with fail
  refine (awake_any _).mono ?_
  rintro e w1 ⟨rfl, hb⟩
  have hA0 : At (w.alloc (.cells (u8s a).toArray 26)) w.heap.size 26 (u8s a) := At.newA w _ rfl
  have hB0 : At ((w.alloc (.cells (u8s a).toArray 26)).alloc (.cells (u8s b).toArray 26)) (w.heap.size + 1) 26 (u8s b) := at_new_at _ _ (by simp) rfl
  have hA1 : At w1 w.heap.size 26 (u8s a) := (hA0.alloc _).below hb (hA0.alloc _).lt
  have hB1 : At w1 (w.heap.size + 1) 26 (u8s b) := hB0.below hb hB0.lt
  have hb01 : Below w.heap.size w w1 := (((Below.refl _ _).alloc (Nat.le_refl _) _).alloc (by simp) _).trans (hb.mono (by simp; omega))
  obtain ⟨qa, hqa⟩ : ∃ qa, qa = w.heap.size := ⟨_, rfl⟩
  obtain ⟨qb, hqb⟩ : ∃ qb, qb = w.heap.size + 1 := ⟨_, rfl⟩
  rw [← hqb] at hB1 ⊢
  rw [← hqa] at hA1 ⊢
  have HA := Lib.hid hA1
  have HB := Lib.hid hB1
  have HB1 := Lib.hid hb01
  clear hA0 hB0 hA1 hB1 hb01 hb hia hib hqa hqb
  go_wp2_with fail
  refine (of_any A c l _ (HK.out.below (Nat.le_refl _) HB1.out HB1.out.size) HK32.out (by unfold maxLen; omega)).mono ?_
  obtain ⟨z, hz⟩ : ∃ z, z = Hz.withKeys Hz.zero l := ⟨_, rfl⟩
  rw [← hz]
  have hzl : z.length = 64 := by rw [hz, Hz.withKeys_len]; rfl
  have HZ := Lib.hid hz
  have HLZ := Lib.hid hzl
  have HIZ := Lib.hid (HaveHzInfo hzl)
  have HZZ := Lib.hid (HaveHzLen hzl)
  clear hz hzl
  rintro e w2 ⟨rfl, hb⟩
  have HA2 := Lib.hid (HA.out.below hb HA.out.lt)
  have HB2 := Lib.hid (HB.out.below hb HB.out.lt)
  have HW2 := Lib.hid (HB1.out.trans (hb.mono HB1.out.size))
  have HZ2 := Lib.hid (show At (w2.alloc (.cells (u8s Hz.zero).toArray 26)) w2.heap.size 26 (u8s Hz.zero) from At.newA w2 _ rfl)
  have HG2 := Lib.hid (fun (w3 : World) (hg3 : (w2.alloc (.cells (u8s Hz.zero).toArray 26)).grownBy w3 (some w2.heap.size)) => show Below w2.heap.size w2 w3 from Below.ofGrown ((Below.refl _ _).alloc (Nat.le_refl _) _) hg3 ((Below.refl _ _).alloc (Nat.le_refl _) _).size (Nat.le_refl _))
  clear hb HA HB HB1
  go_wp2_with (first
    | (refine wpList_storeAll rfl 26 (.tmp 7) (.tmp 17) rfl _ rfl _ (u8s Hz.zero) (u8s z) HZ2.out rfl HZZ.out HIZ.out (u8s_one z) ?_; intro w3 hat3 hg3 hs3))
  have hb3 := HG2.out w3 hg3
  have hA3 := HA2.out.below hb3 HA2.out.lt
  have hB3 := HB2.out.below hb3 HB2.out.lt
  have HW3 := Lib.hid (HW2.out.trans (hb3.mono HW2.out.size))
  obtain ⟨qz, hqz⟩ : ∃ qz, qz = w2.heap.size := ⟨_, rfl⟩
  rw [← hqz] at hat3 ⊢
  simp only [Act.put]
  have HA3 := Lib.hid hA3
  have HB3 := Lib.hid hB3
  have HZ3 := Lib.hid hat3
  have HRA := Lib.hid (fun w' (hb : Behind w3 w') => behind_range hA3 hb)
  have HRB := Lib.hid (fun w' (hb : Behind w3 w') => behind_range hB3 hb)
  have HRZ := Lib.hid (fun w' (hb : Behind w3 w') => behind_range hat3 hb)
  clear hb3 hA3 hB3 hat3 hg3 hs3 hqz HA2 HB2 HW2 HZ2 HG2
  obtain ⟨j1, hj1⟩ : ∃ j, j = Hz.join [b, z] := ⟨_, rfl⟩
  have hl1 : j1.length = 64 := by rw [hj1]; exact Hz.join_len' (Hz.two_len HLB.out HLZ.out)
  obtain ⟨x, hx⟩ : ∃ j, j = Hz.join [a, j1] := ⟨_, rfl⟩
  have hlx : x.length = 64 := by rw [hx]; exact Hz.join_len' (Hz.two_len HLA.out hl1)
  have HJ1 := Lib.hid hj1
  have HX := Lib.hid hx
  have HL1 := Lib.hid hl1
  have HLX := Lib.hid hlx
  have HIX := Lib.hid (HaveHzInfo hlx)
  have HZX := Lib.hid (HaveHzLen hlx)
  have HT1 := Lib.hid (Hz.two_len HLB.out HLZ.out)
  have HT2 := Lib.hid (Hz.two_len HLA.out hl1)
  clear hj1 hx hl1 hlx
  refine wp_region_mixA 7 _ [(0, true), (1, true), (2, true), (3, false), (4, false), (5, false), (6, false)] [(8, false)] (Behind w3) w3.heap.size 26 (u8s Hz.zero) (by rfl) (fun _ => rfl) (fun _ w => exec_hz rfl w) (fun _ _ h hb => behind_up h hb) (fun _ h => h.size)
    (by kernel_rfl) (by kernel_rfl) (fun _ _ d _ _ h => by cases d <;> exact h) (by kernel_rfl) (by kernel_rfl) (by decide) (Below.refl _ _).drew ?_
  iterate 7 (first
    | (with_reducible refine wpMixU_loadAll (by with_unfolding_all rfl) (by with_unfolding_all rfl) 26 _ (by with_unfolding_all rfl) qa 0 (by with_unfolding_all rfl) (u8s a) _ (fun w h => HRA.out w h) HUH.out (by with_unfolding_all rfl) HIA.out ?_; simp only [Act.put, List.setIfInBounds_toArray, List.set_cons_zero, List.set_cons_succ])
    | (with_reducible refine wpMixU_loadAll (by with_unfolding_all rfl) (by with_unfolding_all rfl) 26 _ (by with_unfolding_all rfl) qb 0 (by with_unfolding_all rfl) (u8s b) _ (fun w h => HRB.out w h) HUH.out (by with_unfolding_all rfl) HIB.out ?_; simp only [Act.put, List.setIfInBounds_toArray, List.set_cons_zero, List.set_cons_succ])
    | (with_reducible refine wpMixU_loadAll (by with_unfolding_all rfl) (by with_unfolding_all rfl) 26 _ (by with_unfolding_all rfl) qz 0 (by with_unfolding_all rfl) (u8s z) _ (fun w h => HRZ.out w h) HUH.out (by with_unfolding_all rfl) HIZ.out ?_; simp only [Act.put, List.setIfInBounds_toArray, List.set_cons_zero, List.set_cons_succ])
    | (with_reducible refine wpMixU_rows 50 26 64 [b, z] _ (by with_unfolding_all rfl) (by with_unfolding_all rfl) (by with_unfolding_all rfl) HUS.out info_hz1 (by omega) (by simp) (by simp) HT1.out (by with_unfolding_all rfl) ?_; intro g1; simp only [Act.put, List.setIfInBounds_toArray, List.set_cons_zero, List.set_cons_succ])
    | (with_reducible refine wpMixU_call 21 [.slice (some ⟨g1, 0, none⟩) 2 2] (hzV j1) (by with_unfolding_all rfl) (by with_unfolding_all rfl) (fun _ => by kernel_rfl) (fun w hS hF => join_row hF.2 HT1.out (by simp [maxLen]) 2 HJ1.out (by with_unfolding_all rfl)) ?_; simp only [Act.put, List.setIfInBounds_toArray, List.set_cons_zero, List.set_cons_succ])
    | (with_reducible refine wpMixU_rows 50 26 64 [a, j1] _ (by with_unfolding_all rfl) (by with_unfolding_all rfl) (by with_unfolding_all rfl) HUS.out info_hz1 (by omega) (by simp) (by simp) HT2.out (by with_unfolding_all rfl) ?_; intro g2; simp only [Act.put, List.setIfInBounds_toArray, List.set_cons_zero, List.set_cons_succ])
    | (with_reducible refine wpMixU_call 21 [.slice (some ⟨g2, 0, none⟩) 2 2] (hzV x) (by with_unfolding_all rfl) (by with_unfolding_all rfl) (fun _ => by kernel_rfl) (fun w hS hF => join_row hF.2 HT2.out (by simp [maxLen]) 2 HX.out (by with_unfolding_all rfl)) ?_; simp only [Act.put, List.setIfInBounds_toArray, List.set_cons_zero, List.set_cons_succ])
    )
  intro u wc hS' hF hM
  obtain ⟨qn, rfl, hq, hat⟩ := hM
  simp only [Act.put, List.setIfInBounds_toArray, List.set_cons_zero, List.set_cons_succ]
  refine wpMix_storeAll (by with_unfolding_all rfl) (by with_unfolding_all rfl) 26 _ _ (by with_unfolding_all rfl) qn (by with_unfolding_all rfl) 26 (u8s Hz.zero) (u8s x) hat (by with_unfolding_all rfl) HZX.out HIX.out (u8s_one x) (fun w' hg => made_grown hS' hq hg) ?_
  intro w5 hatw5 hgw5 hbw5
  clear hgw5 hS' hF hq hat
  simp only [Act.put]
  refine wpMix_nil ?_
  have hA5 := HA3.out.below hbw5 HA3.out.lt
  have hB5 := HB3.out.below hbw5 HB3.out.lt
  have hZ5 := HZ3.out.below hbw5 HZ3.out.lt
  have HW5 := Lib.hid (HW3.out.trans (hbw5.mono HW3.out.size))
  obtain ⟨qx, hqx⟩ : ∃ q, q = qn := ⟨_, rfl⟩
  subst hqx
  have HA5 := Lib.hid hA5
  have HB5 := Lib.hid hB5
  have HX5 := Lib.hid hatw5
  have HRA5 := Lib.hid (fun w' (hb : Behind w5 w') => behind_range hA5 hb)
  have HRB5 := Lib.hid (fun w' (hb : Behind w5 w') => behind_range hB5 hb)
  have HRZ5 := Lib.hid (fun w' (hb : Behind w5 w') => behind_range hZ5 hb)
  clear hA5 hB5 hZ5 hatw5 hbw5 HA3 HB3 HZ3 HRA HRB HRZ HW3 wc w3
  obtain ⟨j2, hj2⟩ : ∃ j, j = Hz.join [z, a] := ⟨_, rfl⟩
  have hl2 : j2.length = 64 := by rw [hj2]; exact Hz.join_len' (Hz.two_len HLZ.out HLA.out)
  have HJ2 := Lib.hid hj2
  have HT3 := Lib.hid (Hz.two_len HLZ.out HLA.out)
  have HT4 := Lib.hid (Hz.three_len hl2 HLB.out HLB.out)
  have HY := Lib.hid (show x = Hz.join [j2, b, b] by rw [HX.out, HJ1.out, hj2]; exact Hz.joins_xy HLA.out HLB.out HLZ.out)
  clear hj2 hl2
  go_wp2_with fail
  refine wp_region_mixA 8 _ [(0, true), (1, true), (4, true), (5, true), (2, false), (3, false), (6, false), (7, false)] [(9, false)] (Behind w5) w5.heap.size 26 (u8s Hz.zero) (by rfl) (fun _ => rfl) (fun _ w => exec_hz rfl w) (fun _ _ h hb => behind_up h hb) (fun _ h => h.size)
    (by kernel_rfl) (by kernel_rfl) (fun _ _ d _ _ h => by cases d <;> exact h) (by kernel_rfl) (by kernel_rfl) (by decide) (Below.refl _ _).drew ?_
  iterate 8 (first
    | (with_reducible refine wpMixU_loadAll (by with_unfolding_all rfl) (by with_unfolding_all rfl) 26 _ (by with_unfolding_all rfl) qa 0 (by with_unfolding_all rfl) (u8s a) _ (fun w h => HRA5.out w h) HUH.out (by with_unfolding_all rfl) HIA.out ?_; simp only [Act.put, List.setIfInBounds_toArray, List.set_cons_zero, List.set_cons_succ])
    | (with_reducible refine wpMixU_loadAll (by with_unfolding_all rfl) (by with_unfolding_all rfl) 26 _ (by with_unfolding_all rfl) qb 0 (by with_unfolding_all rfl) (u8s b) _ (fun w h => HRB5.out w h) HUH.out (by with_unfolding_all rfl) HIB.out ?_; simp only [Act.put, List.setIfInBounds_toArray, List.set_cons_zero, List.set_cons_succ])
    | (with_reducible refine wpMixU_loadAll (by with_unfolding_all rfl) (by with_unfolding_all rfl) 26 _ (by with_unfolding_all rfl) qz 0 (by with_unfolding_all rfl) (u8s z) _ (fun w h => HRZ5.out w h) HUH.out (by with_unfolding_all rfl) HIZ.out ?_; simp only [Act.put, List.setIfInBounds_toArray, List.set_cons_zero, List.set_cons_succ])
    | (with_reducible refine wpMixU_rows 50 26 64 [z, a] _ (by with_unfolding_all rfl) (by with_unfolding_all rfl) (by with_unfolding_all rfl) HUS.out info_hz1 (by omega) (by simp) (by simp) HT3.out (by with_unfolding_all rfl) ?_; intro g3; simp only [Act.put, List.setIfInBounds_toArray, List.set_cons_zero, List.set_cons_succ])
    | (with_reducible refine wpMixU_call 21 [.slice (some ⟨g3, 0, none⟩) 2 2] (hzV j2) (by with_unfolding_all rfl) (by with_unfolding_all rfl) (fun _ => by with_unfolding_all rfl) (fun w hS hF => join_row hF.2 HT3.out (by simp [maxLen]) 2 HJ2.out (by with_unfolding_all rfl)) ?_; simp only [Act.put, List.setIfInBounds_toArray, List.set_cons_zero, List.set_cons_succ])
    | (with_reducible refine wpMixU_rows 50 26 64 [j2, b, b] _ (by with_unfolding_all rfl) (by with_unfolding_all rfl) (by with_unfolding_all rfl) HUS.out info_hz1 (by omega) (by simp) (by simp) HT4.out (by with_unfolding_all rfl) ?_; intro g4; simp only [Act.put, List.setIfInBounds_toArray, List.set_cons_zero, List.set_cons_succ])
    | (with_reducible refine wpMixU_call 21 [.slice (some ⟨g4, 0, none⟩) 3 3] (hzV x) (by with_unfolding_all rfl) (by with_unfolding_all rfl) (fun _ => by with_unfolding_all rfl) (fun w hS hF => join_row hF.2 HT4.out (by simp [maxLen]) 3 HY.out (by with_unfolding_all rfl)) ?_; simp only [Act.put, List.setIfInBounds_toArray, List.set_cons_zero, List.set_cons_succ])
    )
  intro u wc hS' hF hM
  obtain ⟨qn, rfl, hq, hat⟩ := hM
  simp only [Act.put, List.setIfInBounds_toArray, List.set_cons_zero, List.set_cons_succ]
  refine wpMix_storeAll (by with_unfolding_all rfl) (by with_unfolding_all rfl) 26 _ _ (by with_unfolding_all rfl) qn (by with_unfolding_all rfl) 26 (u8s Hz.zero) (u8s x) hat (by with_unfolding_all rfl) HZX.out HIX.out (u8s_one x) (fun w' hg => made_grown hS' hq hg) ?_
  intro w7 hatw7 hgw7 hbw7
  clear hgw7 hS' hF hq hat
  simp only [Act.put]
  refine wpMix_nil ?_
  have hA7 := HA5.out.below hbw7 HA5.out.lt
  have hB7 := HB5.out.below hbw7 HB5.out.lt
  have hX7 := HX5.out.below hbw7 HX5.out.lt
  have HW7 := Lib.hid (HW5.out.trans (hbw7.mono HW5.out.size))
  obtain ⟨qy, hqy⟩ : ∃ q, q = qn := ⟨_, rfl⟩
  subst hqy
  have HA7 := Lib.hid hA7
  have HB7 := Lib.hid hB7
  have HX7 := Lib.hid hX7
  have HRA7 := Lib.hid (fun w' (hb : Behind w7 w') => behind_range hA7 hb)
  have HRB7 := Lib.hid (fun w' (hb : Behind w7 w') => behind_range hB7 hb)
  have HRX7 := Lib.hid (fun w' (hb : Behind w7 w') => behind_range hX7 hb)
  have HRY7 := Lib.hid (fun w' (hb : Behind w7 w') => behind_range hatw7 hb)
  clear hA7 hB7 hX7 hatw7 hbw7 HA5 HB5 HX5 HRA5 HRB5 HRZ5 HW5 wc w5
  obtain ⟨j3, hj3⟩ : ∃ j, j = Hz.join [a, b] := ⟨_, rfl⟩
  have hl3 : j3.length = 64 := by rw [hj3]; exact Hz.join_len' (Hz.two_len HLA.out HLB.out)
  have HJ3 := Lib.hid hj3
  have HL3 := Lib.hid hl3
  have HT5 := Lib.hid (Hz.two_len HLA.out HLB.out)
  have HT6 := Lib.hid (Hz.two_len HLX.out HLX.out)
  have HT7 := Lib.hid (Hz.one_len HLA.out)
  have HXX := Lib.hid (Hz.join_self HLX.out).symm
  have HAA := Lib.hid (Hz.join_one HLA.out).symm
  have HWX := Lib.hid (show Hz.withKeys j3 l = x by rw [hj3, HX.out, HJ1.out, HZ.out]; exact Hz.joins_with HLA.out HLB.out l)
  have HCW := Lib.hid (fun w' (hb : Behind w7 w') => behind_call (v := hzV x) hb ((with_any j3 HL3.out A c l w' (HK.out.below (Nat.le_refl _) (HW7.out.trans (Below.mono hb HW7.out.size)) (Nat.le_trans HW7.out.size hb.size)) HK32.out (by unfold maxLen; omega)).mono (fun _ _ he => ⟨by rw [he.1, HWX.out], he.2⟩)))
  have HN1 := Lib.hid (fun w => by have := run_neq_hz w x x HLX.out HLX.out; simp only [beq_self_eq_true, Bool.not_true] at this; exact this)
  have HN2 := Lib.hid (fun w => by have := run_neq_hz w a a HLA.out HLA.out; simp only [beq_self_eq_true, Bool.not_true] at this; exact this)
  clear hj3 hl3
  go_wp2_with fail
  refine wp_region_mix [(0, true), (1, true), (2, true), (3, true), (4, true), (5, true), (8, true), (10, true), (6, false), (7, false), (9, false), (11, true), (12, true), (13, true), (14, true), (15, true), (18, true), (16, false), (17, false), (19, true), (20, true), (21, true), (22, true), (25, true), (23, false), (24, false), (26, true), (27, true)] (Behind w7)
    (by kernel_rfl) (by kernel_rfl) (fun _ _ d _ _ h => by cases d <;> exact h) (by kernel_rfl) (by decide) (Below.refl _ _).drew ?_
  have hS' : Behind w7 w7.drew := (Below.refl _ _).drew
  iterate 28 (first
    | (with_reducible refine wpMix_loadAll (by with_unfolding_all rfl) (by with_unfolding_all rfl) 26 _ (by with_unfolding_all rfl) qa (0) (by with_unfolding_all rfl) (u8s a) _ (fun w h => HRA7.out w h) HUH.out (by with_unfolding_all rfl) HIA.out ?_; simp only [Act.put, List.setIfInBounds_toArray, List.set_cons_zero, List.set_cons_succ])
    | (with_reducible refine wpMix_loadAll (by with_unfolding_all rfl) (by with_unfolding_all rfl) 26 _ (by with_unfolding_all rfl) qb (0) (by with_unfolding_all rfl) (u8s b) _ (fun w h => HRB7.out w h) HUH.out (by with_unfolding_all rfl) HIB.out ?_; simp only [Act.put, List.setIfInBounds_toArray, List.set_cons_zero, List.set_cons_succ])
    | (with_reducible refine wpMix_loadAll (by with_unfolding_all rfl) (by with_unfolding_all rfl) 26 _ (by with_unfolding_all rfl) qx (0) (by with_unfolding_all rfl) (u8s x) _ (fun w h => HRX7.out w h) HUH.out (by with_unfolding_all rfl) HIX.out ?_; simp only [Act.put, List.setIfInBounds_toArray, List.set_cons_zero, List.set_cons_succ])
    | (with_reducible refine wpMix_loadAll (by with_unfolding_all rfl) (by with_unfolding_all rfl) 26 _ (by with_unfolding_all rfl) qy (0) (by with_unfolding_all rfl) (u8s x) _ (fun w h => HRY7.out w h) HUH.out (by with_unfolding_all rfl) HIX.out ?_; simp only [Act.put, List.setIfInBounds_toArray, List.set_cons_zero, List.set_cons_succ])
    | (with_reducible refine wpMix_bin (by with_unfolding_all rfl) (by with_unfolding_all rfl) .neq 26 _ _ _ (by with_unfolding_all rfl) (hzV x) (hzV x) (.bool false) (by with_unfolding_all rfl) (by with_unfolding_all rfl) (fun w => run_eqGuard_hz w _ _ _ _ _) (fun w => HN1.out w) ?_; simp only [Act.put, List.setIfInBounds_toArray, List.set_cons_zero, List.set_cons_succ])
    | (with_reducible refine wpMix_bin (by with_unfolding_all rfl) (by with_unfolding_all rfl) .neq 26 _ _ _ (by with_unfolding_all rfl) (hzV a) (hzV a) (.bool false) (by with_unfolding_all rfl) (by with_unfolding_all rfl) (fun w => run_eqGuard_hz w _ _ _ _ _) (fun w => HN2.out w) ?_; simp only [Act.put, List.setIfInBounds_toArray, List.set_cons_zero, List.set_cons_succ])
    | (with_reducible refine wpMix_rows 50 26 64 [a, b] _ (by with_unfolding_all rfl) (by with_unfolding_all rfl) (by with_unfolding_all rfl) HUS.out info_hz1 (by omega) (by simp) (by simp) HT5.out (by with_unfolding_all rfl) (fun o => behind_alloc hS' o) ?_; clear hS'; (try clear hrow); intro g5 wc hS' hbb hrow; clear hbb; simp only [Act.put, List.setIfInBounds_toArray, List.set_cons_zero, List.set_cons_succ])
    | (with_reducible refine wpMix_callv 21 [.slice (some ⟨g5, 0, none⟩) 2 2] (hzV j3) (by with_unfolding_all rfl) (by with_unfolding_all rfl) (by with_unfolding_all rfl) (join_at hS' hrow HT5.out (by simp [maxLen]) 2 HJ3.out (by with_unfolding_all rfl)) ?_; clear hS'; intro wc hS'; simp only [Act.put, List.setIfInBounds_toArray, List.set_cons_zero, List.set_cons_succ])
    | (with_reducible refine wpMix_callv 22 [hzV j3, .slice A l.length c] (hzV x) (by with_unfolding_all rfl) (by with_unfolding_all rfl) (by with_unfolding_all rfl) (HCW.out _ hS') ?_; clear hS'; intro wc hS'; simp only [Act.put, List.setIfInBounds_toArray, List.set_cons_zero, List.set_cons_succ])
    | (with_reducible refine wpMix_rows 50 26 64 [x, x] _ (by with_unfolding_all rfl) (by with_unfolding_all rfl) (by with_unfolding_all rfl) HUS.out info_hz1 (by omega) (by simp) (by simp) HT6.out (by with_unfolding_all rfl) (fun o => behind_alloc hS' o) ?_; clear hS'; (try clear hrow); intro g6 wc hS' hbb hrow; clear hbb; simp only [Act.put, List.setIfInBounds_toArray, List.set_cons_zero, List.set_cons_succ])
    | (with_reducible refine wpMix_callv 21 [.slice (some ⟨g6, 0, none⟩) 2 2] (hzV x) (by with_unfolding_all rfl) (by with_unfolding_all rfl) (by with_unfolding_all rfl) (join_at hS' hrow HT6.out (by simp [maxLen]) 2 HXX.out (by with_unfolding_all rfl)) ?_; clear hS'; intro wc hS'; simp only [Act.put, List.setIfInBounds_toArray, List.set_cons_zero, List.set_cons_succ])
    | (with_reducible refine wpMix_rows 50 26 64 [a] _ (by with_unfolding_all rfl) (by with_unfolding_all rfl) (by with_unfolding_all rfl) HUS.out info_hz1 (by omega) (by simp) (by simp) HT7.out (by with_unfolding_all rfl) (fun o => behind_alloc hS' o) ?_; clear hS'; (try clear hrow); intro g7 wc hS' hbb hrow; clear hbb; simp only [Act.put, List.setIfInBounds_toArray, List.set_cons_zero, List.set_cons_succ])
    | (with_reducible refine wpMix_callv 21 [.slice (some ⟨g7, 0, none⟩) 1 1] (hzV a) (by with_unfolding_all rfl) (by with_unfolding_all rfl) (by with_unfolding_all rfl) (join_at hS' hrow HT7.out (by simp [maxLen]) 1 HAA.out (by with_unfolding_all rfl)) ?_; clear hS'; intro wc hS'; simp only [Act.put, List.setIfInBounds_toArray, List.set_cons_zero, List.set_cons_succ])
    | (with_reducible refine wpMix_val (.bool false) (by with_unfolding_all rfl) (by with_unfolding_all rfl) (fun w _ => by with_unfolding_all rfl) ?_; simp only [Act.put, List.setIfInBounds_toArray, List.set_cons_zero, List.set_cons_succ])
    | (with_reducible refine wpMix_val (.slice A l.length c) (by with_unfolding_all rfl) (by with_unfolding_all rfl) (fun w _ => by with_unfolding_all rfl) ?_; simp only [Act.put, List.setIfInBounds_toArray, List.set_cons_zero, List.set_cons_succ])
    | done)
  refine wpMix_nil ?_
  have HW8 := Lib.hid (HW7.out.trans (Below.mono hS' HW7.out.size))
  have HA8 := Lib.hid (HA7.out.below hS' HA7.out.lt)
  have HB8 := Lib.hid (HB7.out.below hS' HB7.out.lt)
  have HX8 := Lib.hid (HX7.out.below hS' HX7.out.lt)
  clear hrow hS' HA7 HB7 HX7 HRA7 HRB7 HRX7 HRY7 HCW HW7
  obtain ⟨j4, hj4⟩ : ∃ j, j = Hz.join [b, a] := ⟨_, rfl⟩
  have hl4 : j4.length = 64 := by rw [hj4]; exact Hz.join_len' (Hz.two_len HLB.out HLA.out)
  have HJ4 := Lib.hid hj4
  have HL4 := Lib.hid hl4
  have HT8 := Lib.hid (Hz.two_len HLB.out HLA.out)
  have HXF := Lib.hid (show x = Hz.join [a, Hz.join [b, Hz.withKeys Hz.zero l]] by rw [HX.out, HJ1.out, HZ.out])
  clear hj4 hl4 HT1 HT2 HT3 HT4 HT5 HT6 HT7 HY HXX HAA HWX HN1 HN2
  go_wp2_with fail
  go_loopw [10] (fun i wr => ∃ n : Nat, n ≤ l.length ∧ i = .int .i64 n ∧ Below wc.heap.size wc wr) (fun i _ => l.length - (RowKit.intOf i).toNat)
  case atStart => exact ⟨0, by omega, rfl, Below.refl _ _⟩
  case round =>
    obtain ⟨n, hnl, rfl, hb⟩ := hrel
    by_cases hlt : n < l.length
    · obtain ⟨k, hkn⟩ : ∃ k, k = l[n] := ⟨_, rfl⟩
      have hmem : k ∈ l := by rw [hkn]; exact List.getElem_mem hlt
      have hk32 : k.length = 32 := HK32.out _ hmem
      obtain ⟨g, off, rfl, hgl, hc⟩ := HK.out (by omega)
      have hbw : Below w.heap.size w wr := HW8.out.trans (hb.mono HW8.out.size)
      have hA := HA8.out.below hb HA8.out.lt
      have hB := HB8.out.below hb HB8.out.lt
      have hX := HX8.out.below hb HX8.out.lt
      have HRA := Lib.hid (fun w' (h : Behind wr w') => behind_range hA h)
      have HRB := Lib.hid (fun w' (h : Behind wr w') => behind_range hB h)
      have HRX := Lib.hid (fun w' (h : Behind wr w') => behind_range hX h)
      have HRK := Lib.hid (show ∀ w', Behind wr w' → w'.rangeAt g (off + n * 32) (u8s k) from fun w' h j v hv => by
        rw [hkn] at hv
        exact ((hbw.trans (Below.mono h hbw.size)).cell (p := ⟨g, off + n * 32 + j, none⟩) hgl).trans (hc n hlt j v hv))
      have HIK := Lib.hid (show (Try.prog.info? 23).map (·.size) = some (u8s k).length by rw [u8s_len, hk32]; kernel_rfl)
      have HC1 := Lib.hid (fun w' (h : Behind wr w') => behind_call (v := .bool true) h ((has_any x k HLX.out hk32 w').mono (fun _ _ he => ⟨by rw [he.1, HXF.out, Hz.joins_has HLA.out HLB.out hmem], he.2⟩)))
      have HC2 := Lib.hid (fun (t : Bool) (ht : Hz.has a k = t) w' (h : Behind wr w') => behind_call (v := .bool t) h ((has_any a k HLA.out hk32 w').mono (fun _ _ he => ⟨by rw [he.1, ht], he.2⟩)))
      have HC3 := Lib.hid (fun (ht : Hz.has a k = true) w' (h : Behind wr w') => behind_call (v := .bool true) h ((has_any j4 k HL4.out hk32 w').mono (fun _ _ he => ⟨by rw [he.1, HJ4.out, Hz.joins_mono HLA.out HLB.out ht], he.2⟩)))
      have HBr := Lib.hid hb
      have i1 : (0 : Int) ≤ (n : Int) := by omega
      have i2 : (n : Int) < (l.length : Int) := by omega
      clear hA hB hX hbw hb hc hkn hmem hk32
      cases hak : Hz.has a k
      · have HAK := Lib.hid hak
        clear hak
        go_wp2_with fail
        refine wp_region_mix [(0, true), (1, true), (2, true), (3, true), (4, true), (5, false), (6, true), (7, true), (8, true), (9, true), (10, true), (11, true), (12, true), (13, false), (14, true), (15, true), (16, true), (19, true), (20, true), (21, true), (22, true), (17, false), (18, false), (23, false), (24, true), (25, true), (26, true)] (Behind wr)
          (by kernel_rfl) (by kernel_rfl) (fun _ _ d _ _ h => by cases d <;> exact h) (by kernel_rfl) (by decide) (Below.refl _ _).drew ?_
        have hS' : Behind wr wr.drew := (Below.refl _ _).drew
        iterate 27 (first
            | (with_reducible refine wpMix_loadAll (by with_unfolding_all rfl) (by with_unfolding_all rfl) 26 _ (by with_unfolding_all rfl) qx (0) (by with_unfolding_all rfl) (u8s x) _ (fun w h => HRX.out w h) HUH.out (by with_unfolding_all rfl) HIX.out ?_; simp only [Act.put, List.setIfInBounds_toArray, List.set_cons_zero, List.set_cons_succ])
            | (with_reducible refine wpMix_loadAll (by with_unfolding_all rfl) (by with_unfolding_all rfl) 26 _ (by with_unfolding_all rfl) qa (0) (by with_unfolding_all rfl) (u8s a) _ (fun w h => HRA.out w h) HUH.out (by with_unfolding_all rfl) HIA.out ?_; simp only [Act.put, List.setIfInBounds_toArray, List.set_cons_zero, List.set_cons_succ])
            | (with_reducible refine wpMix_loadAll (by with_unfolding_all rfl) (by with_unfolding_all rfl) 26 _ (by with_unfolding_all rfl) qb (0) (by with_unfolding_all rfl) (u8s b) _ (fun w h => HRB.out w h) HUH.out (by with_unfolding_all rfl) HIB.out ?_; simp only [Act.put, List.setIfInBounds_toArray, List.set_cons_zero, List.set_cons_succ])
            | (with_reducible refine wpMix_loadAll (by with_unfolding_all rfl) (by with_unfolding_all rfl) 23 _ (by with_unfolding_all rfl) g (off + n * 32) (by with_unfolding_all rfl) (u8s k) _ (fun w h => HRK.out w h) HUD.out (by with_unfolding_all rfl) HIK.out ?_; simp only [Act.put, List.setIfInBounds_toArray, List.set_cons_zero, List.set_cons_succ])
            | (with_reducible refine wpMix_callv 11 [hzV x, .agg (u8s k).toArray] (.bool true) (by with_unfolding_all rfl) (by with_unfolding_all rfl) (by with_unfolding_all rfl) (HC1.out _ hS') ?_; clear hS'; intro wc hS'; simp only [Act.put, List.setIfInBounds_toArray, List.set_cons_zero, List.set_cons_succ])
            | (with_reducible refine wpMix_not (by with_unfolding_all rfl) (by with_unfolding_all rfl) ?_; simp only [Act.put, List.setIfInBounds_toArray, List.set_cons_zero, List.set_cons_succ])
            | (with_reducible refine wpMix_skip (by with_unfolding_all rfl) (by with_unfolding_all rfl) hS' ?_; simp only [Act.put, List.setIfInBounds_toArray, List.set_cons_zero, List.set_cons_succ])
            | (with_reducible refine wpMix_callv 11 [hzV a, .agg (u8s k).toArray] (.bool false) (by with_unfolding_all rfl) (by with_unfolding_all rfl) (by with_unfolding_all rfl) (HC2.out false HAK.out _ hS') ?_; clear hS'; intro wc hS'; simp only [Act.put, List.setIfInBounds_toArray, List.set_cons_zero, List.set_cons_succ])
            | (with_reducible refine wpMix_val (.bool false) (by with_unfolding_all rfl) (by with_unfolding_all rfl) (fun w _ => by with_unfolding_all rfl) ?_; simp only [Act.put, List.setIfInBounds_toArray, List.set_cons_zero, List.set_cons_succ])
            | (with_reducible refine wpMix_val (.bool true) (by with_unfolding_all rfl) (by with_unfolding_all rfl) (fun w _ => by with_unfolding_all rfl) ?_; simp only [Act.put, List.setIfInBounds_toArray, List.set_cons_zero, List.set_cons_succ])
            | (with_reducible refine wpMix_val (.slice (some ⟨g, off, none⟩) l.length c) (by with_unfolding_all rfl) (by with_unfolding_all rfl) (fun w _ => by with_unfolding_all rfl) ?_; simp only [Act.put, List.setIfInBounds_toArray, List.set_cons_zero, List.set_cons_succ])
            | (with_reducible refine wpMix_val (.int .i64 n) (by with_unfolding_all rfl) (by with_unfolding_all rfl) (fun w _ => by with_unfolding_all rfl) ?_; simp only [Act.put, List.setIfInBounds_toArray, List.set_cons_zero, List.set_cons_succ])
            | (with_reducible refine wpMix_val (.pointer (some ⟨g, off + n * 32, none⟩)) (by with_unfolding_all rfl) (by with_unfolding_all rfl) (fun w _ => by go_simp) ?_; simp only [Act.put, List.setIfInBounds_toArray, List.set_cons_zero, List.set_cons_succ])
            | done)
        refine wpMix_nil ?_
        have HBr' := Lib.hid (HBr.out.trans (Below.mono hS' HBr.out.size))
        clear hS'
        go_wp2_with fail
        go_roundw
        case rel => exact ⟨n + 1, by omega, by go_num, HBr'.out⟩
        case measure => simp [RowKit.intOf]; omega
      · have HAK := Lib.hid hak
        clear hak
        go_wp2_with fail
        refine wp_region_mix [(0, true), (1, true), (2, true), (3, true), (4, true), (5, false), (6, true), (7, true), (8, true), (9, true), (10, true), (11, true), (12, true), (13, false), (14, true), (15, true), (16, true), (19, true), (20, true), (21, true), (22, true), (17, false), (18, false), (23, false), (24, true), (25, true), (26, true)] (Behind wr)
          (by kernel_rfl) (by kernel_rfl) (fun _ _ d _ _ h => by cases d <;> exact h) (by kernel_rfl) (by decide) (Below.refl _ _).drew ?_
        have hS' : Behind wr wr.drew := (Below.refl _ _).drew
        iterate 27 (first
            | (with_reducible refine wpMix_loadAll (by with_unfolding_all rfl) (by with_unfolding_all rfl) 26 _ (by with_unfolding_all rfl) qx (0) (by with_unfolding_all rfl) (u8s x) _ (fun w h => HRX.out w h) HUH.out (by with_unfolding_all rfl) HIX.out ?_; simp only [Act.put, List.setIfInBounds_toArray, List.set_cons_zero, List.set_cons_succ])
            | (with_reducible refine wpMix_loadAll (by with_unfolding_all rfl) (by with_unfolding_all rfl) 26 _ (by with_unfolding_all rfl) qa (0) (by with_unfolding_all rfl) (u8s a) _ (fun w h => HRA.out w h) HUH.out (by with_unfolding_all rfl) HIA.out ?_; simp only [Act.put, List.setIfInBounds_toArray, List.set_cons_zero, List.set_cons_succ])
            | (with_reducible refine wpMix_loadAll (by with_unfolding_all rfl) (by with_unfolding_all rfl) 26 _ (by with_unfolding_all rfl) qb (0) (by with_unfolding_all rfl) (u8s b) _ (fun w h => HRB.out w h) HUH.out (by with_unfolding_all rfl) HIB.out ?_; simp only [Act.put, List.setIfInBounds_toArray, List.set_cons_zero, List.set_cons_succ])
            | (with_reducible refine wpMix_loadAll (by with_unfolding_all rfl) (by with_unfolding_all rfl) 23 _ (by with_unfolding_all rfl) g (off + n * 32) (by with_unfolding_all rfl) (u8s k) _ (fun w h => HRK.out w h) HUD.out (by with_unfolding_all rfl) HIK.out ?_; simp only [Act.put, List.setIfInBounds_toArray, List.set_cons_zero, List.set_cons_succ])
            | (with_reducible refine wpMix_callv 11 [hzV x, .agg (u8s k).toArray] (.bool true) (by with_unfolding_all rfl) (by with_unfolding_all rfl) (by with_unfolding_all rfl) (HC1.out _ hS') ?_; clear hS'; intro wc hS'; simp only [Act.put, List.setIfInBounds_toArray, List.set_cons_zero, List.set_cons_succ])
            | (with_reducible refine wpMix_not (by with_unfolding_all rfl) (by with_unfolding_all rfl) ?_; simp only [Act.put, List.setIfInBounds_toArray, List.set_cons_zero, List.set_cons_succ])
            | (with_reducible refine wpMix_skip (by with_unfolding_all rfl) (by with_unfolding_all rfl) hS' ?_; simp only [Act.put, List.setIfInBounds_toArray, List.set_cons_zero, List.set_cons_succ])
            | (with_reducible refine wpMix_rows 50 26 64 [b, a] _ (by with_unfolding_all rfl) (by with_unfolding_all rfl) (by with_unfolding_all rfl) HUS.out info_hz1 (by omega) (by simp) (by simp) HT8.out (by with_unfolding_all rfl) (fun o => behind_alloc hS' o) ?_; clear hS'; (try clear hrow); intro g8 wc hS' hbb hrow; clear hbb; simp only [Act.put, List.setIfInBounds_toArray, List.set_cons_zero, List.set_cons_succ])
            | (with_reducible refine wpMix_callv 21 [.slice (some ⟨g8, 0, none⟩) 2 2] (hzV j4) (by with_unfolding_all rfl) (by with_unfolding_all rfl) (by with_unfolding_all rfl) (join_at hS' hrow HT8.out (by simp [maxLen]) 2 HJ4.out (by with_unfolding_all rfl)) ?_; clear hS'; intro wc hS'; simp only [Act.put, List.setIfInBounds_toArray, List.set_cons_zero, List.set_cons_succ])
            | (with_reducible refine wpMix_callv 11 [hzV a, .agg (u8s k).toArray] (.bool true) (by with_unfolding_all rfl) (by with_unfolding_all rfl) (by with_unfolding_all rfl) (HC2.out true HAK.out _ hS') ?_; clear hS'; intro wc hS'; simp only [Act.put, List.setIfInBounds_toArray, List.set_cons_zero, List.set_cons_succ])
            | (with_reducible refine wpMix_callv 11 [hzV j4, .agg (u8s k).toArray] (.bool true) (by with_unfolding_all rfl) (by with_unfolding_all rfl) (by with_unfolding_all rfl) (HC3.out HAK.out _ hS') ?_; clear hS'; intro wc hS'; simp only [Act.put, List.setIfInBounds_toArray, List.set_cons_zero, List.set_cons_succ])
            | (with_reducible refine wpMix_val (.bool false) (by with_unfolding_all rfl) (by with_unfolding_all rfl) (fun w _ => by with_unfolding_all rfl) ?_; simp only [Act.put, List.setIfInBounds_toArray, List.set_cons_zero, List.set_cons_succ])
            | (with_reducible refine wpMix_val (.bool true) (by with_unfolding_all rfl) (by with_unfolding_all rfl) (fun w _ => by with_unfolding_all rfl) ?_; simp only [Act.put, List.setIfInBounds_toArray, List.set_cons_zero, List.set_cons_succ])
            | (with_reducible refine wpMix_val (.slice (some ⟨g, off, none⟩) l.length c) (by with_unfolding_all rfl) (by with_unfolding_all rfl) (fun w _ => by with_unfolding_all rfl) ?_; simp only [Act.put, List.setIfInBounds_toArray, List.set_cons_zero, List.set_cons_succ])
            | (with_reducible refine wpMix_val (.int .i64 n) (by with_unfolding_all rfl) (by with_unfolding_all rfl) (fun w _ => by with_unfolding_all rfl) ?_; simp only [Act.put, List.setIfInBounds_toArray, List.set_cons_zero, List.set_cons_succ])
            | (with_reducible refine wpMix_val (.pointer (some ⟨g, off + n * 32, none⟩)) (by with_unfolding_all rfl) (by with_unfolding_all rfl) (fun w _ => by go_simp) ?_; simp only [Act.put, List.setIfInBounds_toArray, List.set_cons_zero, List.set_cons_succ])
            | done)
        refine wpMix_nil ?_
        have HBr' := Lib.hid (HBr.out.trans (Below.mono hS' HBr.out.size))
        clear hS'
        go_wp2_with fail
        go_roundw
        case rel => exact ⟨n + 1, by omega, by go_num, HBr'.out⟩
        case measure => simp [RowKit.intOf]; omega
    · have hA := HA8.out.below hb HA8.out.lt
      have hB := HB8.out.below hb HB8.out.lt
      have hX := HX8.out.below hb HX8.out.lt
      have HRA := Lib.hid (fun w' (h : Behind wr w') => behind_range hA h)
      have HRB := Lib.hid (fun w' (h : Behind wr w') => behind_range hB h)
      have HRX := Lib.hid (fun w' (h : Behind wr w') => behind_range hX h)
      have HBw := Lib.hid (HW8.out.trans (hb.mono HW8.out.size))
      have HC1 := Lib.hid (fun w' (h : Behind wr w') => behind_call h (count_any x HLX.out w'))
      have HC2 := Lib.hid (fun w' (h : Behind wr w') => behind_call h (count_any a HLA.out w'))
      have HC3 := Lib.hid (fun w' (h : Behind wr w') => behind_call h (count_any b HLB.out w'))
      have HE1 := Lib.hid (fun w => run_geq (Hz.count x : Nat) (Hz.count a : Nat) (by have := Hz.joins_count_a HLA.out HLB.out HLZ.out; rw [← HJ1.out, ← HX.out] at this; omega) w)
      have HE2 := Lib.hid (fun w => run_geq (Hz.count x : Nat) (Hz.count b : Nat) (by have := Hz.joins_count_b HLA.out HLB.out HLZ.out; rw [← HJ1.out, ← HX.out] at this; omega) w)
      clear hA hB hX hb
      go_wp2_with fail
      refine wp_region_class (Behind wr) (by kernel_rfl) (by kernel_rfl) (Below.refl _ _).drew ?_
      iterate 13 (first
        | go_big_quiet_skip
        | (with_reducible refine wpQuiet_loadAll (by with_unfolding_all rfl) 26 _ (by with_unfolding_all rfl) qx (0) (by with_unfolding_all rfl) (u8s x) _ (fun w h => HRX.out w h) HUH.out (by with_unfolding_all rfl) HIX.out ?_; simp only [Act.put, List.setIfInBounds_toArray, List.set_cons_zero, List.set_cons_succ])
        | (with_reducible refine wpQuiet_loadAll (by with_unfolding_all rfl) 26 _ (by with_unfolding_all rfl) qa (0) (by with_unfolding_all rfl) (u8s a) _ (fun w h => HRA.out w h) HUH.out (by with_unfolding_all rfl) HIA.out ?_; simp only [Act.put, List.setIfInBounds_toArray, List.set_cons_zero, List.set_cons_succ])
        | (with_reducible refine wpQuiet_loadAll (by with_unfolding_all rfl) 26 _ (by with_unfolding_all rfl) qb (0) (by with_unfolding_all rfl) (u8s b) _ (fun w h => HRB.out w h) HUH.out (by with_unfolding_all rfl) HIB.out ?_; simp only [Act.put, List.setIfInBounds_toArray, List.set_cons_zero, List.set_cons_succ])
        | (with_reducible refine wpQuiet_call 12 [hzV x] (.int .i64 (Hz.count x : Nat)) (by with_unfolding_all rfl) _ _ (by with_unfolding_all rfl) (by with_unfolding_all rfl) (fun _ => by kernel_rfl) (fun w' h => HC1.out w' h) ?_; simp only [Act.put, List.setIfInBounds_toArray, List.set_cons_zero, List.set_cons_succ])
        | (with_reducible refine wpQuiet_call 12 [hzV a] (.int .i64 (Hz.count a : Nat)) (by with_unfolding_all rfl) _ _ (by with_unfolding_all rfl) (by with_unfolding_all rfl) (fun _ => by kernel_rfl) (fun w' h => HC2.out w' h) ?_; simp only [Act.put, List.setIfInBounds_toArray, List.set_cons_zero, List.set_cons_succ])
        | (with_reducible refine wpQuiet_call 12 [hzV b] (.int .i64 (Hz.count b : Nat)) (by with_unfolding_all rfl) _ _ (by with_unfolding_all rfl) (by with_unfolding_all rfl) (fun _ => by kernel_rfl) (fun w' h => HC3.out w' h) ?_; simp only [Act.put, List.setIfInBounds_toArray, List.set_cons_zero, List.set_cons_succ])
        | (with_reducible refine wpQuiet_bin (by with_unfolding_all rfl) .geq 3 _ _ _ (by with_unfolding_all rfl) (.int .i64 (Hz.count x : Nat)) (.int .i64 (Hz.count a : Nat)) (.bool true) (by with_unfolding_all rfl) (by with_unfolding_all rfl) (fun w => rfl) (fun w => HE1.out w) ?_; simp only [Act.put, List.setIfInBounds_toArray, List.set_cons_zero, List.set_cons_succ])
        | (with_reducible refine wpQuiet_bin (by with_unfolding_all rfl) .geq 3 _ _ _ (by with_unfolding_all rfl) (.int .i64 (Hz.count x : Nat)) (.int .i64 (Hz.count b : Nat)) (.bool true) (by with_unfolding_all rfl) (by with_unfolding_all rfl) (fun w => rfl) (fun w => HE2.out w) ?_; simp only [Act.put, List.setIfInBounds_toArray, List.set_cons_zero, List.set_cons_succ])
        | (go_big_quiet_step (exact fun _ => rfl)))
      with_reducible refine wpQuiet_nil ?_
      intro w9 h9
      have HB9 := Lib.hid (HBw.out.trans (Below.mono h9 HBw.out.size))
      clear h9
      go_wp2_with fail
      go_ret
      exact ⟨rfl, HB9.out⟩
end Go.Proofs.Ytcpnlojcmlldpaa
