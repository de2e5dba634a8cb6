/- HazeExact: the walk. -/
import Derived.Test.YtcpnlojcmlldpaaRefHE
namespace Go.Proofs.Ytcpnlojcmlldpaa
open Go.RowKit Go.Maps Go.Sort

theorem run_eqz' (a : Int) (w : World) : (binOp .eql 3 (.int .i64 a) (.int .i64 a)).run Try.prog w = .ok (.bool true) w := run_eqz a a rfl w
theorem run_eq_self {h : List UInt8} (hh : h.length = 64) (w : World) : (binOp .eql 26 (hzV h) (hzV h)).run Try.prog w = .ok (.bool true) w := by
  have := run_eql_hz w h h hh hh
  simp only [beq_self_eq_true] at this
  exact this
set_option maxRecDepth 100000 in
set_option maxHeartbeats 1000000 in
theorem hexact_any (A : Option Addr) (c : Nat) (l : List (List UInt8)) (B : Option Addr) (d : Nat) (ks : List (List UInt8)) (key : List UInt8) (w : World) (hl : BytesIn w A 64 l) (h64 : ∀ k ∈ l, k.length = 64) (hlc : l.length ≤ c) (hcm : c ≤ maxLen) (_ : A = none → c = 0)
    (hk : BytesIn w B 32 ks) (hk32 : ∀ k ∈ ks, k.length = 32) (hkd : ks.length ≤ d) (hdm : d ≤ maxLen) (_ : B = none → d = 0) (hky : key.length = 32) :
    Calls Try.prog 6 #[.slice A l.length c, .slice B ks.length d, .agg (u8s key).toArray] w fun e w' => e = .returned (.bool true) ∧ Below w.heap.size w w' := by
  have hik : (Try.prog.info? 23).map (·.size) = some (u8s key).toArray.size := by
    rw [List.size_toArray, u8s_len, hky]
    kernel_rfl
  have HUD := Lib.hid Try.underlying23
  have HUH := Lib.hid Try.underlying26
  have HIK := Lib.hid (show (Try.prog.info? 23).map (·.size) = some (u8s key).length by rw [u8s_len, hky]; kernel_rfl)
  have HLK := Lib.hid hky
  have HL := Lib.hid hl
  have H64 := Lib.hid h64
  have HK := Lib.hid hk
  have HK32 := Lib.hid hk32
  have hn : l.length ≤ 9223372036854775807 := Nat.le_trans hlc hcm
  have hkn : ks.length ≤ 9223372036854775807 := Nat.le_trans hkd hdm
  clear hl h64 hk hk32 hky
  go_enter Try.func6, Try.ntmps6
  go_wp2_with fail
  refine (awake_any _).mono ?_
  rintro e w1 ⟨rfl, hb⟩
  have hA0 : At (w.alloc (.cells (u8s key).toArray 23)) w.heap.size 23 (u8s key) := At.newA w _ rfl
  have hA1 := hA0.below hb hA0.lt
  have hb1 : Below w.heap.size w w1 := ((Below.refl _ _).alloc (Nat.le_refl _) _).trans (hb.mono (by simp))
  obtain ⟨qk, hqk⟩ : ∃ q, q = w.heap.size := ⟨_, rfl⟩
  rw [← hqk] at hA1 ⊢
  have HA1 := Lib.hid hA1
  have HB1 := Lib.hid hb1
  clear hA0 hA1 hb hb1 hik hqk
  by_cases hl60 : 60 < l.length
  · go_wp2_with fail
    go_ret
    exact ⟨rfl, HB1.out⟩
  by_cases hm60 : 60 < ks.length
  · go_wp2_with fail
    go_ret
    exact ⟨rfl, HB1.out⟩
  go_wp2_with fail
  refine (join_any A c l _ (HL.out.below (Nat.le_refl _) HB1.out HB1.out.size) H64.out (by unfold maxLen; omega)).mono ?_
  obtain ⟨h, hh⟩ : ∃ z, z = Hz.join l := ⟨_, rfl⟩
  rw [← hh]
  have hhl : h.length = 64 := by rw [hh]; exact Hz.join_len' H64.out
  obtain ⟨g, hg⟩ : ∃ z, z = Hz.withKeys h ks := ⟨_, rfl⟩
  have hgl : g.length = 64 := by rw [hg, Hz.withKeys_len, hhl]
  obtain ⟨o, ho⟩ : ∃ z, z = Hz.withKeys Hz.zero ks := ⟨_, rfl⟩
  have hol : o.length = 64 := by rw [ho]; exact Hz.keys_len _
  have HH := Lib.hid hh
  have HG := Lib.hid hg
  have HO := Lib.hid ho
  have HLh := Lib.hid hhl
  have HLg := Lib.hid hgl
  have HLo := Lib.hid hol
  have HIh := Lib.hid (HaveHzInfo hhl)
  have HIg := Lib.hid (HaveHzInfo hgl)
  have HZLh := Lib.hid (HaveHzLen hhl)
  have HZLg := Lib.hid (HaveHzLen hgl)
  clear hh hg ho hhl hgl hol
  rintro e w2 ⟨rfl, hb⟩
  have HA2 := Lib.hid (HA1.out.below hb HA1.out.lt)
  have HB2 := Lib.hid (HB1.out.trans (hb.mono HB1.out.size))
  have HZ2 := Lib.hid (show At (w2.alloc (.cells (u8s Hz.zero).toArray 26)) w2.heap.size 26 (u8s Hz.zero) from At.newA w2 _ rfl)
  have HG2 := Lib.hid (fun (w3 : World) (hg3 : (w2.alloc (.cells (u8s Hz.zero).toArray 26)).grownBy w3 (some w2.heap.size)) => show Below w2.heap.size w2 w3 from Below.ofGrown ((Below.refl _ _).alloc (Nat.le_refl _) _) hg3 ((Below.refl _ _).alloc (Nat.le_refl _) _).size (Nat.le_refl _))
  clear hb HA1 HB1
  go_wp2_with (first
    | (refine wpList_storeAll rfl 26 (.tmp 7) (.tmp 20) rfl _ rfl _ (u8s Hz.zero) (u8s h) HZ2.out rfl HZLh.out HIh.out (u8s_one h) ?_; intro w3 hatw3 hgw3 hsw3; have hb3 := HG2.out w3 hgw3; have HRh3 := Lib.hid (behind_range hatw3 (Below.refl _ _)); have HAT3 := Lib.hid hatw3; clear hgw3 hatw3)
    | (with_reducible refine wpList_loadAll rfl 26 (.tmp 7) rfl _ rfl _ _ _ HAT3.out HUH.out rfl HIh.out ?_))
  have HA3 := Lib.hid (HA2.out.below hb3 HA2.out.lt)
  have HB3 := Lib.hid (HB2.out.trans (hb3.mono HB2.out.size))
  obtain ⟨qh, hqh⟩ : ∃ q, q = w2.heap.size := ⟨_, rfl⟩
  rw [← hqh] at HAT3 ⊢
  clear hb3 HA2 HB2 HZ2 HG2 hqh HRh3 hsw3
  refine (with_any h HLh.out B d ks w3 (HK.out.below (Nat.le_refl _) HB3.out HB3.out.size) HK32.out (by unfold maxLen; omega)).mono ?_
  rw [← HG.out]
  rintro e w4 ⟨rfl, hb⟩
  have HA4 := Lib.hid (HA3.out.below hb HA3.out.lt)
  have HH4 := Lib.hid (HAT3.out.below hb HAT3.out.lt)
  have HB4 := Lib.hid (HB3.out.trans (hb.mono HB3.out.size))
  have HZ4 := Lib.hid (show At (w4.alloc (.cells (u8s Hz.zero).toArray 26)) w4.heap.size 26 (u8s Hz.zero) from At.newA w4 _ rfl)
  have HG4 := Lib.hid (fun (w3 : World) (hg3 : (w4.alloc (.cells (u8s Hz.zero).toArray 26)).grownBy w3 (some w4.heap.size)) => show Below w4.heap.size w4 w3 from Below.ofGrown ((Below.refl _ _).alloc (Nat.le_refl _) _) hg3 ((Below.refl _ _).alloc (Nat.le_refl _) _).size (Nat.le_refl _))
  clear hb HA3 HB3 HAT3
  go_wp2_with (first
    | (refine wpList_storeAll rfl 26 (.tmp 8) (.tmp 23) rfl _ rfl _ (u8s Hz.zero) (u8s g) HZ4.out rfl HZLg.out HIg.out (u8s_one g) ?_; intro w5 hatw5 hgw5 hsw5))
  have hb5 := HG4.out w5 hgw5
  have hA5 := HA4.out.below hb5 HA4.out.lt
  have hH5 := HH4.out.below hb5 HH4.out.lt
  have HB5 := Lib.hid (HB4.out.trans (hb5.mono HB4.out.size))
  obtain ⟨qg, hqg⟩ : ∃ q, q = w4.heap.size := ⟨_, rfl⟩
  rw [← hqg] at hatw5 ⊢
  simp only [Act.put]
  have HRK := Lib.hid (fun w' (hb : Behind w5 w') => behind_range hA5 hb)
  have HRH := Lib.hid (fun w' (hb : Behind w5 w') => behind_range hH5 hb)
  have HRG := Lib.hid (fun w' (hb : Behind w5 w') => behind_range hatw5 hb)
  have HKw := Lib.hid (fun w' (hb : Behind w5 w') => show BytesIn w' B 32 ks from HK.out.below (Nat.le_refl _) (HB5.out.trans (Below.mono hb HB5.out.size)) (Nat.le_trans HB5.out.size hb.size))
  have HLw := Lib.hid (fun w' (hb : Behind w5 w') => show BytesIn w' A 64 l from HL.out.below (Nat.le_refl _) (HB5.out.trans (Below.mono hb HB5.out.size)) (Nat.le_trans HB5.out.size hb.size))
  have HC1 := Lib.hid (fun w' (hb : Behind w5 w') => behind_call (v := hzV h) hb ((refjoin_any A c l w' (HLw.out w' hb) H64.out (by unfold maxLen; omega)).mono (fun _ _ he => ⟨by rw [he.1, HH.out], he.2⟩)))
  have HC2 := Lib.hid (fun w' (hb : Behind w5 w') => behind_call (v := hzV g) hb ((refwith_any h HLh.out B d ks w' (HKw.out w' hb) HK32.out (by unfold maxLen; omega)).mono (fun _ _ he => ⟨by rw [he.1, HG.out], he.2⟩)))
  have HC3 := Lib.hid (fun w' (hb : Behind w5 w') => behind_call (v := hzV o) hb ((of_any B d ks w' (HKw.out w' hb) HK32.out (by unfold maxLen; omega)).mono (fun _ _ he => ⟨by rw [he.1, HO.out], he.2⟩)))
  have HC4 := Lib.hid (fun w' (hb : Behind w5 w') => behind_call (v := hzV o) hb ((refwith_any Hz.zero Hz.zero_len B d ks w' (HKw.out w' hb) HK32.out (by unfold maxLen; omega)).mono (fun _ _ he => ⟨by rw [he.1, HO.out], he.2⟩)))
  have HC5 := Lib.hid (fun w' (hb : Behind w5 w') => behind_call hb (has_any h key HLh.out HLK.out w'))
  have HC6 := Lib.hid (fun w' (hb : Behind w5 w') => behind_call hb (refhas_any h key HLh.out HLK.out w'))
  have HC7 := Lib.hid (fun w' (hb : Behind w5 w') => behind_call hb (has_any g key HLg.out HLK.out w'))
  have HC8 := Lib.hid (fun w' (hb : Behind w5 w') => behind_call hb (refhas_any g key HLg.out HLK.out w'))
  have HC9 := Lib.hid (fun w' (hb : Behind w5 w') => behind_call hb (count_any h HLh.out w'))
  have HC10 := Lib.hid (fun w' (hb : Behind w5 w') => behind_call hb (refcount_any h HLh.out w'))
  have HE1 := Lib.hid (fun w => run_eq_self HLh.out w)
  have HE2 := Lib.hid (fun w => run_eq_self HLg.out w)
  have HE3 := Lib.hid (fun w => run_eq_self HLo.out w)
  have HE4 := Lib.hid (fun w => run_eqb (Hz.has h key) (Hz.has h key) rfl w)
  have HE5 := Lib.hid (fun w => run_eqb (Hz.has g key) (Hz.has g key) rfl w)
  have HE6 := Lib.hid (fun w => run_eqz' (Hz.count h : Nat) w)
  clear hb5 hA5 hH5 hatw5 hgw5 hsw5 hqg HA4 HH4 HB4 HZ4 HG4 HKw HLw
  refine wp_region_class (Behind w5) (by kernel_rfl) (by kernel_rfl) (Below.refl _ _).drew ?_
  iterate 45 (first
    | go_big_quiet_skip
    | (with_reducible refine wpQuiet_loadAll (by with_unfolding_all rfl) 26 _ (by with_unfolding_all rfl) qh (0) (by with_unfolding_all rfl) (u8s h) _ (fun w h => HRH.out w h) HUH.out (by with_unfolding_all rfl) HIh.out ?_; simp only [Act.put, List.setIfInBounds_toArray, List.set_cons_zero, List.set_cons_succ])
    | (with_reducible refine wpQuiet_loadAll (by with_unfolding_all rfl) 26 _ (by with_unfolding_all rfl) qg (0) (by with_unfolding_all rfl) (u8s g) _ (fun w h => HRG.out w h) HUH.out (by with_unfolding_all rfl) HIg.out ?_; simp only [Act.put, List.setIfInBounds_toArray, List.set_cons_zero, List.set_cons_succ])
    | (with_reducible refine wpQuiet_loadAll (by with_unfolding_all rfl) 23 _ (by with_unfolding_all rfl) qk (0) (by with_unfolding_all rfl) (u8s key) _ (fun w h => HRK.out w h) HUD.out (by with_unfolding_all rfl) HIK.out ?_; simp only [Act.put, List.setIfInBounds_toArray, List.set_cons_zero, List.set_cons_succ])
    | (with_reducible refine wpQuiet_call 23 [.slice A l.length c] (hzV h) (by with_unfolding_all rfl) _ _ (by with_unfolding_all rfl) (by with_unfolding_all rfl) (fun _ => by kernel_rfl) (fun w' h => HC1.out w' h) ?_; simp only [Act.put, List.setIfInBounds_toArray, List.set_cons_zero, List.set_cons_succ])
    | (with_reducible refine wpQuiet_call 24 [hzV h, .slice B ks.length d] (hzV g) (by with_unfolding_all rfl) _ _ (by with_unfolding_all rfl) (by with_unfolding_all rfl) (fun _ => by kernel_rfl) (fun w' h => HC2.out w' h) ?_; simp only [Act.put, List.setIfInBounds_toArray, List.set_cons_zero, List.set_cons_succ])
    | (with_reducible refine wpQuiet_call 10 [.slice B ks.length d] (hzV o) (by with_unfolding_all rfl) _ _ (by with_unfolding_all rfl) (by with_unfolding_all rfl) (fun _ => by kernel_rfl) (fun w' h => HC3.out w' h) ?_; simp only [Act.put, List.setIfInBounds_toArray, List.set_cons_zero, List.set_cons_succ])
    | (with_reducible refine wpQuiet_call 24 [hzV Hz.zero, .slice B ks.length d] (hzV o) (by with_unfolding_all rfl) _ _ (by with_unfolding_all rfl) (by with_unfolding_all rfl) (fun _ => by kernel_rfl) (fun w' h => HC4.out w' h) ?_; simp only [Act.put, List.setIfInBounds_toArray, List.set_cons_zero, List.set_cons_succ])
    | (with_reducible refine wpQuiet_call 11 [hzV h, .agg (u8s key).toArray] (.bool (Hz.has h key)) (by with_unfolding_all rfl) _ _ (by with_unfolding_all rfl) (by with_unfolding_all rfl) (fun _ => by kernel_rfl) (fun w' h => HC5.out w' h) ?_; simp only [Act.put, List.setIfInBounds_toArray, List.set_cons_zero, List.set_cons_succ])
    | (with_reducible refine wpQuiet_call 25 [hzV h, .agg (u8s key).toArray] (.bool (Hz.has h key)) (by with_unfolding_all rfl) _ _ (by with_unfolding_all rfl) (by with_unfolding_all rfl) (fun _ => by kernel_rfl) (fun w' h => HC6.out w' h) ?_; simp only [Act.put, List.setIfInBounds_toArray, List.set_cons_zero, List.set_cons_succ])
    | (with_reducible refine wpQuiet_call 11 [hzV g, .agg (u8s key).toArray] (.bool (Hz.has g key)) (by with_unfolding_all rfl) _ _ (by with_unfolding_all rfl) (by with_unfolding_all rfl) (fun _ => by kernel_rfl) (fun w' h => HC7.out w' h) ?_; simp only [Act.put, List.setIfInBounds_toArray, List.set_cons_zero, List.set_cons_succ])
    | (with_reducible refine wpQuiet_call 25 [hzV g, .agg (u8s key).toArray] (.bool (Hz.has g key)) (by with_unfolding_all rfl) _ _ (by with_unfolding_all rfl) (by with_unfolding_all rfl) (fun _ => by kernel_rfl) (fun w' h => HC8.out w' h) ?_; simp only [Act.put, List.setIfInBounds_toArray, List.set_cons_zero, List.set_cons_succ])
    | (with_reducible refine wpQuiet_call 12 [hzV h] (.int .i64 (Hz.count h : Nat)) (by with_unfolding_all rfl) _ _ (by with_unfolding_all rfl) (by with_unfolding_all rfl) (fun _ => by kernel_rfl) (fun w' h => HC9.out w' h) ?_; simp only [Act.put, List.setIfInBounds_toArray, List.set_cons_zero, List.set_cons_succ])
    | (with_reducible refine wpQuiet_call 26 [hzV h] (.int .i64 (Hz.count h : Nat)) (by with_unfolding_all rfl) _ _ (by with_unfolding_all rfl) (by with_unfolding_all rfl) (fun _ => by kernel_rfl) (fun w' h => HC10.out w' h) ?_; simp only [Act.put, List.setIfInBounds_toArray, List.set_cons_zero, List.set_cons_succ])
    | (with_reducible refine wpQuiet_bin (by with_unfolding_all rfl) .eql 26 _ _ _ (by with_unfolding_all rfl) (hzV h) (hzV h) (.bool true) (by with_unfolding_all rfl) (by with_unfolding_all rfl) (fun w => run_eqGuard_hz w _ _ _ _ _) (fun w => HE1.out w) ?_; simp only [Act.put, List.setIfInBounds_toArray, List.set_cons_zero, List.set_cons_succ])
    | (with_reducible refine wpQuiet_bin (by with_unfolding_all rfl) .eql 26 _ _ _ (by with_unfolding_all rfl) (hzV g) (hzV g) (.bool true) (by with_unfolding_all rfl) (by with_unfolding_all rfl) (fun w => run_eqGuard_hz w _ _ _ _ _) (fun w => HE2.out w) ?_; simp only [Act.put, List.setIfInBounds_toArray, List.set_cons_zero, List.set_cons_succ])
    | (with_reducible refine wpQuiet_bin (by with_unfolding_all rfl) .eql 26 _ _ _ (by with_unfolding_all rfl) (hzV o) (hzV o) (.bool true) (by with_unfolding_all rfl) (by with_unfolding_all rfl) (fun w => run_eqGuard_hz w _ _ _ _ _) (fun w => HE3.out w) ?_; simp only [Act.put, List.setIfInBounds_toArray, List.set_cons_zero, List.set_cons_succ])
    | (with_reducible refine wpQuiet_bin (by with_unfolding_all rfl) .eql 4 _ _ _ (by with_unfolding_all rfl) (.bool (Hz.has h key)) (.bool (Hz.has h key)) (.bool true) (by with_unfolding_all rfl) (by with_unfolding_all rfl) (fun w => rfl) (fun w => HE4.out w) ?_; simp only [Act.put, List.setIfInBounds_toArray, List.set_cons_zero, List.set_cons_succ])
    | (with_reducible refine wpQuiet_bin (by with_unfolding_all rfl) .eql 4 _ _ _ (by with_unfolding_all rfl) (.bool (Hz.has g key)) (.bool (Hz.has g key)) (.bool true) (by with_unfolding_all rfl) (by with_unfolding_all rfl) (fun w => rfl) (fun w => HE5.out w) ?_; simp only [Act.put, List.setIfInBounds_toArray, List.set_cons_zero, List.set_cons_succ])
    | (with_reducible refine wpQuiet_bin (by with_unfolding_all rfl) .eql 3 _ _ _ (by with_unfolding_all rfl) (.int .i64 (Hz.count h : Nat)) (.int .i64 (Hz.count h : Nat)) (.bool true) (by with_unfolding_all rfl) (by with_unfolding_all rfl) (fun w => rfl) (fun w => HE6.out w) ?_; simp only [Act.put, List.setIfInBounds_toArray, List.set_cons_zero, List.set_cons_succ])
    | (with_reducible refine wpQuiet_val (hzV Hz.zero) (by with_unfolding_all rfl) (fun w' _ => exec_build 26 #[] _ (by with_unfolding_all rfl) built_zero w') ?_; simp only [Act.put, List.setIfInBounds_toArray, List.set_cons_zero, List.set_cons_succ])
    | (go_big_quiet_step (exact fun _ => rfl)))
  with_reducible refine wpQuiet_nil ?_
  intro w6 h6
  have HB6 := Lib.hid (HB5.out.trans (Below.mono h6 HB5.out.size))
  clear h6
  go_wp2_with fail
  go_ret
  exact ⟨rfl, HB6.out⟩
end Go.Proofs.Ytcpnlojcmlldpaa
