/- HazeFinds: the walk. -/
import Derived.Test.YtcpnlojcmlldpaaMixD
import Derived.Test.YtcpnlojcmlldpaaFindsP
import Derived.Test.YtcpnlojcmlldpaaJoinsA
namespace Go.Proofs.Ytcpnlojcmlldpaa
open Go.RowKit Go.Maps Go.Sort

theorem info_hz2 : (Try.prog.info? 26).map (fun i => (i.zero, i.size, i.bytes)) = some (some (hzV Hz.zero), 64, 64) := by kernel_rfl
theorem info_hz3 : ∃ i z, Try.prog.info? 26 = some i ∧ i.zero = some z ∧ i.size = 64 ∧ i.bytes = 64 ∧ z.cells.size = 64 := by
  have h := info_hz2
  cases hi : Try.prog.info? 26 with
  | none => rw [hi] at h; cases h
  | some i =>
    rw [hi, Option.map_some, Option.some.injEq, Prod.mk.injEq, Prod.mk.injEq] at h
    exact ⟨i, _, rfl, h.1, h.2.1, h.2.2, rfl⟩
theorem cut_num (at0 : Int) (n : Nat) (hn : n ≤ 60) : ∃ k : Nat, k ≤ n ∧ wrap64 ((IntKind.u64.wrap at0).tmod ((n : Int) + 1)) = (k : Int) := by
  have h0 : 0 ≤ IntKind.u64.wrap at0 := by rw [IntKind.wrap_u64]; omega
  rw [Int.tmod_eq_emod_of_nonneg h0]
  have h2 : 0 ≤ IntKind.u64.wrap at0 % ((n : Int) + 1) := Int.emod_nonneg _ (by omega)
  have h3 : IntKind.u64.wrap at0 % ((n : Int) + 1) < (n : Int) + 1 := Int.emod_lt_of_pos _ (by omega)
  refine ⟨(IntKind.u64.wrap at0 % ((n : Int) + 1)).toNat, by omega, ?_⟩
  unfold wrap64
  omega

def FromQ (q : Nat) (w0 w' : World) : Prop := q ≤ w0.heap.size ∧ Below q w0 w'
theorem fromQ_up {q : Nat} {w0 w w' : World} (h : FromQ q w0 w) (hb : Below w.heap.size w w') : FromQ q w0 w' := ⟨h.1, h.2.trans (hb.mono (Nat.le_trans h.1 h.2.size))⟩
theorem exec_loadAll {P : Program} {a : Act} {w : World} {o : Oper} (ty : TypeId) (x : Operand) (ho : o.op = .load ty x) (b : Nat) (hx : a.eval x = .pointer (some ⟨b, 0, none⟩)) (cs : List Value) (d : TypeDesc) (hc : w.rangeAt b 0 cs) (hu : P.underlying ty = some d) (hd : d.isRow = true) (hi : (P.info? ty).map (·.size) = some cs.length) :
    (execOp a.eval o).run P w = .ok (.value (.agg cs.toArray)) w := by
  unfold execOp
  simp only [ho, hx, Instr.loadAt, Instr.sureAddr, Sem.run_bind, Sem.run_pure, Result.andThen_ok, run_loadVar_mid w b 0 ty cs d hc hu hd hi]

theorem join_any' (A : Option Addr) (c : Nat) (l : List (List UInt8)) (w : World) (hl : BytesIn w A 64 l) (h64 : ∀ x ∈ l, x.length = 64) (hn : l.length ≤ maxLen) (k : Nat) (hk : k = l.length) :
    Calls Try.prog 21 #[.slice A k c] w fun e w' => e = .returned (hzV (Hz.join l)) ∧ Below w.heap.size w w' := by
  subst hk
  exact join_any A c l w hl h64 hn
theorem with_two {w0 w : World} {g k : Nat} {l : List (List UInt8)} {h : List UInt8} (hS : Behind w0 w) (hB : BytesIn w (some ⟨g, 0, none⟩) 32 l) (hh : h.length = 64) (h32 : ∀ x ∈ l, x.length = 32) (hn : l.length ≤ maxLen) (c : Nat) (hk : k = l.length) :
    Calls Try.prog 22 #[hzV h, .slice (some ⟨g, 0, none⟩) k c] w fun e w' => e = .returned (hzV (Hz.withKeys h l)) ∧ Behind w0 w' := by
  subst hk
  exact behind_call hS (with_any h hh _ c l w hB h32 hn)
theorem run_mul4 (n : Nat) (hn : n ≤ 60) (w : World) : (binOp .mul 3 (.int .i64 4) (.int .i64 (n : Int))).run Try.prog w = .ok (.int .i64 (4 * (n : Int))) w := by
  have h : IntKind.i64.wrap (4 * (n : Int)) = 4 * (n : Int) := by rw [IntKind.wrap_i64]; omega
  go_simp
theorem run_gtr0 (a b : Int) (h : a ≤ b) (w : World) : (binOp .gtr 3 (.int .i64 a) (.int .i64 b)).run Try.prog w = .ok (.bool false) w := by
  go_simp
theorem run_lss0 (a b : Int) (h : b ≤ a) (w : World) : (binOp .lss 3 (.int .i64 a) (.int .i64 b)).run Try.prog w = .ok (.bool false) w := by
  go_simp

set_option maxRecDepth 100000 in
set_option maxHeartbeats 1000000 in
theorem finds_any (A : Option Addr) (c : Nat) (l : List (List UInt8)) (B : Option Addr) (d : Nat) (m : List (List UInt8)) (at0 : Int) (w : World) (hk : BytesIn w A 32 l) (hk32 : ∀ k ∈ l, k.length = 32) (hlc : l.length ≤ c) (hcm : c ≤ maxLen) (_ : A = none → c = 0)
    (hm : BytesIn w B 64 m) (hm64 : ∀ k ∈ m, k.length = 64) (hmd : m.length ≤ d) (hdm : d ≤ maxLen) (_ : B = none → d = 0) (_ : -9223372036854775808 ≤ at0 ∧ at0 ≤ 9223372036854775807) :
    Calls Try.prog 7 #[.slice A l.length c, .slice B m.length d, .int .i64 at0] w fun e w' => e = .returned (.bool true) ∧ Below w.heap.size w w' := by
  have HUD := Lib.hid Try.underlying23
  have HUH := Lib.hid Try.underlying26
  have HUS := Lib.hid Try.underlying50
  have HK := Lib.hid hk
  have HK32 := Lib.hid hk32
  have HM := Lib.hid hm
  have HM64 := Lib.hid hm64
  have hn : l.length ≤ 9223372036854775807 := Nat.le_trans hlc hcm
  have hmn : m.length ≤ 9223372036854775807 := Nat.le_trans hmd hdm
  clear hk hk32 hm hm64
  go_enter Try.func7, Try.ntmps7
  go_wp2_with fail
  refine (awake_any _).mono ?_
  rintro e w1 ⟨rfl, hb⟩
  have HB1 := Lib.hid hb
  clear hb
  by_cases hl60 : 60 < l.length
  · go_wp2_with fail
    go_ret
    exact ⟨rfl, HB1.out⟩
  by_cases hm60 : 60 < m.length
  · go_wp2_with fail
    go_ret
    exact ⟨rfl, HB1.out⟩
  go_wp2_with fail
  refine (of_any A c l _ (HK.out.below (Nat.le_refl _) HB1.out HB1.out.size) HK32.out (by unfold maxLen; omega)).mono ?_
  obtain ⟨h, hh⟩ : ∃ z, z = Hz.withKeys Hz.zero l := ⟨_, rfl⟩
  rw [← hh]
  have hhl : h.length = 64 := by rw [hh, Hz.withKeys_len]; rfl
  have HH := Lib.hid hh
  have HHL := Lib.hid hhl
  have HIH := Lib.hid (HaveHzInfo hhl)
  have HZH := Lib.hid (HaveHzLen hhl)
  clear hh hhl
  rintro e w2 ⟨rfl, hb⟩
  have HW2 := Lib.hid (HB1.out.trans (hb.mono HB1.out.size))
  have HZ2 := Lib.hid (show At (w2.alloc (.cells (u8s Hz.zero).toArray 26)) w2.heap.size 26 (u8s Hz.zero) from At.newA w2 _ rfl)
  have HG2 := Lib.hid (fun (w3 : World) (hg3 : (w2.alloc (.cells (u8s Hz.zero).toArray 26)).grownBy w3 (some w2.heap.size)) => show Below w2.heap.size w2 w3 from Below.ofGrown ((Below.refl _ _).alloc (Nat.le_refl _) _) hg3 ((Below.refl _ _).alloc (Nat.le_refl _) _).size (Nat.le_refl _))
  clear hb HB1
  obtain ⟨k, hkl, hkn⟩ := cut_num at0 l.length (by omega)
  go_wp2_with (first
    | (refine wpList_storeAll rfl 26 (.tmp 7) (.tmp 25) rfl _ rfl _ (u8s Hz.zero) (u8s h) HZ2.out rfl HZH.out HIH.out (u8s_one h) ?_; intro w3 hat3 hg3 hs3))
  rw [hkn]
  have hb3 := HG2.out w3 hg3
  have HW3 := Lib.hid (HW2.out.trans (hb3.mono HW2.out.size))
  obtain ⟨qh, hqh⟩ : ∃ q, q = w2.heap.size := ⟨_, rfl⟩
  rw [← hqh] at hat3 ⊢
  have HH3 := Lib.hid hat3
  clear hb3 hat3 hg3 hs3 hqh HW2 HZ2 HG2 hkn
  obtain ⟨o1, ho1⟩ : ∃ z, z = Hz.withKeys Hz.zero (l.drop k) := ⟨_, rfl⟩
  obtain ⟨o2, ho2⟩ : ∃ z, z = Hz.withKeys Hz.zero (l.take k) := ⟨_, rfl⟩
  have hl1 : o1.length = 64 := by rw [ho1]; exact Hz.keys_len _
  have hl2 : o2.length = 64 := by rw [ho2]; exact Hz.keys_len _
  have HT1 := Lib.hid (Hz.two_len hl1 hl2)
  have HTW := Lib.hid (show h = Hz.join [o1, o2] by rw [HH.out, ho1, ho2, Hz.finds_two])
  have HKw := Lib.hid (fun w' (hb : Behind w3 w') => show BytesIn w' A 32 l from HK.out.below (Nat.le_refl _) (HW3.out.trans (Below.mono hb HW3.out.size)) (Nat.le_trans HW3.out.size hb.size))
  have HO1 := Lib.hid (show ∀ w', Behind w3 w' → Calls Try.prog 10 #[.slice (cutA A k c 32) (l.length - k) (c - k)] w' fun e w'' => e = .returned (hzV o1) ∧ Below w'.heap.size w' w'' from fun w' hb => by
    have h1 := of_any (cutA A k c 32) (c - k) (l.drop k) w' (bytes_drop (HKw.out w' hb) hlc) (fun x hx => HK32.out x (List.mem_of_mem_drop hx)) (by rw [List.length_drop]; unfold maxLen; omega)
    rw [List.length_drop, ← ho1] at h1
    exact h1)
  have HO2 := Lib.hid (show ∀ w', Behind w3 w' → Calls Try.prog 10 #[.slice (cutA A 0 c 32) k c] w' fun e w'' => e = .returned (hzV o2) ∧ Below w'.heap.size w' w'' from fun w' hb => by
    have h1 := of_any (cutA A 0 c 32) c (l.take k) w' (bytes_take (HKw.out w' hb) hlc) (fun x hx => HK32.out x (List.mem_of_mem_take hx)) (by rw [List.length_take]; unfold maxLen; omega)
    rw [List.length_take, Nat.min_eq_left hkl, ← ho2] at h1
    exact h1)
  have hkc : k ≤ c := Nat.le_trans hkl hlc
  clear ho1 ho2 hl1 hl2
  refine wp_region_mixA 10 _ [(0, true), (1, true), (2, true), (4, true), (5, true), (6, true), (3, false), (7, false), (8, false), (9, false)] [(11, false)] (Behind w3) w3.heap.size 26 (u8s Hz.zero) (by rfl) (fun _ => rfl) (fun _ w => exec_hz rfl w) (fun _ _ h hb => behind_up h hb) (fun _ h => h.size)
    (by kernel_rfl) (by kernel_rfl) (fun _ _ d _ _ h => by cases d <;> exact h) (by kernel_rfl) (by kernel_rfl) (by decide) (Below.refl _ _).drew ?_
  iterate 10 (first
    | (with_reducible refine wpMixU_val (.slice A l.length c) (by with_unfolding_all rfl) (by with_unfolding_all rfl) (fun w _ => by with_unfolding_all rfl) ?_; simp only [Act.put, List.setIfInBounds_toArray, List.set_cons_zero, List.set_cons_succ])
    | (with_reducible refine wpMixU_val (.int .i64 (k : Int)) (by with_unfolding_all rfl) (by with_unfolding_all rfl) (fun w _ => by with_unfolding_all rfl) ?_; simp only [Act.put, List.setIfInBounds_toArray, List.set_cons_zero, List.set_cons_succ])
    | (with_reducible refine wpMixU_val (.slice (cutA A k c 32) (l.length - k) (c - k)) (by with_unfolding_all rfl) (by with_unfolding_all rfl) (fun w _ => by exact exec_slice_l (.tmp 34) (.tmp 35) rfl A l.length c k rfl rfl hkl w) ?_; simp only [Act.put, List.setIfInBounds_toArray, List.set_cons_zero, List.set_cons_succ])
    | (with_reducible refine wpMixU_val (.slice (cutA A 0 c 32) k c) (by with_unfolding_all rfl) (by with_unfolding_all rfl) (fun w _ => by exact exec_slice_h (.tmp 38) (.tmp 39) rfl A l.length c k rfl rfl hkc w) ?_; simp only [Act.put, List.setIfInBounds_toArray, List.set_cons_zero, List.set_cons_succ])
    | (with_reducible refine wpMixU_call 10 [.slice (cutA A k c 32) (l.length - k) (c - k)] (hzV o1) (by with_unfolding_all rfl) (by with_unfolding_all rfl) (fun _ => by with_unfolding_all rfl) (fun w hS hF => HO1.out w hS) ?_; simp only [Act.put, List.setIfInBounds_toArray, List.set_cons_zero, List.set_cons_succ])
    | (with_reducible refine wpMixU_call 10 [.slice (cutA A 0 c 32) k c] (hzV o2) (by with_unfolding_all rfl) (by with_unfolding_all rfl) (fun _ => by with_unfolding_all rfl) (fun w hS hF => HO2.out w hS) ?_; simp only [Act.put, List.setIfInBounds_toArray, List.set_cons_zero, List.set_cons_succ])
    | (with_reducible refine wpMixU_rows 50 26 64 [o1, o2] _ (by with_unfolding_all rfl) (by with_unfolding_all rfl) (by with_unfolding_all rfl) HUS.out info_hz1 (by omega) (by simp) (by simp) HT1.out (by with_unfolding_all rfl) ?_; intro g1; simp only [Act.put, List.setIfInBounds_toArray, List.set_cons_zero, List.set_cons_succ])
    | (with_reducible refine wpMixU_call 21 [.slice (some ⟨g1, 0, none⟩) 2 2] (hzV h) (by with_unfolding_all rfl) (by with_unfolding_all rfl) (fun _ => by with_unfolding_all rfl) (fun w hS hF => join_row hF.2 HT1.out (by simp [maxLen]) 2 HTW.out (by with_unfolding_all rfl)) ?_; simp only [Act.put, List.setIfInBounds_toArray, List.set_cons_zero, List.set_cons_succ])
    | done)
  intro u wc hS' hF hM
  obtain ⟨qn, rfl, hq, hat⟩ := hM
  simp only [Act.put, List.setIfInBounds_toArray, List.set_cons_zero, List.set_cons_succ]
  refine wpMix_storeAll (by with_unfolding_all rfl) (by with_unfolding_all rfl) 26 _ _ (by with_unfolding_all rfl) qn (by with_unfolding_all rfl) 26 (u8s Hz.zero) (u8s h) hat (by with_unfolding_all rfl) HZH.out HIH.out (u8s_one h) (fun w' hg => made_grown hS' hq hg) ?_
  intro w5 hatw5 hgw5 hbw5
  clear hgw5 hS' hF hq hat
  simp only [Act.put]
  refine wpMix_nil ?_
  have hH5 := HH3.out.below hbw5 HH3.out.lt
  have HW5 := Lib.hid (HW3.out.trans (hbw5.mono HW3.out.size))
  obtain ⟨qt, hqt⟩ : ∃ q, q = qn := ⟨_, rfl⟩
  subst hqt
  have HH5 := Lib.hid hH5
  have HT5 := Lib.hid hatw5
  have HM5 := Lib.hid (show BytesIn w5 B 64 m from HM.out.below (Nat.le_refl _) HW5.out HW5.out.size)
  have HR5 := Lib.hid (behind_range hH5 (Below.refl _ _))
  have HONE := Lib.hid (Hz.one_len HHL.out)
  obtain ⟨iz, zz, hiz, hzz, hz1, hz2, hz3⟩ := info_hz3
  have HIZ := Lib.hid (And.intro hiz (And.intro hzz (And.intro hz1 (And.intro hz2 hz3))))
  clear hH5 hatw5 hbw5 HH3 HW3 HO1 HO2 HKw HT1 HTW wc w3 hiz hzz hz1 hz2 hz3
  go_wp2_with (first
    | (with_reducible refine wpList_loadW rfl 26 (.tmp 7) rfl qh 0 rfl (u8s h) _ HR5.out HUH.out rfl HIH.out ?_)
    | (refine wpList_rows rfl 50 26 64 [h] _ rfl HUS.out info_hz1 (by omega) (by simp) (by simp) HONE.out (by with_unfolding_all rfl) ?_; intro g6 w6 hg6 hb6 _ hO6; have HB6 := Lib.hid hb6; have HO6 := Lib.hid hO6; clear hb6 hO6 hg6)
    | (at_builtin; go_loud (refine wpList_append_bytes rfl rfl (.tmp 45) (.tmp 46) 50 26 64 64 rfl iz zz HUS.out HIZ.out.1 HIZ.out.2.1 HIZ.out.2.2.1 HIZ.out.2.2.2.1 HIZ.out.2.2.2.2 (by omega) w5.heap.size g6 1 1 [h] m rfl HO6.out HONE.out HM64.out rfl (by omega) B d rfl (HM5.out.below (Nat.le_refl _) HB6.out HB6.out.size) (by unfold maxLen; omega) (by omega) HB6.out.size ?_); intro A7 c7 w7 hb7 hbel7))
  refine (join_any' A7 c7 (h :: m) w7 hb7 (Hz.cons_len HHL.out HM64.out) (by simp [maxLen]; omega) (1 + m.length) (by simp; omega)).mono ?_
  obtain ⟨al, hal⟩ : ∃ z, z = Hz.join (h :: m) := ⟨_, rfl⟩
  rw [← hal]
  have hall : al.length = 64 := by rw [hal]; exact Hz.join_len' (Hz.cons_len HHL.out HM64.out)
  have HAL := Lib.hid hal
  have HALL := Lib.hid hall
  have HIA := Lib.hid (HaveHzInfo hall)
  have HZA := Lib.hid (HaveHzLen hall)
  clear hal hall
  rintro e w8 ⟨rfl, hb8⟩
  have hb57 : Below w5.heap.size w5 w7 := HB6.out.trans (hbel7.mono (Nat.le_refl _))
  have hb58 : Below w5.heap.size w5 w8 := hb57.trans (hb8.mono hb57.size)
  have HH8 := Lib.hid (HH5.out.below hb58 HH5.out.lt)
  have HT8 := Lib.hid (HT5.out.below hb58 HT5.out.lt)
  have HW8 := Lib.hid (HW5.out.trans (hb58.mono HW5.out.size))
  have HZ8 := Lib.hid (show At (w8.alloc (.cells (u8s Hz.zero).toArray 26)) w8.heap.size 26 (u8s Hz.zero) from At.newA w8 _ rfl)
  have HG8 := Lib.hid (fun (w3 : World) (hg3 : (w8.alloc (.cells (u8s Hz.zero).toArray 26)).grownBy w3 (some w8.heap.size)) => show Below w8.heap.size w8 w3 from Below.ofGrown ((Below.refl _ _).alloc (Nat.le_refl _) _) hg3 ((Below.refl _ _).alloc (Nat.le_refl _) _).size (Nat.le_refl _))
  clear hb7 hbel7 hb8 hb57 hb58 HH5 HT5 HW5 HB6 HO6 HR5 HIZ HONE HM HM5
  go_wp2_with (first
    | (refine wpList_storeAll rfl 26 (.tmp 10) (.tmp 48) rfl _ rfl _ (u8s Hz.zero) (u8s al) HZ8.out rfl HZA.out HIA.out (u8s_one al) ?_; intro w9 hat9 hg9 hs9))
  have hb9 := HG8.out w9 hg9
  have hH9 := HH8.out.below hb9 HH8.out.lt
  have hT9 := HT8.out.below hb9 HT8.out.lt
  have HW9 := Lib.hid (HW8.out.trans (hb9.mono HW8.out.size))
  obtain ⟨qa, hqa⟩ : ∃ q, q = w8.heap.size := ⟨_, rfl⟩
  rw [← hqa] at hat9 ⊢
  have HH9 := Lib.hid hH9
  have HA9 := Lib.hid hat9
  have HRH := Lib.hid (fun w' (hb : Behind w9 w') => behind_range hH9 hb)
  have HRT := Lib.hid (fun w' (hb : Behind w9 w') => behind_range hT9 hb)
  have HRA := Lib.hid (fun w' (hb : Behind w9 w') => behind_range hat9 hb)
  have HC1 := Lib.hid (fun w' (hb : Behind w9 w') => behind_call hb (count_any al HALL.out w'))
  have HC2 := Lib.hid (fun w' (hb : Behind w9 w') => behind_call hb (count_any h HHL.out w'))
  have HN1 := Lib.hid (fun w => by have := run_neq_hz w h h HHL.out HHL.out; simp only [beq_self_eq_true, Bool.not_true] at this; exact this)
  have HE1 := Lib.hid (fun w => run_lss0 (Hz.count al : Nat) (Hz.count h : Nat) (by have := Hz.finds_count HHL.out HM64.out; rw [← HAL.out] at this; omega) w)
  have HE2 := Lib.hid (fun w => run_mul4 l.length (by omega) w)
  have HE3 := Lib.hid (fun w => run_gtr0 (Hz.count h : Nat) (4 * (l.length : Int)) (by have := Hz.finds_four l; rw [← HH.out] at this; omega) w)
  clear hb9 hH9 hT9 hat9 hg9 hs9 hqa HH8 HT8 HW8 HZ8 HG8
  simp only [Act.put]
  refine wp_region_class (Behind w9) (by kernel_rfl) (by kernel_rfl) (Below.refl _ _).drew ?_
  iterate 18 (first
    | go_big_quiet_skip
    | (with_reducible refine wpQuiet_loadAll (by with_unfolding_all rfl) 26 _ (by with_unfolding_all rfl) qh (0) (by with_unfolding_all rfl) (u8s h) _ (fun w h => HRH.out w h) HUH.out (by with_unfolding_all rfl) HIH.out ?_; simp only [Act.put, List.setIfInBounds_toArray, List.set_cons_zero, List.set_cons_succ])
    | (with_reducible refine wpQuiet_loadAll (by with_unfolding_all rfl) 26 _ (by with_unfolding_all rfl) qt (0) (by with_unfolding_all rfl) (u8s h) _ (fun w h => HRT.out w h) HUH.out (by with_unfolding_all rfl) HIH.out ?_; simp only [Act.put, List.setIfInBounds_toArray, List.set_cons_zero, List.set_cons_succ])
    | (with_reducible refine wpQuiet_loadAll (by with_unfolding_all rfl) 26 _ (by with_unfolding_all rfl) qa (0) (by with_unfolding_all rfl) (u8s al) _ (fun w h => HRA.out w h) HUH.out (by with_unfolding_all rfl) HIA.out ?_; simp only [Act.put, List.setIfInBounds_toArray, List.set_cons_zero, List.set_cons_succ])
    | (with_reducible refine wpQuiet_call 12 [hzV al] (.int .i64 (Hz.count al : Nat)) (by with_unfolding_all rfl) _ _ (by with_unfolding_all rfl) (by with_unfolding_all rfl) (fun _ => by kernel_rfl) (fun w' h => HC1.out w' h) ?_; simp only [Act.put, List.setIfInBounds_toArray, List.set_cons_zero, List.set_cons_succ])
    | (with_reducible refine wpQuiet_call 12 [hzV h] (.int .i64 (Hz.count h : Nat)) (by with_unfolding_all rfl) _ _ (by with_unfolding_all rfl) (by with_unfolding_all rfl) (fun _ => by kernel_rfl) (fun w' h => HC2.out w' h) ?_; simp only [Act.put, List.setIfInBounds_toArray, List.set_cons_zero, List.set_cons_succ])
    | (with_reducible refine wpQuiet_bin (by with_unfolding_all rfl) .neq 26 _ _ _ (by with_unfolding_all rfl) (hzV h) (hzV h) (.bool false) (by with_unfolding_all rfl) (by with_unfolding_all rfl) (fun w => run_eqGuard_hz w _ _ _ _ _) (fun w => HN1.out w) ?_; simp only [Act.put, List.setIfInBounds_toArray, List.set_cons_zero, List.set_cons_succ])
    | (with_reducible refine wpQuiet_bin (by with_unfolding_all rfl) .lss 3 _ _ _ (by with_unfolding_all rfl) (.int .i64 (Hz.count al : Nat)) (.int .i64 (Hz.count h : Nat)) (.bool false) (by with_unfolding_all rfl) (by with_unfolding_all rfl) (fun w => rfl) (fun w => HE1.out w) ?_; simp only [Act.put, List.setIfInBounds_toArray, List.set_cons_zero, List.set_cons_succ])
    | (with_reducible refine wpQuiet_bin (by with_unfolding_all rfl) .mul 3 _ _ _ (by with_unfolding_all rfl) (.int .i64 4) (.int .i64 (l.length : Int)) (.int .i64 (4 * (l.length : Int))) (by with_unfolding_all rfl) (by with_unfolding_all rfl) (fun w => rfl) (fun w => HE2.out w) ?_; simp only [Act.put, List.setIfInBounds_toArray, List.set_cons_zero, List.set_cons_succ])
    | (with_reducible refine wpQuiet_bin (by with_unfolding_all rfl) .gtr 3 _ _ _ (by with_unfolding_all rfl) (.int .i64 (Hz.count h : Nat)) (.int .i64 (4 * (l.length : Int))) (.bool false) (by with_unfolding_all rfl) (by with_unfolding_all rfl) (fun w => rfl) (fun w => HE3.out w) ?_; simp only [Act.put, List.setIfInBounds_toArray, List.set_cons_zero, List.set_cons_succ])
    | (with_reducible refine wpQuiet_val (.int .i64 (l.length : Int)) (by with_unfolding_all rfl) (fun w' _ => by with_unfolding_all rfl) ?_; simp only [Act.put, List.setIfInBounds_toArray, List.set_cons_zero, List.set_cons_succ])
    | (go_big_quiet_step (exact fun _ => rfl)))
  with_reducible refine wpQuiet_nil ?_
  intro w10 h10
  have HB10 := Lib.hid (HW9.out.trans (Below.mono h10 HW9.out.size))
  have HH10 := Lib.hid (HH9.out.below h10 HH9.out.lt)
  have HA10 := Lib.hid (HA9.out.below h10 HA9.out.lt)
  have HZ10 := Lib.hid (show At (w10.alloc (.cells (u8s Hz.zero).toArray 26)) w10.heap.size 26 (u8s Hz.zero) from At.newA w10 _ rfl)
  have HIZZ := Lib.hid (HaveHzInfo Hz.zero_len)
  clear h10 HH9 HA9 HW9 HRH HRT HRA HC1 HC2 HN1 HE1 HE2 HE3 w9
  go_wp2_with (first
    | (refine wpList_build (u8s Hz.zero).toArray rfl 26 #[] rfl built_zero ?_)
    | (refine wpList_storeAll rfl 26 (.tmp 11) (.tmp 67) rfl _ rfl _ (u8s Hz.zero) (u8s Hz.zero) HZ10.out rfl rfl HIZZ.out (u8s_one Hz.zero) ?_; intro w11 hat11 hg11 hs11))
  obtain ⟨qg, hqg⟩ : ∃ q, q = w10.heap.size := ⟨_, rfl⟩
  have hg11' : Below qg w10 w11 := by rw [hqg]; exact Below.ofGrown ((Below.refl _ _).alloc (Nat.le_refl _) _) hg11 ((Below.refl _ _).alloc (Nat.le_refl _) _).size (Nat.le_refl _)
  rw [← hqg] at hat11 ⊢
  have hqle : qg ≤ w10.heap.size := by rw [hqg]; exact Nat.le_refl _
  have HQ := Lib.hid (And.intro hg11' (And.intro hat11 hqg))
  have hh10 : qh < qg := by rw [hqg]; exact HH10.out.lt
  have ha10 : qa < qg := by rw [hqg]; exact HA10.out.lt
  have hwq : w.heap.size ≤ qg := by rw [hqg]; exact HB10.out.size
  clear hg11 hg11' hat11 hs11 hqg HZ10
  go_loopw [12] (fun i wr => ∃ t : Nat, t ≤ l.length ∧ i = .int .i64 ((l.length : Int) - 1 - (t : Int)) ∧ At wr qg 26 (u8s (Hz.backTo l t)) ∧ Below qg w10 wr) (fun i _ => (RowKit.intOf i + 1).toNat)
  case atStart => exact ⟨0, by omega, by go_num, HQ.out.2.1, HQ.out.1⟩
  case round =>
    obtain ⟨t, htl, rfl, hat, hb⟩ := hrel
    obtain ⟨cur, hcur⟩ : ∃ z, z = Hz.backTo l t := ⟨_, rfl⟩
    rw [← hcur] at hat
    have hcl : cur.length = 64 := by rw [hcur]; exact Hz.backTo_len _ _
    by_cases hlt : t < l.length
    · obtain ⟨j, hj⟩ : ∃ j : Nat, (l.length : Int) - 1 - (t : Int) = (j : Int) := ⟨l.length - 1 - t, by omega⟩
      have hjl : j < l.length := by omega
      have hje : l.length - 1 - t = j := by omega
      rw [hj]
      obtain ⟨k', hkn⟩ : ∃ k', k' = l[j] := ⟨_, rfl⟩
      have hk32 : k'.length = 32 := by rw [hkn]; exact HK32.out _ (List.getElem_mem hjl)
      obtain ⟨g, off, rfl, hgl, hc⟩ := HK.out (by omega)
      have hbr : Below w.heap.size w wr := HB10.out.trans (hb.mono hwq)
      have HRK := Lib.hid (show ∀ w', FromQ qg w10 w' → w'.rangeAt g (off + j * 32) (u8s k') from fun w' h j' v hv => by
        rw [hkn] at hv
        exact ((HB10.out.trans (h.2.mono hwq)).cell (p := ⟨g, off + j * 32 + j', none⟩) hgl).trans (hc j hjl j' v hv))
      have HIK := Lib.hid (show (Try.prog.info? 23).map (·.size) = some (u8s k').length by rw [u8s_len, hk32]; kernel_rfl)
      have HIC := Lib.hid (HaveHzInfo hcl)
      obtain ⟨nx, hnx⟩ : ∃ z, z = Hz.withKeys cur [k', k'] := ⟨_, rfl⟩
      have hnl : nx.length = 64 := by rw [hnx, Hz.withKeys_len, hcl]
      have HIN := Lib.hid (HaveHzInfo hnl)
      have HNC := Lib.hid (show (u8s nx).length = (u8s cur).length by rw [u8s_len, u8s_len, hnl, hcl])
      have HNX := Lib.hid (show nx = Hz.backTo l (t + 1) by
        rw [Hz.backTo_succ l t hlt, hnx, hcur, hkn]
        simp only [hje])
      have HCL := Lib.hid hcl
      have HK3 := Lib.hid hk32
      have HTK := Lib.hid (show ∀ x ∈ [k', k'], x.length = 32 by intro x hx; rcases List.mem_cons.1 hx with rfl | hx; exact hk32; rw [List.mem_singleton.1 hx]; exact hk32)
      have HAT := Lib.hid hat
      have HBr := Lib.hid hb
      have HNN := Lib.hid hnx
      have HUDS := Lib.hid Try.underlying51
      have hqw : qg ≤ wr.heap.size := Nat.le_trans hqle hb.size
      have i1 : (0 : Int) ≤ (j : Int) := by omega
      have i2 : (j : Int) < (l.length : Int) := by omega
      clear hat hb hbr hc hkn hk32 hnx hnl hcl hcur hje
      go_wp2_with fail
      have hg0 : At wr.drew qg 26 (u8s cur) := HAT.out
      refine wp_region_mixF 0 _ [(1, true), (2, true), (3, true), (4, true), (5, true), (6, true), (7, true), (8, true), (9, false)] [(10, false), (11, false)] (FromQ qg w10) (fun v w' => v = hzV cur ∧ At w' qg 26 (u8s cur)) (fun w' => At w' qg 26 (u8s cur)) (by rfl) (fun _ => rfl)
        (fun w hS hG => ⟨_, w, exec_loadAll 26 (.tmp 11) rfl qg rfl (u8s cur) _ (behind_range hG (Below.refl _ _)) HUH.out rfl HIC.out, Below.refl _ _, rfl, hG⟩) (fun _ _ h hb => fromQ_up h hb) (fun _ _ _ h hb => ⟨h.1, h.2.below hb h.2.lt⟩)
        (by kernel_rfl) (by kernel_rfl) (fun _ _ d _ _ h => by cases d <;> exact h) (by kernel_rfl) (by kernel_rfl) (by decide) ⟨hqle, HBr.out.drew⟩ (fun _ _ h hb => h.below hb h.lt) hg0 ?_
      iterate 9 (first
        | (with_reducible refine wpMixU_val (.slice (some ⟨g, off, none⟩) l.length c) (by with_unfolding_all rfl) (by with_unfolding_all rfl) (fun w _ => by with_unfolding_all rfl) ?_; simp only [Act.put, List.setIfInBounds_toArray, List.set_cons_zero, List.set_cons_succ])
        | (with_reducible refine wpMixU_val (.int .i64 (j : Int)) (by with_unfolding_all rfl) (by with_unfolding_all rfl) (fun w _ => by with_unfolding_all rfl) ?_; simp only [Act.put, List.setIfInBounds_toArray, List.set_cons_zero, List.set_cons_succ])
        | (with_reducible refine wpMixU_loadAll (by with_unfolding_all rfl) (by with_unfolding_all rfl) 23 _ (by with_unfolding_all rfl) g (off + j * 32) (by with_unfolding_all rfl) (u8s k') _ (fun w h => HRK.out w h) HUD.out (by with_unfolding_all rfl) HIK.out ?_; simp only [Act.put, List.setIfInBounds_toArray, List.set_cons_zero, List.set_cons_succ])
        | (with_reducible refine wpMixU_val (.pointer (some ⟨g, off + j * 32, none⟩)) (by with_unfolding_all rfl) (by with_unfolding_all rfl) (fun w _ => by go_simp) ?_; simp only [Act.put, List.setIfInBounds_toArray, List.set_cons_zero, List.set_cons_succ])
        | (with_reducible refine wpMixU_rows 51 23 32 [k', k'] _ (by with_unfolding_all rfl) (by with_unfolding_all rfl) (by with_unfolding_all rfl) HUDS.out info_dg1 (by omega) (by simp) (by simp) HTK.out (by with_unfolding_all rfl) ?_; intro g12; simp only [Act.put, List.setIfInBounds_toArray, List.set_cons_zero, List.set_cons_succ])
        | done)
      intro u wc hS hF hM
      obtain ⟨rfl, hat⟩ := hM
      have hrow := hF.2
      simp only [Act.put, List.setIfInBounds_toArray, List.set_cons_zero, List.set_cons_succ]
      refine wpMix_call 22 [hzV cur, .slice (some ⟨g12, 0, none⟩) 2 2] (fun v w' => v = hzV nx ∧ At w' qg 26 (u8s cur)) (by with_unfolding_all rfl) (by with_unfolding_all rfl) (by with_unfolding_all rfl) ((with_any cur HCL.out _ 2 [k', k'] wc hrow.at HTK.out (by simp [maxLen])).mono (fun e w' ⟨he, hb⟩ => ⟨hzV nx, by rw [he, HNN.out], fromQ_up hS hb, rfl, hat.below hb hat.lt⟩)) ?_
      rintro v w13 hS13 ⟨hv, hat13⟩
      subst hv
      simp only [Act.put, List.setIfInBounds_toArray, List.set_cons_zero, List.set_cons_succ]
      refine wpMix_storeAll (by with_unfolding_all rfl) (by with_unfolding_all rfl) 26 _ _ (by with_unfolding_all rfl) qg (by with_unfolding_all rfl) 26 (u8s cur) (u8s nx) hat13 (by with_unfolding_all rfl) HNC.out HIN.out (u8s_one nx) (fun w' hg => ⟨hS13.1, Below.ofGrown hS13.2 hg (Nat.le_trans hS13.1 hS13.2.size) (Nat.le_refl _)⟩) ?_
      intro w14 hat14 hg14 hS14
      refine wpMix_nil ?_
      have HB14 := Lib.hid hS14.2
      have HAT14 := Lib.hid hat14
      clear hat14 hg14 hS14 hat13 hS13 hrow hat hS hF hg0 HAT HBr HRK
      go_wp2_with fail
      go_roundw
      case rel => exact ⟨t + 1, by omega, (by first | (congr 1; done) | (congr 1; omega) | go_num), by rw [← HNX.out]; exact HAT14.out, HB14.out⟩
      case measure => (simp [RowKit.intOf]; try omega)
    · have htt : t = l.length := by omega
      have hch : cur = h := by rw [hcur, htt, Hz.backTo_all, HH.out]
      have hii : (l.length : Int) - 1 - (t : Int) = -1 := by omega
      rw [hii]
      have hhr := HH10.out.below hb hh10
      have har := HA10.out.below hb ha10
      have HHr := Lib.hid hhr
      have HAr := Lib.hid har
      have hgr := hat
      rw [hch] at hgr
      have HGr := Lib.hid hgr
      have HWr := Lib.hid (HB10.out.trans (hb.mono hwq))
      clear hcur hcl hat hb hch htt hii hhr har hgr HB10 HH10 HA10 HQ
      go_wp2_with fail
      go_loopw [13] (fun i wx => ∃ n : Nat, n ≤ l.length ∧ i = .int .i64 n ∧ Below wr.heap.size wr wx) (fun i _ => l.length - (RowKit.intOf i).toNat)
      case atStart => exact ⟨0, by omega, rfl, Below.refl _ _⟩
      case round =>
        obtain ⟨n, hnl, rfl, hb⟩ := hrel
        by_cases hlt2 : n < l.length
        · obtain ⟨k', hkn⟩ : ∃ k', k' = l[n] := ⟨_, rfl⟩
          have hmem : k' ∈ l := by rw [hkn]; exact List.getElem_mem hlt2
          have hk32 : k'.length = 32 := HK32.out _ hmem
          obtain ⟨g, off, rfl, hgl, hc⟩ := HK.out (by omega)
          have hbw : Below w.heap.size w wr := HWr.out.trans (hb.mono HWr.out.size)
          have hH := HHr.out.below hb HHr.out.lt
          have hA := HAr.out.below hb HAr.out.lt
          have HRH := Lib.hid (fun w' (h : Behind wr w') => behind_range hH h)
          have HRA := Lib.hid (fun w' (h : Behind wr w') => behind_range hA h)
          have HRK := Lib.hid (show ∀ w', Behind wr w' → w'.rangeAt g (off + n * 32) (u8s k') from fun w' h j v hv => by
            rw [hkn] at hv
            exact ((hbw.trans (Below.mono h hbw.size)).cell (p := ⟨g, off + n * 32 + j, none⟩) hgl).trans (hc n hlt2 j v hv))
          have HIK := Lib.hid (show (Try.prog.info? 23).map (·.size) = some (u8s k').length by rw [u8s_len, hk32]; kernel_rfl)
          have HHK := Lib.hid (show Hz.has h k' = true by rw [HH.out]; exact Hz.has_keys Hz.zero_len hmem)
          have HC1 := Lib.hid (fun w' (hb : Behind wr w') => behind_call (v := .bool true) hb ((has_any h k' HHL.out hk32 w').mono (fun _ _ he => ⟨by rw [he.1, HHK.out], he.2⟩)))
          have HC2 := Lib.hid (fun w' (hb : Behind wr w') => behind_call (v := .bool true) hb ((has_any al k' HALL.out hk32 w').mono (fun _ _ he => ⟨by rw [he.1, HAL.out, Hz.finds_has HHL.out HM64.out HHK.out], he.2⟩)))
          have HBx := Lib.hid hb
          have i1 : (0 : Int) ≤ (n : Int) := by omega
          have i2 : (n : Int) < (l.length : Int) := by omega
          clear hH hA hbw hb hc hkn hmem hk32
          go_wp2_with fail
          refine wp_region_class (Behind wr) (by kernel_rfl) (by kernel_rfl) (Below.refl _ _).drew ?_
          iterate 16 (first
            | go_big_quiet_skip
            | (with_reducible refine wpQuiet_loadAll (by with_unfolding_all rfl) 26 _ (by with_unfolding_all rfl) qh (0) (by with_unfolding_all rfl) (u8s h) _ (fun w h => HRH.out w h) HUH.out (by with_unfolding_all rfl) HIH.out ?_; simp only [Act.put, List.setIfInBounds_toArray, List.set_cons_zero, List.set_cons_succ])
            | (with_reducible refine wpQuiet_loadAll (by with_unfolding_all rfl) 26 _ (by with_unfolding_all rfl) qa (0) (by with_unfolding_all rfl) (u8s al) _ (fun w h => HRA.out w h) HUH.out (by with_unfolding_all rfl) HIA.out ?_; simp only [Act.put, List.setIfInBounds_toArray, List.set_cons_zero, List.set_cons_succ])
            | (with_reducible refine wpQuiet_loadAll (by with_unfolding_all rfl) 23 _ (by with_unfolding_all rfl) g (off + n * 32) (by with_unfolding_all rfl) (u8s k') _ (fun w h => HRK.out w h) HUD.out (by with_unfolding_all rfl) HIK.out ?_; simp only [Act.put, List.setIfInBounds_toArray, List.set_cons_zero, List.set_cons_succ])
            | (with_reducible refine wpQuiet_call 11 [hzV h, .agg (u8s k').toArray] (.bool true) (by with_unfolding_all rfl) _ _ (by with_unfolding_all rfl) (by with_unfolding_all rfl) (fun _ => by kernel_rfl) (fun w' h => HC1.out w' h) ?_; simp only [Act.put, List.setIfInBounds_toArray, List.set_cons_zero, List.set_cons_succ])
            | (with_reducible refine wpQuiet_call 11 [hzV al, .agg (u8s k').toArray] (.bool true) (by with_unfolding_all rfl) _ _ (by with_unfolding_all rfl) (by with_unfolding_all rfl) (fun _ => by kernel_rfl) (fun w' h => HC2.out w' h) ?_; simp only [Act.put, List.setIfInBounds_toArray, List.set_cons_zero, List.set_cons_succ])
            | (go_big_quiet_step (exact fun _ => rfl)))
          with_reducible refine wpQuiet_nil ?_
          intro wy hy
          have HBy := Lib.hid (HBx.out.trans (Below.mono hy HBx.out.size))
          clear hy
          go_wp2_with fail
          go_roundw
          case rel => exact ⟨n + 1, by omega, by go_num, HBy.out⟩
          case measure => simp [RowKit.intOf]; omega
        · have hH := HHr.out.below hb HHr.out.lt
          have hA := HAr.out.below hb HAr.out.lt
          have hG := HGr.out.below hb HGr.out.lt
          have HRH := Lib.hid (fun w' (h : Behind wr w') => behind_range hH h)
          have HRA := Lib.hid (fun w' (h : Behind wr w') => behind_range hA h)
          have HRG := Lib.hid (fun w' (h : Behind wr w') => behind_range hG h)
          have HBw := Lib.hid (HWr.out.trans (hb.mono HWr.out.size))
          have HQ1 := Lib.hid (fun w => by have := run_eql_hz w h h HHL.out HHL.out; simp only [beq_self_eq_true] at this; exact this)
          have HQ2 := Lib.hid (fun w => by have := run_eql_hz w al al HALL.out HALL.out; simp only [beq_self_eq_true] at this; exact this)
          have HTA := Lib.hid (Hz.two_len HALL.out HHL.out)
          have HJA := Lib.hid (show al = Hz.join [al, h] by rw [HAL.out]; exact (Hz.finds_again HHL.out HM64.out).symm)
          clear hH hA hG hb
          go_wp2_with fail
          refine wp_region_mix [(0, true), (1, true), (2, true), (3, true), (4, true), (5, true), (8, true), (6, false), (7, false), (9, true), (10, true), (11, true)] (Behind wr)
            (by kernel_rfl) (by kernel_rfl) (fun _ _ d _ _ h => by cases d <;> exact h) (by kernel_rfl) (by decide) (Below.refl _ _).drew ?_
          have hS' : Behind wr wr.drew := (Below.refl _ _).drew
          iterate 12 (first
            | (with_reducible refine wpMix_loadAll (by with_unfolding_all rfl) (by with_unfolding_all rfl) 26 _ (by with_unfolding_all rfl) qh (0) (by with_unfolding_all rfl) (u8s h) _ (fun w h => HRH.out w h) HUH.out (by with_unfolding_all rfl) HIH.out ?_; simp only [Act.put, List.setIfInBounds_toArray, List.set_cons_zero, List.set_cons_succ])
            | (with_reducible refine wpMix_loadAll (by with_unfolding_all rfl) (by with_unfolding_all rfl) 26 _ (by with_unfolding_all rfl) qa (0) (by with_unfolding_all rfl) (u8s al) _ (fun w h => HRA.out w h) HUH.out (by with_unfolding_all rfl) HIA.out ?_; simp only [Act.put, List.setIfInBounds_toArray, List.set_cons_zero, List.set_cons_succ])
            | (with_reducible refine wpMix_loadAll (by with_unfolding_all rfl) (by with_unfolding_all rfl) 26 _ (by with_unfolding_all rfl) qg (0) (by with_unfolding_all rfl) (u8s h) _ (fun w h => HRG.out w h) HUH.out (by with_unfolding_all rfl) HIH.out ?_; simp only [Act.put, List.setIfInBounds_toArray, List.set_cons_zero, List.set_cons_succ])
            | (with_reducible refine wpMix_bin (by with_unfolding_all rfl) (by with_unfolding_all rfl) .eql 26 _ _ _ (by with_unfolding_all rfl) (hzV h) (hzV h) (.bool true) (by with_unfolding_all rfl) (by with_unfolding_all rfl) (fun w => run_eqGuard_hz w _ _ _ _ _) (fun w => HQ1.out w) ?_; simp only [Act.put, List.setIfInBounds_toArray, List.set_cons_zero, List.set_cons_succ])
            | (with_reducible refine wpMix_bin (by with_unfolding_all rfl) (by with_unfolding_all rfl) .eql 26 _ _ _ (by with_unfolding_all rfl) (hzV al) (hzV al) (.bool true) (by with_unfolding_all rfl) (by with_unfolding_all rfl) (fun w => run_eqGuard_hz w _ _ _ _ _) (fun w => HQ2.out w) ?_; simp only [Act.put, List.setIfInBounds_toArray, List.set_cons_zero, List.set_cons_succ])
            | (with_reducible refine wpMix_rows 50 26 64 [al, h] _ (by with_unfolding_all rfl) (by with_unfolding_all rfl) (by with_unfolding_all rfl) HUS.out info_hz1 (by omega) (by simp) (by simp) HTA.out (by with_unfolding_all rfl) (fun o => behind_alloc hS' o) ?_; clear hS'; (try clear hrow); intro g5 wc hS' hbb hrow; clear hbb; simp only [Act.put, List.setIfInBounds_toArray, List.set_cons_zero, List.set_cons_succ])
            | (with_reducible refine wpMix_callv 21 [.slice (some ⟨g5, 0, none⟩) 2 2] (hzV al) (by with_unfolding_all rfl) (by with_unfolding_all rfl) (by with_unfolding_all rfl) (join_at hS' hrow HTA.out (by simp [maxLen]) 2 HJA.out (by with_unfolding_all rfl)) ?_; clear hS'; intro wc hS'; simp only [Act.put, List.setIfInBounds_toArray, List.set_cons_zero, List.set_cons_succ])
            | (with_reducible refine wpMix_val (.bool true) (by with_unfolding_all rfl) (by with_unfolding_all rfl) (fun w _ => by with_unfolding_all rfl) ?_; simp only [Act.put, List.setIfInBounds_toArray, List.set_cons_zero, List.set_cons_succ])
            | done)
          refine wpMix_nil ?_
          have HF := Lib.hid (HBw.out.trans (Below.mono hS' HBw.out.size))
          clear hS' hrow
          go_wp2_with fail
          go_ret
          exact ⟨rfl, HF.out⟩
end Go.Proofs.Ytcpnlojcmlldpaa
