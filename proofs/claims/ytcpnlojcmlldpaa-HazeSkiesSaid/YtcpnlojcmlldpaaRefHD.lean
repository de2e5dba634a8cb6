/- The reference of layer 14: With. -/
import Derived.Test.YtcpnlojcmlldpaaRefHC
namespace Go.Proofs.Ytcpnlojcmlldpaa
open Go.RowKit Go.Maps Go.Sort

theorem no_carry : ∀ x : Fin 256, ∀ j : Fin 8, x.val.testBit j.val = false → x.val ||| 2 ^ j.val = x.val + 2 ^ j.val ∧ x.val + 2 ^ j.val < 256 := by decide +kernel
theorem add_nat (x : UInt8) (m : Nat) (h : x.toNat.testBit (m % 8) = false) : (x ||| Hz.one m).toNat = x.toNat + 2 ^ (m % 8) ∧ x.toNat + 2 ^ (m % 8) < 256 := by
  have h1 := no_carry ⟨x.toNat, x.toNat_lt⟩ ⟨m % 8, Nat.mod_lt _ (by omega)⟩ h
  rw [UInt8.toNat_or, Hz.one_nat]
  exact h1
theorem add_num (x : UInt8) (m : Nat) (h : (x ||| Hz.one m).toNat = x.toNat + 2 ^ (m % 8) ∧ x.toNat + 2 ^ (m % 8) < 256) : ((x.toNat : Int) + 2 ^ (m % 8) % 256) % 256 = ((x ||| Hz.one m).toNat : Int) := by
  have e1 : (2 : Int) ^ (m % 8) = ((2 ^ (m % 8) : Nat) : Int) := by rw [Int.natCast_pow]; rfl
  rw [e1, h.1]
  have h2 := h.2
  generalize 2 ^ (m % 8) = q at h2 ⊢
  omega
theorem set_same {h : List UInt8} (hl : h.length = 64) {n : Nat} (hn : n < 512) (hb : Hz.bit h n = true) : Hz.set h n = h := by
  refine Hz.ext (by rw [Hz.set_len, hl]) hl fun m _ => ?_
  rw [Hz.bit_set hl hn]
  by_cases hm : m = n
  · subst hm
    rw [hb]
    rfl
  · simp [hm]
set_option maxRecDepth 100000 in
set_option maxHeartbeats 400000 in
theorem refwith_any (h : List UInt8) (hh : h.length = 64) (A : Option Addr) (c : Nat) (ks : List (List UInt8)) (w : World) (hk : BytesIn w A 32 ks) (hk32 : ∀ k ∈ ks, k.length = 32) (hn : ks.length ≤ maxLen) :
    Calls Try.prog 24 #[.agg (u8s h).toArray, .slice A ks.length c] w fun e w' => e = .returned (.agg (u8s (Hz.withKeys h ks)).toArray) ∧ Below w.heap.size w w' := by
  have hi : (Try.prog.info? 26).map (·.size) = some (u8s h).toArray.size := by
    rw [List.size_toArray, u8s_len, hh]
    kernel_rfl
  have HH := Lib.hid hh
  have HK := Lib.hid hk
  have HK32 := Lib.hid hk32
  have HUD := Lib.hid Try.underlying23
  have HUH := Lib.hid Try.underlying26
  have hn' : ks.length ≤ 9223372036854775807 := hn
  clear hh hk hk32
  go_enter Try.func24, Try.ntmps24
  go_wp2_with fail
  go_loopw [5] (fun i wr => ∃ n : Nat, n ≤ ks.length ∧ i = .int .i64 n ∧ At wr w.heap.size 26 (u8s (Hz.withKeys h (ks.take n))) ∧ At wr (w.heap.size + 1) 26 (u8s Hz.zero) ∧ Below w.heap.size w wr) (fun i _ => ks.length - (RowKit.intOf i).toNat)
  case atStart =>
    have hz : At ((w.alloc (.cells (u8s h).toArray 26)).alloc (.cells (u8s Hz.zero).toArray 26)) (w.heap.size + 1) 26 (u8s Hz.zero) := at_new_at (w.alloc (.cells (u8s h).toArray 26)) 26 (n := w.heap.size + 1) (C := (u8s Hz.zero).toArray) (by simp) rfl
    refine ⟨0, by omega, rfl, (At.newA w _ rfl).alloc _, hz, ((Below.refl _ _).alloc (Nat.le_refl _) _).alloc (by simp) _⟩
  case round =>
    obtain ⟨n, hnl, rfl, hat, haz, hb⟩ := hrel
    obtain ⟨hc, hhc⟩ : ∃ hc, hc = Hz.withKeys h (ks.take n) := ⟨_, rfl⟩
    rw [← hhc] at hat
    have hcl : hc.length = 64 := by rw [hhc, Hz.withKeys_len, HH.out]
    by_cases hlt : n < ks.length
    · obtain ⟨k, hkn⟩ : ∃ k, k = ks[n] := ⟨_, rfl⟩
      have hk32 : k.length = 32 := by rw [hkn]; exact HK32.out _ (List.getElem_mem hlt)
      obtain ⟨g, off, rfl, hgl, hc'⟩ := HK.out (by omega)
      have HR := Lib.hid (show ∀ w', Below w.heap.size w w' → w'.rangeAt g (off + n * 32) (u8s k) from fun w' hb j v hv => by
        rw [hkn] at hv
        exact (hb.cell (p := ⟨g, off + n * 32 + j, none⟩) hgl).trans (hc' n hlt j v hv))
      have HI := Lib.hid (show (Try.prog.info? 23).map (·.size) = some (u8s k).length by rw [u8s_len, hk32]; kernel_rfl)
      have HX := Lib.hid hkn
      have HAt := Lib.hid hat
      have HAz := Lib.hid haz
      have HB := Lib.hid hb
      have HK3 := Lib.hid hk32
      have HHC := Lib.hid (And.intro hhc hcl)
      have i1 : (0 : Int) ≤ (n : Int) := by omega
      have i2 : (n : Int) < (ks.length : Int) := by omega
      clear hkn hat haz hb hc' hk32 hhc hcl
      go_wp2_with fail
      go_loopw [6] (fun i wr => ∃ j : Nat, j ≤ 4 ∧ i = .int .i64 j ∧ At wr w.heap.size 26 (u8s (((Hz.marks k).take j).foldl Hz.set hc)) ∧ At wr (w.heap.size + 1) 26 (u8s Hz.zero) ∧ Below w.heap.size w wr) (fun i _ => 4 - (RowKit.intOf i).toNat)
      case atStart => exact ⟨0, by omega, rfl, HAt.out, HAz.out, HB.out⟩
      case round =>
        obtain ⟨j, hj4, rfl, hat, haz, hb⟩ := hrel
        by_cases hjl : j < 4
        · obtain ⟨m, hm⟩ : ∃ m, m = Hz.mark k j := ⟨_, rfl⟩
          obtain ⟨hd, hhd⟩ : ∃ hd, hd = ((Hz.marks k).take j).foldl Hz.set hc := ⟨_, rfl⟩
          rw [← hhd] at hat
          have hdl : hd.length = 64 := by rw [hhd, Hz.fold_set_len, HHC.out.2]
          have hm512 : m < 512 := by rw [hm]; exact Hz.mark_lt k j
          have hnext : ((Hz.marks k).take (j + 1)).foldl Hz.set hc = Hz.set hd m := by
            have hmj : (Hz.marks k)[j]'hjl = m := by
              rw [hm]
              have hj : j = 0 ∨ j = 1 ∨ j = 2 ∨ j = 3 := by omega
              rcases hj with rfl | rfl | rfl | rfl <;> rfl
            rw [take_snoc (Hz.marks k) j hjl, List.foldl_append, List.foldl_cons, List.foldl_nil, ← hhd, hmj]
          have HNX := Lib.hid hnext
          have HM := Lib.hid (And.intro hm hm512)
          have HD := Lib.hid (And.intro hhd hdl)
          have HA5 := Lib.hid hat
          have HZ5 := Lib.hid haz
          have HB5 := Lib.hid hb
          have HR5 := Lib.hid (HR.out _ hb)
          have HID := Lib.hid (HaveHzInfo hdl)
          clear hm hm512 hhd hdl hat haz hb hnext
          go_wp2_with (first
            | (with_reducible refine wpList_loadW rfl 23 (.tmp 20) rfl g (off + n * 32) rfl (u8s k) _ HR5.out HUD.out rfl HI.out ?_))
          refine (refmark_any k HK3.out j hjl _).mono ?_
          rw [← HM.out.1]
          rintro e w6 ⟨rfl, hb⟩
          have HA6 := Lib.hid (HA5.out.below hb HA5.out.lt)
          have HZ6 := Lib.hid (HZ5.out.below hb HZ5.out.lt)
          have HB6 := Lib.hid (HB5.out.trans (hb.mono HB5.out.size))
          clear hb HA5 HZ5 HB5 HR5
          go_wp2_with (first
            | (with_reducible refine wpList_loadAll rfl 26 (.tmp 2) rfl _ rfl _ _ _ HA6.out HUH.out rfl HID.out ?_))
          refine (refbit_any hd HD.out.2 m HM.out.2 _).mono ?_
          rintro e w7 ⟨rfl, hb⟩
          have HA7 := Lib.hid (HA6.out.below hb HA6.out.lt)
          have HZ7 := Lib.hid (HZ6.out.below hb HZ6.out.lt)
          have HB7 := Lib.hid (HB6.out.trans (hb.mono HB6.out.size))
          clear hb HA6 HZ6 HB6
          cases hbit : Hz.bit hd m
          · obtain ⟨x, hx⟩ : ∃ x, x = Hz.byteAt hd (m / 8) := ⟨_, rfl⟩
            have hm5 := HM.out.2
            have c0 : w7.cell? ⟨w.heap.size, m / 8, none⟩ = some (.int .u8 (x.toNat : Int)) := by rw [hx]; exact HA7.out.cell' (u8s_get (by have := HD.out.2; omega))
            have f0 := HA7.out.frozen (m / 8)
            have x1 := x.toNat_lt
            have hadd := add_nat x m (by unfold Hz.bit at hbit; rw [hx]; exact hbit)
            have q1 : ((m : Int)).tdiv 8 = ((m / 8 : Nat) : Int) := by rw [Int.tdiv_eq_ediv_of_nonneg (by omega)]; omega
            have q2 : ((m : Int)).tmod 8 = ((m % 8 : Nat) : Int) := by rw [Int.tmod_eq_emod_of_nonneg (by omega)]; omega
            have j1 : (0 : Int) ≤ ((m / 8 : Nat) : Int) := by omega
            have j2 : ((m / 8 : Nat) : Int) < 64 := by omega
            have j3 : (0 : Int) ≤ ((m % 8 : Nat) : Int) := by omega
            have HX5 := Lib.hid hx
            have HADD := Lib.hid hadd
            clear hx hadd hbit
            go_wp2_with fail
            refine wp_region_then (fun w' => ∃ n, w' = w7.drewN n) 11 (by kernel_rfl) (by kernel_rfl) (by kernel_rfl) (by kernel_rfl) (by decide) ⟨1, rfl⟩ ?_
            simp only [List.take_succ_cons, List.take_zero, List.drop_succ_cons, List.drop_zero]
            iterate 11 (go_big_quiet_step (fail))
            refine wpQuiet_nil ?_
            intro _ hw'
            obtain ⟨nq, rfl⟩ := hw'
            refine wpList_storeI rfl 5 (.tmp 38) (.tmp 37) rfl w.heap.size (m / 8) .u8 _ rfl rfl (by kernel_rfl) ((HA7.out.below (below_drewN (Below.refl _ _) _) HA7.out.lt).some (by rw [u8s_len]; have := HD.out.2; have := HM.out.2; omega)) ?_
            rw [add_num x m HADD.out]
            have hset : At ((w7.drewN nq).setCell ⟨w.heap.size, m / 8, none⟩ (.int .u8 ((x ||| Hz.one m).toNat : Int))) w.heap.size 26 (u8s (((Hz.marks k).take (j + 1)).foldl Hz.set hc)) := by
              have h := (HA7.out.below (below_drewN (Below.refl _ _) nq) HA7.out.lt).set (m / 8) (.int .u8 ((x ||| Hz.one m).toNat : Int))
              rw [u8s_set] at h
              rw [HNX.out]
              unfold Hz.set
              rw [← HX5.out]
              exact h
            have hB8 : Below w.heap.size w ((w7.drewN nq).setCell ⟨w.heap.size, m / 8, none⟩ (.int .u8 ((x ||| Hz.one m).toNat : Int))) := (below_drewN HB7.out nq).setCell (Nat.le_refl _) _
            have hs8 : At ((w7.drewN nq).setCell ⟨w.heap.size, m / 8, none⟩ (.int .u8 ((x ||| Hz.one m).toNat : Int))) (w.heap.size + 1) 26 (u8s Hz.zero) := At.far (HZ7.out.below (below_drewN (Below.refl _ _) nq) HZ7.out.lt) (show w.heap.size ≠ w.heap.size + 1 by omega) _
            generalize (w7.drewN nq).setCell ⟨w.heap.size, m / 8, none⟩ (.int .u8 ((x ||| Hz.one m).toNat : Int)) = w8 at hset hB8 hs8 ⊢
            have HA8 := Lib.hid hset
            have HB8 := Lib.hid hB8
            have HZ8 := Lib.hid hs8
            clear hset hB8 hs8 q1 q2 c0 f0
            simp only [Act.put]
            refine wpList_nil ?_
            go_wp2_with fail
            go_roundw
            case rel => exact ⟨j + 1, by omega, by go_num, HA8.out, HZ8.out, HB8.out⟩
            case measure => simp [RowKit.intOf]; omega
          · have HS := Lib.hid (show ((Hz.marks k).take (j + 1)).foldl Hz.set hc = hd by rw [HNX.out, set_same HD.out.2 HM.out.2 hbit])
            clear hbit
            go_wp2_with fail
            go_roundw
            case rel => exact ⟨j + 1, by omega, by go_num, by rw [HS.out]; exact HA7.out, HZ7.out, HB7.out⟩
            case measure => simp [RowKit.intOf]; omega
        · have h4 : j = 4 := by omega
          subst h4
          have hf : ((Hz.marks k).take 4).foldl Hz.set hc = Hz.withKeys h (ks.take (n + 1)) := by
            rw [take_snoc ks n hlt, ← HX.out]
            unfold Hz.withKeys
            rw [List.foldl_append, List.foldl_cons, List.foldl_nil]
            show _ = Hz.withKey (Hz.withKeys h (ks.take n)) k
            rw [← HHC.out.1]
            rfl
          rw [hf] at hat
          have HA6 := Lib.hid hat
          have HB6 := Lib.hid hb
          have HZ6 := Lib.hid haz
          clear hat haz hb hf
          go_wp2_with fail
          go_roundw
          case rel => exact ⟨n + 1, by omega, by go_num, HA6.out, HZ6.out, HB6.out⟩
          case measure => simp [RowKit.intOf]; omega
    · have hnk : n = ks.length := by omega
      have HFIN := Lib.hid (show hc = Hz.withKeys h ks by rw [hhc, hnk, List.take_length])
      have HIr := Lib.hid (HaveHzInfo hcl)
      have HLr := Lib.hid (HaveHzLen hcl)
      have HB := Lib.hid hb
      clear hcl hb hhc hnk
      go_wp2_with (first
        | (with_reducible refine wpList_loadAll rfl 26 (.tmp 2) rfl _ rfl _ _ _ hat HUH.out rfl HIr.out ?_)
        | (with_reducible refine wpList_storeAll rfl 26 (.tmp 4) (.tmp 39) rfl _ rfl _ (u8s Hz.zero) (u8s hc) haz rfl HLr.out HIr.out (u8s_one hc) ?_; intro w3 hat3 hg3 hs3))
      refine ret_cellAll rfl rfl (w.heap.size + 1) _ _ _ rfl hat3 HUH.out rfl HIr.out ⟨by rw [HFIN.out], ?_⟩
      exact Below.ofGrown HB.out hg3 HB.out.size (by omega)
end Go.Proofs.Ytcpnlojcmlldpaa
