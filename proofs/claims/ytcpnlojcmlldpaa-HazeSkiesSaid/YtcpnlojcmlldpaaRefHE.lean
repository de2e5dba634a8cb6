/- The reference of layer 14: Join. -/
import Derived.Test.YtcpnlojcmlldpaaRefHD
namespace Go.Proofs.Ytcpnlojcmlldpaa
open Go.RowKit Go.Maps Go.Sort

namespace Hz
/-- the first n bits of x taken over -/
def partJ (x h : List UInt8) (n : Nat) : List UInt8 := (List.range n).foldl (fun h m => if bit x m = true then set h m else h) h
theorem partJ_succ (x h : List UInt8) (n : Nat) : partJ x h (n + 1) = if bit x n = true then set (partJ x h n) n else partJ x h n := by
  unfold partJ
  rw [List.range_succ, List.foldl_append, List.foldl_cons, List.foldl_nil]
theorem partJ_len (x : List UInt8) {h : List UInt8} (hl : h.length = 64) : ∀ n, (partJ x h n).length = 64
  | 0 => hl
  | n + 1 => by
    rw [partJ_succ]
    split
    · rw [set_len, partJ_len x hl n]
    · exact partJ_len x hl n
theorem bit_partJ (x : List UInt8) {h : List UInt8} (hl : h.length = 64) (m : Nat) : ∀ n, n ≤ 512 → bit (partJ x h n) m = (bit h m || (decide (m < n) && bit x m))
  | 0, _ => by simp [partJ]
  | n + 1, hn => by
    have ih := bit_partJ x hl m n (by omega)
    rw [partJ_succ]
    by_cases hb : bit x n = true
    · rw [if_pos hb, bit_set (partJ_len x hl n) (by omega), ih]
      by_cases hm : m = n
      · subst hm
        simp [hb]
      · have e : decide (m < n + 1) = decide (m < n) := by rw [decide_eq_decide]; omega
        rw [e]
        simp [hm]
    · rw [if_neg hb, ih]
      by_cases hm : m = n
      · subst hm
        simp only [Bool.not_eq_true] at hb
        simp [hb]
      · have e : decide (m < n + 1) = decide (m < n) := by rw [decide_eq_decide]; omega
        rw [e]
theorem partJ_all (x : List UInt8) {h : List UInt8} (hl : h.length = 64) (hx : x.length = 64) : partJ x h 512 = orAll h x := by
  refine ext (partJ_len x hl _) (orAll_len hl hx) fun m hm => ?_
  rw [bit_partJ x hl m 512 (by omega), bit_orAll hl hx m hm]
  simp [hm]
end Hz
theorem at_range' {w : World} {b : Nat} {t : TypeId} {cs : List Value} (h : At w b t cs) : w.rangeAt b 0 cs := fun j v hv => by
  rw [Nat.zero_add]
  exact h.cell' hv
set_option maxRecDepth 100000 in
set_option maxHeartbeats 400000 in
theorem refjoin_any (A : Option Addr) (c : Nat) (l : List (List UInt8)) (w : World) (hl : BytesIn w A 64 l) (h64 : ∀ x ∈ l, x.length = 64) (hn : l.length ≤ maxLen) :
    Calls Try.prog 23 #[.slice A l.length c] w fun e w' => e = .returned (hzV (Hz.join l)) ∧ Below w.heap.size w w' := by
  have HL := Lib.hid hl
  have H64 := Lib.hid h64
  have HUH := Lib.hid Try.underlying26
  have hn' : l.length ≤ 9223372036854775807 := hn
  have hz0 : At (w.alloc (.cells (u8s Hz.zero).toArray 26)) w.heap.size 26 (u8s Hz.zero) := At.newA w _ rfl
  have hz1 : At ((w.alloc (.cells (u8s Hz.zero).toArray 26)).alloc (.cells (u8s Hz.zero).toArray 26)) (w.heap.size + 1) 26 (u8s Hz.zero) := at_new_at _ _ (by simp) rfl
  have HZ1 := Lib.hid hz1
  have HZ0 := Lib.hid hz0
  have HIZZ := Lib.hid (HaveHzInfo Hz.zero_len)
  have HB0 := Lib.hid (show Below w.heap.size w ((w.alloc (.cells (u8s Hz.zero).toArray 26)).alloc (.cells (u8s Hz.zero).toArray 26)) from ((Below.refl _ _).alloc (Nat.le_refl _) _).alloc (by simp) _)
  clear hl h64 hz0 hz1
  go_enter Try.func23, Try.ntmps23
  go_wp2_with (first
    | (refine wpList_build (u8s Hz.zero).toArray rfl 26 #[] rfl built_zero ?_)
    | (refine wpList_storeAll rfl 26 (.tmp 3) (.tmp 6) rfl _ rfl _ (u8s Hz.zero) (u8s Hz.zero) HZ1.out rfl rfl HIZZ.out (u8s_one Hz.zero) ?_; intro w2 hat2 hg2 hs2))
  have hZ2 : At w2 w.heap.size 26 (u8s Hz.zero) := (HZ0.out.alloc (.cells (u8s Hz.zero).toArray 26)).grown hg2 (by intro e; injection e with e; omega)
  have HZ2 := Lib.hid hZ2
  have HA2 := Lib.hid hat2
  have HB2 := Lib.hid (Below.ofGrown HB0.out hg2 HB0.out.size (by omega))
  clear hZ2 hat2 hg2 hs2 HZ0 HZ1 HB0
  go_loopw [4] (fun i wr => ∃ n : Nat, n ≤ l.length ∧ i = .int .i64 n ∧ At wr (w.heap.size + 1) 26 (u8s ((l.take n).foldl Hz.orAll Hz.zero)) ∧ At wr w.heap.size 26 (u8s Hz.zero) ∧ Below w.heap.size w wr) (fun i _ => l.length - (RowKit.intOf i).toNat)
  case atStart => exact ⟨0, by omega, rfl, HA2.out, HZ2.out, HB2.out⟩
  case round =>
    obtain ⟨n, hnl, rfl, hat, haz, hb⟩ := hrel
    obtain ⟨hc, hhc⟩ : ∃ hc, hc = (l.take n).foldl Hz.orAll Hz.zero := ⟨_, rfl⟩
    rw [← hhc] at hat
    have hcl : hc.length = 64 := by rw [hhc]; exact Hz.join_len _ Hz.zero_len (fun x hx => H64.out x (List.mem_of_mem_take hx))
    by_cases hlt : n < l.length
    · obtain ⟨x, hxn⟩ : ∃ x, x = l[n] := ⟨_, rfl⟩
      have hx64 : x.length = 64 := by rw [hxn]; exact H64.out _ (List.getElem_mem hlt)
      obtain ⟨g, off, rfl, hgl, hc'⟩ := HL.out (by omega)
      have HR := Lib.hid (show ∀ w', Below w.heap.size w w' → w'.rangeAt g (off + n * 64) (u8s x) from fun w' hb j v hv => by
        rw [hxn] at hv
        exact (hb.cell (p := ⟨g, off + n * 64 + j, none⟩) hgl).trans (hc' n hlt j v hv))
      have HI := Lib.hid (HaveHzInfo hx64)
      have HX := Lib.hid hxn
      have HAt := Lib.hid hat
      have HAz := Lib.hid haz
      have HB := Lib.hid hb
      have HXL := Lib.hid hx64
      have HHC := Lib.hid (And.intro hhc hcl)
      have i1 : (0 : Int) ≤ (n : Int) := by omega
      have i2 : (n : Int) < (l.length : Int) := by omega
      clear hxn hat haz hb hc' hx64 hhc hcl
      go_wp2_with fail
      go_loopw [5] (fun i wr => ∃ m : Nat, m ≤ 512 ∧ i = .int .i64 m ∧ At wr (w.heap.size + 1) 26 (u8s (Hz.partJ x hc m)) ∧ At wr w.heap.size 26 (u8s Hz.zero) ∧ Below w.heap.size w wr) (fun i _ => 512 - (RowKit.intOf i).toNat)
      case atStart => exact ⟨0, by omega, rfl, HAt.out, HAz.out, HB.out⟩
      case round =>
        obtain ⟨m, hm4, rfl, hat, haz, hb⟩ := hrel
        by_cases hm512 : m < 512
        · obtain ⟨hd, hhd⟩ : ∃ hd, hd = Hz.partJ x hc m := ⟨_, rfl⟩
          rw [← hhd] at hat
          have hdl : hd.length = 64 := by rw [hhd]; exact Hz.partJ_len x HHC.out.2 m
          have HNX := Lib.hid (show Hz.partJ x hc (m + 1) = if Hz.bit x m = true then Hz.set hd m else hd by rw [Hz.partJ_succ, ← hhd])
          have HD := Lib.hid hdl
          have HA5 := Lib.hid hat
          have HZ5 := Lib.hid haz
          have HB5 := Lib.hid hb
          have HR5 := Lib.hid (HR.out _ hb)
          have HID := Lib.hid (HaveHzInfo hdl)
          clear hhd hdl hat haz hb
          go_wp2_with (first
            | (with_reducible refine wpList_loadW rfl 26 (.tmp 19) rfl g (off + n * 64) rfl (u8s x) _ HR5.out HUH.out rfl HI.out ?_))
          refine (refbit_any x HXL.out m hm512 _).mono ?_
          rintro e w6 ⟨rfl, hb⟩
          have HA6 := Lib.hid (HA5.out.below hb HA5.out.lt)
          have HZ6 := Lib.hid (HZ5.out.below hb HZ5.out.lt)
          have HB6 := Lib.hid (HB5.out.trans (hb.mono HB5.out.size))
          clear hb HA5 HZ5 HB5 HR5
          cases hbx : Hz.bit x m
          · have HS := Lib.hid (show Hz.partJ x hc (m + 1) = hd by rw [HNX.out, hbx]; rfl)
            clear hbx
            go_wp2_with fail
            go_roundw
            case rel => exact ⟨m + 1, by omega, by go_num, by rw [HS.out]; exact HA6.out, HZ6.out, HB6.out⟩
            case measure => simp [RowKit.intOf]; omega
          have HS := Lib.hid (show Hz.partJ x hc (m + 1) = Hz.set hd m by rw [HNX.out, hbx]; rfl)
          clear hbx
          go_wp2_with (first
            | (refine wpList_loadW rfl 26 (.tmp 3) rfl (w.heap.size + 1) 0 rfl (u8s hd) _ (at_range' HA6.out) HUH.out rfl HID.out ?_))
          refine (refbit_any hd HD.out m hm512 _).mono ?_
          rintro e w7 ⟨rfl, hb⟩
          have HA7 := Lib.hid (HA6.out.below hb HA6.out.lt)
          have HZ7 := Lib.hid (HZ6.out.below hb HZ6.out.lt)
          have HB7 := Lib.hid (HB6.out.trans (hb.mono HB6.out.size))
          clear hb HA6 HZ6 HB6
          cases hbit : Hz.bit hd m
          · obtain ⟨y, hy⟩ : ∃ y, y = Hz.byteAt hd (m / 8) := ⟨_, rfl⟩
            have c0 : w7.cell? ⟨w.heap.size + 1, m / 8, none⟩ = some (.int .u8 (y.toNat : Int)) := by rw [hy]; exact HA7.out.cell' (u8s_get (by have := HD.out; omega))
            have f0 := HA7.out.frozen (m / 8)
            have x1 := y.toNat_lt
            have hadd := add_nat y m (by unfold Hz.bit at hbit; rw [hy]; exact hbit)
            have q1 : ((m : Int)).tdiv 8 = ((m / 8 : Nat) : Int) := by rw [Int.tdiv_eq_ediv_of_nonneg (by omega)]; omega
            have q2 : ((m : Int)).tmod 8 = ((m % 8 : Nat) : Int) := by rw [Int.tmod_eq_emod_of_nonneg (by omega)]; omega
            have j1 : (0 : Int) ≤ ((m / 8 : Nat) : Int) := by omega
            have j2 : ((m / 8 : Nat) : Int) < 64 := by omega
            have j3 : (0 : Int) ≤ ((m % 8 : Nat) : Int) := by omega
            have HX5 := Lib.hid hy
            have HADD := Lib.hid hadd
            clear hy hadd hbit
            go_wp2_with fail
            refine wp_region_then (fun w' => ∃ n, w' = w7.drewN n) 11 (by kernel_rfl) (by kernel_rfl) (by kernel_rfl) (by kernel_rfl) (by decide) ⟨1, rfl⟩ ?_
            simp only [List.take_succ_cons, List.take_zero, List.drop_succ_cons, List.drop_zero]
            iterate 11 (go_big_quiet_step (fail))
            refine wpQuiet_nil ?_
            intro _ hw'
            obtain ⟨nq, rfl⟩ := hw'
            refine wpList_storeI rfl 5 (.tmp 39) (.tmp 38) rfl (w.heap.size + 1) (m / 8) .u8 _ rfl rfl (by kernel_rfl) ((HA7.out.below (below_drewN (Below.refl _ _) _) HA7.out.lt).some (by rw [u8s_len]; have := HD.out; omega)) ?_
            rw [add_num y m HADD.out]
            have hset : At ((w7.drewN nq).setCell ⟨w.heap.size + 1, m / 8, none⟩ (.int .u8 ((y ||| Hz.one m).toNat : Int))) (w.heap.size + 1) 26 (u8s (Hz.partJ x hc (m + 1))) := by
              have h := (HA7.out.below (below_drewN (Below.refl _ _) nq) HA7.out.lt).set (m / 8) (.int .u8 ((y ||| Hz.one m).toNat : Int))
              rw [u8s_set] at h
              rw [HS.out]
              unfold Hz.set
              rw [← HX5.out]
              exact h
            have hB8 : Below w.heap.size w ((w7.drewN nq).setCell ⟨w.heap.size + 1, m / 8, none⟩ (.int .u8 ((y ||| Hz.one m).toNat : Int))) := (below_drewN HB7.out nq).setCell (by simp) _
            have hs8 : At ((w7.drewN nq).setCell ⟨w.heap.size + 1, m / 8, none⟩ (.int .u8 ((y ||| Hz.one m).toNat : Int))) w.heap.size 26 (u8s Hz.zero) := At.far (HZ7.out.below (below_drewN (Below.refl _ _) nq) HZ7.out.lt) (show w.heap.size + 1 ≠ w.heap.size by omega) _
            generalize (w7.drewN nq).setCell ⟨w.heap.size + 1, m / 8, none⟩ (.int .u8 ((y ||| Hz.one m).toNat : Int)) = w8 at hset hB8 hs8 ⊢
            have HA8 := Lib.hid hset
            have HB8 := Lib.hid hB8
            have HZ8 := Lib.hid hs8
            clear hset hB8 hs8 q1 q2 c0 f0
            simp only [Act.put]
            refine wpList_nil ?_
            go_wp2_with fail
            go_roundw
            case rel => exact ⟨m + 1, by omega, by go_num, HA8.out, HZ8.out, HB8.out⟩
            case measure => simp [RowKit.intOf]; omega
          · have HS2 := Lib.hid (show Hz.partJ x hc (m + 1) = hd by rw [HS.out, set_same HD.out hm512 hbit])
            clear hbit
            go_wp2_with fail
            go_roundw
            case rel => exact ⟨m + 1, by omega, by go_num, by rw [HS2.out]; exact HA7.out, HZ7.out, HB7.out⟩
            case measure => simp [RowKit.intOf]; omega
        · have h4 : m = 512 := by omega
          subst h4
          have hf : Hz.partJ x hc 512 = (l.take (n + 1)).foldl Hz.orAll Hz.zero := by
            rw [Hz.partJ_all x HHC.out.2 HXL.out, take_snoc l n hlt, ← HX.out, List.foldl_append, List.foldl_cons, List.foldl_nil, ← HHC.out.1]
          rw [hf] at hat
          have HA6 := Lib.hid hat
          have HB6 := Lib.hid hb
          have HZ6 := Lib.hid haz
          clear hat haz hb hf
          go_wp2_with fail
          go_roundw
          case rel => exact ⟨n + 1, by omega, by go_num, HA6.out, HZ6.out, HB6.out⟩
          case measure => simp [RowKit.intOf]; omega
    · have hnk : n = l.length := by omega
      have HFIN := Lib.hid (show hc = Hz.join l by rw [hhc, hnk, List.take_length]; rfl)
      have HIr := Lib.hid (HaveHzInfo hcl)
      have HLr := Lib.hid (HaveHzLen hcl)
      have HB := Lib.hid hb
      clear hcl hb hhc hnk
      go_wp2_with (first
        | (with_reducible refine wpList_loadAll rfl 26 (.tmp 3) rfl _ rfl _ _ _ hat HUH.out rfl HIr.out ?_)
        | (with_reducible refine wpList_storeAll rfl 26 (.tmp 2) (.tmp 40) rfl _ rfl _ (u8s Hz.zero) (u8s hc) haz rfl HLr.out HIr.out (u8s_one hc) ?_; intro w3 hat3 hg3 hs3))
      refine ret_cellAll rfl rfl w.heap.size _ _ _ rfl hat3 HUH.out rfl HIr.out ⟨by rw [HFIN.out], ?_⟩
      exact Below.ofGrown HB.out hg3 HB.out.size (Nat.le_refl _)
end Go.Proofs.Ytcpnlojcmlldpaa
