/- Layer 14: With. -/
import Derived.Test.YtcpnlojcmlldpaaHazeA
namespace Go.Proofs.Ytcpnlojcmlldpaa
open Go.RowKit

/-- the slice value holds these arrays of bytes, each of sz of them -/
def BytesIn (w : World) (A : Option Addr) (sz : Nat) (l : List (List UInt8)) : Prop :=
  0 < l.length → ∃ g off, A = some ⟨g, off, none⟩ ∧ g < w.heap.size ∧ ∀ i (h : i < l.length), w.rangeAt g (off + i * sz) (u8s l[i])
theorem BytesIn.below {w w' : World} {A : Option Addr} {sz : Nat} {l : List (List UInt8)} (h : BytesIn w A sz l) {B : Nat} (hB : w.heap.size ≤ B) (hb : Below B w w') (hs : w.heap.size ≤ w'.heap.size) : BytesIn w' A sz l := fun h0 => by
  obtain ⟨g, off, e, hlt, hc⟩ := h h0
  refine ⟨g, off, e, Nat.lt_of_lt_of_le hlt hs, fun i hi j v hv => ?_⟩
  exact (hb.cell (p := ⟨g, off + i * sz + j, none⟩) (by show g < B; omega)).trans (hc i hi j v hv)

theorem at_new_at (w : World) (t : TypeId) {C : Array Value} {cs : List Value} {n : Nat} (hn : w.heap.size = n) (h : C = cs.toArray) : At (w.alloc (.cells C t (0, 0))) n t cs := by
  subst hn
  exact At.newA w t h
theorem or_num (x : UInt8) (m : Nat) : bits .or .u8 (x.toNat : Int) ((2 : Int) ^ (m % 8) % 256) = ((x ||| Hz.one m).toNat : Int) := by
  have h1 := (Hz.one m).toNat_lt
  have h2 := x.toNat_lt
  have e : (2 : Int) ^ (m % 8) % 256 = ((Hz.one m).toNat : Int) := by
    have e1 : (2 : Int) ^ (m % 8) = ((2 ^ (m % 8) : Nat) : Int) := by rw [Int.natCast_pow]; rfl
    rw [e1, ← Hz.one_nat]
    omega
  rw [e, u8_or_nat _ _ (by omega) (by omega), UInt8.toNat_or]
theorem u8s_set (l : List UInt8) (i : Nat) (b : UInt8) : (u8s l).set i (.int .u8 (b.toNat : Int)) = u8s (l.set i b) := by
  unfold u8s
  rw [List.map_set]
theorem u8s_one (k : List UInt8) : ∀ v ∈ u8s k, v.oneCell' = true := by
  intro v hv
  simp only [u8s, List.mem_map] at hv
  obtain ⟨n, _, rfl⟩ := hv
  rfl
set_option maxRecDepth 100000 in
set_option maxHeartbeats 1000000 in
theorem with_any (h : List UInt8) (hh : h.length = 64) (A : Option Addr) (c : Nat) (ks : List (List UInt8)) (w : World) (hk : BytesIn w A 32 ks) (hk32 : ∀ k ∈ ks, k.length = 32) (hn : ks.length ≤ maxLen) :
    Calls Try.prog 22 #[.agg (u8s h).toArray, .slice A ks.length c] w fun e w' => e = .returned (.agg (u8s (Hz.withKeys h ks)).toArray) ∧ Below w.heap.size w w' := by
  have HH := Lib.hid hh
  have HK := Lib.hid hk
  have HK32 := Lib.hid hk32
  have hi : (Try.prog.info? 26).map (·.size) = some (u8s h).toArray.size := by
    rw [List.size_toArray, u8s_len, hh]
    kernel_rfl
  have hn' : ks.length ≤ 9223372036854775807 := hn
  clear hh hk hk32
  go_enter Try.func22, Try.ntmps22
  go_wp2_with fail
  go_loopw [11] (fun i wr => ∃ n : Nat, n ≤ ks.length ∧ i = .int .i64 n ∧ At wr w.heap.size 26 (u8s (Hz.withKeys h (ks.take n))) ∧ At wr (w.heap.size + 1) 26 (u8s Hz.zero) ∧ Below w.heap.size w wr) (fun i _ => ks.length - (RowKit.intOf i).toNat)
  case atStart =>
    have hz : At ((w.alloc (.cells (u8s h).toArray 26)).alloc (.cells (u8s Hz.zero).toArray 26)) (w.heap.size + 1) 26 (u8s Hz.zero) := at_new_at (w.alloc (.cells (u8s h).toArray 26)) 26 (n := w.heap.size + 1) (C := (u8s Hz.zero).toArray) (by simp) rfl
    refine ⟨0, by omega, rfl, (At.newA w _ rfl).alloc _, hz, ((Below.refl _ _).alloc (Nat.le_refl _) _).alloc (by simp) _⟩
  case round =>
    obtain ⟨n, hnl, rfl, hat, haz, hb⟩ := hrel
    have hsz : w.heap.size + 1 < wr.heap.size := haz.lt
    by_cases hlt : n < ks.length
    · obtain ⟨k, hkn⟩ : ∃ k, k = ks[n] := ⟨_, rfl⟩
      have hk32 : k.length = 32 := by rw [hkn]; exact HK32.out _ (List.getElem_mem hlt)
      obtain ⟨g, off, rfl, hgl, hc⟩ := HK.out (by omega)
      have hrow : wr.rangeAt g (off + n * 32) (u8s k) := by
        rw [hkn]
        exact fun j v hv => (hb.cell (p := ⟨g, off + n * 32 + j, none⟩) hgl).trans (hc n hlt j v hv)
      have hik : (Try.prog.info? 23).map (·.size) = some (u8s k).toArray.size := by
        rw [List.size_toArray, u8s_len, hk32]
        kernel_rfl
      have hik' : (Try.prog.info? 23).map (·.size) = some (u8s k).length := by
        rw [u8s_len, hk32]
        kernel_rfl
      have HR := Lib.hid hrow
      have HI := Lib.hid hik'
      have HX := Lib.hid hkn
      have HAt := Lib.hid hat
      have HAz := Lib.hid haz
      have HB := Lib.hid hb
      have HU := Lib.hid Try.underlying23
      have HK3 := Lib.hid hk32
      have HLk := Lib.hid (show (u8s k).length = (List.replicate 32 (Value.int .u8 0)).length by rw [u8s_len, hk32, List.length_replicate])
      have i1 : (0 : Int) ≤ (n : Int) := by omega
      have i2 : (n : Int) < (ks.length : Int) := by omega
      clear hrow hik hik' hkn hat haz hb hc hk32
      go_wp2_with (first
        | (with_reducible refine wpList_loadW rfl 23 (.tmp 13) rfl g (off + n * 32) rfl (u8s k) _ HR.out HU.out rfl HI.out ?_)
        | (with_reducible refine wpList_storeAll rfl 23 (.tmp 6) (.tmp 14) rfl _ rfl _ (List.replicate 32 (.int .u8 0)) (u8s k) (At.newA wr 23 (by kernel_rfl)) rfl HLk.out HI.out (u8s_one k) ?_; intro w3 hat3 hg3 hs3)
        | (with_reducible refine wpList_loadAll rfl 23 (.tmp 6) rfl _ rfl _ _ _ hat3 HU.out rfl HI.out ?_))
      have hg : (wr.alloc (.cells (List.replicate 32 (Value.int .u8 0)).toArray 23)).grownBy w3 (some wr.heap.size) := hg3
      have hb3 : Below w.heap.size w w3 := Below.ofGrown (HB.out.alloc HB.out.size _) hg (HB.out.alloc HB.out.size _).size HB.out.size
      have hA3 : At w3 w.heap.size 26 (u8s (Hz.withKeys h (ks.take n))) := (HAt.out.alloc _).grown hg (by intro e; injection e with e; omega)
      have hs3' : w.heap.size + 1 < w3.heap.size := by have := hat3.lt; omega
      have hZ3 := (HAz.out.alloc (.cells (List.replicate 32 (Value.int .u8 0)).toArray 23)).grown hg (by intro e; injection e with e; omega)
      obtain ⟨hc, hhc⟩ : ∃ hc, hc = Hz.withKeys h (ks.take n) := ⟨_, rfl⟩
      rw [← hhc] at hA3
      have hcl : hc.length = 64 := by rw [hhc, Hz.withKeys_len, HH.out]
      refine (marks_any k HK3.out _).mono ?_
      rintro e w4 ⟨rfl, hb4⟩
      have HA4 := Lib.hid (hA3.below hb4 hA3.lt)
      have HZ4 := Lib.hid (hZ3.below hb4 hZ3.lt)
      have HB4 := Lib.hid (hb3.trans (hb4.mono hb3.size))
      have hs4 := hb4.size
      have HHC := Lib.hid (And.intro hhc hcl)
      clear hg3 hs3 hat3 hg hb3 hA3 hZ3 hhc hcl hb4 HAt HAz HB HR
      go_wp2_with fail
      go_loopw [17] (fun i wr => ∃ j : Nat, j ≤ 4 ∧ i = .int .i64 j ∧ At wr w.heap.size 26 (u8s (((Hz.marks k).take j).foldl Hz.set hc)) ∧ At wr (w.heap.size + 1) 26 (u8s Hz.zero) ∧ Below w.heap.size w wr) (fun i _ => 4 - (RowKit.intOf i).toNat)
      case atStart => exact ⟨0, by omega, rfl, HA4.out, HZ4.out, HB4.out⟩
      case round =>
        obtain ⟨j, hj4, rfl, hat, haz, hb⟩ := hrel
        by_cases hjl : j < 4
        · obtain ⟨m, hm⟩ : ∃ m, m = (Hz.marks k)[j]'hjl := ⟨_, rfl⟩
          obtain ⟨hd, hhd⟩ : ∃ hd, hd = ((Hz.marks k).take j).foldl Hz.set hc := ⟨_, rfl⟩
          rw [← hhd] at hat
          have hdl : hd.length = 64 := by rw [hhd, Hz.fold_set_len, HHC.out.2]
          have hm512 : m < 512 := by rw [hm]; exact Hz.marks_lt (List.getElem_mem hjl)
          have hix : ∀ w, (Instr.index 70 (.agg (ints (Hz.marks k)).toArray) (.int .i64 (j : Int))).run Try.prog w = .ok (.int .i64 (m : Int)) w := fun w => by
            refine run_index_arr w 70 3 4 .i64 j _ _ Try.underlying70 (by kernel_rfl) Try.underlying3 hjl ?_
            rw [hm]
            simp only [ints, List.getElem?_toArray, List.getElem?_map, List.getElem?_eq_getElem (show j < (Hz.marks k).length from hjl), Option.map_some]
            rfl
          obtain ⟨x, hx⟩ : ∃ x, x = Hz.byteAt hd (m / 8) := ⟨_, rfl⟩
          have c0 : wr.cell? ⟨w.heap.size, m / 8, none⟩ = some (.int .u8 (x.toNat : Int)) := by rw [hx]; exact hat.cell' (u8s_get (by omega))
          have f0 := hat.frozen (m / 8)
          have x1 := x.toNat_lt
          have q1 : ((m : Int)).tdiv 8 = ((m / 8 : Nat) : Int) := by rw [Int.tdiv_eq_ediv_of_nonneg (by omega)]; omega
          have q2 : ((m : Int)).tmod 8 = ((m % 8 : Nat) : Int) := by rw [Int.tmod_eq_emod_of_nonneg (by omega)]; omega
          have j1 : (0 : Int) ≤ ((m / 8 : Nat) : Int) := by omega
          have j2 : ((m / 8 : Nat) : Int) < 64 := by omega
          have j3 : (0 : Int) ≤ ((m % 8 : Nat) : Int) := by omega
          have HM := Lib.hid (And.intro hm hm512)
          have HD := Lib.hid (And.intro hhd hdl)
          have HA5 := Lib.hid hat
          have HZ5 := Lib.hid haz
          have HB5 := Lib.hid hb
          have HX5 := Lib.hid hx
          clear hm hm512 hhd hdl hat haz hb hx
          go_wp2_with fail
          refine wp_region_then (fun w' => ∃ n, w' = wr.drewN n) 9 (by kernel_rfl) (by kernel_rfl) (by kernel_rfl) (by kernel_rfl) (by decide) ⟨1, rfl⟩ ?_
          simp only [List.take_succ_cons, List.take_zero, List.drop_succ_cons, List.drop_zero]
          iterate 9 (go_big_quiet_step (fail))
          refine wpQuiet_nil ?_
          intro _ hw'
          obtain ⟨nq, rfl⟩ := hw'
          refine wpList_storeI rfl 5 (.tmp 28) (.tmp 27) rfl w.heap.size (m / 8) .u8 _ rfl rfl (by kernel_rfl) ((HA5.out.below (below_drewN (Below.refl _ _) _) HA5.out.lt).some (by rw [u8s_len]; have := HD.out.2; have := HM.out.2; omega)) ?_
          rw [or_num]
          have hset : At ((wr.drewN nq).setCell ⟨w.heap.size, m / 8, none⟩ (.int .u8 ((x ||| Hz.one m).toNat : Int))) w.heap.size 26 (u8s (((Hz.marks k).take (j + 1)).foldl Hz.set hc)) := by
            have h := (HA5.out.below (below_drewN (Below.refl _ _) nq) HA5.out.lt).set (m / 8) (.int .u8 ((x ||| Hz.one m).toNat : Int))
            rw [u8s_set] at h
            rw [take_snoc (Hz.marks k) j hjl, List.foldl_append, List.foldl_cons, List.foldl_nil, ← HD.out.1, ← HM.out.1]
            unfold Hz.set
            rw [← HX5.out]
            exact h
          have hB6 : Below w.heap.size w ((wr.drewN nq).setCell ⟨w.heap.size, m / 8, none⟩ (.int .u8 ((x ||| Hz.one m).toNat : Int))) := (below_drewN HB5.out nq).setCell (Nat.le_refl _) _
          have hs6 : At ((wr.drewN nq).setCell ⟨w.heap.size, m / 8, none⟩ (.int .u8 ((x ||| Hz.one m).toNat : Int))) (w.heap.size + 1) 26 (u8s Hz.zero) := At.far (HZ5.out.below (below_drewN (Below.refl _ _) nq) HZ5.out.lt) (show w.heap.size ≠ w.heap.size + 1 by omega) _
          generalize (wr.drewN nq).setCell ⟨w.heap.size, m / 8, none⟩ (.int .u8 ((x ||| Hz.one m).toNat : Int)) = w5 at hset hB6 hs6 ⊢
          have HA6 := Lib.hid hset
          have HB6 := Lib.hid hB6
          have HZ6 := Lib.hid hs6
          clear hset hB6 hs6 hix q1 q2 c0 f0
          simp only [Act.put]
          refine wpList_nil ?_
          go_wp2_with fail
          go_roundw
          case rel => exact ⟨j + 1, by omega, by go_num, HA6.out, HZ6.out, HB6.out⟩
          case measure => simp [RowKit.intOf]; omega
        · have h4 : j = 4 := by omega
          subst h4
          have hf : ((Hz.marks k).take 4).foldl Hz.set hc = Hz.withKeys h (ks.take (n + 1)) := by
            rw [take_snoc ks n hlt, ← HX.out]
            unfold Hz.withKeys
            rw [List.foldl_append, List.foldl_cons, List.foldl_nil]
            show _ = Hz.withKey (Hz.withKeys h (ks.take n)) k
            rw [← HHC.out.1]
            rfl
          rw [hf] at hat
          have HA6 := Lib.hid hat
          have HB6 := Lib.hid hb
          have HZ6 := Lib.hid haz
          clear hat haz hb hf
          go_wp2_with fail
          go_roundw
          case rel => exact ⟨n + 1, by omega, by go_num, HA6.out, HZ6.out, HB6.out⟩
          case measure => simp [RowKit.intOf]; omega
    · have hnk : n = ks.length := by omega
      obtain ⟨r, hr⟩ : ∃ r, r = Hz.withKeys h ks := ⟨_, rfl⟩
      have hfin : Hz.withKeys h (ks.take n) = r := by rw [hr, hnk, List.take_length]
      rw [hfin] at hat
      have hrl : r.length = 64 := by rw [hr, Hz.withKeys_len, HH.out]
      have hir : (Try.prog.info? 26).map (·.size) = some (u8s r).length := by
        rw [u8s_len, hrl]
        kernel_rfl
      have HIr := Lib.hid hir
      have HLr := Lib.hid (show (u8s r).length = (u8s Hz.zero).length by rw [u8s_len, u8s_len, hrl]; rfl)
      have HB := Lib.hid hb
      have HR := Lib.hid hr
      have HU := Lib.hid Try.underlying26
      clear hfin hrl hir hr hb
      go_wp2_with (first
        | (with_reducible refine wpList_loadAll rfl 26 (.tmp 2) rfl _ rfl _ _ _ hat HU.out rfl HIr.out ?_)
        | (with_reducible refine wpList_storeAll rfl 26 (.tmp 4) (.tmp 31) rfl _ rfl _ (u8s Hz.zero) (u8s r) haz rfl HLr.out HIr.out (u8s_one r) ?_; intro w3 hat3 hg3 hs3))
      refine ret_cellAll rfl rfl (w.heap.size + 1) _ _ _ rfl hat3 HU.out rfl HIr.out ⟨by rw [HR.out], ?_⟩
      exact Below.ofGrown HB.out hg3 HB.out.size (by omega)
end Go.Proofs.Ytcpnlojcmlldpaa
