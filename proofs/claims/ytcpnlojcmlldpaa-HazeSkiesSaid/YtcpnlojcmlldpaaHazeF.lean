/- Layer 14: Join. -/
import Derived.Test.YtcpnlojcmlldpaaHazeE
namespace Go.Proofs.Ytcpnlojcmlldpaa
open Go.RowKit

theorem or_num2 (a b : UInt8) : bits .or .u8 (a.toNat : Int) (b.toNat : Int) = ((a ||| b).toNat : Int) := by
  rw [u8_or_nat _ _ a.toNat_lt b.toNat_lt, UInt8.toNat_or]
namespace Hz
def orPart (a b : List UInt8) (j : Nat) : List UInt8 := (orAll a b).take j ++ a.drop j
theorem orPart_zero (a b : List UInt8) : orPart a b 0 = a := rfl
theorem orPart_all {a b : List UInt8} (ha : a.length = 64) (hb : b.length = 64) : orPart a b 64 = orAll a b := by
  unfold orPart
  rw [List.take_of_length_le (by rw [orAll_len ha hb]; exact Nat.le_refl _), List.drop_of_length_le (by omega), List.append_nil]
theorem orPart_len {a b : List UInt8} (ha : a.length = 64) (hb : b.length = 64) {j : Nat} (hj : j ≤ 64) : (orPart a b j).length = 64 := by
  unfold orPart
  rw [List.length_append, List.length_take, List.length_drop, orAll_len ha hb, ha]
  omega
theorem orPart_at {a b : List UInt8} (ha : a.length = 64) (hb : b.length = 64) {j : Nat} (hj : j < 64) : byteAt (orPart a b j) j = byteAt a j := by
  unfold byteAt orPart
  have h1 : ((orAll a b).take j).length = j := by rw [List.length_take, orAll_len ha hb]; omega
  simp only [List.getD_eq_getElem?_getD]
  rw [List.getElem?_append_right (by omega), h1, Nat.sub_self, List.getElem?_drop, Nat.add_zero]
theorem orPart_set {a b : List UInt8} (ha : a.length = 64) (hb : b.length = 64) {j : Nat} (hj : j < 64) : (orPart a b j).set j (byteAt a j ||| byteAt b j) = orPart a b (j + 1) := by
  unfold orPart
  have hl := orAll_len ha hb
  have h1 : ((orAll a b).take j).length = j := by rw [List.length_take, hl]; omega
  rw [List.set_append_right _ _ (by omega), h1, Nat.sub_self, take_snoc (orAll a b) j (by omega), List.append_assoc]
  congr 1
  rw [show a.drop j = a[j]'(by omega) :: a.drop (j + 1) from (List.getElem_cons_drop (by omega)).symm, List.set_cons_zero]
  unfold orAll byteAt
  simp [List.getElem?_eq_getElem (show j < a.length by omega), List.getElem?_eq_getElem (show j < b.length by omega)]
end Hz
set_option maxRecDepth 100000 in
set_option maxHeartbeats 400000 in
theorem join_any (A : Option Addr) (c : Nat) (l : List (List UInt8)) (w : World) (hl : BytesIn w A 64 l) (h64 : ∀ x ∈ l, x.length = 64) (hn : l.length ≤ maxLen) :
    Calls Try.prog 21 #[.slice A l.length c] w fun e w' => e = .returned (hzV (Hz.join l)) ∧ Below w.heap.size w w' := by
  have HL := Lib.hid hl
  have H64 := Lib.hid h64
  have hn' : l.length ≤ 9223372036854775807 := hn
  clear hl h64
  go_enter Try.func21, Try.ntmps21
  go_wp2_with fail
  go_loopw [9] (fun i wr => ∃ n : Nat, n ≤ l.length ∧ i = .int .i64 n ∧ At wr w.heap.size 26 (u8s ((l.take n).foldl Hz.orAll Hz.zero)) ∧ Below w.heap.size w wr) (fun i _ => l.length - (RowKit.intOf i).toNat)
  case atStart =>
    have hz : At (w.alloc (.cells (u8s Hz.zero).toArray 26)) w.heap.size 26 (u8s Hz.zero) := At.newA w _ rfl
    have hb0 : Below w.heap.size w (w.alloc (.cells (u8s Hz.zero).toArray 26)) := (Below.refl _ _).alloc (Nat.le_refl _) _
    exact ⟨0, by omega, rfl, hz, hb0⟩
  case round =>
    obtain ⟨n, hnl, rfl, hat, hb⟩ := hrel
    obtain ⟨cur, hcur⟩ : ∃ cur, cur = (l.take n).foldl Hz.orAll Hz.zero := ⟨_, rfl⟩
    rw [← hcur] at hat
    have hcl : cur.length = 64 := by rw [hcur]; exact Hz.join_len _ Hz.zero_len (fun x hx => H64.out x (List.mem_of_mem_take hx))
    by_cases hlt : n < l.length
    · obtain ⟨k, hkn⟩ : ∃ k, k = l[n] := ⟨_, rfl⟩
      have hk64 : k.length = 64 := by rw [hkn]; exact H64.out _ (List.getElem_mem hlt)
      obtain ⟨g, off, rfl, hgl, hc⟩ := HL.out (by omega)
      have hrow : wr.rangeAt g (off + n * 64) (u8s k) := by
        rw [hkn]
        exact fun j v hv => (hb.cell (p := ⟨g, off + n * 64 + j, none⟩) hgl).trans (hc n hlt j v hv)
      have hik' : (Try.prog.info? 26).map (·.size) = some (u8s k).length := by
        rw [u8s_len, hk64]
        kernel_rfl
      have hwl := hat.lt
      have HR := Lib.hid hrow
      have HI := Lib.hid hik'
      have HX := Lib.hid hkn
      have HAt := Lib.hid hat
      have HB := Lib.hid hb
      have HU := Lib.hid Try.underlying26
      have HC := Lib.hid (And.intro hcur hcl)
      have HK3 := Lib.hid hk64
      have HLk := Lib.hid (show (u8s k).length = (u8s Hz.zero).length by rw [u8s_len, u8s_len, hk64]; rfl)
      have HZw := Lib.hid (show At (wr.alloc (.cells (u8s Hz.zero).toArray 26)) wr.heap.size 26 (u8s Hz.zero) from At.newA wr _ rfl)
      have i1 : (0 : Int) ≤ (n : Int) := by omega
      have i2 : (n : Int) < (l.length : Int) := by omega
      clear hrow hik' hkn hat hb hc hk64 hcur hcl
      go_wp2_with (first
        | (with_reducible refine wpList_loadW rfl 26 (.tmp 11) rfl g (off + n * 64) rfl (u8s k) _ HR.out HU.out rfl HI.out ?_)
        | (refine wpList_storeAll rfl 26 (.tmp 4) (.tmp 12) rfl _ rfl _ (u8s Hz.zero) (u8s k) HZw.out rfl HLk.out HI.out (u8s_one k) ?_; intro w3 hat3 hg3 hs3)
        | (with_reducible refine wpList_loadAll rfl 26 (.tmp 4) rfl _ rfl _ _ _ hat3 HU.out rfl HI.out ?_))
      have hg : (wr.alloc (.cells (u8s Hz.zero).toArray 26)).grownBy w3 (some wr.heap.size) := hg3
      have HA3 := Lib.hid ((HAt.out.alloc (.cells (u8s Hz.zero).toArray 26)).grown hg (by intro e; injection e with e; omega))
      have HB3 := Lib.hid (Below.ofGrown (HB.out.alloc HB.out.size (.cells (u8s Hz.zero).toArray 26)) hg (HB.out.alloc HB.out.size _).size HB.out.size)
      clear hg3 hs3 hat3 hg HAt HB HR HZw
      go_loopw [14] (fun i wr => ∃ j : Nat, j ≤ 64 ∧ i = .int .i64 j ∧ At wr w.heap.size 26 (u8s (Hz.orPart cur k j)) ∧ Below w.heap.size w wr) (fun i _ => 64 - (RowKit.intOf i).toNat)
      case atStart => exact ⟨0, by omega, rfl, HA3.out, HB3.out⟩
      case round =>
        obtain ⟨j, hj, rfl, hat, hb⟩ := hrel
        by_cases hjl : j < 64
        · obtain ⟨x, hx⟩ : ∃ x, x = Hz.byteAt cur j := ⟨_, rfl⟩
          obtain ⟨y, hy⟩ : ∃ y, y = Hz.byteAt k j := ⟨_, rfl⟩
          have hpl := Hz.orPart_len HC.out.2 HK3.out hj
          have c0 : wr.cell? ⟨w.heap.size, j, none⟩ = some (.int .u8 (x.toNat : Int)) := by
            rw [hx, ← Hz.orPart_at HC.out.2 HK3.out hjl]
            exact hat.cell' (u8s_get (by omega))
          have f0 := hat.frozen j
          have hix : ∀ w, (Instr.index 26 (.agg (u8s k).toArray) (.int .i64 (j : Int))).run Try.prog w = .ok (.int .u8 (y.toNat : Int)) w := fun w => by
            refine run_index_arr w 26 5 64 .i64 j _ _ Try.underlying26 (by kernel_rfl) Try.underlying5 hjl ?_
            rw [hy, List.getElem?_toArray]
            exact u8s_get (by rw [HK3.out]; exact hjl)
          have hor := or_num2 x y
          have HXY := Lib.hid (And.intro hx hy)
          have HA5 := Lib.hid hat
          have HB5 := Lib.hid hb
          have j1 : (0 : Int) ≤ (j : Int) := by omega
          have j2 : (j : Int) < 64 := by omega
          clear hx hy hat hb hpl
          go_wp2_with fail
          go_roundw
          case rel =>
            refine ⟨j + 1, by omega, by go_num, ?_, HB5.out.setCell (Nat.le_refl _) _⟩
            have h := HA5.out.set j (.int .u8 ((x ||| y).toNat : Int))
            rw [u8s_set, HXY.out.1, HXY.out.2, Hz.orPart_set HC.out.2 HK3.out hjl, ← HXY.out.1, ← HXY.out.2] at h
            exact h
          case measure => simp [RowKit.intOf]; omega
        · have hj64 : j = 64 := by omega
          have hfin : Hz.orPart cur k j = (l.take (n + 1)).foldl Hz.orAll Hz.zero := by
            rw [hj64, Hz.orPart_all HC.out.2 HK3.out, take_snoc l n hlt, List.foldl_append, List.foldl_cons, List.foldl_nil, ← HC.out.1, ← HX.out]
          rw [hfin] at hat
          have HA5 := Lib.hid hat
          have HB5 := Lib.hid hb
          clear hat hb hfin
          subst hj64
          go_wp2_with fail
          go_roundw
          case rel => exact ⟨n + 1, by omega, by go_num, HA5.out, HB5.out⟩
          case measure => simp [RowKit.intOf]; omega
    · have hnk : n = l.length := by omega
      have hfin : cur = Hz.join l := by rw [hcur, hnk, List.take_length]; rfl
      have HB := Lib.hid hb
      have HI := Lib.hid (show (Try.prog.info? 26).map (·.size) = some (u8s cur).length by rw [u8s_len, hcl]; kernel_rfl)
      have HF := Lib.hid hfin
      have HU := Lib.hid Try.underlying26
      have HLk := Lib.hid (show (u8s cur).length = (u8s cur).length from rfl)
      clear hb hcur hcl hnk hfin
      go_wp2_with (first
        | (with_reducible refine wpList_loadAll rfl 26 (.tmp 2) rfl _ rfl _ _ _ hat HU.out rfl HI.out ?_)
        | (with_reducible refine wpList_storeAll rfl 26 (.tmp 2) (.tmp 26) rfl _ rfl _ _ (u8s cur) hat rfl HLk.out HI.out (u8s_one cur) ?_; intro w3 hat3 hg3 hs3))
      refine ret_cellAll rfl rfl w.heap.size _ _ _ rfl hat3 HU.out rfl HI.out ⟨by rw [HF.out], ?_⟩
      exact Below.ofGrown HB.out hg3 HB.out.size (Nat.le_refl _)
end Go.Proofs.Ytcpnlojcmlldpaa
