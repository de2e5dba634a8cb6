/- Layer 14, the plain law: a haze as 64 bytes, its bits; marks of a key; no function of the program in sight. -/
import Derived.Test.YtcpnlojcmlldpaaLibC
namespace Go.Proofs.Ytcpnlojcmlldpaa
open Go.RowKit

namespace Hz
def byteAt (h : List UInt8) (i : Nat) : UInt8 := h.getD i 0
/-- whether a bit is set -/
def bit (h : List UInt8) (n : Nat) : Bool := (byteAt h (n / 8)).toNat.testBit (n % 8)
def one (n : Nat) : UInt8 := UInt8.ofNat (2 ^ (n % 8))
def set (h : List UInt8) (n : Nat) : List UInt8 := h.set (n / 8) (byteAt h (n / 8) ||| one n)
def mark (k : List UInt8) (i : Nat) : Nat := ((byteAt k (2 * i)).toNat * 256 + (byteAt k (2 * i + 1)).toNat) % 512
def marks (k : List UInt8) : List Nat := [mark k 0, mark k 1, mark k 2, mark k 3]
def withKey (h k : List UInt8) : List UInt8 := (marks k).foldl set h
def withKeys (h : List UInt8) (ks : List (List UInt8)) : List UInt8 := ks.foldl withKey h
def zero : List UInt8 := List.replicate 64 0
def orAll (a b : List UInt8) : List UInt8 := a.zipWith (· ||| ·) b
def join (l : List (List UInt8)) : List UInt8 := l.foldl orAll zero
def has (h k : List UInt8) : Bool := withKey h k == h

theorem set_len (h : List UInt8) (n : Nat) : (set h n).length = h.length := by unfold set; rw [List.length_set]
theorem mark_lt (k : List UInt8) (i : Nat) : mark k i < 512 := Nat.mod_lt _ (by omega)
theorem marks_lt {k : List UInt8} {n : Nat} (h : n ∈ marks k) : n < 512 := by
  simp only [marks, List.mem_cons, List.not_mem_nil, or_false] at h
  rcases h with rfl | rfl | rfl | rfl <;> exact mark_lt _ _
theorem fold_set_len : ∀ (ns : List Nat) (h : List UInt8), (ns.foldl set h).length = h.length
  | [], _ => rfl
  | n :: r, h => by rw [List.foldl_cons, fold_set_len r, set_len]
theorem withKey_len (h k : List UInt8) : (withKey h k).length = h.length := fold_set_len _ _
theorem withKeys_len : ∀ (ks : List (List UInt8)) (h : List UInt8), (withKeys h ks).length = h.length
  | [], _ => rfl
  | k :: r, h => by
    show (withKeys (withKey h k) r).length = _
    rw [withKeys_len r, withKey_len]
theorem one_nat (n : Nat) : (one n).toNat = 2 ^ (n % 8) := by
  have h : n % 8 < 8 := Nat.mod_lt _ (by omega)
  have h2 : 2 ^ (n % 8) < 256 := by
    calc 2 ^ (n % 8) ≤ 2 ^ 7 := Nat.pow_le_pow_right (by omega) (by omega)
      _ < 256 := by omega
  unfold one
  rw [UInt8.toNat_ofNat']
  exact Nat.mod_eq_of_lt h2
theorem bit_set {h : List UInt8} (hl : h.length = 64) {n : Nat} (hn : n < 512) (m : Nat) : bit (set h n) m = (bit h m || decide (m = n)) := by
  unfold bit set
  by_cases hd : m / 8 = n / 8
  · have e : byteAt (h.set (n / 8) (byteAt h (n / 8) ||| one n)) (m / 8) = byteAt h (n / 8) ||| one n := by
      unfold byteAt
      rw [hd, List.getD_eq_getElem?_getD, List.getElem?_set_self (by omega)]
      rfl
    rw [e, UInt8.toNat_or, Nat.testBit_or, one_nat, Nat.testBit_two_pow, hd]
    congr 1
    rw [Bool.eq_iff_iff]
    simp only [decide_eq_true_eq]
    omega
  · have e : byteAt (h.set (n / 8) (byteAt h (n / 8) ||| one n)) (m / 8) = byteAt h (m / 8) := by
      unfold byteAt
      simp only [List.getD_eq_getElem?_getD]
      rw [List.getElem?_set_ne (by omega)]
    rw [e]
    have : decide (m = n) = false := by
      rw [decide_eq_false_iff_not]
      intro e
      exact hd (by rw [e])
    rw [this, Bool.or_false]
theorem bit_fold : ∀ (ns : List Nat) {h : List UInt8}, h.length = 64 → (∀ n ∈ ns, n < 512) → ∀ m, bit (ns.foldl set h) m = (bit h m || decide (m ∈ ns))
  | [], h, _, _, m => by simp
  | n :: r, h, hl, hn, m => by
    rw [List.foldl_cons, bit_fold r (by rw [set_len]; exact hl) (fun x hx => hn x (List.mem_cons_of_mem _ hx)), bit_set hl (hn n List.mem_cons_self), Bool.or_assoc]
    congr 1
    rw [Bool.eq_iff_iff]
    simp
theorem bit_withKey {h : List UInt8} (hl : h.length = 64) (k : List UInt8) (m : Nat) : bit (withKey h k) m = (bit h m || decide (m ∈ marks k)) := bit_fold _ hl (fun _ => marks_lt) m
theorem bit_withKeys : ∀ (ks : List (List UInt8)) {h : List UInt8}, h.length = 64 → ∀ m, bit (withKeys h ks) m = (bit h m || decide (∃ k ∈ ks, m ∈ marks k))
  | [], h, _, m => by simp [withKeys]
  | k :: r, h, hl, m => by
    show bit (withKeys (withKey h k) r) m = _
    rw [bit_withKeys r (by rw [withKey_len]; exact hl), bit_withKey hl, Bool.or_assoc]
    congr 1
    rw [Bool.eq_iff_iff]
    simp
/-- two summaries are one if their bits are -/
theorem ext {a b : List UInt8} (ha : a.length = 64) (hb : b.length = 64) (h : ∀ m, m < 512 → bit a m = bit b m) : a = b := by
  apply List.ext_getElem (by omega)
  intro i h1 h2
  apply UInt8.toNat_inj.1
  apply Nat.eq_of_testBit_eq
  intro j
  by_cases hj : j < 8
  · have := h (8 * i + j) (by omega)
    unfold bit byteAt at this
    rw [show (8 * i + j) / 8 = i by omega, show (8 * i + j) % 8 = j by omega] at this
    simpa [h1, h2] using this
  · have hp : 256 ≤ 2 ^ j := by
      calc 256 = 2 ^ 8 := rfl
        _ ≤ 2 ^ j := Nat.pow_le_pow_right (by omega) (by omega)
    rw [Nat.testBit_lt_two_pow (by have := a[i].toNat_lt; omega), Nat.testBit_lt_two_pow (by have := b[i].toNat_lt; omega)]
theorem has_iff {h : List UInt8} (hl : h.length = 64) (k : List UInt8) : has h k = true ↔ ∀ m ∈ marks k, bit h m = true := by
  unfold has
  rw [beq_iff_eq]
  constructor
  · intro e m hm
    have := bit_withKey hl k m
    rw [e, decide_eq_true hm, Bool.or_true] at this
    exact this
  · intro hb
    refine ext (by rw [withKey_len]; exact hl) hl fun m _ => ?_
    rw [bit_withKey hl]
    by_cases hm : m ∈ marks k
    · rw [hb m hm]
      rfl
    · rw [decide_eq_false hm, Bool.or_false]
theorem orAll_len {a b : List UInt8} (ha : a.length = 64) (hb : b.length = 64) : (orAll a b).length = 64 := by
  unfold orAll
  rw [List.length_zipWith]
  omega
theorem bit_orAll {a b : List UInt8} (ha : a.length = 64) (hb : b.length = 64) (m : Nat) (hm : m < 512) : bit (orAll a b) m = (bit a m || bit b m) := by
  unfold bit
  have e : byteAt (orAll a b) (m / 8) = byteAt a (m / 8) ||| byteAt b (m / 8) := by
    unfold byteAt orAll
    rw [List.getD_eq_getElem?_getD, List.getD_eq_getElem?_getD, List.getD_eq_getElem?_getD, List.getElem?_zipWith, List.getElem?_eq_getElem (by omega), List.getElem?_eq_getElem (by omega)]
    rfl
  rw [e, UInt8.toNat_or, Nat.testBit_or]
theorem zero_len : zero.length = 64 := rfl
theorem bit_zero (m : Nat) : bit zero m = false := by
  unfold bit byteAt zero
  rw [List.getD_eq_getElem?_getD, List.getElem?_replicate]
  split <;> simp
theorem join_len : ∀ (l : List (List UInt8)) {h : List UInt8}, h.length = 64 → (∀ x ∈ l, x.length = 64) → (l.foldl orAll h).length = 64
  | [], _, h, _ => h
  | x :: r, _, h, hx => join_len r (orAll_len h (hx x List.mem_cons_self)) (fun y hy => hx y (List.mem_cons_of_mem _ hy))
theorem bit_fold_or : ∀ (l : List (List UInt8)) {h : List UInt8}, h.length = 64 → (∀ x ∈ l, x.length = 64) → ∀ m, m < 512 → bit (l.foldl orAll h) m = (bit h m || l.any fun x => bit x m)
  | [], h, _, _, m, _ => by simp
  | x :: r, h, hl, hx, m, hm => by
    rw [List.foldl_cons, bit_fold_or r (orAll_len hl (hx x List.mem_cons_self)) (fun y hy => hx y (List.mem_cons_of_mem _ hy)) m hm, bit_orAll hl (hx x List.mem_cons_self) m hm, List.any_cons, Bool.or_assoc]
theorem bit_join {l : List (List UInt8)} (hx : ∀ x ∈ l, x.length = 64) {m : Nat} (hm : m < 512) : bit (join l) m = l.any fun x => bit x m := by
  unfold join
  rw [bit_fold_or l zero_len hx m hm, bit_zero, Bool.false_or]
/-- how many bits of a byte are set; of a haze -/
def ones (b : UInt8) : Nat := ((List.range 8).filter fun j => b.toNat.testBit j).length
def count (h : List UInt8) : Nat := (h.map ones).sum
def bits (h : List UInt8) : List Nat := (List.range 512).filter fun n => bit h n
theorem range_blocks : ∀ (k : Nat) (p : Nat → Bool), ((List.range (8 * k)).filter p).length = ((List.range k).map fun i => ((List.range 8).filter fun j => p (8 * i + j)).length).sum
  | 0, p => rfl
  | k + 1, p => by
    have e : List.range (8 * (k + 1)) = List.range (8 * k) ++ (List.range 8).map (8 * k + ·) := by rw [Nat.mul_succ, List.range_add]
    rw [e, List.filter_append, List.length_append, range_blocks k p, show List.range (k + 1) = List.range k ++ [k] from List.range_succ, List.map_append, List.sum_append, List.filter_map, List.length_map]
    simp only [List.map_cons, List.map_nil, List.sum_cons, List.sum_nil, Nat.add_zero]
    rfl
theorem count_bits {h : List UInt8} (hl : h.length = 64) : count h = (bits h).length := by
  unfold bits
  rw [show 512 = 8 * 64 from rfl, range_blocks]
  unfold count
  congr 1
  apply List.ext_getElem
  · simp [hl]
  · intro i h1 h2
    have hi : i < h.length := by simpa using h1
    simp only [List.getElem_map, List.getElem_range]
    unfold ones
    congr 1
    apply List.filter_congr
    intro j hj
    have hj : j < 8 := List.mem_range.1 hj
    unfold bit byteAt
    rw [show (8 * i + j) / 8 = i by omega, show (8 * i + j) % 8 = j by omega]
    simp [hi]
theorem count_mono {a b : List UInt8} (ha : a.length = 64) (hb : b.length = 64) (h : ∀ m, m < 512 → bit a m = true → bit b m = true) : count a ≤ count b := by
  rw [count_bits ha, count_bits hb]
  unfold bits
  rw [← List.countP_eq_length_filter, ← List.countP_eq_length_filter]
  exact List.countP_mono_left fun m hm hb => h m (List.mem_range.1 hm) hb
theorem within : ∀ (L : List Nat) {ns : List Nat}, L.Pairwise (· ≠ ·) → (∀ m ∈ L, m ∈ ns) → L.length ≤ ns.length
  | [], _, _, _ => Nat.zero_le _
  | x :: r, ns, hp, h => by
    obtain ⟨hx, hr⟩ := List.pairwise_cons.1 hp
    have hxn := h x List.mem_cons_self
    have h1 : r.length ≤ (ns.erase x).length := within r hr fun m hm => (List.mem_erase_of_ne (fun e => hx m hm e.symm)).2 (h m (List.mem_cons_of_mem _ hm))
    rw [List.length_erase_of_mem hxn] at h1
    have h2 : 0 < ns.length := List.length_pos_of_mem hxn
    rw [List.length_cons]
    omega
theorem count_le {h : List UInt8} (hl : h.length = 64) (ns : List Nat) (hn : ∀ m, m < 512 → bit h m = true → m ∈ ns) : count h ≤ ns.length := by
  rw [count_bits hl]
  exact within _ (List.Pairwise.filter _ List.nodup_range) fun m hm => by
    have := List.mem_filter.1 hm
    exact hn m (List.mem_range.1 this.1) this.2
theorem count_pos {h : List UInt8} (hl : h.length = 64) {m : Nat} (hm : m < 512) (hb : bit h m = true) : 1 ≤ count h := by
  rw [count_bits hl]
  exact List.length_pos_of_mem (List.mem_filter.2 ⟨List.mem_range.2 hm, hb⟩)
theorem count_zero : count zero = 0 := by decide
theorem count_max {h : List UInt8} (hl : h.length = 64) : count h ≤ 512 := by
  rw [count_bits hl]
  exact Nat.le_trans (List.length_filter_le _ _) (by rw [List.length_range]; exact Nat.le_refl _)
end Hz
end Go.Proofs.Ytcpnlojcmlldpaa
