/- HazeJoins: the plain law. -/
import Derived.Test.YtcpnlojcmlldpaaHazeP
namespace Go.Proofs.Ytcpnlojcmlldpaa
namespace Hz

theorem join_len' {l : List (List UInt8)} (h : ∀ x ∈ l, x.length = 64) : (join l).length = 64 := join_len l zero_len h
theorem two_len {a b : List UInt8} (ha : a.length = 64) (hb : b.length = 64) : ∀ x ∈ [a, b], x.length = 64 := by
  intro x hx
  rcases List.mem_cons.1 hx with rfl | hx
  · exact ha
  · rw [List.mem_singleton.1 hx]; exact hb
theorem three_len {a b c : List UInt8} (ha : a.length = 64) (hb : b.length = 64) (hc : c.length = 64) : ∀ x ∈ [a, b, c], x.length = 64 := by
  intro x hx
  rcases List.mem_cons.1 hx with rfl | hx
  · exact ha
  · exact two_len hb hc x hx
theorem one_len {a : List UInt8} (ha : a.length = 64) : ∀ x ∈ [a], x.length = 64 := by
  intro x hx
  rw [List.mem_singleton.1 hx]; exact ha
theorem bit_two {a b : List UInt8} (ha : a.length = 64) (hb : b.length = 64) {m : Nat} (hm : m < 512) : bit (join [a, b]) m = (bit a m || bit b m) := by
  rw [bit_join (two_len ha hb) hm]
  simp
theorem bit_three {a b c : List UInt8} (ha : a.length = 64) (hb : b.length = 64) (hc : c.length = 64) {m : Nat} (hm : m < 512) : bit (join [a, b, c]) m = (bit a m || (bit b m || bit c m)) := by
  rw [bit_join (three_len ha hb hc) hm]
  simp
section
variable {a b c : List UInt8} (ha : a.length = 64) (hb : b.length = 64) (hc : c.length = 64)
include ha hb hc
theorem joins_xy : join [a, join [b, c]] = join [join [c, a], b, b] := by
  have h1 := join_len' (two_len hb hc)
  have h2 := join_len' (two_len hc ha)
  refine ext (join_len' (two_len ha h1)) (join_len' (three_len h2 hb hb)) fun m hm => ?_
  rw [bit_two ha h1 hm, bit_two hb hc hm, bit_three h2 hb hb hm, bit_two hc ha hm]
  cases bit a m <;> cases bit b m <;> cases bit c m <;> rfl
end
theorem joins_with {a b : List UInt8} (ha : a.length = 64) (hb : b.length = 64) (l : List (List UInt8)) : withKeys (join [a, b]) l = join [a, join [b, withKeys zero l]] := by
  have hc : (withKeys zero l).length = 64 := by rw [withKeys_len]; rfl
  have h1 := join_len' (two_len hb hc)
  have h2 := join_len' (two_len ha hb)
  refine ext (by rw [withKeys_len, h2]) (join_len' (two_len ha h1)) fun m hm => ?_
  rw [bit_withKeys l h2, bit_two ha h1 hm, bit_two hb hc hm, bit_withKeys l zero_len, bit_two ha hb hm, bit_zero, Bool.false_or, Bool.or_assoc]
theorem join_self {x : List UInt8} (hx : x.length = 64) : join [x, x] = x := by
  refine ext (join_len' (two_len hx hx)) hx fun m hm => ?_
  rw [bit_two hx hx hm, Bool.or_self]
theorem join_one {x : List UInt8} (hx : x.length = 64) : join [x] = x := by
  refine ext (join_len' (one_len hx)) hx fun m hm => ?_
  rw [bit_join (one_len hx) hm]
  simp
theorem has_mono {x y : List UInt8} (hx : x.length = 64) (hy : y.length = 64) (h : ∀ m, m < 512 → bit x m = true → bit y m = true) {k : List UInt8} (hh : has x k = true) : has y k = true :=
  (has_iff hy k).2 fun m hm => h m (marks_lt hm) ((has_iff hx k).1 hh m hm)
theorem has_keys {h : List UInt8} (hh : h.length = 64) {l : List (List UInt8)} {k : List UInt8} (hk : k ∈ l) : has (withKeys h l) k = true := by
  refine (has_iff (by rw [withKeys_len, hh]) k).2 fun m hm => ?_
  rw [bit_withKeys l hh]
  have : ∃ k ∈ l, m ∈ marks k := ⟨k, hk, hm⟩
  simp [this]
theorem joins_has {a b : List UInt8} (ha : a.length = 64) (hb : b.length = 64) {l : List (List UInt8)} {k : List UInt8} (hk : k ∈ l) : has (join [a, join [b, withKeys zero l]]) k = true := by
  rw [← joins_with ha hb]
  exact has_keys (join_len' (two_len ha hb)) hk
theorem joins_mono {a b : List UInt8} (ha : a.length = 64) (hb : b.length = 64) {k : List UInt8} (hk : has a k = true) : has (join [b, a]) k = true :=
  has_mono ha (join_len' (two_len hb ha)) (fun m hm h => by rw [bit_two hb ha hm, h, Bool.or_true]) hk
theorem joins_count_a {a b c : List UInt8} (ha : a.length = 64) (hb : b.length = 64) (hc : c.length = 64) : count a ≤ count (join [a, join [b, c]]) := by
  have h1 := join_len' (two_len hb hc)
  exact count_mono ha (join_len' (two_len ha h1)) fun m hm h => by rw [bit_two ha h1 hm, h, Bool.true_or]
theorem joins_count_b {a b c : List UInt8} (ha : a.length = 64) (hb : b.length = 64) (hc : c.length = 64) : count b ≤ count (join [a, join [b, c]]) := by
  have h1 := join_len' (two_len hb hc)
  exact count_mono hb (join_len' (two_len ha h1)) fun m hm h => by rw [bit_two ha h1 hm, bit_two hb hc hm, h, Bool.true_or, Bool.or_true]
end Hz
end Go.Proofs.Ytcpnlojcmlldpaa
