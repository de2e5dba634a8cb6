/- HazeFinds: the plain law. -/
import Derived.Test.YtcpnlojcmlldpaaJoinsP
namespace Go.Proofs.Ytcpnlojcmlldpaa
namespace Hz

theorem keys_len (l : List (List UInt8)) : (withKeys zero l).length = 64 := by rw [withKeys_len]; rfl
theorem finds_two (l : List (List UInt8)) (k : Nat) : join [withKeys zero (l.drop k), withKeys zero (l.take k)] = withKeys zero l := by
  have h1 := keys_len (l.drop k)
  have h2 := keys_len (l.take k)
  refine ext (join_len' (two_len h1 h2)) (keys_len l) fun m hm => ?_
  rw [bit_two h1 h2 hm, bit_withKeys _ zero_len, bit_withKeys _ zero_len, bit_withKeys _ zero_len, bit_zero, Bool.false_or, Bool.false_or, Bool.false_or, Bool.eq_iff_iff]
  simp only [Bool.or_eq_true, decide_eq_true_eq]
  constructor
  · rintro (⟨x, hx, hm⟩ | ⟨x, hx, hm⟩)
    · exact ⟨x, List.mem_of_mem_drop hx, hm⟩
    · exact ⟨x, List.mem_of_mem_take hx, hm⟩
  · rintro ⟨x, hx, hm⟩
    rw [← List.take_append_drop k l] at hx
    rcases List.mem_append.1 hx with hx | hx
    · exact .inr ⟨x, hx, hm⟩
    · exact .inl ⟨x, hx, hm⟩
theorem marks_flat (l : List (List UInt8)) : (l.flatMap marks).length = 4 * l.length := by
  induction l with
  | nil => rfl
  | cons x r ih =>
    rw [List.flatMap_cons, List.length_append, ih, List.length_cons]
    have : (marks x).length = 4 := rfl
    omega
theorem finds_four (l : List (List UInt8)) : count (withKeys zero l) ≤ 4 * l.length := by
  rw [← marks_flat l]
  refine count_le (keys_len l) _ fun m _ hb => ?_
  rw [bit_withKeys l zero_len, bit_zero, Bool.false_or, decide_eq_true_eq] at hb
  obtain ⟨k, hk, hm⟩ := hb
  exact List.mem_flatMap.2 ⟨k, hk, hm⟩
theorem cons_len {h : List UInt8} {m : List (List UInt8)} (hh : h.length = 64) (hm : ∀ x ∈ m, x.length = 64) : ∀ x ∈ h :: m, x.length = 64 := by
  intro x hx
  rcases List.mem_cons.1 hx with rfl | hx
  · exact hh
  · exact hm x hx
theorem bit_head {h : List UInt8} {m : List (List UInt8)} (hh : h.length = 64) (hm : ∀ x ∈ m, x.length = 64) (n : Nat) (hn : n < 512) (hb : bit h n = true) : bit (join (h :: m)) n = true := by
  rw [bit_join (cons_len hh hm) hn]
  simp [hb]
theorem finds_count {h : List UInt8} {m : List (List UInt8)} (hh : h.length = 64) (hm : ∀ x ∈ m, x.length = 64) : count h ≤ count (join (h :: m)) :=
  count_mono hh (join_len' (cons_len hh hm)) (bit_head hh hm)
theorem finds_has {h : List UInt8} {m : List (List UInt8)} (hh : h.length = 64) (hm : ∀ x ∈ m, x.length = 64) {k : List UInt8} (hk : has h k = true) : has (join (h :: m)) k = true :=
  has_mono hh (join_len' (cons_len hh hm)) (bit_head hh hm) hk
theorem finds_again {h : List UInt8} {m : List (List UInt8)} (hh : h.length = 64) (hm : ∀ x ∈ m, x.length = 64) : join [join (h :: m), h] = join (h :: m) := by
  have h1 := join_len' (cons_len hh hm)
  refine ext (join_len' (two_len h1 hh)) h1 fun n hn => ?_
  rw [bit_two h1 hh hn]
  cases hb : bit h n with
  | false => rw [Bool.or_false]
  | true => rw [bit_head hh hm n hn hb]; rfl
/-- the keys put from the last one on, each twice, the first t of these -/
def backTo (l : List (List UInt8)) (t : Nat) : List UInt8 := (l.reverse.take t).foldl (fun g k => withKeys g [k, k]) zero
theorem fold_len : ∀ (ks : List (List UInt8)) {h : List UInt8}, h.length = 64 → (ks.foldl (fun g k => withKeys g [k, k]) h).length = 64
  | [], _, hh => hh
  | k :: r, h, hh => by
    rw [List.foldl_cons]
    exact fold_len r (by rw [withKeys_len, hh])
theorem bit_foldl : ∀ (ks : List (List UInt8)) {h : List UInt8}, h.length = 64 → ∀ m, bit (ks.foldl (fun g k => withKeys g [k, k]) h) m = (bit h m || decide (∃ k ∈ ks, m ∈ marks k))
  | [], h, _, m => by simp
  | k :: r, h, hh, m => by
    rw [List.foldl_cons, bit_foldl r (by rw [withKeys_len, hh]) m, bit_withKeys _ hh, Bool.eq_iff_iff]
    simp [or_assoc]
theorem backTo_len (l : List (List UInt8)) (t : Nat) : (backTo l t).length = 64 := fold_len _ zero_len
theorem backTo_all (l : List (List UInt8)) : backTo l l.length = withKeys zero l := by
  refine ext (backTo_len _ _) (keys_len l) fun m _ => ?_
  unfold backTo
  rw [bit_foldl _ zero_len, bit_withKeys _ zero_len, bit_zero, Bool.false_or, Bool.false_or, List.take_of_length_le (by simp), Bool.eq_iff_iff]
  simp
theorem backTo_succ (l : List (List UInt8)) (t : Nat) (ht : t < l.length) : backTo l (t + 1) = withKeys (backTo l t) [l[l.length - 1 - t], l[l.length - 1 - t]] := by
  unfold backTo
  have hr : t < l.reverse.length := by rw [List.length_reverse]; exact ht
  rw [List.take_succ_eq_append_getElem hr, List.foldl_append, List.foldl_cons, List.foldl_nil, List.getElem_reverse]
end Hz
end Go.Proofs.Ytcpnlojcmlldpaa
