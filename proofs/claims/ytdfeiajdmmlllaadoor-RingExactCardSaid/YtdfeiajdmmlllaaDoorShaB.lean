/- SHA-256 as plain functions: how a text is parted doesn't matter. -/
import Derived.Test.YtdfeiajdmmlllaaDoorSha
namespace Go.Proofs.YtdfeiajdmmlllaaDoor.Sha

theorem absorb_fuel : ∀ (n m : Nat) (s : St) (l : List UInt8), l.length ≤ n → l.length ≤ m → absorb n s l = absorb m s l := by
  intro n
  induction n with
  | zero =>
    intro m s l hn hm
    have hl : l = [] := List.eq_nil_of_length_eq_zero (by omega)
    subst hl
    cases m with
    | zero => rfl
    | succ m => simp [absorb]
  | succ n ih =>
    intro m s l hn hm
    cases m with
    | zero =>
      have hl : l = [] := List.eq_nil_of_length_eq_zero (by omega)
      subst hl
      simp [absorb]
    | succ m =>
      simp only [absorb]
      split
      · exact ih m _ _ (by rw [List.length_drop]; omega) (by rw [List.length_drop]; omega)
      · rfl
theorem run_step (s : St) (l : List UInt8) (h : 64 ≤ l.length) : run s l = run (mix s (l.take 64)) (l.drop 64) := by
  unfold run
  cases hl : l.length with
  | zero => omega
  | succ n =>
    rw [absorb, if_pos h]
    exact absorb_fuel _ _ _ _ (by rw [List.length_drop]; omega) (by omega)
theorem run_end (s : St) (l : List UInt8) (h : l.length < 64) : run s l = (s, l) := by
  unfold run
  cases hl : l.length with
  | zero => rfl
  | succ n => rw [absorb, if_neg (by omega)]
theorem run_append (x : List UInt8) : ∀ (n : Nat) (s : St) (l : List UInt8), l.length ≤ n → run s (l ++ x) = run (run s l).1 ((run s l).2 ++ x) := by
  intro n
  induction n with
  | zero =>
    intro s l hn
    rw [run_end s l (by omega)]
  | succ n ih =>
    intro s l hn
    by_cases h : 64 ≤ l.length
    · rw [run_step s l h, run_step s (l ++ x) (by rw [List.length_append]; omega), List.take_append_of_le_length h, List.drop_append_of_le_length h]
      exact ih _ _ (by rw [List.length_drop]; omega)
    · rw [run_end s l (by omega)]
theorem run_rest (n : Nat) : ∀ (s : St) (l : List UInt8), l.length ≤ n → (run s l).2.length < 64 := by
  induction n with
  | zero => intro s l hn; rw [run_end s l (by omega)]; show l.length < 64; omega
  | succ n ih =>
    intro s l hn
    by_cases h : 64 ≤ l.length
    · rw [run_step s l h]
      exact ih _ _ (by rw [List.length_drop]; omega)
    · rw [run_end s l (by omega)]; show l.length < 64; omega
theorem run_ok (n : Nat) : ∀ (s : St) (l : List UInt8), l.length ≤ n → s.Ok → (run s l).1.Ok := by
  induction n with
  | zero => intro s l hn h; rw [run_end s l (by omega)]; exact h
  | succ n ih =>
    intro s l hn hs
    by_cases h : 64 ≤ l.length
    · rw [run_step s l h]
      exact ih _ _ (by rw [List.length_drop]; omega) (sum_ok _ _)
    · rw [run_end s l (by omega)]; exact hs
theorem run_mod (n : Nat) : ∀ (s : St) (l : List UInt8), l.length ≤ n → (run s l).2.length = l.length % 64 := by
  induction n with
  | zero => intro s l hn; rw [run_end s l (by omega)]; show l.length = _; omega
  | succ n ih =>
    intro s l hn
    by_cases h : 64 ≤ l.length
    · rw [run_step s l h, ih _ _ (by rw [List.length_drop]; omega), List.length_drop]; omega
    · rw [run_end s l (by omega)]; show l.length = _; omega
theorem bytes_length (k n : Nat) : (bytes k n).length = k := by
  induction k with
  | zero => rfl
  | succ k ih => simp [bytes, ih]
theorem pad_length (n : Nat) : (pad n).length = 9 + (119 - n % 64) % 64 := by
  simp [pad, bytes_length]; omega
end Go.Proofs.YtdfeiajdmmlllaaDoor.Sha
