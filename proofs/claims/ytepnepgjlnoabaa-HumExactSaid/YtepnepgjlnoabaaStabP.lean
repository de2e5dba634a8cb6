/- The stable merge of two lists, in plain Lean: what slices.SortStableFunc does to a row. -/
import Derived.Test.YtepnepgjlnoabaaChecked
namespace Go.Proofs.Ytepnepgjlnoabaa
namespace Stab
variable {α : Type} (le : α → α → Bool)

theorem merge_split : ∀ (X1 Y1 X2 Y2 : List α), (∀ x ∈ X1, ∀ y ∈ Y2, le x y = true) → (∀ x ∈ X2, ∀ y ∈ Y1, le x y = false) → List.merge (X1 ++ X2) (Y1 ++ Y2) le = List.merge X1 Y1 le ++ List.merge X2 Y2 le
  | [], [], X2, Y2, _, _ => by simp
  | [], y :: Y1, [], Y2, _, _ => by simp
  | [], y :: Y1, x :: X2, Y2, h1, h2 => by
    have ih := merge_split [] Y1 (x :: X2) Y2 (fun _ hx => by cases hx) (fun x' hx y' hy => h2 x' hx y' (List.mem_cons_of_mem _ hy))
    rw [List.nil_append, List.nil_merge] at ih
    rw [List.nil_append, List.nil_merge, List.cons_append, List.cons_merge_cons, if_neg (by rw [h2 x List.mem_cons_self y List.mem_cons_self]; simp), ih]
    rfl
  | x :: X1, [], X2, [], _, _ => by simp
  | x :: X1, [], X2, y :: Y2, h1, h2 => by
    have ih := merge_split X1 [] X2 (y :: Y2) (fun x' hx => h1 x' (List.mem_cons_of_mem _ hx)) (fun _ _ _ hy => by cases hy)
    rw [List.nil_append, List.merge_right] at ih
    rw [List.nil_append, List.merge_right, List.cons_append, List.cons_merge_cons, if_pos (h1 x List.mem_cons_self y List.mem_cons_self), ih]
    rfl
  | x :: X1, y :: Y1, X2, Y2, h1, h2 => by
    rw [List.cons_append, List.cons_append, List.cons_merge_cons, List.cons_merge_cons]
    by_cases h : le x y = true
    · rw [if_pos h, if_pos h]
      exact congrArg (x :: ·) (merge_split X1 (y :: Y1) X2 Y2 (fun x' hx => h1 x' (List.mem_cons_of_mem _ hx)) h2)
    · rw [if_neg h, if_neg h]
      exact congrArg (y :: ·) (merge_split (x :: X1) Y1 X2 Y2 h1 (fun x' hx y' hy => h2 x' hx y' (List.mem_cons_of_mem _ hy)))
termination_by X1 Y1 => X1.length + Y1.length
/-- one more behind -/
theorem merge_one_right (X : List α) (y : α) (i : Nat) (h1 : ∀ x ∈ X.take i, le x y = true) (h2 : ∀ x ∈ X.drop i, le x y = false) : List.merge X [y] le = X.take i ++ y :: X.drop i := by
  have h := merge_split le (X.take i) [] (X.drop i) [y] (fun x hx y' hy => by rw [List.mem_singleton.1 hy]; exact h1 x hx) (fun _ _ _ hy => by cases hy)
  rw [List.take_append_drop, List.nil_append, List.merge_right] at h
  rw [h]
  congr 1
  have h' := merge_split le [] [y] (X.drop i) [] (fun _ hx => by cases hx) (fun x hx y' hy => by rw [List.mem_singleton.1 hy]; exact h2 x hx)
  simpa using h'
/-- one more ahead -/
theorem merge_one_left (x : α) (Y : List α) (i : Nat) (h1 : ∀ y ∈ Y.take i, le x y = false) (h2 : ∀ y ∈ Y.drop i, le x y = true) : List.merge [x] Y le = Y.take i ++ x :: Y.drop i := by
  have h := merge_split le [] (Y.take i) [x] (Y.drop i) (fun _ hx => by cases hx) (fun x' hx y hy => by rw [List.mem_singleton.1 hx]; exact h1 y hy)
  rw [List.take_append_drop, List.nil_append, List.nil_merge] at h
  rw [h]
  congr 1
  have h' := merge_split le [x] [] [] (Y.drop i) (fun x' hx y hy => by rw [List.mem_singleton.1 hx]; exact h2 y hy) (fun _ hx => by cases hx)
  simpa using h'
section
variable {le} (ht : ∀ a b c, le a b = true → le b c = true → le a c = true) (ho : ∀ a b, le a b = true ∨ le b a = true)
include ht ho
theorem merge_assoc : ∀ (A B C : List α), List.merge (List.merge A B le) C le = List.merge A (List.merge B C le) le
  | [], B, C => by simp
  | A, [], C => by simp
  | A, B, [] => by simp
  | a :: A, b :: B, c :: C => by
    by_cases h1 : le a b = true
    · have e1 : List.merge (a :: A) (b :: B) le = a :: List.merge A (b :: B) le := by rw [List.cons_merge_cons, if_pos h1]
      by_cases h2 : le a c = true
      · have ih := merge_assoc A (b :: B) (c :: C)
        rw [e1, List.cons_merge_cons, if_pos h2, ih]
        by_cases h3 : le b c = true
        · rw [List.cons_merge_cons le b c, if_pos h3, List.cons_merge_cons le a b, if_pos h1]
        · rw [List.cons_merge_cons le b c, if_neg h3, List.cons_merge_cons le a c, if_pos h2]
      · have h3 : ¬ le b c = true := fun h => h2 (ht a b c h1 h)
        have ih := merge_assoc (a :: A) (b :: B) C
        rw [List.cons_merge_cons le b c, if_neg h3, List.cons_merge_cons le a c, if_neg h2, ← ih, e1, List.cons_merge_cons le a c, if_neg h2]
    · have e1 : List.merge (a :: A) (b :: B) le = b :: List.merge (a :: A) B le := by rw [List.cons_merge_cons, if_neg h1]
      by_cases h2 : le b c = true
      · have ih := merge_assoc (a :: A) B (c :: C)
        rw [e1, List.cons_merge_cons, if_pos h2, ih, List.cons_merge_cons le b c, if_pos h2, List.cons_merge_cons le a b, if_neg h1]
      · have h3 : ¬ le a c = true := fun h => by
          have h4 : le c b = true := by
            rcases ho b c with h | h
            · exact absurd h h2
            · exact h
          exact h1 (ht a c b h h4)
        have ih := merge_assoc (a :: A) (b :: B) C
        rw [List.cons_merge_cons le b c, if_neg h2, List.cons_merge_cons le a c, if_neg h3, ← ih, e1, List.cons_merge_cons le b c, if_neg h2]
termination_by A B C => A.length + B.length + C.length
end
theorem snoc_ind {p : List α → Prop} (h0 : p []) (h1 : ∀ l x, p l → p (l ++ [x])) (l : List α) : p l := by
  have h : ∀ r : List α, p r.reverse := fun r => by
    induction r with
    | nil => exact h0
    | cons x r ih => rw [List.reverse_cons]; exact h1 _ x ih
  have := h l.reverse
  rwa [List.reverse_reverse] at this
/-- the stable sort: one after the other, each behind its equals -/
def S (l : List α) : List α := l.foldl (fun acc x => List.merge acc [x] le) []
theorem S_snoc (l : List α) (x : α) : S le (l ++ [x]) = List.merge (S le l) [x] le := by
  unfold S
  rw [List.foldl_append]
  rfl
theorem S_len : ∀ (l : List α), (S le l).length = l.length := by
  intro l
  induction l using snoc_ind with
  | h0 => rfl
  | h1 l x ih => rw [S_snoc, List.length_merge, ih, List.length_append]
section
variable {le} (ht : ∀ a b c, le a b = true → le b c = true → le a c = true) (ho : ∀ a b, le a b = true ∨ le b a = true)
include ht ho
theorem S_append (A B : List α) : S le (A ++ B) = List.merge (S le A) (S le B) le := by
  induction B using snoc_ind with
  | h0 => simp [S]
  | h1 B x ih => rw [← List.append_assoc, S_snoc, ih, S_snoc, merge_assoc ht ho]
theorem S_sorted (l : List α) : (S le l).Pairwise fun a b => le a b = true := by
  induction l using snoc_ind with
  | h0 => simp [S]
  | h1 l x ih =>
    rw [S_snoc]
    exact List.pairwise_merge (le := le) (fun a b c => ht a b c) (fun a b => by simpa using ho a b) _ _ ih (List.pairwise_singleton _ _)
theorem merge_sorted {X Y : List α} (hX : X.Pairwise fun a b => le a b = true) (hY : Y.Pairwise fun a b => le a b = true) : (List.merge X Y le).Pairwise fun a b => le a b = true :=
  List.pairwise_merge (le := le) (fun a b c => ht a b c) (fun a b => by simpa using ho a b) _ _ hX hY
end
theorem S_perm (l : List α) : (S le l).Perm l := by
  induction l using snoc_ind with
  | h0 => simp [S]
  | h1 l x ih =>
    rw [S_snoc]
    exact (List.merge_perm_append le).trans (ih.append_right _)
end Stab
end Go.Proofs.Ytepnepgjlnoabaa
