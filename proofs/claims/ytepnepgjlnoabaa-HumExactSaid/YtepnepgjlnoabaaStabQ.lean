/- Exchanges in an array, as lists; where a merge of two rows may be parted. -/
import Derived.Test.YtepnepgjlnoabaaStabP
import Derived.Sort.Defs
namespace Go.Proofs.Ytepnepgjlnoabaa
open Go.Sort
namespace Stab
variable {α : Type}

theorem swp_lists [Inhabited α] {d : Array α} {A B C : List α} {x y : α} {i j : Nat} (h : d.toList = A ++ x :: (B ++ y :: C)) (hi : i = A.length) (hj : j = A.length + 1 + B.length) : (swp d i j).toList = A ++ y :: (B ++ x :: C) := by
  subst hi hj
  have h1 : d[A.length]! = x := by
    rw [← Array.getElem!_toList, h]
    simp
  have h2 : d[A.length + 1 + B.length]! = y := by
    rw [← Array.getElem!_toList, h]
    simp [Nat.add_assoc, Nat.add_comm 1]
  unfold swp
  rw [h1, h2, Array.toList_setIfInBounds, Array.toList_setIfInBounds, h]
  rw [List.set_append_right _ _ (Nat.le_refl _), Nat.sub_self, List.set_cons_zero, List.set_append_right _ _ (by omega)]
  have e : A.length + 1 + B.length - A.length = B.length + 1 := by omega
  rw [e, List.set_cons_succ, List.set_append_right _ _ (Nat.le_refl _), Nat.sub_self, List.set_cons_zero]
theorem swp_sz [Inhabited α] (d : Array α) (i j : Nat) : (swp d i j).size = d.size := by
  unfold swp
  simp
/-- what stands at a place -/
theorem at_lists [Inhabited α] {d : Array α} {A C : List α} {x : α} {i : Nat} (h : d.toList = A ++ x :: C) (hi : i = A.length) : d[i]! = x := by
  subst hi
  rw [← Array.getElem!_toList, h]
  simp
/-- one round of an exchange of two runs -/
theorem swap_round [Inhabited α] {d : Array α} {P U1 U2 R V1 V2 Q : List α} {x y : α} {i j : Nat} (h : d.toList = P ++ (V1 ++ x :: U2) ++ R ++ (U1 ++ y :: V2) ++ Q) (hi : i = P.length + V1.length) (hj : j = P.length + V1.length + 1 + U2.length + R.length + U1.length) :
    (swp d i j).toList = P ++ ((V1 ++ [y]) ++ U2) ++ R ++ ((U1 ++ [x]) ++ V2) ++ Q := by
  have h' : d.toList = (P ++ V1) ++ x :: ((U2 ++ R ++ U1) ++ y :: (V2 ++ Q)) := by rw [h]; simp
  rw [swp_lists h' (by simp [hi]) (by simp [hj]; omega)]
  simp
section
variable (le : α → α → Bool) (ht : ∀ a b c, le a b = true → le b c = true → le a c = true)
include ht
/-- where the last of one run is not above the first of another, none is -/
theorem le_all {X Y : List α} (hX : X.Pairwise fun a b => le a b = true) (hY : Y.Pairwise fun a b => le a b = true) (ho : ∀ a, le a a = true) (h : ∀ x y, X.getLast? = some x → Y.head? = some y → le x y = true) : ∀ x ∈ X, ∀ y ∈ Y, le x y = true := by
  intro x hx y hy
  obtain ⟨y0, Y', rfl⟩ : ∃ y0 Y', Y = y0 :: Y' := by
    cases Y with
    | nil => cases hy
    | cons a b => exact ⟨a, b, rfl⟩
  obtain ⟨X', xl, rfl⟩ : ∃ X' xl, X = X' ++ [xl] := by
    rcases List.eq_nil_or_concat X with rfl | ⟨X', xl, rfl⟩
    · cases hx
    · exact ⟨X', xl, by simp⟩
  have h0 := h xl y0 (by simp) rfl
  have h1 : le x xl = true := by
    rcases List.mem_append.1 hx with hx | hx
    · exact (List.pairwise_append.1 hX).2.2 x hx xl (by simp)
    · rw [List.mem_singleton.1 hx]; exact ho xl
  have h2 : le y0 y = true := by
    rcases List.mem_cons.1 hy with rfl | hy
    · exact ho _
    · exact (List.pairwise_cons.1 hY).1 y hy
  exact ht _ _ _ h1 (ht _ _ _ h0 h2)
/-- where the first of one run is above the last of another, all are -/
theorem gt_all {X Y : List α} (hX : X.Pairwise fun a b => le a b = true) (hY : Y.Pairwise fun a b => le a b = true) (ho : ∀ a, le a a = true) (h : ∀ x y, X.head? = some x → Y.getLast? = some y → le x y = false) : ∀ x ∈ X, ∀ y ∈ Y, le x y = false := by
  intro x hx y hy
  obtain ⟨x0, X', rfl⟩ : ∃ y0 Y', X = y0 :: Y' := by
    cases X with
    | nil => cases hx
    | cons a b => exact ⟨a, b, rfl⟩
  obtain ⟨Y', yl, rfl⟩ : ∃ X' xl, Y = X' ++ [xl] := by
    rcases List.eq_nil_or_concat Y with rfl | ⟨X', xl, rfl⟩
    · cases hy
    · exact ⟨X', xl, by simp⟩
  have h0 := h x0 yl rfl (by simp)
  rw [Bool.eq_false_iff] at h0 ⊢
  intro h3
  have h1 : le y yl = true := by
    rcases List.mem_append.1 hy with hy | hy
    · exact (List.pairwise_append.1 hY).2.2 y hy yl (by simp)
    · rw [List.mem_singleton.1 hy]; exact ho yl
  have h2 : le x0 x = true := by
    rcases List.mem_cons.1 hx with rfl | hx
    · exact ho _
    · exact (List.pairwise_cons.1 hX).1 x hx
  exact h0 (ht _ _ _ h2 (ht _ _ _ h3 h1))
/-- the parting of a merge: the first runs in front, the last runs behind -/
theorem merge_part {X1 X2 Y1 Y2 : List α} (hX : (X1 ++ X2).Pairwise fun a b => le a b = true) (hY : (Y1 ++ Y2).Pairwise fun a b => le a b = true) (ho : ∀ a, le a a = true)
    (h1 : ∀ x y, X1.getLast? = some x → Y2.head? = some y → le x y = true) (h2 : ∀ x y, X2.head? = some x → Y1.getLast? = some y → le x y = false) : List.merge (X1 ++ X2) (Y1 ++ Y2) le = List.merge X1 Y1 le ++ List.merge X2 Y2 le :=
  merge_split le X1 Y1 X2 Y2 (le_all le ht (List.pairwise_append.1 hX).1 (List.pairwise_append.1 hY).2.1 ho h1) (gt_all le ht (List.pairwise_append.1 hX).2.1 (List.pairwise_append.1 hY).1 ho h2)
end
end Stab
end Go.Proofs.Ytepnepgjlnoabaa
