/- Insertion sort as the stable sort of a list. -/
import Derived.Test.YtepnepgjlnoabaaStabQ
import Derived.Shelf.SlSortCmp.Insertion
import Derived.Sort.Statements
namespace Go.Proofs.Ytepnepgjlnoabaa
open Go.Proofs Stab Go.Shelf Go.RowKit Go.Lib Go.Sort
section
variable {α : Type}
/-- not above, by a comparison -/
def leC (cf : α → α → Int) (x y : α) : Bool := !ltOf cf y x
/-- sorted, by a comparison -/
def SortC (cf : α → α → Int) (X : List α) : Prop := X.Pairwise fun a b => leC cf a b = true
theorem leC_trans {cf : α → α → Int} (h : SWO (ltOf cf)) (a b c : α) (h1 : leC cf a b = true) (h2 : leC cf b c = true) : leC cf a c = true := by
  unfold leC at *
  rw [Bool.not_eq_true'] at *
  exact h.ntrans _ _ _ h2 h1
theorem leC_refl {cf : α → α → Int} (h : SWO (ltOf cf)) (a : α) : leC cf a a = true := by
  unfold leC
  rw [h.irrefl]; rfl
theorem leC_total {cf : α → α → Int} (h : SWO (ltOf cf)) (a b : α) : leC cf a b = true ∨ leC cf b a = true := by
  unfold leC
  cases h1 : ltOf cf b a with
  | false => exact Or.inl rfl
  | true =>
    cases h2 : ltOf cf a b with
    | false => exact Or.inr rfl
    | true =>
      have := h.trans _ _ _ h1 h2
      rw [h.irrefl] at this
      cases this
theorem SortC.snoc_all {cf : α → α → Int} (h : SWO (ltOf cf)) {X : List α} {y x : α} (hX : SortC cf (X ++ [y])) (hy : leC cf y x = true) : ∀ z ∈ X ++ [y], leC cf z x = true := by
  intro z hz
  rcases List.mem_append.1 hz with hz | hz
  · exact leC_trans h _ _ _ ((List.pairwise_append.1 hX).2.2 z hz y (by simp)) hy
  · rw [List.mem_singleton.1 hz]; exact hy
end
section
variable {α : Type} [Inhabited α]
theorem at_list {d : Array α} {L R : List α} {x : α} {i : Nat} (h : d.toList = L ++ x :: R) (hi : i = L.length) : d[i]! = x := at_lists h hi
theorem swp_listsB {d : Array α} {A C : List α} {x y : α} {i j : Nat} (h : d.toList = A ++ x :: y :: C) (hi : i = A.length) (hj : j = A.length + 1) : (swp d j i).toList = A ++ y :: x :: C := by
  subst hi hj
  have h1 : d[A.length]! = x := at_lists h rfl
  have h2 : d[A.length + 1]! = y := at_lists (A := A ++ [x]) (C := C) (by rw [h]; simp) (by simp)
  unfold swp
  rw [h1, h2, Array.toList_setIfInBounds, Array.toList_setIfInBounds, h]
  rw [List.set_append_right _ _ (by omega), List.set_append_right _ _ (Nat.le_refl _), Nat.sub_self]
  have e : A.length + 1 - A.length = 1 := by omega
  rw [e]
  rfl
theorem insInner_S {cf : α → α → Int} (h : SWO (ltOf cf)) (A : List α) (x : α) : ∀ (X B : List α) (d : Array α), SortC cf X → d.toList = A ++ X ++ x :: B → (insInner (ltOf cf) A.length (A.length + X.length) d).toList = A ++ List.merge X [x] (leC cf) ++ B := by
  intro X
  induction X using snoc_ind with
  | h0 =>
    intro B d _ hd
    have e : insInner (ltOf cf) A.length (A.length + 0) d = d := by
      cases hA : A.length with
      | zero => rfl
      | succ n =>
        show insInner (ltOf cf) (n + 1) (n + 1) d = d
        unfold insInner
        rw [if_neg (by simp)]
    rw [List.length_nil, e, hd]
    simp
  | h1 X y ih =>
    intro B d hX hd
    have hl : A.length + (X ++ [y]).length = (A.length + X.length) + 1 := by rw [List.length_append, List.length_singleton]; omega
    have g1 : d[A.length + X.length + 1]! = x := at_list (L := A ++ (X ++ [y])) hd (by simp; omega)
    have g2 : d[A.length + X.length]! = y := at_list (L := A ++ X) (R := x :: B) (by rw [hd]; simp) (by simp)
    rw [hl]
    unfold insInner
    rw [g1, g2]
    by_cases hc : ltOf cf x y = true
    · rw [if_pos (by rw [hc]; simp; omega)]
      have hs : (swp d (A.length + X.length + 1) (A.length + X.length)).toList = A ++ X ++ x :: (y :: B) := by
        have := swp_listsB (d := d) (A := A ++ X) (C := B) (x := y) (y := x) (i := A.length + X.length) (j := A.length + X.length + 1) (by rw [hd]; simp) (by simp) (by simp)
        rw [this]
      rw [ih (y :: B) _ (List.pairwise_append.1 hX).1 hs]
      have hm := merge_split (leC cf) X [x] [y] [] (fun _ _ _ hq => by cases hq) (fun x' hx' y' hy' => by rw [List.mem_singleton.1 hx', List.mem_singleton.1 hy']; unfold leC; rw [hc]; rfl)
      rw [List.append_nil, List.merge_right] at hm
      rw [hm]
      simp
    · have hc' : ltOf cf x y = false := by simpa using hc
      rw [if_neg (by rw [hc']; simp)]
      have hall := hX.snoc_all h (y := y) (x := x) (by unfold leC; rw [hc']; rfl)
      have hm := merge_split (leC cf) (X ++ [y]) [] [] [x] (fun x' hx' y' hy' => by rw [List.mem_singleton.1 hy']; exact hall x' hx') (fun _ hq => by cases hq)
      rw [List.append_nil, List.nil_append, List.merge_right, List.nil_merge] at hm
      rw [hm, hd]
      simp
theorem insOuter_S {cf : α → α → Int} (h : SWO (ltOf cf)) (A Q : List α) : ∀ (M P : List α) (d : Array α), d.toList = A ++ S (leC cf) P ++ M ++ Q → (insOuter (ltOf cf) A.length (A.length + P.length + M.length) (A.length + P.length) d).toList = A ++ S (leC cf) (P ++ M) ++ Q
  | [], P, d, hd => by
    rw [insOuter, if_neg (by simp), hd]
    simp
  | x :: M, P, d, hd => by
    have hl : A.length + P.length + (x :: M).length = A.length + (P ++ [x]).length + M.length := by simp; omega
    rw [insOuter, if_pos (by simp)]
    have h1 := insInner_S h A x (S (leC cf) P) (M ++ Q) d (S_sorted (leC_trans h) (leC_total h) P) (by rw [hd]; simp)
    rw [S_len] at h1
    have h2 := insOuter_S h A Q M (P ++ [x]) (insInner (ltOf cf) A.length (A.length + P.length) d) (by rw [h1, S_snoc]; simp)
    rw [hl]
    have e : A.length + (P ++ [x]).length = A.length + P.length + 1 := by simp; omega
    rw [e] at h2 ⊢
    rw [h2]
    simp
theorem insertionSort_S {cf : α → α → Int} (h : SWO (ltOf cf)) (A M Q : List α) (d : Array α) (hd : d.toList = A ++ M ++ Q) : (Sort.insertionSort (ltOf cf) d A.length (A.length + M.length)).toList = A ++ S (leC cf) M ++ Q := by
  unfold Sort.insertionSort
  cases M with
  | nil =>
    rw [insOuter, if_neg (by simp), hd]
    rfl
  | cons x M =>
    have h1 := insOuter_S h A Q M [x] d (by rw [hd]; simp [S])
    have e : A.length + (x :: M).length = A.length + [x].length + M.length := by simp; omega
    rw [e]
    exact h1
end
end Go.Proofs.Ytepnepgjlnoabaa
