/- The reference's Sort of layer 15, plain: records put in one by one. -/
import Derived.Test.YtefbllhpibfojaaDoorGrwPM
namespace Go.Proofs.YtefbllhpibfojaaDoor
open Go.Proofs Stab Go.Shelf Go.RowKit Go.Lib Go.Sort

/-- one round of the inner loop: what has been laid out, and whether the record is done -/
def stepI (x : Rec) (s : List Rec × Bool) (y : Rec) : List Rec × Bool :=
  if y.key = x.key then (s.1 ++ [y], true)
  else if s.2 = false ∧ lessB x.key y.key = true then (s.1 ++ [x] ++ [y], true)
  else (s.1 ++ [y], s.2)
def insF (x : Rec) (out : List Rec) : List Rec :=
  if (out.foldl (stepI x) ([], false)).2 then (out.foldl (stepI x) ([], false)).1 else (out.foldl (stepI x) ([], false)).1 ++ [x]
def insL (x : Rec) : Bool → List Rec → List Rec
  | d, [] => if d then [] else [x]
  | d, y :: r => if y.key = x.key then y :: insL x true r else if d = false ∧ lessB x.key y.key = true then x :: y :: insL x true r else y :: insL x d r
theorem insF_eq (x : Rec) : ∀ (out acc : List Rec) (d : Bool), (if (out.foldl (stepI x) (acc, d)).2 then (out.foldl (stepI x) (acc, d)).1 else (out.foldl (stepI x) (acc, d)).1 ++ [x]) = acc ++ insL x d out
  | [], acc, d => by cases d <;> simp [insL]
  | y :: r, acc, d => by
    rw [List.foldl_cons]
    unfold insL
    have h : stepI x (acc, d) y = if y.key = x.key then (acc ++ [y], true) else if d = false ∧ lessB x.key y.key = true then (acc ++ [x] ++ [y], true) else (acc ++ [y], d) := rfl
    rw [h]
    split
    · rw [insF_eq x r]; simp
    · split
      · rw [insF_eq x r]; simp
      · rw [insF_eq x r]; simp
theorem insL_done (x : Rec) : ∀ out, insL x true out = out
  | [] => rfl
  | y :: r => by
    unfold insL
    rw [insL_done x r]
    simp
theorem insL_new (x : Rec) : ∀ out : List Rec, (∀ y ∈ out, y.key ≠ x.key) → insL x false out = insR x out
  | [], _ => rfl
  | y :: r, h => by
    unfold insL insR
    rw [if_neg (h y List.mem_cons_self), insL_done, insL_new x r fun z hz => h z (List.mem_cons_of_mem _ hz)]
    simp
theorem insL_old (x : Rec) : ∀ out : List Rec, Rising out → (∃ y ∈ out, y.key = x.key) → insL x false out = out
  | [], _, h => by obtain ⟨y, hy, _⟩ := h; cases hy
  | y :: r, hr, h => by
    have h1 := List.pairwise_cons.1 hr
    unfold insL
    by_cases hy : y.key = x.key
    · rw [if_pos hy, insL_done]
    · obtain ⟨z, hz, he⟩ := h
      have hzr : z ∈ r := by
        rcases List.mem_cons.1 hz with rfl | hz
        · exact absurd he hy
        · exact hz
      have hl := h1.1 z hzr
      rw [he] at hl
      have hn : lessB x.key y.key = false := by
        rw [less_total x.key y.key (fun e => hy e.symm), hl]
        rfl
      rw [if_neg hy, if_neg (by rw [hn]; simp), insL_old x r h1.2 ⟨z, hzr, he⟩]
theorem insF_sortR (l : List Rec) (x : Rec) : insF x (sortR l) = sortR (l ++ [x]) := by
  have h : insF x (sortR l) = insL x false (sortR l) := by
    have := insF_eq x (sortR l) [] false
    rwa [List.nil_append] at this
  rw [h]
  by_cases hx : ∃ y ∈ sortR l, y.key = x.key
  · rw [insL_old x _ (sortR_rising l) hx]
    refine sortR_eq (sortR_rising l) fun k => ?_
    rw [find_sortR, find_append, find_cons, find_nil]
    by_cases hk : x.key = k
    · obtain ⟨y, hy, he⟩ := hx
      have hf := sortR_mem.1 hy
      rw [he, hk] at hf
      rw [hf]
      rfl
    · rw [if_neg hk, Option.or_none]
  · have hx' : ∀ y ∈ sortR l, y.key ≠ x.key := fun y hy he => hx ⟨y, hy, he⟩
    have hl : ∀ y ∈ l, y.key ≠ x.key := fun y hy he => by
      obtain ⟨z, hz⟩ := find_isSome hy
      have h1 := find_some hz
      rw [← find_sortR] at hz
      have h2 := find_some hz
      exact hx' z h2.1 (h2.2.trans he)
    rw [insL_new x _ hx', sortR_snoc hl]
theorem stepI_snoc (x : Rec) (out : List Rec) (k : Nat) (hk : k < out.length) : (out.take (k + 1)).foldl (stepI x) ([], false) = stepI x ((out.take k).foldl (stepI x) ([], false)) out[k] := by
  rw [List.take_succ_eq_append_getElem hk, List.foldl_append]
  rfl
theorem stepI_len (x : Rec) : ∀ (out acc : List Rec) (d : Bool), (out.foldl (stepI x) (acc, d)).1.length ≤ acc.length + out.length + if d then 0 else 1
  | [], acc, d => by simp
  | y :: r, acc, d => by
    rw [List.foldl_cons]
    have h : stepI x (acc, d) y = if y.key = x.key then (acc ++ [y], true) else if d = false ∧ lessB x.key y.key = true then (acc ++ [x] ++ [y], true) else (acc ++ [y], d) := rfl
    rw [h]
    split
    · have := stepI_len x r (acc ++ [y]) true
      simp at this ⊢
      omega
    · split
      · rename_i hd
        have := stepI_len x r (acc ++ [x] ++ [y]) true
        rw [hd.1]
        simp at this ⊢
        omega
      · have := stepI_len x r (acc ++ [y]) d
        simp at this ⊢
        omega
end Go.Proofs.YtefbllhpibfojaaDoor
