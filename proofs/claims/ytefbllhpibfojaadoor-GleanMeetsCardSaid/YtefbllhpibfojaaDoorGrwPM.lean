/- HedgeGrows, plain: a record more of a new key. -/
import Derived.Test.YtefbllhpibfojaaDoorGrpJ
namespace Go.Proofs.YtefbllhpibfojaaDoor
open Go.Proofs Stab Go.Shelf Go.RowKit Go.Lib Go.Sort

/-- a record put into records by rising keys -/
def insR (x : Rec) : List Rec → List Rec
  | [] => [x]
  | y :: r => if lessB x.key y.key then x :: y :: r else y :: insR x r
theorem insR_mem {x z : Rec} : ∀ {l : List Rec}, z ∈ insR x l ↔ z = x ∨ z ∈ l
  | [] => by simp [insR]
  | y :: r => by
    unfold insR
    split
    · simp
    · rw [List.mem_cons, insR_mem, List.mem_cons]
      constructor
      · rintro (h | h | h)
        · exact .inr (.inl h)
        · exact .inl h
        · exact .inr (.inr h)
      · rintro (h | h | h)
        · exact .inr (.inl h)
        · exact .inl h
        · exact .inr (.inr h)
theorem insR_rising {x : Rec} : ∀ {l : List Rec}, Rising l → (∀ y ∈ l, y.key ≠ x.key) → Rising (insR x l)
  | [], _, _ => List.pairwise_singleton _ _
  | y :: r, h, hne => by
    have h1 := List.pairwise_cons.1 h
    unfold insR
    cases hq : lessB x.key y.key with
    | true =>
      rw [if_pos rfl]
      refine List.pairwise_cons.2 ⟨fun z hz => ?_, h⟩
      rcases List.mem_cons.1 hz with rfl | hz
      · exact hq
      · exact less_trans _ _ _ hq (h1.1 z hz)
    | false =>
      rw [if_neg (by simp)]
      have hyx : lessB y.key x.key = true := by
        rw [less_total y.key x.key (hne y List.mem_cons_self), hq]
        rfl
      refine List.pairwise_cons.2 ⟨fun z hz => ?_, insR_rising h1.2 fun z hz => hne z (List.mem_cons_of_mem _ hz)⟩
      rcases insR_mem.1 hz with rfl | hz
      · exact hyx
      · exact h1.1 z hz
theorem insR_find {x : Rec} (k : List UInt8) : ∀ {l : List Rec}, (∀ y ∈ l, y.key ≠ x.key) → find (insR x l) k = (find l k).or (if x.key = k then some x else none)
  | [], _ => by
    rw [insR, find_cons, find_nil]
    rfl
  | y :: r, hne => by
    have ih := insR_find k (l := r) fun z hz => hne z (List.mem_cons_of_mem _ hz)
    unfold insR
    split
    · rw [find_cons, find_cons]
      by_cases hx : x.key = k
      · have hr : find r k = none := find_none fun z hz e => hne z (List.mem_cons_of_mem _ hz) (e.trans hx.symm)
        have hy : y.key ≠ k := fun e => hne y List.mem_cons_self (e.trans hx.symm)
        rw [if_pos hx, if_neg hy, if_pos hx, hr]
        rfl
      · rw [if_neg hx, if_neg hx, Option.or_none]
    · rw [find_cons, find_cons, ih]
      by_cases hy : y.key = k
      · rw [if_pos hy, if_pos hy]; rfl
      · rw [if_neg hy, if_neg hy]
theorem sortR_snoc {l : List Rec} {x : Rec} (hne : ∀ y ∈ l, y.key ≠ x.key) : sortR (l ++ [x]) = insR x (sortR l) := by
  have hne2 : ∀ y ∈ sortR l, y.key ≠ x.key := fun y hy => hne y (sortR_sub hy)
  refine (sortR_eq (insR_rising (sortR_rising l) hne2) fun k => ?_).symm
  rw [insR_find k hne2, find_sortR, find_append, find_cons, find_nil]
theorem insR_filter (p : Rec → Bool) (x : Rec) : ∀ l : List Rec, ((insR x l).filter p).length = (l.filter p).length + (if p x then 1 else 0) ∧ (p x = false → (insR x l).filter p = l.filter p)
  | [] => by
    unfold insR
    cases h : p x <;> simp [h]
  | y :: r => by
    have ih := insR_filter p x r
    unfold insR
    split
    · cases h : p x <;> simp [h]
    · rw [List.filter_cons, List.filter_cons]
      cases hy : p y
      · simpa using ih
      · simp only [if_true, List.length_cons]
        refine ⟨by rw [ih.1]; omega, fun h => by rw [ih.2 h]⟩
theorem itemsR_more {r : Rng} {l : List Rec} {x : Rec} (hne : ∀ y ∈ l, y.key ≠ x.key) : (itemsR r (l ++ [x])).length = (itemsR r l).length + (if inB r x.key then 1 else 0) ∧ (inB r x.key = false → itemsR r (l ++ [x]) = itemsR r l) := by
  unfold itemsR
  rw [sortR_snoc hne]
  exact insR_filter (fun z => inB r z.key) x (sortR l)
/-- the range that Of makes holds what its place holds -/
theorem goodB_ofR {r : Rng} {l : List Rec} (hq : placeB r.depth r.pref = true) (hn : l.length < 1048577) : goodB (ofR r l) = true := by
  have h := itemsR_len (bare r) l
  unfold goodB
  have h1 : placeB (ofR r l).depth (ofR r l).pref = true := hq
  have h2 : (ofR r l).count = ((itemsR (bare r) l).length : Int) := by
    show ((clampN (itemsR (bare r) l).length : Nat) : Int) = _
    rw [clampN_eq (by omega)]
  rw [h1, h2, decide_eq_true (by omega), decide_eq_true (by omega)]
  rfl
theorem goodB_bare {r : Rng} (hq : placeB r.depth r.pref = true) : goodB (bare r) = true := by
  unfold goodB
  have h1 : placeB (bare r).depth (bare r).pref = true := hq
  rw [h1]
  rfl
theorem inB_ofR {r : Rng} {l : List Rec} (hq : placeB r.depth r.pref = true) (hn : l.length < 1048577) (k : List UInt8) : inB (ofR r l) k = inB (bare r) k := by
  unfold inB
  rw [goodB_ofR hq hn, goodB_bare hq]
  rfl
theorem itemsR_ofR {r : Rng} {l : List Rec} (hq : placeB r.depth r.pref = true) (hn : l.length < 1048577) (m : List Rec) : itemsR (ofR r l) m = itemsR (bare r) m := by
  unfold itemsR
  congr 1
  funext x
  exact inB_ofR hq hn x.key
theorem count_ofR (r : Rng) (l : List Rec) (hn : l.length < 1048577) : (ofR r l).count = ((itemsR (bare r) l).length : Int) := by
  have h := itemsR_len (bare r) l
  show ((clampN (itemsR (bare r) l).length : Nat) : Int) = _
  rw [clampN_eq (by omega)]
theorem ofR_same {r : Rng} {l m : List Rec} (h : itemsR (bare r) l = itemsR (bare r) m) : ofR r l = ofR r m := by
  refine Rng.ext' rfl rfl ?_ ?_
  · show ((clampN (itemsR (bare r) l).length : Nat) : Int) = ((clampN (itemsR (bare r) m).length : Nat) : Int)
    rw [h]
  · show Sha.sha (Sap.row ((itemsR (bare r) l).map rowB)) = Sha.sha (Sap.row ((itemsR (bare r) m).map rowB))
    rw [h]
theorem items_at (r : Rng) (A : Option Addr) (c : Nat) (l : List Rec) (w : World) (n : Nat) (hln : n = l.length) (hE : EncIn encR 65 w A l) (hn : n < 1099511627776) :
    Calls Tryd.prog 17 #[.agg (encG r).toArray, .slice A n c] w fun e w' => ∃ v, e = .returned v ∧ Own w' w.heap.size 38 65 v (itemsR r l).length ((itemsR r l).flatMap encR) ∧ Below w.heap.size w w' := by
  subst hln
  exact items_any r A c l w hE hn
end Go.Proofs.YtefbllhpibfojaaDoor
