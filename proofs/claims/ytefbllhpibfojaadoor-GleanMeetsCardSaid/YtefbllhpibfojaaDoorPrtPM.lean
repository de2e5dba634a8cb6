/- HedgeParts, plain: a range's records are those of its four parts, one behind the other; a key of it lies in just one of them. -/
import Derived.Test.YtefbllhpibfojaaDoorTelPM
namespace Go.Proofs.YtefbllhpibfojaaDoor
open Go.Proofs Stab Go.Shelf Go.RowKit Go.Lib Go.Sort

theorem first16_mono {a b : List UInt8} (ha : a.length = 32) (hb : b.length = 32) (h : lessB a b = true) : first16 a ≤ first16 b := by
  match a, b, ha, hb with
  | a0 :: a1 :: ra, b0 :: b1 :: rb, _, _ =>
    unfold lessB at h
    rw [decide_eq_true_eq] at h
    unfold first16
    show a0.toNat * 256 + a1.toNat ≤ b0.toNat * 256 + b1.toNat
    have h1 := a1.toNat_lt
    have h2 := b1.toNat_lt
    unfold Lib.compareBytes at h
    split at h
    · rename_i hl
      have := UInt8.lt_iff_toNat_lt.1 hl
      omega
    · rename_i hl
      have hl := mt UInt8.lt_iff_toNat_lt.2 hl
      split at h
      · omega
      · rename_i hg
        have hg := mt UInt8.lt_iff_toNat_lt.2 hg
        unfold Lib.compareBytes at h
        split at h
        · rename_i hl2
          have := UInt8.lt_iff_toNat_lt.1 hl2
          omega
        · split at h
          · omega
          · rename_i hg2
            have := mt UInt8.lt_iff_toNat_lt.2 hg2
            omega
theorem split_mono (f : Rec → Int) (p : Int) : ∀ L : List Rec, L.Pairwise (fun a b => f a ≤ f b) → L.filter (fun x => decide (f x / 4 = p)) = (List.range 4).flatMap fun (i : Nat) => L.filter fun x => decide (f x = 4 * p + (i : Int))
  | [], _ => rfl
  | x :: L, h => by
    have hp := List.pairwise_cons.1 h
    have ih := split_mono f p L hp.2
    have e : ∀ g : Nat → List Rec, (List.range 4).flatMap g = g 0 ++ (g 1 ++ (g 2 ++ (g 3 ++ []))) := fun g => rfl
    rw [e] at ih ⊢
    have hn : ∀ j : Int, 4 * p + j < f x → L.filter (fun y => decide (f y = 4 * p + j)) = [] := fun j hj => List.filter_eq_nil_iff.2 fun y hy => by
      have := hp.1 y hy
      simp
      omega
    have c : ∀ (q : Rec → Bool), (x :: L).filter q = if q x then x :: L.filter q else L.filter q := fun q => List.filter_cons
    by_cases hx : f x / 4 = p
    · have hi : f x = 4 * p + (0 : Nat) ∨ f x = 4 * p + (1 : Nat) ∨ f x = 4 * p + (2 : Nat) ∨ f x = 4 * p + (3 : Nat) := by omega
      rw [c, c, c, c, c]
      rw [if_pos (decide_eq_true hx), ih]
      rcases hi with hi | hi | hi | hi
      · rw [if_pos (decide_eq_true hi), if_neg (by simp; omega), if_neg (by simp; omega), if_neg (by simp; omega), List.cons_append]
      · rw [if_neg (by simp; omega), if_pos (decide_eq_true hi), if_neg (by simp; omega), if_neg (by simp; omega), hn _ (by omega), List.nil_append, List.nil_append, List.cons_append]
      · rw [if_neg (by simp; omega), if_neg (by simp; omega), if_pos (decide_eq_true hi), if_neg (by simp; omega), hn _ (by omega), hn _ (by omega), List.nil_append, List.nil_append, List.nil_append, List.nil_append, List.cons_append]
      · rw [if_neg (by simp; omega), if_neg (by simp; omega), if_neg (by simp; omega), if_pos (decide_eq_true hi), hn _ (by omega), hn _ (by omega), hn _ (by omega)]
        rfl
    · rw [c, c, c, c, c, if_neg (by simpa using hx), if_neg (by simp; omega), if_neg (by simp; omega), if_neg (by simp; omega), if_neg (by simp; omega), ih]
/-- a key's number among the parts' prefixes -/
def subQ (r : Rng) (k : List UInt8) : Int := (first16 k : Int) / 4 ^ (7 - r.depth).toNat
theorem inB_sub {r : Rng} (hg : goodB r = true) (h8 : r.depth ≠ 8) {i : Nat} (hi : i < 4) {l : List Rec} (hn : l.length < 1048577) (k : List UInt8) : inB (ofR (sub r i) l) k = decide (subQ r k = 4 * r.pref + i) := by
  obtain ⟨h1, h2, h3, h4⟩ := sub_eq hg h8 hi
  rw [inB_ofR h4 hn]
  unfold inB
  rw [goodB_bare h4, Bool.true_and]
  have e1 : (bare (sub r i)).depth = r.depth + 1 := h1
  have e2 : (bare (sub r i)).pref = 4 * r.pref + i := h2
  have e3 : (8 - (r.depth + 1)) = 7 - r.depth := by omega
  rw [e1, e2, e3]
  rfl
theorem inB_whole {r : Rng} (hg : goodB r = true) (h8 : r.depth ≠ 8) (k : List UInt8) : inB r k = decide (subQ r k / 4 = r.pref) := by
  have hb := good_bounds hg h8
  unfold inB
  rw [hg, Bool.true_and]
  unfold subQ
  have e : (8 - r.depth).toNat = (7 - r.depth).toNat + 1 := by omega
  rw [e, Int.pow_succ, ← Int.ediv_ediv_of_nonneg (Int.le_of_lt (Int.pow_pos (by decide)))]
theorem sorted_subQ (r : Rng) (l : List Rec) : (sortR l).Pairwise fun a b => subQ r a.key ≤ subQ r b.key :=
  (sortR_rising l).imp fun {a b} h => Int.ediv_le_ediv (Int.pow_pos (by decide)) (Int.ofNat_le.2 (first16_mono a.hk b.hk h))
/-- the records of the first i parts -/
def allR (r : Rng) (l : List Rec) (i : Nat) : List Rec := (List.range i).flatMap fun j => itemsR (ofR (sub r j) l) l
theorem allR_succ (r : Rng) (l : List Rec) (i : Nat) : allR r l (i + 1) = allR r l i ++ itemsR (ofR (sub r i) l) l := by
  unfold allR
  rw [List.range_succ, List.flatMap_append]
  simp
theorem allR_four {r : Rng} (hg : goodB r = true) (h8 : r.depth ≠ 8) {l : List Rec} (hn : l.length < 1048577) : allR r l 4 = itemsR r l := by
  have h := split_mono (fun x => subQ r x.key) r.pref (sortR l) (sorted_subQ r l)
  have e1 : itemsR r l = (sortR l).filter fun x => decide (subQ r x.key / 4 = r.pref) := by
    unfold itemsR
    congr 1
    funext x
    exact inB_whole hg h8 x.key
  have e2 : ∀ i, i < 4 → itemsR (ofR (sub r i) l) l = (sortR l).filter fun x => decide (subQ r x.key = 4 * r.pref + (i : Int)) := fun i hi => by
    unfold itemsR
    congr 1
    funext x
    exact inB_sub hg h8 hi hn x.key
  have e : ∀ g : Nat → List Rec, (List.range 4).flatMap g = g 0 ++ (g 1 ++ (g 2 ++ (g 3 ++ []))) := fun g => rfl
  rw [e1, h]
  unfold allR
  rw [e, e, e2 0 (by decide), e2 1 (by decide), e2 2 (by decide), e2 3 (by decide)]
/-- in how many of the first i parts a key lies -/
def inN (r : Rng) (l : List Rec) (k : List UInt8) (i : Nat) : Nat := ((List.range i).filter fun j => inB (ofR (sub r j) l) k).length
theorem inN_succ (r : Rng) (l : List Rec) (k : List UInt8) (i : Nat) : inN r l k (i + 1) = inN r l k i + if inB (ofR (sub r i) l) k then 1 else 0 := by
  unfold inN
  rw [List.range_succ, List.filter_append, List.length_append, List.filter_cons]
  cases inB (ofR (sub r i) l) k <;> rfl
theorem inN_le (r : Rng) (l : List Rec) (k : List UInt8) (i : Nat) : inN r l k i ≤ i := by
  unfold inN
  refine Nat.le_trans (List.length_filter_le _ _) ?_
  simp
theorem inN_four {r : Rng} (hg : goodB r = true) (h8 : r.depth ≠ 8) {l : List Rec} (hn : l.length < 1048577) (k : List UInt8) : inN r l k 4 = if inB r k then 1 else 0 := by
  rw [inN_succ, inN_succ, inN_succ, inN_succ, inB_sub hg h8 (by decide) hn, inB_sub hg h8 (by decide) hn, inB_sub hg h8 (by decide) hn, inB_sub hg h8 (by decide) hn, inB_whole hg h8]
  have e0 : inN r l k 0 = 0 := rfl
  rw [e0]
  by_cases h : subQ r k / 4 = r.pref
  · rw [if_pos (decide_eq_true h)]
    have hi : subQ r k = 4 * r.pref + (0 : Nat) ∨ subQ r k = 4 * r.pref + (1 : Nat) ∨ subQ r k = 4 * r.pref + (2 : Nat) ∨ subQ r k = 4 * r.pref + (3 : Nat) := by omega
    rcases hi with hi | hi | hi | hi
    · rw [if_pos (decide_eq_true hi), if_neg (by simp; omega), if_neg (by simp; omega), if_neg (by simp; omega)]
    · rw [if_neg (by simp; omega), if_pos (decide_eq_true hi), if_neg (by simp; omega), if_neg (by simp; omega)]
    · rw [if_neg (by simp; omega), if_neg (by simp; omega), if_pos (decide_eq_true hi), if_neg (by simp; omega)]
    · rw [if_neg (by simp; omega), if_neg (by simp; omega), if_neg (by simp; omega), if_pos (decide_eq_true hi)]
  · rw [if_neg (by simp; omega), if_neg (by simp; omega), if_neg (by simp; omega), if_neg (by simp; omega), if_neg (by simpa using h)]
theorem allR_len (r : Rng) (l : List Rec) (i : Nat) : (allR r l i).length ≤ i * l.length := by
  induction i with
  | zero => simp [allR]
  | succ i ih =>
    have := itemsR_len (ofR (sub r i) l) l
    rw [allR_succ, List.length_append, Nat.succ_mul]
    omega
theorem part_facts {r : Rng} (hg : goodB r = true) (h8 : r.depth ≠ 8) {i : Nat} (hi : i < 4) {l : List Rec} (hn : l.length < 1048577) :
    goodB (ofR (sub r i) l) = true ∧ (ofR (sub r i) l).depth = r.depth + 1 ∧ (ofR (sub r i) l).count = ((itemsR (ofR (sub r i) l) l).length : Int) := by
  obtain ⟨h1, h2, h3, h4⟩ := sub_eq hg h8 hi
  refine ⟨goodB_ofR h4 hn, h1, ?_⟩
  rw [itemsR_ofR h4 hn, count_ofR _ _ hn]
theorem whole_count {r : Rng} (hg : goodB r = true) (h8 : r.depth ≠ 8) {l : List Rec} (hn : l.length < 1048577) : (ofR r l).count = ((allR r l 4).length : Int) := by
  rw [allR_four hg h8 hn, count_ofR _ _ hn, itemsR_bare hg]
end Go.Proofs.YtefbllhpibfojaaDoor
