/- Layer 11, the plain law of HumTells: each telling takes one from a count and adds one to what was told. -/
import Derived.Test.YtepnepgjlnoabaaHumI
namespace Go.Proofs.Ytepnepgjlnoabaa
open Go.Proofs Stab Go.Shelf Go.RowKit Go.Lib Go.Sort Go.Maps

namespace Hm
def cells0 (f : St) : Int → Option Cell := fun x => (f x).map fun r => (0, r)
theorem rums_cells0 (f : St) : rums (cells0 f) = f := by
  funext x
  unfold rums cells0
  cases f x <;> rfl
theorem sorted_nodup {t : Int} {f : St} (h : Sane t f) : ((sorted f).map fun r => r.m.n).Nodup := by
  have h1 := ordB_nodup (F := cells0 f) (t := t) (by rw [rums_cells0]; exact h)
  have h2 : ((ordB (cells0 f)).map fun q => q.2.m.n) = (sorted f).map fun r => r.m.n := by
    rw [← rums_cells0 f, ← ordB_rums, List.map_map, rums_cells0]
    rfl
  rw [h2] at h1
  exact h1
theorem told_node {t q : Int} {f : St} (h : Sane t f) {r : Rum} (hr : r ∈ told q f) : f r.m.n = some r := (mem_sorted h).1 (List.mem_of_mem_take hr)
theorem told_nodup {t q : Int} {f : St} (h : Sane t f) : ((told q f).map fun r => r.m.n).Nodup := by
  unfold told
  rw [List.map_take]
  exact (sorted_nodup h).sublist (List.take_sublist _ _)
theorem told_ne {t q : Int} {f : St} (h : Sane t f) {j k : Nat} (hjk : j < k) (hk : k < (told q f).length) : ((told q f)[j]'(by omega)).m.n ≠ ((told q f)[k]).m.n := by
  have hn := List.nodup_iff_pairwise_ne.1 (told_nodup (q := q) h)
  have := List.pairwise_iff_getElem.1 hn j k (by rw [List.length_map]; omega) (by rw [List.length_map]; omega) hjk
  simpa only [List.getElem_map] using this
theorem tell_far {x : Int} : ∀ (L : List Rum) (f : St), (∀ r ∈ L, r.m.n ≠ x) → L.foldl tell f x = f x
  | [], _, _ => rfl
  | r :: L, f, h => by
    rw [List.foldl_cons, tell_far L _ fun r' hr' => h r' (List.mem_cons_of_mem _ hr')]
    unfold tell
    rw [if_neg fun e => h r List.mem_cons_self e.symm]
theorem told_upto {t q : Int} {f : St} (h : Sane t f) {k : Nat} (hk : k < (told q f).length) : ((told q f).take k).foldl tell f ((told q f)[k]).m.n = some (told q f)[k] := by
  rw [tell_far]
  · exact told_node h (List.getElem_mem hk)
  · intro r hr e
    obtain ⟨j, hj, rfl⟩ := List.mem_iff_getElem.1 hr
    rw [List.length_take] at hj
    rw [List.getElem_take] at e
    exact told_ne h (by omega) hk e
def kz (f : St) (x : Int) : Int := match f x with | some r => r.k | none => 0
def sumK (f : St) : Int := kz f 1 + kz f 2 + kz f 3 + kz f 4 + kz f 5 + kz f 6
/-- told once more -/
def inc (g : Int → Int) (r : Rum) : Int → Int := fun x => if x = r.m.n then g x + 1 else g x
/-- what was told and what is left make up the times; who is known is who was known -/
def Inv (T : Int) (f0 f : St) (g : Int → Int) : Prop := ∀ x, match f x with
  | some r => (∃ r0, f0 x = some r0 ∧ r0.m = r.m) ∧ g x + r.k = T
  | none => g x = if (f0 x).isSome = true then T else 0
theorem push_times (T : Int) : ∀ (l : List Mem) (f : St), (∀ x r, f x = some r → r.k = T) → ∀ x r, push T f l x = some r → r.k = T
  | [], _, h => h
  | m :: l, f, h => push_times T l (push1 T f m) fun x r hx => by
    unfold push1 at hx
    split at hx
    · change (if x = m.n then some (⟨m, T⟩ : Rum) else f x) = some r at hx
      split at hx
      · cases hx; rfl
      · exact h x r hx
    · exact h x r hx
theorem inv_start {T : Int} {f : St} (h : ∀ x r, f x = some r → r.k = T) : Inv T f f fun _ => 0 := fun x => by
  cases hf : f x with
  | none => simp
  | some r => exact ⟨⟨r, rfl, rfl⟩, by have := h x r hf; show (0 : Int) + r.k = T; omega⟩
theorem inv_tell {T : Int} {f0 f : St} {g : Int → Int} (h : Inv T f0 f g) {r : Rum} (hr : f r.m.n = some r) : Inv T f0 (tell f r) (inc g r) := fun x => by
  have hx := h x
  unfold tell inc
  by_cases he : x = r.m.n
  · subst he
    rw [hr] at hx
    obtain ⟨⟨r0, h0, h1⟩, h2⟩ := hx
    by_cases hk : r.k = 1
    · simp only [if_true, hk]
      rw [h0]
      simp only [Option.isSome_some, if_true]
      omega
    · simp only [if_true, if_neg hk]
      exact ⟨⟨r0, h0, h1⟩, by show _ + (r.k - 1) = T; omega⟩
  · simp only [if_neg he]
    exact hx
theorem inv_upto {T : Int} {f0 f : St} {g : Int → Int} {t q : Int} (hs : Sane t f) (h : Inv T f0 f g) : ∀ k, k ≤ (told q f).length → Inv T f0 (((told q f).take k).foldl tell f) (((told q f).take k).foldl inc g)
  | 0, _ => by rw [List.take_zero]; exact h
  | k + 1, hk => by
    rw [take_snoc _ k (by omega), List.foldl_append, List.foldl_append]
    exact inv_tell (inv_upto hs h k (by omega)) (told_upto hs (by omega))
theorem inv_rest {T : Int} {f0 f : St} {g : Int → Int} {t q : Int} (hs : Sane t f) (h : Inv T f0 f g) : Inv T f0 (rest q f) ((told q f).foldl inc g) := by
  have h1 := inv_upto (q := q) hs h (told q f).length (Nat.le_refl _)
  rw [List.take_length] at h1
  exact h1
theorem kz_tell {f : St} {r : Rum} (x : Int) : kz (tell f r) x = if x = r.m.n then r.k - 1 else kz f x := by
  unfold kz tell
  by_cases he : x = r.m.n
  · by_cases hk : r.k = 1
    · simp [he, hk]
    · simp [he, hk]
  · simp [he]
theorem sum_tell {t : Int} {f : St} (_ : Sane t f) {r : Rum} (hg : r.m.good = true) (hr : f r.m.n = some r) : sumK (tell f r) = sumK f - 1 := by
  have hk : kz f r.m.n = r.k := by unfold kz; rw [hr]
  have h3 := (Mem.good_iff _).1 hg
  unfold sumK
  rw [kz_tell, kz_tell, kz_tell, kz_tell, kz_tell, kz_tell]
  have : r.m.n = 1 ∨ r.m.n = 2 ∨ r.m.n = 3 ∨ r.m.n = 4 ∨ r.m.n = 5 ∨ r.m.n = 6 := by omega
  rcases this with h | h | h | h | h | h <;> rw [h] at hk ⊢ <;> simp <;> omega
theorem sane_upto {t q : Int} {f : St} (hs : Sane t f) : ∀ k, k ≤ (told q f).length → Sane t (((told q f).take k).foldl tell f)
  | 0, _ => by rw [List.take_zero]; exact hs
  | k + 1, hk => by
    rw [take_snoc _ k (by omega), List.foldl_append]
    have h := hs _ _ (told_node hs (List.getElem_mem (show k < (told q f).length by omega)))
    exact sane_tell (sane_upto hs k (by omega)) ⟨h.1, h.2.2⟩
theorem sane_rest {t q : Int} {f : St} (hs : Sane t f) : Sane t (rest q f) := by
  have h1 := sane_upto (q := q) hs (told q f).length (Nat.le_refl _)
  rw [List.take_length] at h1
  exact h1
theorem sum_upto {t q : Int} {f : St} (hs : Sane t f) : ∀ k : Nat, k ≤ (told q f).length → sumK (((told q f).take k).foldl tell f) = sumK f - (k : Int)
  | 0, _ => by rw [List.take_zero]; simp
  | k + 1, hk => by
    rw [take_snoc _ k (by omega), List.foldl_append, List.foldl_cons, List.foldl_nil]
    have h := hs _ _ (told_node hs (List.getElem_mem (show k < (told q f).length by omega)))
    rw [sum_tell (sane_upto hs k (by omega)) h.1 (told_upto hs (by omega)), sum_upto hs k (by omega)]
    omega
theorem sum_rest {t q : Int} {f : St} (hs : Sane t f) : sumK (rest q f) = sumK f - ((told q f).length : Int) := by
  have h1 := sum_upto (q := q) hs (told q f).length (Nat.le_refl _)
  rw [List.take_length] at h1
  exact h1
theorem kz_nonneg {t : Int} {f : St} (hs : Sane t f) (ht : 0 ≤ t) (x : Int) : 0 ≤ kz f x ∧ kz f x ≤ t := by
  unfold kz
  cases hf : f x with
  | none => exact ⟨Int.le_refl _, ht⟩
  | some r => have := hs x r hf; exact ⟨by show 0 ≤ r.k; omega, this.2.2.2⟩
theorem sum_bound {t : Int} {f : St} (hs : Sane t f) (ht : 0 ≤ t) : 0 ≤ sumK f ∧ sumK f ≤ 6 * t := by
  have h1 := kz_nonneg hs ht 1
  have h2 := kz_nonneg hs ht 2
  have h3 := kz_nonneg hs ht 3
  have h4 := kz_nonneg hs ht 4
  have h5 := kz_nonneg hs ht 5
  have h6 := kz_nonneg hs ht 6
  unfold sumK
  omega
theorem told_len_le (q : Int) (f : St) : (told q f).length ≤ (max q 0).toNat := by
  unfold told
  rw [List.length_take]
  exact Nat.min_le_left _ _
theorem sorted_len (f : St) : (sorted f).length = (all f).length := S_len _ _
/-- nothing told though something is asked: nothing is left -/
theorem told_none {t q : Int} {f : St} (hs : Sane t f) (hq : 1 ≤ q) (h : (told q f).length = 0) : ∀ x, f x = none := fun x => by
  cases hf : f x with
  | none => rfl
  | some r =>
    have hm : r ∈ sorted f := (mem_sorted hs).2 (by rw [(hs x r hf).2.1]; exact hf)
    have hl := List.length_pos_of_mem hm
    unfold told at h
    rw [List.length_take] at h
    omega
theorem all_none {f : St} (h : ∀ x, f x = none) : all f = [] := by
  unfold all
  rw [List.filterMap_eq_nil_iff]
  exact fun x _ => h x
end Hm
end Go.Proofs.Ytepnepgjlnoabaa
