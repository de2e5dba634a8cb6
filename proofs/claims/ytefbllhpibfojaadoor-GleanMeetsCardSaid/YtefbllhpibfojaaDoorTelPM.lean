/- HedgeTells, plain: a row of texts tells the texts; a range tells its records. -/
import Derived.Test.YtefbllhpibfojaaDoorGrwPM
namespace Go.Proofs.YtefbllhpibfojaaDoor
open Go.Proofs Stab Go.Shelf Go.RowKit Go.Lib Go.Sort

namespace Sap
theorem bytes_inj : ∀ (j m m' : Nat), Sha.bytes j m = Sha.bytes j m' → m % 256 ^ j = m' % 256 ^ j
  | 0, m, m', _ => by rw [Nat.pow_zero, Nat.mod_one, Nat.mod_one]
  | j + 1, m, m', h => by
    rw [bytes_snoc_head, bytes_snoc_head] at h
    injection h with h1 h2
    have ih := bytes_inj j m m' h2
    have e : m / 256 ^ j % 256 = m' / 256 ^ j % 256 := by
      have := congrArg UInt8.toNat h1
      simpa using this
    rw [Nat.pow_succ, Nat.mod_mul, Nat.mod_mul, ih, e]
theorem width_lt (f m : Nat) (h : m < 256 ^ f) : m < 256 ^ width f m := by
  have h1 := width_pos f m (width f m) h
  have h2 : ¬ 0 < m / 256 ^ width f m := fun e => absurd (h1.2 e) (Nat.lt_irrefl _)
  have h3 : m / 256 ^ width f m = 0 := Nat.le_zero.1 (Nat.not_lt.1 h2)
  rcases Nat.div_eq_zero_iff.1 h3 with h4 | h4
  · have : 0 < 256 ^ width f m := Nat.pow_pos (by decide)
    omega
  · exact h4
/-- a number ahead of anything is told -/
theorem num_inj {n m : Int} (hn : -9223372036854775808 ≤ n ∧ n ≤ 9223372036854775807) (hm : -9223372036854775808 ≤ m ∧ m ≤ 9223372036854775807) {a b : List UInt8} (h : num n ++ a = num m ++ b) : n = m ∧ a = b := by
  have ln := mag_lt n hn.1 hn.2
  have lm := mag_lt m hm.1 hm.2
  have wn := width_le 8 (mag n)
  have wm := width_le 8 (mag m)
  have p8 : (256 : Nat) ^ 8 = 18446744073709551616 := by decide
  have xn := width_lt 8 (mag n) (by rw [p8]; omega)
  have xm := width_lt 8 (mag m) (by rw [p8]; omega)
  unfold num at h
  rw [List.cons_append, List.cons_append] at h
  injection h with h1 h2
  have h3 := congrArg UInt8.toNat h1
  have e : ∀ k : Nat, k < 256 → (UInt8.ofNat k).toNat = k := fun k hk => by simp; omega
  rw [e _ (by split <;> omega), e _ (by split <;> omega)] at h3
  have hs : (n < 0 ↔ m < 0) ∧ width 8 (mag n) = width 8 (mag m) := by
    by_cases c1 : n < 0 <;> by_cases c2 : m < 0 <;> simp only [c1, c2, if_true, if_false] at h3 <;> constructor <;> first | omega | simp_all
  have hl : (Sha.bytes (width 8 (mag n)) (mag n)).length = (Sha.bytes (width 8 (mag m)) (mag m)).length := by rw [Sha.bytes_length, Sha.bytes_length, hs.2]
  obtain ⟨h4, h5⟩ := List.append_inj h2 hl
  refine ⟨?_, h5⟩
  rw [← hs.2] at h4 xm
  have h6 := bytes_inj _ _ _ h4
  rw [Nat.mod_eq_of_lt xn, Nat.mod_eq_of_lt xm] at h6
  have h7 := hs.1
  unfold mag at h6
  by_cases c1 : n < 0
  · have c2 := h7.1 c1
    rw [if_pos c1, if_pos c2] at h6
    omega
  · have c2 : ¬ m < 0 := fun c => c1 (h7.2 c)
    rw [if_neg c1, if_neg c2] at h6
    omega
theorem text_inj {a b x y : List UInt8} (ha : a.length ≤ 9223372036854775807) (hb : b.length ≤ 9223372036854775807) (h : text a ++ x = text b ++ y) : a = b ∧ x = y := by
  unfold text at h
  rw [List.append_assoc, List.append_assoc] at h
  obtain ⟨h1, h2⟩ := num_inj (by omega) (by omega) h
  exact List.append_inj h2 (by omega)
theorem texts_inj : ∀ {a b : List (List UInt8)}, a.length = b.length → (∀ x ∈ a, x.length ≤ 9223372036854775807) → (∀ x ∈ b, x.length ≤ 9223372036854775807) → a.flatMap text = b.flatMap text → a = b
  | [], [], _, _, _, _ => rfl
  | [], _ :: _, h, _, _, _ => by simp at h
  | _ :: _, [], h, _, _, _ => by simp at h
  | x :: a, y :: b, h, ha, hb, e => by
    rw [List.flatMap_cons, List.flatMap_cons] at e
    obtain ⟨h1, h2⟩ := text_inj (ha x List.mem_cons_self) (hb y List.mem_cons_self) e
    rw [h1, texts_inj (by simpa using h) (fun z hz => ha z (List.mem_cons_of_mem _ hz)) (fun z hz => hb z (List.mem_cons_of_mem _ hz)) h2]
theorem row_inj {a b : List (List UInt8)} (hla : a.length ≤ 9223372036854775807) (hlb : b.length ≤ 9223372036854775807) (ha : ∀ x ∈ a, x.length ≤ 9223372036854775807) (hb : ∀ x ∈ b, x.length ≤ 9223372036854775807) (h : row a = row b) : a = b := by
  unfold row at h
  obtain ⟨h1, h2⟩ := num_inj (by omega) (by omega) h
  exact texts_inj (by omega) ha hb h2
end Sap
theorem rowB_inj {x y : Rec} (h : rowB x = rowB y) : x = y := by
  unfold rowB at h
  rw [List.append_assoc, List.append_assoc] at h
  obtain ⟨h1, h2⟩ := List.append_inj h (by rw [x.hk, y.hk])
  obtain ⟨h3, h4⟩ := Sap.num_inj x.hc y.hc h2
  exact Rec.ext' h1 h3 h4
theorem map_rowB_inj : ∀ {a b : List Rec}, a.map rowB = b.map rowB → a = b
  | [], [], _ => rfl
  | [], _ :: _, h => by simp at h
  | _ :: _, [], h => by simp at h
  | x :: a, y :: b, h => by
    rw [List.map_cons, List.map_cons] at h
    injection h with h1 h2
    rw [rowB_inj h1, map_rowB_inj h2]
/-- the text of records -/
def textR (l : List Rec) : List UInt8 := Sap.row (l.map rowB)
theorem textR_inj {a b : List Rec} (ha : a.length < 1073741824) (hb : b.length < 1073741824) (h : textR a = textR b) : a = b := by
  have hz : ∀ l : List Rec, ∀ x ∈ l.map rowB, x.length ≤ 9223372036854775807 := fun l x hx => by
    obtain ⟨y, _, rfl⟩ := List.mem_map.1 hx
    have := rowB_len y
    omega
  exact map_rowB_inj (Sap.row_inj (by rw [List.length_map]; omega) (by rw [List.length_map]; omega) (hz a) (hz b) h)
theorem textR_len (l : List Rec) : (textR l).length ≤ 9 + 82 * l.length := by
  have h : ∀ l : List Rec, ((l.map rowB).flatMap Sap.text).length ≤ 82 * l.length := fun l => by
    induction l with
    | nil => simp
    | cons x r ih =>
      have h1 := text_length (rowB x)
      have h2 := rowB_len x
      rw [List.map_cons, List.flatMap_cons, List.length_append, List.length_cons]
      omega
  have h1 := h l
  have h2 := Sap.num_length ((l.map rowB).length : Int)
  unfold textR Sap.row
  rw [List.length_append]
  omega
theorem itemsR_bare {r : Rng} (hg : goodB r = true) (l : List Rec) : itemsR r l = itemsR (bare r) l := by
  unfold goodB at hg
  rw [Bool.and_eq_true, Bool.and_eq_true] at hg
  unfold itemsR
  congr 1
  funext x
  unfold inB
  rw [goodB_bare hg.1.1]
  have : goodB r = true := by unfold goodB; rw [Bool.and_eq_true, Bool.and_eq_true]; exact hg
  rw [this]
  rfl
/-- two rows of records have one range just if they have the same records there, unless two texts have one digest -/
theorem ofR_tells {r : Rng} (hg : goodB r = true) {a b : List Rec} (ha : a.length < 1048577) (hb : b.length < 1048577) (h : textR (itemsR r a) ≠ textR (itemsR r b) → Sha.sha (textR (itemsR r a)) ≠ Sha.sha (textR (itemsR r b))) :
    decide (ofR r a = ofR r b) = decide (itemsR r a = itemsR r b) := by
  have la := itemsR_len r a
  have lb := itemsR_len r b
  rw [Bool.eq_iff_iff, decide_eq_true_eq, decide_eq_true_eq]
  constructor
  · intro e
    have e2 : (ofR r a).sum = (ofR r b).sum := congrArg Rng.sum e
    have e3 : Sha.sha (textR (itemsR (bare r) a)) = Sha.sha (textR (itemsR (bare r) b)) := e2
    rw [← itemsR_bare hg, ← itemsR_bare hg] at e3
    refine textR_inj (by omega) (by omega) ?_
    exact Classical.byContradiction fun hne => h hne e3
  · intro e
    rw [itemsR_bare hg, itemsR_bare hg] at e
    exact ofR_same e
theorem textR_tells {r : Rng} {a b : List Rec} (ha : a.length < 1048577) (hb : b.length < 1048577) : decide (textR (itemsR r a) = textR (itemsR r b)) = decide (itemsR r a = itemsR r b) := by
  have la := itemsR_len r a
  have lb := itemsR_len r b
  rw [Bool.eq_iff_iff, decide_eq_true_eq, decide_eq_true_eq]
  exact ⟨fun e => textR_inj (by omega) (by omega) e, fun e => by rw [e]⟩
theorem find_reverse {m : List Rec} (hm : Rising m) (k : List UInt8) : find m.reverse k = find m k := by
  cases h : find m.reverse k with
  | some y =>
    obtain ⟨h1, h2⟩ := find_some h
    rw [← h2, hm.find (List.mem_reverse.1 h1)]
  | none =>
    refine (find_none fun x hx e => ?_).symm
    obtain ⟨y, hy⟩ := find_isSome (List.mem_reverse.2 hx)
    rw [e, h] at hy
    cases hy
theorem sortR_back (l : List Rec) : sortR (sortR l).reverse = sortR l :=
  (sortR_eq (sortR_rising l) fun k => (find_reverse (sortR_rising l) k).symm).symm
theorem ofR_back (r : Rng) (l : List Rec) : ofR r (sortR l).reverse = ofR r l := ofR_same (by unfold itemsR; rw [sortR_back])
end Go.Proofs.YtefbllhpibfojaaDoor
