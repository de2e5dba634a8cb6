/- Layer 11, the plain law of HumExact: the reference's best of those not told comes next in the sorted row. -/
import Derived.Test.YtepnepgjlnoabaaHumTP
import Derived.Test.YtepnepgjlnoabaaHumL
namespace Go.Proofs.Ytepnepgjlnoabaa
open Go.Proofs Stab Go.Shelf Go.RowKit Go.Lib Go.Sort Go.Maps

namespace Hm
/-- told before: told least, and at ties the smaller node -/
def Bef (a b : Rum) : Prop := b.k < a.k ∨ (b.k = a.k ∧ a.m.n < b.m.n)
theorem Bef.trans {a b c : Rum} (h : Bef a b) (k : Bef b c) : Bef a c := by unfold Bef at *; omega
theorem Bef.asymm {a b : Rum} (h : Bef a b) (k : Bef b a) : False := by unfold Bef at *; omega
theorem ins_mem {x z : Rum} : ∀ {X : List Rum}, z ∈ insS (leC cfR) x X → z = x ∨ z ∈ X
  | [], h => .inl (List.mem_singleton.1 h)
  | y :: r, h => by
    unfold insS at h
    split at h
    · rcases List.mem_cons.1 h with h | h
      · exact .inr (h ▸ List.mem_cons_self)
      · rcases ins_mem h with h | h
        · exact .inl h
        · exact .inr (List.mem_cons_of_mem _ h)
    · rcases List.mem_cons.1 h with h | h
      · exact .inl h
      · exact .inr h
theorem ins_bef {x : Rum} : ∀ {X : List Rum}, X.Pairwise Bef → (∀ z ∈ X, z.m.n < x.m.n) → (insS (leC cfR) x X).Pairwise Bef
  | [], _, _ => List.pairwise_singleton _ _
  | y :: r, h, hn => by
    obtain ⟨h1, h2⟩ := List.pairwise_cons.1 h
    unfold insS
    split
    · rename_i hle
      rw [leC_cfR, decide_eq_true_eq] at hle
      refine List.pairwise_cons.2 ⟨fun z hz => ?_, ins_bef h2 fun z hz => hn z (List.mem_cons_of_mem _ hz)⟩
      rcases ins_mem hz with rfl | hz
      · have := hn y List.mem_cons_self
        unfold Bef
        omega
      · exact h1 z hz
    · rename_i hle
      rw [leC_cfR, decide_eq_true_eq] at hle
      refine List.pairwise_cons.2 ⟨fun z hz => ?_, h⟩
      rcases List.mem_cons.1 hz with rfl | hz
      · unfold Bef; omega
      · have := h1 z hz
        unfold Bef at *
        omega
theorem S_bef : ∀ l : List Rum, l.Pairwise (fun a b => a.m.n < b.m.n) → (S (leC cfR) l).Pairwise Bef := fun l => by
  induction l using snoc_ind with
  | h0 => intro _; exact List.Pairwise.nil
  | h1 l x ih =>
    intro h
    obtain ⟨h1, _, h3⟩ := List.pairwise_append.1 h
    rw [S_snoc, merge_ins]
    exact ins_bef (ih h1) fun z hz => h3 z ((S_perm _ l).mem_iff.1 hz) x (List.mem_singleton.2 rfl)
theorem all_rise {t : Int} {f : St} (h : Sane t f) : (all f).Pairwise fun a b => a.m.n < b.m.n := by
  unfold all
  have hr : nodes.Pairwise (· < ·) := by decide
  rw [List.pairwise_filterMap]
  refine hr.imp fun {a b} hab x hx y hy => ?_
  rw [(h a x hx).2.1, (h b y hy).2.1]
  exact hab
theorem sorted_bef {t : Int} {f : St} (h : Sane t f) : (sorted f).Pairwise Bef := S_bef _ (all_rise h)
/-- which nodes have been told when k have -/
def toldN (f : St) (k : Nat) (n : Int) : Bool := decide (∃ r ∈ (sorted f).take k, r.m.n = n)
/-- the best of those not told, of the nodes below i -/
def BestS (f : St) (k : Nat) (i b : Int) : Prop :=
  (b = 0 ∧ ∀ n r, 1 ≤ n → n < i → f n = some r → toldN f k n = true) ∨
  (1 ≤ b ∧ b < i ∧ toldN f k b = false ∧ ∃ r, f b = some r ∧ ∀ n u, 1 ≤ n → n < i → f n = some u → toldN f k n = false → n = b ∨ Bef r u)
theorem best_start (f : St) (k : Nat) : BestS f k 1 0 := .inl ⟨rfl, fun n r h1 h2 => by omega⟩
theorem best_skip {f : St} {k : Nat} {i b : Int} (h : BestS f k i b) (hs : toldN f k i = true ∨ f i = none) : BestS f k (i + 1) b := by
  rcases h with ⟨h1, h2⟩ | ⟨h1, h2, h3, r, h4, h5⟩
  · refine .inl ⟨h1, fun n r hn hi hf => ?_⟩
    by_cases e : n = i
    · subst e
      rcases hs with hs | hs
      · exact hs
      · rw [hs] at hf; cases hf
    · exact h2 n r hn (by omega) hf
  · refine .inr ⟨h1, by omega, h3, r, h4, fun n u hn hi hf ht => ?_⟩
    by_cases e : n = i
    · subst e
      rcases hs with hs | hs
      · rw [hs] at ht; cases ht
      · rw [hs] at hf; cases hf
    · exact h5 n u hn (by omega) hf ht
theorem best_take {f : St} {k : Nat} {i b : Int} (h : BestS f k i b) {r : Rum} (hi : 1 ≤ i) (hr : f i = some r) (hu : toldN f k i = false) (hb : b = 0 ∨ ∃ u, f b = some u ∧ u.k < r.k) : BestS f k (i + 1) i := by
  refine .inr ⟨hi, by omega, hu, r, hr, fun n u hn hlt hf ht => ?_⟩
  by_cases e : n = i
  · exact .inl e
  · refine .inr ?_
    rcases h with ⟨h1, h2⟩ | ⟨h1, h2, h3, v, h4, h5⟩
    · have := h2 n u hn (by omega) hf
      rw [this] at ht; cases ht
    · rcases hb with hb | ⟨u', h6, h7⟩
      · omega
      · rw [h4] at h6
        cases h6
        rcases h5 n u hn (by omega) hf ht with e2 | e2
        · subst e2
          rw [h4] at hf
          cases hf
          exact .inl h7
        · unfold Bef at *
          omega
theorem best_keep {t : Int} {f : St} {k : Nat} {i b : Int} (hsn : Sane t f) (h : BestS f k i b) {r : Rum} (hr : f i = some r) (hb0 : b ≠ 0) (hb : ∀ u, f b = some u → r.k ≤ u.k) : BestS f k (i + 1) b := by
  rcases h with ⟨h1, h2⟩ | ⟨h1, h2, h3, v, h4, h5⟩
  · exact absurd h1 hb0
  · refine .inr ⟨h1, by omega, h3, v, h4, fun n u hn hlt hf ht => ?_⟩
    by_cases e : n = i
    · subst e
      rw [hr] at hf
      cases hf
      refine .inr ?_
      have h6 := hb v h4
      have h7 := (hsn _ _ hr).2.1
      have h8 := (hsn _ _ h4).2.1
      unfold Bef
      omega
    · exact h5 n u hn (by omega) hf ht
theorem toldN_iff {t : Int} {f : St} (hs : Sane t f) {k : Nat} {n : Int} {r : Rum} (hr : f n = some r) : toldN f k n = true ↔ r ∈ (sorted f).take k := by
  unfold toldN
  rw [decide_eq_true_eq]
  constructor
  · rintro ⟨u, hu, hn⟩
    have h1 := (mem_sorted hs).1 (List.mem_of_mem_take hu)
    rw [hn, hr] at h1
    rw [Option.some.inj h1]
    exact hu
  · exact fun h => ⟨r, h, (hs n r hr).2.1⟩
theorem node_range {t : Int} {f : St} (hs : Sane t f) {n : Int} {r : Rum} (hr : f n = some r) : 1 ≤ n ∧ n < 7 := by
  have h := hs n r hr
  have h3 := (Mem.good_iff _).1 h.1
  omega
/-- the best of all comes next -/
theorem best_next {t : Int} {f : St} (hs : Sane t f) {k : Nat} {b : Int} (h : BestS f k 7 b) : (b = 0 ∧ (sorted f).length ≤ k) ∨ ∃ hk : k < (sorted f).length, f b = some (sorted f)[k] ∧ b = ((sorted f)[k]).m.n ∧ 1 ≤ b ∧ b < 7 := by
  by_cases hk : k < (sorted f).length
  · have hrm : (sorted f)[k] ∈ sorted f := List.getElem_mem hk
    have hfr := (mem_sorted hs).1 hrm
    have hdrop : (sorted f).drop k = (sorted f)[k] :: (sorted f).drop (k + 1) := List.drop_eq_getElem_cons hk
    have hpw := sorted_bef hs
    rw [← List.take_append_drop k (sorted f)] at hpw
    obtain ⟨_, hp2, hp3⟩ := List.pairwise_append.1 hpw
    have hunt : toldN f k ((sorted f)[k]).m.n = false := by
      rw [Bool.eq_false_iff]
      intro ht
      have h1 := (toldN_iff hs hfr).1 ht
      exact Bef.asymm (hp3 _ h1 _ (by rw [hdrop]; exact List.mem_cons_self)) (hp3 _ h1 _ (by rw [hdrop]; exact List.mem_cons_self))
    have hnr := node_range hs hfr
    rcases h with ⟨_, h2⟩ | ⟨h1, h2, h3, r, h4, h5⟩
    · have := h2 _ _ hnr.1 hnr.2 hfr
      rw [hunt] at this; cases this
    · refine .inr ⟨hk, ?_⟩
      have hb : b = ((sorted f)[k]).m.n := by
        rcases h5 _ _ hnr.1 hnr.2 hfr hunt with e | e
        · exact e.symm
        · exfalso
          have hrs : r ∈ sorted f := (mem_sorted hs).2 (by rw [(hs b r h4).2.1]; exact h4)
          have hnot : r ∉ (sorted f).take k := fun hm => by
            have := (toldN_iff hs h4).2 hm
            rw [h3] at this; cases this
          rw [← List.take_append_drop k (sorted f), List.mem_append, hdrop] at hrs
          rcases hrs with hrs | hrs
          · exact hnot hrs
          · rcases List.mem_cons.1 hrs with hrs | hrs
            · rw [hrs] at e
              exact Bef.asymm e e
            · rw [hdrop] at hp2
              exact Bef.asymm e ((List.pairwise_cons.1 hp2).1 r hrs)
      exact ⟨by rw [hb]; exact hfr, hb, h1, h2⟩
  · refine .inl ⟨?_, by omega⟩
    rcases h with ⟨h1, _⟩ | ⟨h1, h2, h3, r, h4, _⟩
    · exact h1
    · exfalso
      have hrs : r ∈ sorted f := (mem_sorted hs).2 (by rw [(hs b r h4).2.1]; exact h4)
      have := (toldN_iff (k := k) hs h4).2 (by rw [List.take_of_length_le (by omega)]; exact hrs)
      rw [h3] at this; cases this
theorem toldN_zero (f : St) (n : Int) : toldN f 0 n = false := by unfold toldN; simp
theorem toldN_next {t : Int} {f : St} (_ : Sane t f) {k : Nat} (hk : k < (sorted f).length) (n : Int) : toldN f (k + 1) n = (if n = ((sorted f)[k]).m.n then true else toldN f k n) := by
  unfold toldN
  rw [take_snoc _ k hk]
  by_cases e : n = ((sorted f)[k]).m.n
  · rw [if_pos e, decide_eq_true_eq]
    exact ⟨_, List.mem_append_right _ (List.mem_singleton.2 rfl), e.symm⟩
  · rw [if_neg e]
    congr 1
    refine propext ⟨?_, ?_⟩
    · rintro ⟨r, hr, hn⟩
      rcases List.mem_append.1 hr with hr | hr
      · exact ⟨r, hr, hn⟩
      · rw [List.mem_singleton.1 hr] at hn
        exact absurd hn.symm e
    · rintro ⟨r, hr, hn⟩
      exact ⟨r, List.mem_append_left _ hr, hn⟩
/-- what is left after k were told, by nodes -/
theorem rest_at {t q : Int} {f : St} (hs : Sane t f) (n : Int) : rest q f n = (if toldN f (max q 0).toNat n = true then (match f n with | some r => if r.k = 1 then none else some ⟨r.m, r.k - 1⟩ | none => none) else f n) := by
  by_cases ht : toldN f (max q 0).toNat n = true
  · rw [if_pos ht]
    have ht2 := ht
    unfold toldN at ht2
    rw [decide_eq_true_eq] at ht2
    obtain ⟨r, hr, hn⟩ := ht2
    have hfr := told_node (q := q) hs (show r ∈ told q f from hr)
    rw [hn] at hfr
    rw [hfr]
    obtain ⟨k, hk, hkr⟩ := List.mem_iff_getElem.1 (show r ∈ told q f from hr)
    have hsplit : told q f = (told q f).take (k + 1) ++ (told q f).drop (k + 1) := (List.take_append_drop _ _).symm
    unfold rest
    rw [hsplit, List.foldl_append, tell_far]
    · rw [take_snoc _ k hk, List.foldl_append, List.foldl_cons, List.foldl_nil, hkr]
      have h1 := told_upto (q := q) hs hk
      rw [hkr, hn] at h1
      show tell _ r n = _
      unfold tell
      rw [if_pos hn.symm]
    · intro u hu e
      obtain ⟨j, hj, rfl⟩ := List.mem_iff_getElem.1 hu
      rw [List.length_drop] at hj
      rw [List.getElem_drop] at e
      have h2 := told_ne (q := q) hs (j := k) (k := k + 1 + j) (by omega) (by omega)
      rw [hkr] at h2
      exact h2 (by rw [hn, e])
  · rw [if_neg ht]
    unfold rest
    refine tell_far _ _ fun r hr e => ht ?_
    unfold toldN
    rw [decide_eq_true_eq]
    exact ⟨r, hr, e⟩
end Hm
end Go.Proofs.Ytepnepgjlnoabaa
