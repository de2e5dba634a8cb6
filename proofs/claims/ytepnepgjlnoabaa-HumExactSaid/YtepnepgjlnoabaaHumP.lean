/- Layer 11, the plain law: rumours by nodes; what is told, what is left; no function of the program in sight. -/
import Derived.Test.YtepnepgjlnoabaaRankP
import Derived.Test.YtepnepgjlnoabaaStbI
namespace Go.Proofs.Ytepnepgjlnoabaa
open Go.Proofs Stab Go.RowKit Go.Maps Go.Sort Go.Shelf Go.Lib

/-- a rumour: a member, and how often it will be told yet -/
structure Rum where
  m : Mem
  k : Int
deriving DecidableEq
namespace Hm
abbrev St := Int → Option Rum
def push1 (t : Int) (f : St) (m : Mem) : St := if m.good = true then fun x => if x = m.n then some ⟨m, t⟩ else f x else f
def push (t : Int) (f : St) (l : List Mem) : St := l.foldl (push1 t) f
def all (f : St) : List Rum := nodes.filterMap f
def cfR (a b : Rum) : Int := if b.k < a.k then -1 else if a.k < b.k then 1 else 0
def sorted (f : St) : List Rum := S (leC cfR) (all f)
def told (q : Int) (f : St) : List Rum := (sorted f).take (max q 0).toNat
def tell (f : St) (r : Rum) : St := fun x => if x = r.m.n then (if r.k = 1 then none else some ⟨r.m, r.k - 1⟩) else f x
def rest (q : Int) (f : St) : St := (told q f).foldl tell f
def Sane (t : Int) (f : St) : Prop := ∀ x r, f x = some r → r.m.good = true ∧ r.m.n = x ∧ 1 ≤ r.k ∧ r.k ≤ t
theorem sane_none (t : Int) : Sane t fun _ => none := fun _ _ h => by cases h
theorem sane_push1 {t : Int} {f : St} (ht : 1 ≤ t) (h : Sane t f) (m : Mem) : Sane t (push1 t f m) := by
  unfold push1
  by_cases hg : m.good = true
  · rw [if_pos hg]
    intro x r hr
    by_cases hx : x = m.n
    · simp only [hx, if_true, Option.some.injEq] at hr
      subst hr
      exact ⟨hg, hx.symm, ht, Int.le_refl _⟩
    · simp only [hx, if_false] at hr
      exact h x r hr
  · rw [if_neg hg]; exact h
theorem sane_push {t : Int} (ht : 1 ≤ t) : ∀ (l : List Mem) {f : St}, Sane t f → Sane t (push t f l)
  | [], _, h => h
  | m :: l, _, h => sane_push ht l (sane_push1 ht h m)
theorem mem_all {t : Int} {f : St} (h : Sane t f) {r : Rum} : r ∈ all f ↔ f r.m.n = some r := by
  unfold all
  rw [List.mem_filterMap]
  constructor
  · rintro ⟨x, _, hx⟩
    rw [(h x r hx).2.1]; exact hx
  · exact fun hr => ⟨r.m.n, good_node (h _ r hr).1, hr⟩
theorem mem_sorted {t : Int} {f : St} (h : Sane t f) {r : Rum} : r ∈ sorted f ↔ f r.m.n = some r := by
  unfold sorted
  rw [(S_perm _ _).mem_iff, mem_all h]
theorem sane_tell {t : Int} {f : St} (h : Sane t f) {r : Rum} (hr : r.m.good = true ∧ 1 ≤ r.k ∧ r.k ≤ t) : Sane t (tell f r) := fun x u hu => by
  unfold tell at hu
  by_cases hx : x = r.m.n
  · rw [if_pos hx] at hu
    by_cases h1 : r.k = 1
    · rw [if_pos h1] at hu; cases hu
    · rw [if_neg h1, Option.some.injEq] at hu
      subst hu
      exact ⟨hr.1, hx.symm, by show 1 ≤ r.k - 1; omega, by show r.k - 1 ≤ t; omega⟩
  · rw [if_neg hx] at hu
    exact h x u hu
theorem ltOf_cfR (a b : Rum) : ltOf cfR a b = decide (b.k < a.k) := by
  unfold ltOf cfR
  by_cases h : b.k < a.k
  · simp [h]
  · by_cases h2 : a.k < b.k <;> simp [h, h2]
theorem leC_cfR (a b : Rum) : leC cfR a b = decide (b.k ≤ a.k) := by
  unfold leC
  rw [ltOf_cfR]
  by_cases h : b.k ≤ a.k
  · rw [decide_eq_true h, decide_eq_false (by omega)]; rfl
  · rw [decide_eq_false h, decide_eq_true (by omega)]; rfl
theorem swoR : SWO (ltOf cfR) where
  irrefl x := by rw [ltOf_cfR]; simp
  trans x y z h1 h2 := by rw [ltOf_cfR, decide_eq_true_eq] at *; omega
  ntrans x y z h1 h2 := by rw [ltOf_cfR, decide_eq_false_iff_not] at *; omega
/-- who is told has been told no oftener than who isn't -/
theorem told_high {q : Int} {f : St} {r u : Rum} (hr : r ∈ told q f) (hu : u ∈ sorted f) (hn : u ∉ told q f) : u.k ≤ r.k := by
  have hs : (sorted f).Pairwise fun a b => leC cfR a b = true := S_sorted (leC_trans swoR) (leC_total swoR) _
  rw [← List.take_append_drop (max q 0).toNat (sorted f)] at hs hu
  have hd : u ∈ (sorted f).drop (max q 0).toNat := by
    rcases List.mem_append.1 hu with h | h
    · exact absurd h hn
    · exact h
  have h := (List.pairwise_append.1 hs).2.2 r hr u hd
  rw [leC_cfR, decide_eq_true_eq] at h
  exact h
end Hm
end Go.Proofs.Ytepnepgjlnoabaa
