/- Layer 10, the plain law: members, which stand above which, a view as a function of nodes and as the datum of a map; no function of the program in sight. -/
import Derived.Test.YtepnepgjlnoabaaLibC
import Derived.Maps.Own
import Derived.Lib.SlKeysI
namespace Go.Proofs.Ytepnepgjlnoabaa
open Go.RowKit Go.Maps

/-- a member: its node, its number, its state -/
structure Mem where
  n : Int
  i : Int
  s : Int
deriving DecidableEq
namespace Mem
def zero : Mem := ⟨0, 0, 0⟩
def good (m : Mem) : Bool := decide (1 ≤ m.n) && decide (m.n ≤ 6) && (decide (0 ≤ m.i) && decide (m.i ≤ 1073741824)) && (decide (0 ≤ m.s) && decide (m.s ≤ 3))
def height (m : Mem) : Int := m.i * 4 + m.s
def above (a b : Mem) : Bool := good a && good b && decide (a.n = b.n) && decide (height b < height a)
theorem good_iff (m : Mem) : good m = true ↔ 1 ≤ m.n ∧ m.n ≤ 6 ∧ 0 ≤ m.i ∧ m.i ≤ 1073741824 ∧ 0 ≤ m.s ∧ m.s ≤ 3 := by
  simp only [good, Bool.and_eq_true, decide_eq_true_eq]
  omega
theorem above_iff (a b : Mem) : above a b = true ↔ good a = true ∧ good b = true ∧ a.n = b.n ∧ height b < height a := by
  simp only [above, Bool.and_eq_true, decide_eq_true_eq]
  constructor
  · rintro ⟨⟨⟨h1, h2⟩, h3⟩, h4⟩
    exact ⟨h1, h2, h3, h4⟩
  · rintro ⟨h1, h2, h3, h4⟩
    exact ⟨⟨⟨h1, h2⟩, h3⟩, h4⟩
theorem above_irrefl (a : Mem) : above a a = false := by
  rw [Bool.eq_false_iff]
  intro h
  have := (above_iff a a).1 h
  omega
theorem above_asymm {a b : Mem} (h : above a b = true) : above b a = false := by
  rw [Bool.eq_false_iff]
  intro h2
  have h3 := (above_iff a b).1 h
  have h4 := (above_iff b a).1 h2
  omega
theorem above_trans {a b c : Mem} (h1 : above a b = true) (h2 : above b c = true) : above a c = true := by
  have h3 := (above_iff a b).1 h1
  have h4 := (above_iff b c).1 h2
  exact (above_iff a c).2 ⟨h3.1, h4.2.1, by omega, by omega⟩
/-- two good words of one node: one stands above the other one, or they are one -/
theorem above_total {a b : Mem} (ha : good a = true) (hb : good b = true) (hn : a.n = b.n) : above a b = true ∨ above b a = true ∨ a = b := by
  have h1 := (good_iff a).1 ha
  have h2 := (good_iff b).1 hb
  by_cases h3 : height b < height a
  · exact .inl ((above_iff a b).2 ⟨ha, hb, hn, h3⟩)
  · by_cases h4 : height a < height b
    · exact .inr (.inl ((above_iff b a).2 ⟨hb, ha, hn.symm, h4⟩))
    · refine .inr (.inr ?_)
      unfold height at h3 h4
      have e1 : a.i = b.i := by omega
      have e2 : a.s = b.s := by omega
      cases a
      cases b
      simp_all
end Mem
def memV (m : Mem) : Value := .agg #[.int .i64 m.n, .int .i64 m.i, .int .i64 m.s]
def memD {H : Type} (m : Mem) : DataW H := .agg [.lit (.int .i64 m.n), .lit (.int .i64 m.i), .lit (.int .i64 m.s)]
theorem memD_inj {H : Type} {a b : Mem} (h : (memD a : DataW H) = memD b) : a = b := by
  cases a; cases b
  simp only [memD, DataW.agg.injEq, List.cons.injEq, DataW.lit.injEq, Lit.int.injEq, true_and, and_true] at h
  simp [h.1, h.2.1, h.2.2]
/-- how a member in a map reads -/
def readM {H : Type} (v : Value) : Option (DataW H × List MemPlace) :=
  match v with
  | .agg cs => match cs.toList with
    | [.int .i64 a, .int .i64 b, .int .i64 c] => some (memD ⟨a, b, c⟩, [])
    | _ => none
  | _ => none
theorem readM_mem {H : Type} (m : Mem) : readM (H := H) (memV m) = some (memD m, []) := rfl
theorem readM_inv {H : Type} {v : Value} {z : DataW H × List MemPlace} (h : readM v = some z) : ∃ m, v = memV m ∧ z = (memD m, []) := by
  unfold readM at h
  split at h
  · rename_i cs
    split at h
    · rename_i a b c hc
      cases h
      refine ⟨⟨a, b, c⟩, ?_, rfl⟩
      unfold memV
      congr 1
      exact Array.toList_inj.1 (by rw [hc])
    · cases h
  · cases h

/-- what is known, by nodes -/
abbrev Known := Int → Option Mem
def upd (f : Known) (m : Mem) : Known := fun k => if k = m.n then some m else f k
def ents (H : Type) (f : Known) (ks : List Int) : List (Lit × DataW H) := ks.filterMap fun k => (f k).map fun m => (.int .i64 k, memD m)
def nodes : List Int := [1, 2, 3, 4, 5, 6]
def mapD (H : Type) (f : Known) : DataW H := .map (ents H f nodes)

theorem ents_cons (H : Type) (f : Known) (x : Int) (r : List Int) : ents H f (x :: r) = (match f x with | some m => [(.int .i64 x, memD m)] | none => []) ++ ents H f r := by
  simp only [ents, List.filterMap_cons]
  cases f x <;> simp
theorem ents_congr {H : Type} {f g : Known} : ∀ {ks : List Int}, (∀ k ∈ ks, f k = g k) → ents H f ks = ents H g ks
  | [], _ => rfl
  | x :: r, h => by rw [ents_cons, ents_cons, h x (by simp), ents_congr (fun k hk => h k (by simp [hk]))]
theorem ents_mem {H : Type} {f : Known} {ks : List Int} {p : Lit × DataW H} (h : p ∈ ents H f ks) : ∃ k m, k ∈ ks ∧ f k = some m ∧ p = (.int .i64 k, memD m) := by
  obtain ⟨k, hk, hp⟩ := List.mem_filterMap.1 h
  cases hf : f k with
  | none => simp [hf] at hp
  | some m => exact ⟨k, m, hk, hf, by simpa [hf] using hp.symm⟩
/-- the nodes rise -/
def Rises (ks : List Int) : Prop := ks.Pairwise (· < ·)
theorem nodes_rise : Rises nodes := by unfold Rises nodes; decide
theorem find_ents {H : Type} {f : Known} (k : Int) (z : DataW H) : ∀ {ks : List Int}, Rises ks →
    (match (ents H f ks).find? (fun p => p.1.sameKey (.int .i64 k)) with | some p => p.2 | none => z) = (if k ∈ ks then (match f k with | some m => memD m | none => z) else z)
  | [], _ => rfl
  | x :: r, h => by
    have hr : Rises r := (List.pairwise_cons.1 h).2
    have ih := find_ents (H := H) (f := f) k z hr
    rw [ents_cons]
    by_cases hx : x = k
    · subst hx
      rw [if_pos List.mem_cons_self]
      cases hf : f x with
      | some m => simp [Lit.sameKey]
      | none =>
        simp only [List.nil_append]
        rw [ih]
        split
        · rw [hf]
        · rfl
    · have hm : (k ∈ x :: r) = (k ∈ r) := by simp [Ne.symm hx]
      cases hf : f x with
      | some m =>
        have hs : (Lit.int .i64 x).sameKey (.int .i64 k) = false := by simp [Lit.sameKey, hx]
        simp only [List.cons_append, List.nil_append, List.find?_cons, hs]
        rw [ih]
        simp only [hm]
      | none =>
        simp only [List.nil_append]
        rw [ih]
        simp only [hm]
theorem atKey_mapD {H : Type} (f : Known) (k : Int) (z : DataW H) (hk : ∀ m, f k = some m → k ∈ nodes) : (mapD H f).atKey (.int .i64 k) z = (match f k with | some m => memD m | none => z) := by
  have h := find_ents (H := H) (f := f) k z nodes_rise
  show (match (ents H f nodes).find? (fun p => p.1.sameKey (.int .i64 k)) with | some p => p.2 | none => z) = _
  rw [h]
  split
  · rfl
  · rename_i hn
    cases hf : f k with
    | none => rfl
    | some m => exact absurd (hk m hf) hn
theorem insert_head {H : Type} (x : Lit × DataW H) : ∀ (l : List (Lit × DataW H)), (∀ p ∈ l, x.1.before p.1 = true) → DataW.insert x l = x :: l
  | [], _ => rfl
  | y :: r, h => by
    unfold DataW.insert
    rw [if_pos (h y List.mem_cons_self)]
theorem filter_ents {H : Type} {f : Known} {k : Int} {ks : List Int} (h : k ∉ ks) : (ents H f ks).filter (fun p => !p.1.sameKey (.int .i64 k)) = ents H f ks := by
  refine List.filter_eq_self.2 fun p hp => ?_
  obtain ⟨j, m, hj, _, rfl⟩ := ents_mem hp
  have : j ≠ k := fun e => h (e ▸ hj)
  simp [Lit.sameKey, this]
theorem put_ents {H : Type} {f : Known} (m : Mem) : ∀ {ks : List Int}, Rises ks → m.n ∈ ks →
    DataW.insert (.int .i64 m.n, memD m) ((ents H f ks).filter fun p => !p.1.sameKey (.int .i64 m.n)) = ents H (upd f m) ks
  | [], _, h => by cases h
  | x :: r, h, hm => by
    obtain ⟨hlt, hr⟩ := List.pairwise_cons.1 h
    rw [ents_cons, ents_cons, List.filter_append]
    by_cases hx : x = m.n
    · have hnr : m.n ∉ r := fun hr => by have := hlt _ hr; omega
      have e1 : (match f x with | some m' => [((Lit.int .i64 x : Lit), (memD m' : DataW H))] | none => []).filter (fun (p : Lit × DataW H) => !p.1.sameKey (.int .i64 m.n)) = [] := by
        cases f x <;> simp [Lit.sameKey, hx]
      have e2 : upd f m x = some m := by simp [upd, hx]
      rw [e1, e2, filter_ents hnr, List.nil_append]
      have e3 : ents H f r = ents H (upd f m) r := ents_congr fun k hk => by
        have : k ≠ m.n := fun e => hnr (e ▸ hk)
        simp [upd, this]
      rw [← e3, insert_head _ _ (fun p hp => ?_), hx]
      · rfl
      · obtain ⟨j, m', hj, _, rfl⟩ := ents_mem hp
        have := hlt j hj
        simp only [Lit.before, decide_eq_true_eq]
        omega
    · have hmr : m.n ∈ r := by
        rcases List.mem_cons.1 hm with h1 | h1
        · exact absurd h1.symm hx
        · exact h1
      have hxm := hlt _ hmr
      have e2 : upd f m x = f x := by simp [upd, hx]
      rw [e2, ← put_ents m hr hmr]
      cases hf : f x with
      | none => simp
      | some m' =>
        have e1 : ([((Lit.int .i64 x : Lit), (memD m' : DataW H))]).filter (fun (p : Lit × DataW H) => !p.1.sameKey (.int .i64 m.n)) = [(.int .i64 x, memD m')] := by simp [Lit.sameKey, hx]
        simp only [e1, List.cons_append, List.nil_append]
        conv => lhs; unfold DataW.insert
        have hb : (Lit.int .i64 m.n).before (.int .i64 x) = false := by
          simp only [Lit.before, decide_eq_false_iff_not]
          omega
        simp only [hb, Bool.false_eq_true, if_false]
theorem put_mapD {H : Type} (f : Known) (m : Mem) (hm : m.n ∈ nodes) : (mapD H f).put (.int .i64 m.n) (memD m) = mapD H (upd f m) := by
  show DataW.map _ = DataW.map _
  rw [put_ents m nodes_rise hm]
theorem intKeys_ents {H : Type} (f : Known) : ∀ ks : List Int, (ents H f ks).map (fun p => intOf p.1) = ks.filter fun k => (f k).isSome
  | [] => rfl
  | x :: r => by
    rw [ents_cons, List.map_append, intKeys_ents f r, List.filter_cons]
    cases hf : f x <;> simp [intOf]
theorem intKeys_mapD {H : Type} (f : Known) : intKeys (mapD H f) = nodes.filter fun k => (f k).isSome := intKeys_ents f nodes
theorem mapD_none (H : Type) : mapD H (fun _ => none) = .map [] := rfl
theorem good_node {m : Mem} (h : m.good = true) : m.n ∈ nodes := by
  have := (Mem.good_iff m).1 h
  have h6 : m.n = 1 ∨ m.n = 2 ∨ m.n = 3 ∨ m.n = 4 ∨ m.n = 5 ∨ m.n = 6 := by omega
  simp only [nodes, List.mem_cons, List.not_mem_nil, or_false]
  exact h6

/-- whether a word is taken -/
def takes (f : Known) (m : Mem) : Bool := m.good && (match f m.n with | some was => m.above was | none => true)
/-- what is known behind a word -/
def hear (f : Known) (m : Mem) : Known := if takes f m then upd f m else f
/-- words come: what is known then, and those that were taken -/
def merge (f : Known) : List Mem → Known × List Mem
  | [] => (f, [])
  | m :: r => ((merge (hear f m) r).1, (if takes f m then [m] else []) ++ (merge (hear f m) r).2)
/-- only good words are known, each at its node -/
def Sane (f : Known) : Prop := ∀ k m, f k = some m → m.good = true ∧ m.n = k
theorem sane_none : Sane fun _ => none := fun _ _ h => by cases h
theorem sane_hear {f : Known} (h : Sane f) (m : Mem) : Sane (hear f m) := by
  unfold hear
  split
  · rename_i ht
    intro k m' hk
    unfold upd at hk
    split at hk
    · rename_i hkn
      cases hk
      unfold takes at ht
      rw [Bool.and_eq_true] at ht
      exact ⟨ht.1, hkn.symm⟩
    · exact h k m' hk
  · exact h
theorem sane_merge : ∀ (l : List Mem) {f : Known}, Sane f → Sane (merge f l).1
  | [], _, h => h
  | m :: r, _, h => sane_merge r (sane_hear h m)
/-- all that is known, by rising nodes -/
def all (f : Known) : List Mem := nodes.filterMap f
def present (f : Known) : List Int := ((all f).filter fun m => decide (m.s ≤ 1)).map Mem.n
theorem merge_append (l : List Mem) : ∀ (f : Known) (r : List Mem), merge f (l ++ r) = ((merge (merge f l).1 r).1, (merge f l).2 ++ (merge (merge f l).1 r).2) := by
  induction l with
  | nil => intro f r; rfl
  | cons m l ih => intro f r; simp only [List.cons_append, merge, ih, List.append_assoc]
end Go.Proofs.Ytepnepgjlnoabaa
