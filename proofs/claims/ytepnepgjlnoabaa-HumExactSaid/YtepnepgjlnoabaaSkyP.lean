/- Layer 14, the plain law of a sky: what is known of nodes 1 to 6, of any kind, as the datum of a map; put, dropped, looked up, its keys. -/
import Derived.Test.YtepnepgjlnoabaaLibC
import Derived.Maps.Own
import Derived.Lib.SlKeysI
namespace Go.Proofs.Ytepnepgjlnoabaa
open Go.RowKit Go.Maps

namespace Sk
/-- the nodes rise -/
def Rises (ks : List Int) : Prop := ks.Pairwise (· < ·)
def nodes : List Int := [1, 2, 3, 4, 5, 6]
theorem nodes_rise : Rises nodes := by unfold Rises nodes; decide
theorem node_mem {k : Int} (h1 : 1 ≤ k) (h6 : k ≤ 6) : k ∈ nodes := by
  have h : k = 1 ∨ k = 2 ∨ k = 3 ∨ k = 4 ∨ k = 5 ∨ k = 6 := by omega
  simp only [nodes, List.mem_cons, List.not_mem_nil, or_false]
  exact h
section
variable {H α : Type} (enc : α → DataW H)
def upd (f : Int → Option α) (k : Int) (v : α) : Int → Option α := fun i => if i = k then some v else f i
def del (f : Int → Option α) (k : Int) : Int → Option α := fun i => if i = k then none else f i
def ents (f : Int → Option α) (ks : List Int) : List (Lit × DataW H) := ks.filterMap fun k => (f k).map fun m => (.int .i64 k, enc m)
def mapD (f : Int → Option α) : DataW H := .map (ents enc f nodes)
/-- only nodes are known -/
def Sane (f : Int → Option α) : Prop := ∀ k m, f k = some m → k ∈ nodes
variable {enc}
theorem sane_none : Sane (fun _ => none : Int → Option α) := fun _ _ h => by cases h
theorem sane_upd {f : Int → Option α} (h : Sane f) {k : Int} (hk : k ∈ nodes) (v : α) : Sane (upd f k v) := fun i m hi => by
  unfold upd at hi
  split at hi
  · rename_i e; rw [e]; exact hk
  · exact h i m hi
theorem sane_del {f : Int → Option α} (h : Sane f) (k : Int) : Sane (del f k) := fun i m hi => by
  unfold del at hi
  split at hi
  · cases hi
  · exact h i m hi
theorem ents_cons (f : Int → Option α) (x : Int) (r : List Int) : ents enc f (x :: r) = (match f x with | some m => [(.int .i64 x, enc m)] | none => []) ++ ents enc f r := by
  simp only [ents, List.filterMap_cons]
  cases f x <;> simp
theorem ents_congr {f g : Int → Option α} : ∀ {ks : List Int}, (∀ k ∈ ks, f k = g k) → ents enc f ks = ents enc g ks
  | [], _ => rfl
  | x :: r, h => by rw [ents_cons, ents_cons, h x (by simp), ents_congr (fun k hk => h k (by simp [hk]))]
theorem ents_mem {f : Int → Option α} {ks : List Int} {p : Lit × DataW H} (h : p ∈ ents enc f ks) : ∃ k m, k ∈ ks ∧ f k = some m ∧ p = (.int .i64 k, enc m) := by
  obtain ⟨k, hk, hp⟩ := List.mem_filterMap.1 h
  cases hf : f k with
  | none => simp [hf] at hp
  | some m => exact ⟨k, m, hk, hf, by simpa [hf] using hp.symm⟩
theorem find_ents {f : Int → Option α} (k : Int) (z : DataW H) : ∀ {ks : List Int}, Rises ks →
    (match (ents enc f ks).find? (fun p => p.1.sameKey (.int .i64 k)) with | some p => p.2 | none => z) = (if k ∈ ks then (match f k with | some m => enc m | none => z) else z)
  | [], _ => rfl
  | x :: r, h => by
    have hr : Rises r := (List.pairwise_cons.1 h).2
    have ih := find_ents (f := f) k z hr
    rw [ents_cons]
    by_cases hx : x = k
    · subst hx
      rw [if_pos List.mem_cons_self]
      cases hf : f x with
      | some m => simp [Lit.sameKey]
      | none =>
        simp only [List.nil_append]
        rw [ih]
        split
        · rw [hf]
        · rfl
    · have hm : (k ∈ x :: r) = (k ∈ r) := by simp [Ne.symm hx]
      cases hf : f x with
      | some m =>
        have hs : (Lit.int .i64 x).sameKey (.int .i64 k) = false := by simp [Lit.sameKey, hx]
        simp only [List.cons_append, List.nil_append, List.find?_cons, hs]
        rw [ih]
        simp only [hm]
      | none =>
        simp only [List.nil_append]
        rw [ih]
        simp only [hm]
theorem atKey_mapD {f : Int → Option α} (hs : Sane f) (k : Int) (z : DataW H) : (mapD enc f).atKey (.int .i64 k) z = (match f k with | some m => enc m | none => z) := by
  have h := find_ents (enc := enc) (f := f) k z nodes_rise
  show (match (ents enc f nodes).find? (fun p => p.1.sameKey (.int .i64 k)) with | some p => p.2 | none => z) = _
  rw [h]
  split
  · rfl
  · rename_i hn
    cases hf : f k with
    | none => rfl
    | some m => exact absurd (hs k m hf) hn
theorem insert_head (x : Lit × DataW H) : ∀ (l : List (Lit × DataW H)), (∀ p ∈ l, x.1.before p.1 = true) → DataW.insert x l = x :: l
  | [], _ => rfl
  | y :: r, h => by
    unfold DataW.insert
    rw [if_pos (h y List.mem_cons_self)]
theorem filter_ents {f : Int → Option α} {k : Int} {ks : List Int} (h : k ∉ ks) : (ents enc f ks).filter (fun p => !p.1.sameKey (.int .i64 k)) = ents enc f ks := by
  refine List.filter_eq_self.2 fun p hp => ?_
  obtain ⟨j, m, hj, _, rfl⟩ := ents_mem hp
  have : j ≠ k := fun e => h (e ▸ hj)
  simp [Lit.sameKey, this]
theorem del_ents {f : Int → Option α} (k : Int) : ∀ {ks : List Int}, (ents enc f ks).filter (fun p => !p.1.sameKey (.int .i64 k)) = ents enc (del f k) ks
  | [] => rfl
  | x :: r => by
    rw [ents_cons, ents_cons, List.filter_append, del_ents k]
    congr 1
    by_cases hx : x = k
    · have e2 : del f k x = none := by simp [del, hx]
      rw [e2]
      cases f x <;> simp [Lit.sameKey, hx]
    · have e2 : del f k x = f x := by simp [del, hx]
      rw [e2]
      cases f x <;> simp [Lit.sameKey, hx]
theorem del_mapD (f : Int → Option α) (k : Int) : (mapD enc f).del (.int .i64 k) = mapD enc (del f k) := by
  show DataW.map _ = DataW.map _
  rw [del_ents]
theorem put_ents {f : Int → Option α} (k : Int) (v : α) : ∀ {ks : List Int}, Rises ks → k ∈ ks →
    DataW.insert (.int .i64 k, enc v) ((ents enc f ks).filter fun p => !p.1.sameKey (.int .i64 k)) = ents enc (upd f k v) ks
  | [], _, h => by cases h
  | x :: r, h, hm => by
    obtain ⟨hlt, hr⟩ := List.pairwise_cons.1 h
    rw [ents_cons, ents_cons, List.filter_append]
    by_cases hx : x = k
    · have hnr : k ∉ r := fun hr => by have := hlt _ hr; omega
      have e1 : (match f x with | some m' => [((Lit.int .i64 x : Lit), (enc m' : DataW H))] | none => []).filter (fun (p : Lit × DataW H) => !p.1.sameKey (.int .i64 k)) = [] := by
        cases f x <;> simp [Lit.sameKey, hx]
      have e2 : upd f k v x = some v := by simp [upd, hx]
      rw [e1, e2, filter_ents hnr, List.nil_append]
      have e3 : ents enc f r = ents enc (upd f k v) r := ents_congr fun i hi => by
        have : i ≠ k := fun e => hnr (e ▸ hi)
        simp [upd, this]
      rw [← e3, insert_head _ _ (fun p hp => ?_), hx]
      · rfl
      · obtain ⟨j, m', hj, _, rfl⟩ := ents_mem hp
        have := hlt j hj
        simp only [Lit.before, decide_eq_true_eq]
        omega
    · have hmr : k ∈ r := by
        rcases List.mem_cons.1 hm with h1 | h1
        · exact absurd h1.symm hx
        · exact h1
      have hxm := hlt _ hmr
      have e2 : upd f k v x = f x := by simp [upd, hx]
      rw [e2, ← put_ents k v hr hmr]
      cases hf : f x with
      | none => simp
      | some m' =>
        have e1 : ([((Lit.int .i64 x : Lit), (enc m' : DataW H))]).filter (fun (p : Lit × DataW H) => !p.1.sameKey (.int .i64 k)) = [(.int .i64 x, enc m')] := by simp [Lit.sameKey, hx]
        simp only [e1, List.cons_append, List.nil_append]
        conv => lhs; unfold DataW.insert
        have hb : (Lit.int .i64 k).before (.int .i64 x) = false := by
          simp only [Lit.before, decide_eq_false_iff_not]
          omega
        simp only [hb, Bool.false_eq_true, if_false]
theorem put_mapD (f : Int → Option α) {k : Int} (v : α) (hk : k ∈ nodes) : (mapD enc f).put (.int .i64 k) (enc v) = mapD enc (upd f k v) := by
  show DataW.map _ = DataW.map _
  rw [put_ents k v nodes_rise hk]
theorem intKeys_ents (f : Int → Option α) : ∀ ks : List Int, (ents enc f ks).map (fun p => intOf p.1) = ks.filter fun k => (f k).isSome
  | [] => rfl
  | x :: r => by
    rw [ents_cons, List.map_append, intKeys_ents f r, List.filter_cons]
    cases hf : f x <;> simp [intOf]
theorem intKeys_mapD (f : Int → Option α) : intKeys (mapD enc f) = nodes.filter fun k => (f k).isSome := intKeys_ents f nodes
theorem mapD_none : mapD enc (fun _ => none : Int → Option α) = .map [] := rfl
end
end Sk
end Go.Proofs.Ytepnepgjlnoabaa
