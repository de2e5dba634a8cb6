/- Layer 11: what telling a rumour turns: plain, and in memory. -/
import Derived.Maps.OwnSet
import Derived.Test.YtepnepgjlnoabaaHumH
namespace Go.Proofs.Ytepnepgjlnoabaa
open Go.Proofs Stab Go.Shelf Go.RowKit Go.Lib Go.Sort Go.Maps

/-- a rumour told, with its block -/
def tellB (F : Int → Option Cell) (q : Cell) : Int → Option Cell := fun x => if x = q.2.m.n then (if q.2.k = 1 then none else some (q.1, ⟨q.2.m, q.2.k - 1⟩)) else F x
theorem rums_tell (F : Int → Option Cell) (q : Cell) : rums (tellB F q) = Hm.tell (rums F) q.2 := by
  funext x
  unfold rums tellB Hm.tell
  by_cases hx : x = q.2.m.n
  · by_cases hk : q.2.k = 1
    · simp [hx, hk]
    · simp [hx, hk]
  · simp [hx]
theorem rums_foldl : ∀ (L : List Cell) (F : Int → Option Cell), rums (L.foldl tellB F) = (L.map (·.2)).foldl Hm.tell (rums F)
  | [], _ => rfl
  | q :: L, F => by
    rw [List.foldl_cons, List.map_cons, List.foldl_cons, rums_foldl L, rums_tell]
theorem S_map {α β : Type} {le : α → α → Bool} {le' : β → β → Bool} (g : α → β) (h : ∀ x y, le x y = le' (g x) (g y)) (l : List α) : (S le l).map g = S le' (l.map g) := by
  induction l using snoc_ind with
  | h0 => rfl
  | h1 l x ih => rw [S_snoc, List.map_append, List.map_cons, List.map_nil, S_snoc, ← ih, List.map_merge (fun a _ b _ => h a b)]; rfl
/-- all rumours, those told least first -/
def ordB (F : Int → Option Cell) : List Cell := S (leC cfB) (allB F)
theorem allB_rums (F : Int → Option Cell) : (allB F).map (·.2) = Hm.all (rums F) := by
  unfold allB Hm.all rums
  rw [List.map_filterMap]
  rfl
theorem ordB_rums (F : Int → Option Cell) : (ordB F).map (·.2) = Hm.sorted (rums F) := by
  unfold ordB Hm.sorted
  rw [← allB_rums]
  exact S_map (le := leC cfB) (le' := leC Hm.cfR) (fun q : Cell => q.2) (fun _ _ => rfl) _
theorem ordB_len (F : Int → Option Cell) : (ordB F).length = (allB F).length := S_len _ _
theorem allB_six (F : Int → Option Cell) : (allB F).length ≤ 6 := List.length_filterMap_le _ Sk.nodes
section
variable {t : Int} {F : Int → Option Cell}
theorem node_of (h : Hm.Sane t (rums F)) {x : Int} {q : Cell} (hx : F x = some q) : q.2.m.n = x := (h x q.2 (by unfold rums; rw [hx]; rfl)).2.1
theorem mem_allB (h : Hm.Sane t (rums F)) {q : Cell} : q ∈ allB F ↔ F q.2.m.n = some q := by
  unfold allB
  rw [List.mem_filterMap]
  constructor
  · rintro ⟨x, _, hx⟩
    rw [node_of h hx]
    exact hx
  · intro hq
    have h3 := (Mem.good_iff _).1 (h _ q.2 (by unfold rums; rw [hq]; rfl)).1
    exact ⟨_, Sk.node_mem (by omega) (by omega), hq⟩
theorem mem_ordB (h : Hm.Sane t (rums F)) {q : Cell} : q ∈ ordB F ↔ F q.2.m.n = some q := by
  unfold ordB
  rw [(S_perm _ _).mem_iff, mem_allB h]
theorem nodup_nodes (h : Hm.Sane t (rums F)) : ∀ ks : List Int, ks.Nodup → ((ks.filterMap F).map fun q => q.2.m.n).Nodup
  | [], _ => List.nodup_nil
  | x :: ks, hn => by
    obtain ⟨h1, h2⟩ := List.nodup_cons.1 hn
    rw [List.filterMap_cons]
    cases hx : F x with
    | none => exact nodup_nodes h ks h2
    | some q =>
      simp only [List.map_cons]
      refine List.nodup_cons.2 ⟨fun hm => ?_, nodup_nodes h ks h2⟩
      obtain ⟨q', hq', e⟩ := List.mem_map.1 hm
      obtain ⟨y, hy, hyq⟩ := List.mem_filterMap.1 hq'
      rw [node_of h hx, node_of h hyq] at e
      exact h1 (e ▸ hy)
theorem ordB_nodup (h : Hm.Sane t (rums F)) : ((ordB F).map fun q => q.2.m.n).Nodup :=
  (((S_perm (leC cfB) (allB F)).map fun q => q.2.m.n).nodup_iff).2 (nodup_nodes h Sk.nodes (by decide))
theorem tell_other {x : Int} : ∀ (L : List Cell) (F : Int → Option Cell), (∀ q ∈ L, q.2.m.n ≠ x) → L.foldl tellB F x = F x
  | [], _, _ => rfl
  | q :: L, F, h => by
    rw [List.foldl_cons, tell_other L _ fun q' hq' => h q' (List.mem_cons_of_mem _ hq')]
    unfold tellB
    rw [if_neg fun e => h q List.mem_cons_self e.symm]
theorem told_at (h : Hm.Sane t (rums F)) {k : Nat} (hk : k < (ordB F).length) : ((ordB F).take k).foldl tellB F ((ordB F)[k]).2.m.n = some (ordB F)[k] := by
  rw [tell_other]
  · exact (mem_ordB h).1 (List.getElem_mem hk)
  · intro q hq e
    obtain ⟨j, hj, rfl⟩ := List.mem_iff_getElem.1 hq
    rw [List.length_take] at hj
    rw [List.getElem_take] at e
    have hn := List.nodup_iff_pairwise_ne.1 (ordB_nodup h)
    have := List.pairwise_iff_getElem.1 hn j k (by rw [List.length_map]; omega) (by rw [List.length_map]; omega) (by omega)
    simp only [List.getElem_map] at this
    exact this e
/-- no new blocks -/
def SameB (F F' : Int → Option Cell) : Prop := ∀ x g r, F' x = some (g, r) → ∃ r', F x = some (g, r')
theorem same_tell {F' : Int → Option Cell} (h : SameB F F') {q : Cell} (hq : F' q.2.m.n = some q) : SameB F (tellB F' q) := fun x g r hx => by
  unfold tellB at hx
  split at hx
  · rename_i e
    split at hx
    · cases hx
    · cases hx
      subst e
      exact h _ q.1 q.2 hq
  · exact h x g r hx
theorem same_told (h : Hm.Sane t (rums F)) : ∀ k, k ≤ (ordB F).length → SameB F (((ordB F).take k).foldl tellB F)
  | 0, _ => fun x g r hx => ⟨r, by rwa [List.take_zero] at hx⟩
  | k + 1, hk => by
    rw [take_snoc _ k (by omega), List.foldl_append]
    exact same_tell (same_told h k (by omega)) (told_at h (by omega))
end
theorem cut_set (q : Rum) (z : Int) : (rumC q).set 3 (.int .i64 z) = rumC ⟨q.m, z⟩ := rfl
section
variable {H : Type} {w w1 w' : World} {p b N : Nat} {t : Int} {F : Int → Option Cell} {q : Cell}
theorem HumAt.kept {row : Option Nat} (h : HumAt H w p b N t F) (hg : w.grownBy w' row) (hp : some p ≠ row) (hb : some b ≠ row) (hr : ∀ x g r, F x = some (g, r) → some g ≠ row) : HumAt H w' p b N t F :=
  ⟨h.hd.grown hg hp, h.map.kept hg hb, h.sane, fun x g r hF => (h.at_ x g r hF).grown hg (hr x g r hF), h.inj, h.ne⟩
theorem HumAt.tells (h : HumAt H w p b N t F) (hq : F q.2.m.n = some q) : Hm.Sane t fun x => (tellB F q x).map (·.2) := by
  have h1 := h.sane q.2.m.n q.2 (by simp [hq])
  have h2 := Hm.sane_tell h.sane ⟨h1.1, h1.2.2.1, h1.2.2.2⟩
  have h3 : (fun x => (tellB F q x).map (·.2)) = Hm.tell (fun x => (F x).map (·.2)) q.2 := rums_tell F q
  rw [h3]
  exact h2
theorem HumAt.tell (h : HumAt H w p b N t F) (hq : F q.2.m.n = some q) (hk : q.2.k ≠ 1) (hat : At w' q.1 48 (rumC ⟨q.2.m, q.2.k - 1⟩)) (hg : w.grownBy w' (some q.1)) : HumAt H w' p b N t (tellB F q) := by
  have hne := h.ne.2 _ _ _ hq
  refine ⟨h.hd.grown hg (by intro e; injection e with e; exact hne.1 e.symm), ?_, h.tells hq, fun x g r hx => ?_, fun x y g r u hx hy => ?_, h.ne.1, fun x g r hx => ?_⟩
  · have e : (fun x => (tellB F q x).map (·.1)) = fun x => (F x).map (·.1) := by
      funext x
      unfold tellB
      by_cases hx : x = q.2.m.n
      · simp [hx, hk, hq]
      · simp [hx]
    rw [e]
    exact h.map.kept hg (by intro e; injection e with e; exact hne.2 e.symm)
  · unfold tellB at hx
    split at hx
    · skip
      cases hx
      exact hat
    · rename_i hn
      refine (h.at_ x g r hx).grown hg ?_
      intro e
      injection e with e
      subst e
      exact hn (h.inj _ _ _ _ _ hx hq)
  · unfold tellB at hx hy
    split at hx
    · rename_i e1
      cases hx
      split at hy
      · rename_i e2; rw [e1, e2]
      · rw [e1]; exact h.inj _ _ _ _ _ hq hy
    · split at hy
      · rename_i e2
        cases hy
        rw [e2]; exact h.inj _ _ _ _ _ hx hq
      · exact h.inj _ _ _ _ _ hx hy
  · unfold tellB at hx
    split at hx
    · skip
      cases hx
      exact hne
    · exact h.ne.2 x g r hx
theorem HumAt.tell1 (h : HumAt H w p b N t F) (hq : F q.2.m.n = some q) (hk : q.2.k = 1) (hg : w.grownBy w1 (some q.1)) (hown : w'.ownsMap Try.prog 3 readP b N ((Sk.mapD (H := H) ptrD fun x => (F x).map (·.1)).del (.int .i64 q.2.m.n))) (hg2 : w1.grownBy w' (some b)) : HumAt H w' p b N t (tellB F q) := by
  have hne := h.ne.2 _ _ _ hq
  have key : ∀ {x g r}, tellB F q x = some (g, r) → x ≠ q.2.m.n ∧ F x = some (g, r) := fun {x g r} hx => by
    unfold tellB at hx
    split at hx
    · skip
      cases hx
    · rename_i hn
      exact ⟨hn, hx⟩
  refine ⟨(h.hd.grown hg (by intro e; injection e with e; exact hne.1 e.symm)).grown hg2 (by intro e; injection e with e; exact h.ne.1 e), ?_, h.tells hq, fun x g r hx => ?_, fun x y g r u hx hy => h.inj _ _ _ _ _ (key hx).2 (key hy).2, h.ne.1, fun x g r hx => h.ne.2 x g r (key hx).2⟩
  · rw [Sk.del_mapD] at hown
    have e : (fun x => (tellB F q x).map (·.1)) = Sk.del (fun x => (F x).map (·.1)) q.2.m.n := by
      funext x
      unfold tellB Sk.del
      by_cases hx : x = q.2.m.n
      · simp [hx, hk]
      · simp [hx]
    rw [e]
    exact hown
  · obtain ⟨hn, hx'⟩ := key hx
    refine ((h.at_ x g r hx').grown hg ?_).grown hg2 (by intro e; injection e with e; exact (h.ne.2 x g r hx').2 e)
    intro e
    injection e with e
    subst e
    exact hn (h.inj _ _ _ _ _ hx' hq)
end
end Go.Proofs.Ytepnepgjlnoabaa
