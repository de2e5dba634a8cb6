/- Layer 13: slices.SortStableFunc at a short row of nodes; what is left of a row of numbers when it is sorted, compacted and cut to nodes. -/
import Derived.Test.YtdfeiajdmmlllaaDoorRingL
namespace Go.Proofs.YtdfeiajdmmlllaaDoor
open Go.Proofs Stab Go.Shelf Go.RowKit Go.Lib Go.Sort

theorem compact_up (d : Array Int) (hd : ∀ i j, i ≤ j → j < d.size → d[i]! ≤ d[j]!) : ∀ m, m ≤ d.size → (Lib.compactUpTo d m).Pairwise (fun a b => a < b) ∧ (∀ x, x ∈ Lib.compactUpTo d m ↔ ∃ j, j < m ∧ d[j]! = x)
  | 0, _ => by
    refine ⟨by simp [Lib.compactUpTo], fun x => ?_⟩
    simp [Lib.compactUpTo]
  | m + 1, hm => by
    obtain ⟨h1, h2⟩ := compact_up d hd m (by omega)
    rw [Lib.compactUpTo_succ]
    cases hk : Lib.keeps d m with
    | true =>
      rw [if_pos rfl]
      refine ⟨List.pairwise_append.2 ⟨h1, List.pairwise_singleton _ _, fun a ha b hb => ?_⟩, fun x => ?_⟩
      · rw [List.mem_singleton.1 hb]
        obtain ⟨j, hj, rfl⟩ := (h2 a).1 ha
        unfold Lib.keeps at hk
        rw [decide_eq_true_eq] at hk
        have a1 := hd j (m - 1) (by omega) (by omega)
        have a2 := hd (m - 1) m (by omega) (by omega)
        rcases hk with hk | hk <;> omega
      · rw [List.mem_append, h2, List.mem_singleton]
        constructor
        · rintro (⟨j, hj, e⟩ | e)
          · exact ⟨j, by omega, e⟩
          · exact ⟨m, by omega, e.symm⟩
        · rintro ⟨j, hj, e⟩
          rcases Nat.lt_or_eq_of_le (Nat.le_of_lt_succ hj) with h | h
          · exact .inl ⟨j, h, e⟩
          · subst h; exact .inr e.symm
    | false =>
      rw [if_neg (by simp), List.append_nil]
      refine ⟨h1, fun x => ?_⟩
      rw [h2]
      unfold Lib.keeps at hk
      rw [decide_eq_false_iff_not] at hk
      constructor
      · rintro ⟨j, hj, e⟩
        exact ⟨j, by omega, e⟩
      · rintro ⟨j, hj, e⟩
        rcases Nat.lt_or_eq_of_le (Nat.le_of_lt_succ hj) with h | h
        · exact ⟨j, h, e⟩
        · subst h
          refine ⟨j - 1, by omega, ?_⟩
          rw [← e]
          exact (Classical.byContradiction fun hne => hk (.inr fun e' => hne e'.symm))
theorem sorted_get {l : List Int} (h : l.Pairwise (fun a b => a ≤ b)) (i j : Nat) (hij : i ≤ j) (hj : j < l.toArray.size) : l.toArray[i]! ≤ l.toArray[j]! := by
  have hj' : j < l.length := by simpa using hj
  have hi' : i < l.length := by omega
  have e : ∀ k (hk : k < l.length), l.toArray[k]! = l[k] := fun k hk => by simp [hk]
  rw [e i hi', e j hj']
  rcases Nat.lt_or_eq_of_le hij with hlt | rfl
  · exact List.pairwise_iff_getElem.1 h i j hi' hj' hlt
  · exact Int.le_refl _
theorem filter_nodes (l : List Int) : (Lib.compact (l.mergeSort fun x y => decide (x ≤ y))).filter isNd = nodesOf l := by
  obtain ⟨s, hs⟩ : ∃ s, s = l.mergeSort fun x y => decide (x ≤ y) := ⟨_, rfl⟩
  have hsort : s.Pairwise fun a b => a ≤ b := by
    have := List.pairwise_mergeSort (le := fun x y : Int => decide (x ≤ y)) (fun a b c h1 h2 => by simp at *; omega) (fun a b => by simp; omega) l
    rw [← hs] at this
    exact this.imp (fun h => by simpa using h)
  have hmem : ∀ x, x ∈ s ↔ x ∈ l := fun x => by rw [hs]; exact (List.mergeSort_perm l _).mem_iff
  rw [← hs]
  obtain ⟨h1, h2⟩ := compact_up s.toArray (sorted_get hsort) s.length (by simp)
  have h3 : Lib.compact s = Lib.compactUpTo s.toArray s.length := rfl
  refine ltN_ext (far := fun _ => 0) ((List.Pairwise.filter _ (h3 ▸ h1)).imp fun {a b} h => .inr ⟨rfl, h⟩) ((nodes_up l).imp fun {a b} h => .inr ⟨rfl, h⟩) fun n => ?_
  rw [List.mem_filter, mem_nodes, h3, h2]
  unfold isNd
  rw [decide_eq_true_eq, ← hmem n]
  constructor
  · rintro ⟨⟨j, hj, e⟩, h⟩
    refine ⟨?_, h⟩
    rw [← e]
    simp [hj]
  · rintro ⟨h, h'⟩
    obtain ⟨j, hj, e⟩ := List.getElem_of_mem h
    exact ⟨⟨j, hj, by simp [hj, e]⟩, h'⟩

/-- a node, whatever number comes -/
def nodeC (n : Int) : Int := if 1 ≤ n ∧ n ≤ 6 then n else 1
theorem nodeC_in (n : Int) : 1 ≤ nodeC n ∧ nodeC n ≤ 6 := by unfold nodeC; split <;> omega
theorem nodeC_id {n : Int} (h : 1 ≤ n ∧ n ≤ 6) : nodeC n = n := if_pos h
def encC (n : Int) : Value := .int .i64 (nodeC n)
def cfC (F : Int → Nat) (x y : Int) : Int := cfN F (nodeC x) (nodeC y)
theorem swoC (F : Int → Nat) : SWO (ltOf (cfC F)) where
  irrefl x := (swoN F).irrefl (nodeC x)
  trans x y z h1 h2 := (swoN F).trans (nodeC x) (nodeC y) (nodeC z) h1 h2
  ntrans x y z h1 h2 := (swoN F).ntrans (nodeC x) (nodeC y) (nodeC z) h1 h2
theorem merge_cong {le le' : Int → Int → Bool} : ∀ (a b : List Int), (∀ x ∈ a, ∀ y ∈ b, le x y = le' x y) → List.merge a b le = List.merge a b le'
  | [], b, _ => by rw [List.nil_merge, List.nil_merge]
  | a, [], _ => by rw [List.merge_right, List.merge_right]
  | x :: a, y :: b, h => by
    rw [List.cons_merge_cons, List.cons_merge_cons, h x List.mem_cons_self y List.mem_cons_self]
    rw [merge_cong a (y :: b) fun x' hx' y' hy' => h x' (List.mem_cons_of_mem _ hx') y' hy', merge_cong (x :: a) b fun x' hx' y' hy' => h x' hx' y' (List.mem_cons_of_mem _ hy')]
theorem S_cong {le le' : Int → Int → Bool} (l : List Int) : (∀ x ∈ l, ∀ y ∈ l, le x y = le' x y) → S le l = S le' l := by
  induction l using snoc_ind with
  | h0 => intro _; rfl
  | h1 l x ih =>
    intro h
    rw [S_snoc, S_snoc, ih fun a ha b hb => h a (by simp [ha]) b (by simp [hb])]
    refine merge_cong _ _ fun a ha b hb => h a ?_ b (by simp [List.mem_singleton.1 hb])
    rw [List.mem_append]
    exact .inl ((S_perm _ l).mem_iff.1 ha)
variable {w : World} {B n : Nat} {v : Value} {l : List Int}
theorem ins_nil (fv : Value) (w : World) : Calls Tryd.prog 61 #[.slice none 0 0, .int .i64 0, .int .i64 0, fv] w fun e w' => e = .returned (.tuple #[]) ∧ w' = w := by
  go_enter Tryd.func61, Tryd.ntmps61
  go_wp2_with fail
  go_loopg [8] 0 (fun kx s8 wr => s8 = .int .i64 1 ∧ wr = w)
  case atStart => exact ⟨rfl, rfl⟩
  case round =>
    obtain ⟨rfl, rfl⟩ := hrel
    go_wp2_with fail
    go_end0
    exact ⟨rfl, rfl⟩
theorem ins_z (F : Int → Nat) (lb : Array Value) (hl6 : ∀ x ∈ l, 1 ≤ x ∧ x ≤ 6) (h : w.ownsRow B 3 1 v n (l.map (Value.int .i64)))
    (hcmp : ∀ (x y : Int) W, 1 ≤ x ∧ x ≤ 6 → 1 ≤ y ∧ y ≤ 6 → w.grownBy W v.ownBlock → Calls Tryd.prog 29 (#[.int .i64 x, .int .i64 y] ++ lb) W fun e w' => e = .returned (.int .i64 (cfN F x y)) ∧ W = w') (hs : n < 1000) :
    Calls Tryd.prog 61 #[v, .int .i64 0, .int .i64 n, .func (.func 29) #[] lb] w fun e w' => e = .returned (.tuple #[]) ∧ w'.ownsRow B 3 1 v n ((S (leC (cfN F)) l).map (Value.int .i64)) ∧ w.grownBy w' v.ownBlock := by
  rcases row_cases h with ⟨rfl, rfl, rfl⟩ | ⟨g, cap, rfl, hB, hg, hnc, hcm, hl, hH⟩
  · refine (ins_nil _ w).mono ?_
    rintro e w' ⟨rfl, rfl⟩
    exact ⟨rfl, ⟨rfl, .inl ⟨rfl, rfl⟩⟩, World.grownBy.refl _ _⟩
  · subst hl
    have hHC : Holds encC w g 0 l.toArray := fun j hj => by
      have h1 := hH j hj
      have hjl : j < l.length := by simpa using hj
      have e : encC l.toArray[j]! = Value.int .i64 l.toArray[j]! := by
        unfold encC
        rw [nodeC_id]
        have : l.toArray[j]! = l[j] := by simp [hjl]
        rw [this]
        exact hl6 _ (List.getElem_mem hjl)
      rw [e]
      exact h1
    have hC : CmpLays1 Tryd.prog 29 lb encC (cfC F) g 0 l.toArray.size w := fun m os dk _ x y => by
      have hg2 : w.grownBy (sortWorld encC w g 0 m dk os) (some g) := grown_put dk
      refine (hcmp (nodeC x) (nodeC y) _ (nodeC_in x) (nodeC_in y) hg2).mono ?_
      rintro e w' ⟨rfl, rfl⟩
      exact ⟨rfl, 0, #[], by rw [grow_empty]; rfl⟩
    have hI := Any.insertionSortCmpFunc_s (ρ := Tryd.insI_ren) Tryd.insI encC (cfC F) 29 lb g 0 cap 0 l.length l.toArray l.toArray w w eg_walk2 hC ⟨fun _ => rfl, hHC, hg⟩ rfl (SW.start hHC) (Nat.zero_le _) (by simp) (by simp; omega)
    have e1 : l.toArray.size = l.length := by simp
    rw [e1] at hI
    refine hI.mono ?_
    rintro e w' ⟨rfl, q, os, rfl⟩
    have hS := insertionSort_S (swoC F) [] l [] l.toArray (by simp)
    rw [List.length_nil, Nat.zero_add, List.nil_append, List.append_nil] at hS
    obtain ⟨d, hd⟩ : ∃ d, d = Sort.insertionSort (ltOf (cfC F)) l.toArray 0 l.length := ⟨_, rfl⟩
    rw [← hd] at hS ⊢
    have hda : d = (S (leC (cfC F)) l).toArray := by rw [← hS]
    have hcong : S (leC (cfC F)) l = S (leC (cfN F)) l := S_cong l fun x hx y hy => by
      rw [leC_cfN]
      have : leC (cfC F) x y = leC (cfN F) (nodeC x) (nodeC y) := rfl
      rw [this, nodeC_id (hl6 x hx), nodeC_id (hl6 y hy), leC_cfN]
    rw [hcong] at hda
    subst hda
    have h2 := own_putI (enc := encC) (q := q) (os := os) (k := l.length) (ys := S (leC (cfN F)) l) h (by rw [S_len]) (Nat.le_refl _)
    rw [List.take_of_length_le (by rw [S_len]; exact Nat.le_refl _)] at h2
    have h3 : (S (leC (cfN F)) l).map encC = (S (leC (cfN F)) l).map (Value.int .i64) := List.map_congr_left fun x hx => by
      unfold encC
      rw [nodeC_id (hl6 x ((S_perm _ l).mem_iff.1 hx))]
    rw [h3] at h2
    exact ⟨rfl, h2, grown_put _⟩
set_option maxHeartbeats 1000000 in
theorem stab_z (F : Int → Nat) (lb : Array Value) (hl6 : ∀ x ∈ l, 1 ≤ x ∧ x ≤ 6) (h : w.ownsRow B 3 1 v n (l.map (Value.int .i64)))
    (hcmp : ∀ (x y : Int) W, 1 ≤ x ∧ x ≤ 6 → 1 ≤ y ∧ y ≤ 6 → w.grownBy W v.ownBlock → Calls Tryd.prog 29 (#[.int .i64 x, .int .i64 y] ++ lb) W fun e w' => e = .returned (.int .i64 (cfN F x y)) ∧ W = w') (hs : n ≤ 6) :
    Calls Tryd.prog 39 #[v, .int .i64 n, .func (.func 29) #[] lb] w fun e w' => e = .returned (.tuple #[]) ∧ w'.ownsRow B 3 1 v n ((S (leC (cfN F)) l).map (Value.int .i64)) ∧ w.grownBy w' v.ownBlock := by
  have HI := Lib.hid (ins_z F lb hl6 h hcmp (by omega))
  clear hcmp h
  go_enter Tryd.func39, Tryd.ntmps39
  have hz : ¬ (20 : Int) ≤ (n : Int) := by omega
  have hz2 : ¬ (20 : Int) < (n : Int) := by omega
  go_wp2_with fail
  go_loopg [7, 8] 0 (fun gg s7 s8 wr => s7 = .int .i64 0 ∧ s8 = .int .i64 20 ∧ wr = w)
  case atStart => exact ⟨rfl, rfl, rfl⟩
  case round =>
    obtain ⟨rfl, rfl, rfl⟩ := hrel
    go_wp2_with (go_at_call 61; refine Calls.mono HI.out ?_; rintro e w2 ⟨rfl, ho, hg⟩; have HO := Lib.hid ho; have HG := Lib.hid hg; clear ho hg)
    go_loopg [6] 0 (fun gg s6 wr => s6 = .int .i64 20 ∧ wr = w2)
    case atStart => exact ⟨rfl, rfl⟩
    case round =>
      obtain ⟨rfl, rfl⟩ := hrel
      go_wp2_with fail
      go_end0
      exact ⟨rfl, HO.out, HG.out⟩
theorem stable_z (F : Int → Nat) (lb : Array Value) (hl6 : ∀ x ∈ l, 1 ≤ x ∧ x ≤ 6) (h : w.ownsRow B 3 1 v n (l.map (Value.int .i64)))
    (hcmp : ∀ (x y : Int) W, 1 ≤ x ∧ x ≤ 6 → 1 ≤ y ∧ y ≤ 6 → w.grownBy W v.ownBlock → Calls Tryd.prog 29 (#[.int .i64 x, .int .i64 y] ++ lb) W fun e w' => e = .returned (.int .i64 (cfN F x y)) ∧ W = w') (hs : n ≤ 6) :
    Calls Tryd.prog 28 #[v, .func (.func 29) #[] lb] w fun e w' => e = .returned (.tuple #[]) ∧ w'.ownsRow B 3 1 v n ((S (leC (cfN F)) l).map (Value.int .i64)) ∧ w.grownBy w' v.ownBlock := by
  have HI := Lib.hid (stab_z F lb hl6 h hcmp hs)
  obtain ⟨A, c, hv⟩ : ∃ A c, v = .slice A n c := by
    rcases row_cases h with ⟨rfl, rfl, _⟩ | ⟨g, cap, rfl, _⟩
    · exact ⟨none, 0, rfl⟩
    · exact ⟨_, _, rfl⟩
  subst hv
  clear hcmp h
  go_enter Tryd.func28, Tryd.ntmps28
  go_wp2_with (go_at_call 39; refine Calls.mono HI.out ?_; rintro e w2 ⟨rfl, ho, hg⟩; have HO := Lib.hid ho; have HG := Lib.hid hg; clear ho hg)
  go_end0
  exact ⟨rfl, HO.out, HG.out⟩
end Go.Proofs.YtdfeiajdmmlllaaDoor
