/- Layer 13: slices.Clone, Sort, Compact, DeleteFunc, SortStableFunc at rows of integers, by the shelf's contracts. -/
import Derived.Ground.Names2Prog
import Derived.Ground.SlgfProg
import Derived.Ground.SlgmProg
import Derived.Ground.SlsfProg
import Derived.Shelf.Slices.Clone
import Derived.Shelf.Slices.CompactI
import Derived.Shelf.SlicesE.DeleteFunc
import Derived.Shelf.SortM.Plain
import Derived.Shelf.SortM.SortNone
import Derived.Shelf.SlSortCmp.Insertion1
import Derived.Sort.OwnSortedInts
import Derived.Lib.OwnBridge
import Derived.Test.YtdfeiajdmmlllaaDoorRingM
namespace Go.Proofs
open Go.RowKit Go.Sort Go.Shelf
shelf_lay Lays2.n15 Nm2 15 at Tryd as Tryd.cloneI
shelf_lay Lays2.n20 Nm2 20 at Tryd as Tryd.compI
shelf_lay_g SlLaysH.n10 Slgf 10 at Tryd 24 as Tryd.delI
shelf_lay_g SlLaysM.n5 Slgm 5 at Tryd 23 as Tryd.sortI
shelf_lay_g SlLaysF.n20 Slsf 20 at Tryd 61 as Tryd.insI
end Go.Proofs
namespace Go.Proofs.YtdfeiajdmmlllaaDoor
open Go.Proofs Stab Go.Shelf Go.RowKit Go.Lib Go.Sort

/-- an integer's cell -/
def encN (n : Int) : List Value := [.int .i64 n]
theorem flat_encN (l : List Int) : l.flatMap encN = l.map (Value.int .i64) := by
  induction l with
  | nil => rfl
  | cons x r ih => rw [List.flatMap_cons, ih]; rfl
theorem own_ofRow {w : World} {base : Nat} {e : TypeId} {size : Nat} {v : Value} {n : Nat} {xs : List Value} (h : w.ownsRow base e size v n xs) : Own w base e size v n xs := by
  refine ⟨h.1, ?_⟩
  rcases h.2 with h0 | ⟨g, cap, cur, rfl, hb, hg, hn, hm, hs, ht⟩
  · exact .inl h0
  · exact .inr ⟨g, cap, cur.toList, (0, 0), rfl, hb, by simpa using hg, fun i _ => by simp, hn, hm, by simpa using hs, ht⟩
/-- what a library function has written into a row -/
theorem grown_put {α : Type} [Inhabited α] {enc : α → Value} {w : World} {g n : Nat} {os : Array Obj} (d : Array α) : w.grownBy (grow (putRow enc (Sort.ahead w n) g 0 d) os) (some g) := by
  refine ⟨rfl, rfl, rfl, by simp [grow, putRow, mapBlock, Sort.ahead], fun k hk hne => ?_⟩
  rw [heap_grow_old _ _ (by simpa [putRow, mapBlock, Sort.ahead] using hk)]
  have : g ≠ k := fun e => hne (by rw [e])
  simp [putRow, mapBlock, Sort.ahead, Array.getElem?_modify, this]
theorem own_putI {α : Type} [Inhabited α] {enc : α → Value} {w : World} {base g cap n q k : Nat} {e : TypeId} {os : Array Obj} {xs : List Value} {ys : List α} (h : w.ownsRow base e 1 (.slice (some ⟨g, 0, none⟩) n cap) n xs) (hy : ys.length = n) (hk : k ≤ n) :
    (grow (putRow enc (Sort.ahead w q) g 0 ys.toArray) os).ownsRow base e 1 (.slice (some ⟨g, 0, none⟩) k cap) k ((ys.take k).map enc) := by
  rcases h.2 with ⟨e0, _⟩ | ⟨g', cap', cur, e0, hb, hg, hn, hm, hs, ht⟩
  · cases e0
  · injection e0 with e1 _ e3
    injection e1 with e1
    injection e1 with e1 _
    subst e1 e3
    have hgl : g < w.heap.size := (Array.getElem?_eq_some_iff.1 hg).1
    refine ⟨by simp; omega, .inr ⟨g, cap, putCells enc 0 ys.toArray cur, rfl, hb, ?_, by omega, hm, by simp [putCells, hs], ?_⟩⟩
    · rw [heap_grow_old _ _ (by simpa [putRow, mapBlock, Sort.ahead] using hgl)]
      simp [putRow, mapBlock, Sort.ahead, Array.getElem?_modify, hg, onCells]
    · rw [Nat.mul_one]
      apply List.ext_getElem?
      intro j
      by_cases hj : j < k
      · rw [List.getElem?_take_of_lt hj, Array.getElem?_toList]
        have hjc : j < cur.size := by omega
        have hjy : j < ys.length := by omega
        simp [putCells, hjc, hjy, hj]
      · rw [List.getElem?_take_eq_none (by omega), List.getElem?_eq_none (by simp; omega)]
variable {w : World} {B n : Nat} {v : Value} {l : List Int}
/-- the two kinds of rows -/
theorem row_cases (h : w.ownsRow B 3 1 v n (l.map (Value.int .i64))) : (v = .slice none 0 0 ∧ n = 0 ∧ l = []) ∨ ∃ g cap, v = .slice (some ⟨g, 0, none⟩) n cap ∧ B ≤ g ∧ g < w.heap.size ∧ n ≤ cap ∧ cap ≤ maxLen ∧ l.length = n ∧ Holds (Value.int .i64) w g 0 l.toArray := by
  by_cases hv : v = .slice none 0 0
  · have hn : n = 0 := by
      rcases h.2 with ⟨_, e⟩ | ⟨g, cap, cur, e, _⟩
      · exact e
      · rw [hv] at e; cases e
    have h1 := h.1
    rw [hn] at h1
    exact .inl ⟨hv, hn, List.length_eq_zero_iff.1 (by simpa using h1)⟩
  · exact .inr (Lib.holds_of_ownsRow h hv)
theorem clone_z {A : Option Addr} {c : Nat} (hn : n = l.length) (hE : EncIn encN 1 w A l) (hs : n < 1000000) : Calls Tryd.prog 22 #[.slice A n c] w fun e w' => ∃ v', e = .returned v' ∧ w'.ownsRow w.heap.size 3 1 v' n (l.map (Value.int .i64)) ∧ Below w.heap.size w w' := by
  subst hn
  cases A with
  | none =>
    have h0 : l = [] := List.length_eq_zero_iff.1 (by
      refine Classical.byContradiction fun h => ?_
      obtain ⟨_, _, e, _⟩ := hE (by omega)
      cases e)
    subst h0
    refine (Any.slices_Clone_int_nil (ρ := Tryd.cloneI_ren) Tryd.cloneI 0 c w).mono ?_
    rintro e w' ⟨rfl, rfl⟩
    exact ⟨_, rfl, ⟨rfl, .inl ⟨rfl, rfl⟩⟩, Below.refl _ _⟩
  | some a =>
    by_cases h0 : 0 < l.length
    · obtain ⟨g, off, e, hlt, hc⟩ := hE h0
      injection e with e
      subst e
      refine (Any.slices_Clone_int (ρ := Tryd.cloneI_ren) Tryd.cloneI g off l.length c l w (Nat.le_refl _) (by omega) (fun j hj => ?_)).mono ?_
      · have h := hc j hj 0 _ rfl
        rw [Nat.mul_one, Nat.add_zero] at h
        rw [h]
        simp [hj]
      · rintro e w' ⟨v', h1, h2, _, h4⟩
        rw [List.take_length] at h2
        exact ⟨v', h1, h2, h4⟩
    · have h0 : l = [] := List.length_eq_zero_iff.1 (by omega)
      subst h0
      refine (Any.slices_Clone_int_zero (ρ := Tryd.cloneI_ren) Tryd.cloneI a c w).mono ?_
      rintro e w' ⟨v', h1, h2, _, h4⟩
      exact ⟨v', h1, h2, h4⟩
theorem sort_z (h : w.ownsRow B 3 1 v n (l.map (Value.int .i64))) (hs : n < 1000000) : Calls Tryd.prog 23 #[v] w fun e w' => e = .returned (.tuple #[]) ∧ w'.ownsRow B 3 1 v n ((l.mergeSort fun x y => decide (x ≤ y)).map (Value.int .i64)) ∧ w.grownBy w' v.ownBlock := by
  rcases row_cases h with ⟨rfl, rfl, rfl⟩ | ⟨g, cap, rfl, hB, hg, hnc, hcm, hl, hH⟩
  · refine (AnyM.slices_Sort_int_none (ρ := Tryd.sortI_ren) Tryd.sortI none 0 w).mono ?_
    rintro e w' ⟨rfl, rfl⟩
    exact ⟨rfl, ⟨by simp, .inl ⟨rfl, rfl⟩⟩, World.grownBy.refl _ _⟩
  · subst hl
    refine (AnyM.slices_Sort_int (ρ := Tryd.sortI_ren) Tryd.sortI g 0 cap l w hH hg (by omega)).mono ?_
    rintro e w' ⟨rfl, q, os, rfl⟩
    have h2 := own_putI (enc := Value.int .i64) (q := q) (os := os) (k := l.length) (ys := l.mergeSort fun x y => decide (x ≤ y)) h (by simp) (Nat.le_refl _)
    rw [List.take_of_length_le (by simp)] at h2
    exact ⟨rfl, h2, grown_put _⟩
theorem comp_z (h : w.ownsRow B 3 1 v n (l.map (Value.int .i64))) (hs : n < 1000000) : Calls Tryd.prog 25 #[v] w fun e w' => ∃ v' m, e = .returned v' ∧ w'.ownsRow B 3 1 v' m ((Lib.compact l).map (Value.int .i64)) ∧ w.grownBy w' v.ownBlock ∧ v'.ownBlock = v.ownBlock ∧ m ≤ n := by
  rcases row_cases h with ⟨rfl, rfl, rfl⟩ | ⟨g, cap, rfl, hB, hg, hnc, hcm, hl, hH⟩
  · refine (Any.slices_Compact_int_empty (ρ := Tryd.compI_ren) Tryd.compI none 0 w).mono ?_
    rintro e w' ⟨rfl, rfl⟩
    exact ⟨_, 0, rfl, ⟨rfl, .inl ⟨rfl, rfl⟩⟩, World.grownBy.refl _ _, rfl, Nat.le_refl _⟩
  · subst hl
    have hle := Lib.compact_length_le l
    refine (Any.slices_Compact_int (ρ := Tryd.compI_ren) Tryd.compI g 0 cap l w hH (by omega) hnc).mono ?_
    rintro e w' ⟨rfl, q, rfl⟩
    have h2 := own_putI (enc := Value.int .i64) (q := q) (os := #[]) (k := (Lib.compact l).length) (ys := Lib.compact l ++ List.replicate (l.length - (Lib.compact l).length) 0) h (by simp; omega) hle
    rw [List.take_left, grow_empty] at h2
    have h3 := grown_put (enc := Value.int .i64) (w := w) (g := g) (n := q) (os := #[]) (Lib.compact l ++ List.replicate (l.length - (Lib.compact l).length) 0).toArray
    rw [grow_empty] at h3
    exact ⟨_, _, rfl, h2, h3, rfl, hle⟩
theorem eg_walk1 : ∀ args w, (callFunc 26 args).run Tryd.prog w = .ok (.enter 26 args) w := enters_of Tryd.func26 (by kernel_rfl) rfl
theorem eg_walk2 : ∀ args w, (callFunc 29 args).run Tryd.prog w = .ok (.enter 29 args) w := enters_of Tryd.func29 (by kernel_rfl) rfl
def isNd (n : Int) : Bool := decide (1 ≤ n ∧ n ≤ 6)
theorem walk1_gives (n : Int) (W : World) : FnGives Tryd.prog 26 #[] #[.int .i64 n] (.bool (!isNd n)) W := (walk1_any n W).mono fun _ _ ⟨h1, h2⟩ => ⟨h1, 0, h2.symm⟩
theorem idx_nil (fv : Value) (w : World) : Calls Tryd.prog 38 #[.slice none 0 0, fv] w fun e w' => e = .returned (.int .i64 (-1)) ∧ w = w' := by
  go_enter Tryd.func38, Tryd.ntmps38
  go_wp2_with fail
  go_loopg [8] 0 (fun gg s8 wr => s8 = .int .i64 0 ∧ wr = w)
  case atStart => exact ⟨rfl, rfl⟩
  case round =>
    obtain ⟨rfl, rfl⟩ := hrel
    go_wp2_with fail
    go_ret
    exact ⟨rfl, rfl⟩
theorem del_nil (fv : Value) (w : World) : Calls Tryd.prog 24 #[.slice none 0 0, fv] w fun e w' => e = .returned (.slice none 0 0) ∧ w = w' := by
  have H := Lib.hid (idx_nil fv w)
  go_enter Tryd.func24, Tryd.ntmps24
  go_wp2_with (go_at_call 38; refine Calls.mono H.out ?_; rintro e w' ⟨rfl, rfl⟩)
  go_ret
  exact ⟨rfl, rfl⟩
theorem del_z (h : w.ownsRow B 3 1 v n (l.map (Value.int .i64))) (hs : n < 1000000) : Calls Tryd.prog 24 #[v, .func (.func 26) #[] #[]] w fun e w' => ∃ v' m, e = .returned v' ∧ w'.ownsRow B 3 1 v' m ((l.filter isNd).map (Value.int .i64)) ∧ w.grownBy w' v.ownBlock ∧ v'.ownBlock = v.ownBlock ∧ m ≤ n := by
  rcases row_cases h with ⟨rfl, rfl, rfl⟩ | ⟨g, cap, rfl, hB, hg, hnc, hcm, hl, hH⟩
  · refine (del_nil _ w).mono ?_
    rintro e w' ⟨rfl, rfl⟩
    exact ⟨_, 0, rfl, ⟨rfl, .inl ⟨rfl, rfl⟩⟩, World.grownBy.refl _ _, rfl, Nat.le_refl _⟩
  · subst hl
    have hle : (l.filter isNd).length ≤ l.length := List.length_filter_le _ _
    have hd := AnyE.slices_DeleteFunc (ρ := Tryd.delI_ren) Tryd.delI (Value.int .i64) (fun _ => rfl) (fun n => !isNd n) 26 #[] eg_walk1 0 (fun w => by kernel_rfl) g 0 cap l.toArray w (fun W x _ => walk1_gives x W) (fun _ _ _ x _ => walk1_gives x _) hH (by simp; omega) (by simpa using hnc)
    simp only [Bool.not_not] at hd
    have e1 : l.toArray.size = l.length := by simp
    rw [e1] at hd
    refine hd.mono ?_
    rintro e w' ⟨rfl, q, rfl⟩
    have h2 := own_putI (enc := Value.int .i64) (q := q) (os := #[]) (k := (l.filter isNd).length) (ys := l.filter isNd ++ List.replicate (l.length - (l.filter isNd).length) 0) h (by simp; omega) hle
    rw [List.take_left, grow_empty] at h2
    have h3 := grown_put (enc := Value.int .i64) (w := w) (g := g) (n := q) (os := #[]) (l.filter isNd ++ List.replicate (l.length - (l.filter isNd).length) 0).toArray
    rw [grow_empty] at h3
    exact ⟨_, _, rfl, h2, h3, rfl, hle⟩
end Go.Proofs.YtdfeiajdmmlllaaDoor
