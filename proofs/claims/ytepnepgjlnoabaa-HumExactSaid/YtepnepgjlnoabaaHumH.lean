/- Layer 11: slices.SortStableFunc at a short row of rumours' pointers. -/
import Derived.Test.YtepnepgjlnoabaaHumG
namespace Go.Proofs.Ytepnepgjlnoabaa
open Go.Proofs Stab Go.Shelf Go.RowKit Go.Lib Go.Sort Go.Maps

/-- what a library function has written into a row -/
theorem grown_put {α : Type} [Inhabited α] {enc : α → Value} {w : World} {g n : Nat} {os : Array Obj} (d : Array α) : w.grownBy (grow (putRow enc (Sort.ahead w n) g 0 d) os) (some g) := by
  refine ⟨rfl, rfl, rfl, by simp [grow, putRow, mapBlock, Sort.ahead], fun k hk hne => ?_⟩
  rw [heap_grow_old _ _ (by simpa [putRow, mapBlock, Sort.ahead] using hk)]
  have : g ≠ k := fun e => hne (by rw [e])
  simp [putRow, mapBlock, Sort.ahead, Array.getElem?_modify, this]
theorem own_putI {α : Type} [Inhabited α] {enc : α → Value} {w : World} {base g cap n q k : Nat} {e : TypeId} {os : Array Obj} {xs : List Value} {ys : List α} (h : w.ownsRow base e 1 (.slice (some ⟨g, 0, none⟩) n cap) n xs) (hy : ys.length = n) (hk : k ≤ n) :
    (grow (putRow enc (Sort.ahead w q) g 0 ys.toArray) os).ownsRow base e 1 (.slice (some ⟨g, 0, none⟩) k cap) k ((ys.take k).map enc) := by
  rcases h.2 with ⟨e0, _⟩ | ⟨g', cap', cur, e0, hb, hg, hn, hm, hs, ht⟩
  · cases e0
  · injection e0 with e1 _ e3
    injection e1 with e1
    injection e1 with e1 _
    subst e1 e3
    have hgl : g < w.heap.size := (Array.getElem?_eq_some_iff.1 hg).1
    refine ⟨by simp; omega, .inr ⟨g, cap, putCells enc 0 ys.toArray cur, rfl, hb, ?_, by omega, hm, by simp [putCells, hs], ?_⟩⟩
    · rw [heap_grow_old _ _ (by simpa [putRow, mapBlock, Sort.ahead] using hgl)]
      simp [putRow, mapBlock, Sort.ahead, Array.getElem?_modify, hg, onCells]
    · rw [Nat.mul_one]
      apply List.ext_getElem?
      intro j
      by_cases hj : j < k
      · rw [List.getElem?_take_of_lt hj, Array.getElem?_toList]
        have hjc : j < cur.size := by omega
        have hjy : j < ys.length := by omega
        simp [putCells, hjc, hjy, hj]
      · rw [List.getElem?_take_eq_none (by omega), List.getElem?_eq_none (by simp; omega)]
theorem merge_cong {α : Type} {le le' : α → α → Bool} : ∀ (a b : List α), (∀ x ∈ a, ∀ y ∈ b, le x y = le' x y) → List.merge a b le = List.merge a b le'
  | [], b, _ => by rw [List.nil_merge, List.nil_merge]
  | a, [], _ => by rw [List.merge_right, List.merge_right]
  | x :: a, y :: b, h => by
    rw [List.cons_merge_cons, List.cons_merge_cons, h x List.mem_cons_self y List.mem_cons_self]
    rw [merge_cong a (y :: b) fun x' hx' y' hy' => h x' (List.mem_cons_of_mem _ hx') y' hy', merge_cong (x :: a) b fun x' hx' y' hy' => h x' hx' y' (List.mem_cons_of_mem _ hy')]
theorem S_cong {α : Type} {le le' : α → α → Bool} (l : List α) : (∀ x ∈ l, ∀ y ∈ l, le x y = le' x y) → S le l = S le' l := by
  induction l using snoc_ind with
  | h0 => intro _; rfl
  | h1 l x ih =>
    intro h
    rw [S_snoc, S_snoc, ih fun a ha b hb => h a (by simp [ha]) b (by simp [hb])]
    refine merge_cong _ _ fun a ha b hb => h a ?_ b (by simp [List.mem_singleton.1 hb])
    rw [List.mem_append]
    exact .inl ((S_perm _ l).mem_iff.1 ha)

instance : Inhabited Rum := ⟨⟨Mem.zero, 0⟩⟩
abbrev Cell := Nat × Rum
def cfB (x y : Cell) : Int := Hm.cfR x.2 y.2
variable {w : World} {B n : Nat} {v : Value} {l : List Cell} {F : Int → Option Cell} {q0 : Cell}
/-- the two kinds of rows -/
theorem row_cases (h : w.ownsRow B 55 1 v n (l.map ptrC)) : (v = .slice none 0 0 ∧ n = 0 ∧ l = []) ∨ ∃ g cap, v = .slice (some ⟨g, 0, none⟩) n cap ∧ B ≤ g ∧ g < w.heap.size ∧ n ≤ cap ∧ cap ≤ maxLen ∧ l.length = n ∧ Holds ptrC w g 0 l.toArray := by
  by_cases hv : v = .slice none 0 0
  · have hn : n = 0 := by
      rcases h.2 with ⟨_, e⟩ | ⟨g, cap, cur, e, _⟩
      · exact e
      · rw [hv] at e; cases e
    have h1 := h.1
    rw [hn] at h1
    exact .inl ⟨hv, hn, List.length_eq_zero_iff.1 (by simpa using h1)⟩
  · exact .inr (Lib.holds_of_ownsRow h hv)
/-- a rumour that is known, whatever comes -/
noncomputable def cl (F : Int → Option Cell) (q0 q : Cell) : Cell := if F q.2.m.n = some q then q else q0
theorem cl_known (h0 : F q0.2.m.n = some q0) (q : Cell) : F (cl F q0 q).2.m.n = some (cl F q0 q) := by
  unfold cl
  split
  · assumption
  · exact h0
theorem cl_id {q : Cell} (h : F q.2.m.n = some q) : cl F q0 q = q := if_pos h
noncomputable def encC (F : Int → Option Cell) (q0 q : Cell) : Value := ptrC (cl F q0 q)
noncomputable def cfC (F : Int → Option Cell) (q0 x y : Cell) : Int := cfB (cl F q0 x) (cl F q0 y)
theorem swoB : SWO (ltOf cfB) where
  irrefl x := Hm.swoR.irrefl x.2
  trans x y z h1 h2 := Hm.swoR.trans x.2 y.2 z.2 h1 h2
  ntrans x y z h1 h2 := Hm.swoR.ntrans x.2 y.2 z.2 h1 h2
theorem swoC (F : Int → Option Cell) (q0 : Cell) : SWO (ltOf (cfC F q0)) where
  irrefl x := swoB.irrefl (cl F q0 x)
  trans x y z h1 h2 := swoB.trans (cl F q0 x) (cl F q0 y) (cl F q0 z) h1 h2
  ntrans x y z h1 h2 := swoB.ntrans (cl F q0 x) (cl F q0 y) (cl F q0 z) h1 h2
theorem eg_take1 : ∀ args w, (callFunc 21 args).run Try.prog w = .ok (.enter 21 args) w := enters_of Try.func21 (by kernel_rfl) rfl
theorem ins_nil (A : Option Addr) (c : Nat) (fv : Value) (w : World) : Calls Try.prog 31 #[.slice A 0 c, .int .i64 0, .int .i64 0, fv] w fun e w' => e = .returned (.tuple #[]) ∧ w' = w := by
  go_enter Try.func31, Try.ntmps31
  go_wp2_with fail
  go_loopg [8] 0 (fun kx s8 wr => s8 = .int .i64 1 ∧ wr = w)
  case atStart => exact ⟨rfl, rfl⟩
  case round =>
    obtain ⟨rfl, rfl⟩ := hrel
    go_wp2_with fail
    go_end0
    exact ⟨rfl, rfl⟩
/-- where every known rumour lies in its block -/
def Lies (w : World) (F : Int → Option Cell) : Prop := ∀ x q, F x = some q → At w q.1 48 (rumC q.2)
theorem ins_r (hl6 : ∀ q ∈ l, F q.2.m.n = some q) (h : w.ownsRow B 55 1 v n (l.map ptrC)) (hF : Lies w F) (hfar : ∀ x q, F x = some q → q.1 < B) (hs : n < 1000) :
    Calls Try.prog 31 #[v, .int .i64 0, .int .i64 n, .func (.func 21) #[] #[]] w fun e w' => e = .returned (.tuple #[]) ∧ w'.ownsRow B 55 1 v n ((S (leC cfB) l).map ptrC) ∧ w.grownBy w' v.ownBlock := by
  rcases row_cases h with ⟨rfl, rfl, rfl⟩ | ⟨g, cap, rfl, hB, hg, hnc, hcm, hl, hH⟩
  · refine (ins_nil _ _ _ w).mono ?_
    rintro e w' ⟨rfl, rfl⟩
    exact ⟨rfl, ⟨rfl, .inl ⟨rfl, rfl⟩⟩, World.grownBy.refl _ _⟩
  · subst hl
    by_cases hl0 : l = []
    · subst hl0
      refine (ins_nil _ _ _ w).mono ?_
      rintro e w' ⟨rfl, rfl⟩
      exact ⟨rfl, h, World.grownBy.refl _ _⟩
    obtain ⟨q0, hq0⟩ : ∃ q0, q0 ∈ l := List.exists_mem_of_ne_nil l hl0
    have h0 := hl6 q0 hq0
    have hHC : Holds (encC F q0) w g 0 l.toArray := fun j hj => by
      have h1 := hH j hj
      have hjl : j < l.length := by simpa using hj
      have e : encC F q0 l.toArray[j]! = ptrC l.toArray[j]! := by
        unfold encC
        rw [cl_id]
        have : l.toArray[j]! = l[j] := by simp [hjl]
        rw [this]
        exact hl6 _ (List.getElem_mem hjl)
      rw [e]
      exact h1
    have hC : CmpLays1 Try.prog 21 #[] (encC F q0) (cfC F q0) g 0 l.toArray.size w := fun m os dk _ x y => by
      have hg2 : w.grownBy (sortWorld (encC F q0) w g 0 m dk os) (some g) := grown_put dk
      have hx := cl_known h0 x
      have hy := cl_known h0 y
      have ax := (hF _ _ hx).grown hg2 (by intro e; injection e with e; have := hfar _ _ hx; omega)
      have ay := (hF _ _ hy).grown hg2 (by intro e; injection e with e; have := hfar _ _ hy; omega)
      refine (cmp_rum ax ay).mono ?_
      rintro e w' ⟨rfl, rfl⟩
      exact ⟨rfl, 1, #[], by rw [grow_empty]; rfl⟩
    have hI := Any.insertionSortCmpFunc_s (ρ := Try.insR_ren) Try.insR (encC F q0) (cfC F q0) 21 #[] g 0 cap 0 l.length l.toArray l.toArray w w eg_take1 hC ⟨fun _ => rfl, hHC, hg⟩ rfl (SW.start hHC) (Nat.zero_le _) (by simp) (by simp; omega)
    have e1 : l.toArray.size = l.length := by simp
    rw [e1] at hI
    refine hI.mono ?_
    rintro e w' ⟨rfl, q, os, rfl⟩
    have hS := insertionSort_S (swoC F q0) [] l [] l.toArray (by simp)
    rw [List.length_nil, Nat.zero_add, List.nil_append, List.append_nil] at hS
    obtain ⟨d, hd⟩ : ∃ d, d = Sort.insertionSort (ltOf (cfC F q0)) l.toArray 0 l.length := ⟨_, rfl⟩
    rw [← hd] at hS ⊢
    have hda : d = (S (leC (cfC F q0)) l).toArray := by rw [← hS]
    have hcong : S (leC (cfC F q0)) l = S (leC cfB) l := S_cong l fun x hx y hy => by
      have : leC (cfC F q0) x y = leC cfB (cl F q0 x) (cl F q0 y) := rfl
      rw [this, cl_id (hl6 x hx), cl_id (hl6 y hy)]
    rw [hcong] at hda
    subst hda
    have h2 := own_putI (enc := encC F q0) (q := q) (os := os) (k := l.length) (ys := S (leC cfB) l) h (by rw [S_len]) (Nat.le_refl _)
    rw [List.take_of_length_le (by rw [S_len]; exact Nat.le_refl _)] at h2
    have h3 : (S (leC cfB) l).map (encC F q0) = (S (leC cfB) l).map ptrC := List.map_congr_left fun x hx => by
      unfold encC
      rw [cl_id (hl6 x ((S_perm _ l).mem_iff.1 hx))]
    rw [h3] at h2
    exact ⟨rfl, h2, grown_put _⟩
set_option maxHeartbeats 1000000 in
theorem stab_r (hl6 : ∀ q ∈ l, F q.2.m.n = some q) (h : w.ownsRow B 55 1 v n (l.map ptrC)) (hF : Lies w F) (hfar : ∀ x q, F x = some q → q.1 < B) (hs : n ≤ 6) :
    Calls Try.prog 26 #[v, .int .i64 n, .func (.func 21) #[] #[]] w fun e w' => e = .returned (.tuple #[]) ∧ w'.ownsRow B 55 1 v n ((S (leC cfB) l).map ptrC) ∧ w.grownBy w' v.ownBlock := by
  have HI := Lib.hid (ins_r hl6 h hF hfar (by omega))
  clear hF hfar hl6 h
  go_enter Try.func26, Try.ntmps26
  have hz : ¬ (20 : Int) ≤ (n : Int) := by omega
  have hz2 : ¬ (20 : Int) < (n : Int) := by omega
  go_wp2_with fail
  go_loopg [7, 8] 0 (fun gg s7 s8 wr => s7 = .int .i64 0 ∧ s8 = .int .i64 20 ∧ wr = w)
  case atStart => exact ⟨rfl, rfl, rfl⟩
  case round =>
    obtain ⟨rfl, rfl, rfl⟩ := hrel
    go_wp2_with (go_at_call 31; refine Calls.mono HI.out ?_; rintro e w2 ⟨rfl, ho, hg⟩; have HO := Lib.hid ho; have HG := Lib.hid hg; clear ho hg)
    go_loopg [6] 0 (fun gg s6 wr => s6 = .int .i64 20 ∧ wr = w2)
    case atStart => exact ⟨rfl, rfl⟩
    case round =>
      obtain ⟨rfl, rfl⟩ := hrel
      go_wp2_with fail
      go_end0
      exact ⟨rfl, HO.out, HG.out⟩
theorem stable_r (hl6 : ∀ q ∈ l, F q.2.m.n = some q) (h : w.ownsRow B 55 1 v n (l.map ptrC)) (hF : Lies w F) (hfar : ∀ x q, F x = some q → q.1 < B) (hs : n ≤ 6) :
    Calls Try.prog 20 #[v, .func (.func 21) #[] #[]] w fun e w' => e = .returned (.tuple #[]) ∧ w'.ownsRow B 55 1 v n ((S (leC cfB) l).map ptrC) ∧ w.grownBy w' v.ownBlock := by
  have HI := Lib.hid (stab_r hl6 h hF hfar hs)
  obtain ⟨A, c, hv⟩ : ∃ A c, v = .slice A n c := by
    rcases row_cases h with ⟨rfl, rfl, _⟩ | ⟨g, cap, rfl, _⟩
    · exact ⟨none, 0, rfl⟩
    · exact ⟨_, _, rfl⟩
  subst hv
  clear hF hfar hl6 h
  go_enter Try.func20, Try.ntmps20
  go_wp2_with (go_at_call 26; refine Calls.mono HI.out ?_; rintro e w2 ⟨rfl, ho, hg⟩; have HO := Lib.hid ho; have HG := Lib.hid hg; clear ho hg)
  go_end0
  exact ⟨rfl, HO.out, HG.out⟩
end Go.Proofs.Ytepnepgjlnoabaa
