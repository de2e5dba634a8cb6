/- The stable merge of slices.SortStableFunc: exchanges, rotations, the short runs. -/
import Derived.Test.YtefbllhpibfojaaDoorChecked
import Derived.Sort.Defs
import Derived.Shelf.SlSortCmp.KitK
import Derived.Sort.WalkB2
import Derived.Sort.WalkB12
import Derived.Deep.LoopGhost
namespace Go.Proofs.YtefbllhpibfojaaDoor
namespace Stab
variable {α : Type} (le : α → α → Bool)

theorem merge_split : ∀ (X1 Y1 X2 Y2 : List α), (∀ x ∈ X1, ∀ y ∈ Y2, le x y = true) → (∀ x ∈ X2, ∀ y ∈ Y1, le x y = false) → List.merge (X1 ++ X2) (Y1 ++ Y2) le = List.merge X1 Y1 le ++ List.merge X2 Y2 le
  | [], [], X2, Y2, _, _ => by simp
  | [], y :: Y1, [], Y2, _, _ => by simp
  | [], y :: Y1, x :: X2, Y2, h1, h2 => by
    have ih := merge_split [] Y1 (x :: X2) Y2 (fun _ hx => by cases hx) (fun x' hx y' hy => h2 x' hx y' (List.mem_cons_of_mem _ hy))
    rw [List.nil_append, List.nil_merge] at ih
    rw [List.nil_append, List.nil_merge, List.cons_append, List.cons_merge_cons, if_neg (by rw [h2 x List.mem_cons_self y List.mem_cons_self]; simp), ih]
    rfl
  | x :: X1, [], X2, [], _, _ => by simp
  | x :: X1, [], X2, y :: Y2, h1, h2 => by
    have ih := merge_split X1 [] X2 (y :: Y2) (fun x' hx => h1 x' (List.mem_cons_of_mem _ hx)) (fun _ _ _ hy => by cases hy)
    rw [List.nil_append, List.merge_right] at ih
    rw [List.nil_append, List.merge_right, List.cons_append, List.cons_merge_cons, if_pos (h1 x List.mem_cons_self y List.mem_cons_self), ih]
    rfl
  | x :: X1, y :: Y1, X2, Y2, h1, h2 => by
    rw [List.cons_append, List.cons_append, List.cons_merge_cons, List.cons_merge_cons]
    by_cases h : le x y = true
    · rw [if_pos h, if_pos h]
      exact congrArg (x :: ·) (merge_split X1 (y :: Y1) X2 Y2 (fun x' hx => h1 x' (List.mem_cons_of_mem _ hx)) h2)
    · rw [if_neg h, if_neg h]
      exact congrArg (y :: ·) (merge_split (x :: X1) Y1 X2 Y2 h1 (fun x' hx y' hy => h2 x' hx y' (List.mem_cons_of_mem _ hy)))
termination_by X1 Y1 => X1.length + Y1.length
/-- one more behind -/
theorem merge_one_right (X : List α) (y : α) (i : Nat) (h1 : ∀ x ∈ X.take i, le x y = true) (h2 : ∀ x ∈ X.drop i, le x y = false) : List.merge X [y] le = X.take i ++ y :: X.drop i := by
  have h := merge_split le (X.take i) [] (X.drop i) [y] (fun x hx y' hy => by rw [List.mem_singleton.1 hy]; exact h1 x hx) (fun _ _ _ hy => by cases hy)
  rw [List.take_append_drop, List.nil_append, List.merge_right] at h
  rw [h]
  congr 1
  have h' := merge_split le [] [y] (X.drop i) [] (fun _ hx => by cases hx) (fun x hx y' hy => by rw [List.mem_singleton.1 hy]; exact h2 x hx)
  simpa using h'
/-- one more ahead -/
theorem merge_one_left (x : α) (Y : List α) (i : Nat) (h1 : ∀ y ∈ Y.take i, le x y = false) (h2 : ∀ y ∈ Y.drop i, le x y = true) : List.merge [x] Y le = Y.take i ++ x :: Y.drop i := by
  have h := merge_split le [] (Y.take i) [x] (Y.drop i) (fun _ hx => by cases hx) (fun x' hx y hy => by rw [List.mem_singleton.1 hx]; exact h1 y hy)
  rw [List.take_append_drop, List.nil_append, List.nil_merge] at h
  rw [h]
  congr 1
  have h' := merge_split le [x] [] [] (Y.drop i) (fun x' hx y hy => by rw [List.mem_singleton.1 hx]; exact h2 y hy) (fun _ hx => by cases hx)
  simpa using h'
section
variable {le} (ht : ∀ a b c, le a b = true → le b c = true → le a c = true) (ho : ∀ a b, le a b = true ∨ le b a = true)
include ht ho
theorem merge_assoc : ∀ (A B C : List α), List.merge (List.merge A B le) C le = List.merge A (List.merge B C le) le
  | [], B, C => by simp
  | A, [], C => by simp
  | A, B, [] => by simp
  | a :: A, b :: B, c :: C => by
    by_cases h1 : le a b = true
    · have e1 : List.merge (a :: A) (b :: B) le = a :: List.merge A (b :: B) le := by rw [List.cons_merge_cons, if_pos h1]
      by_cases h2 : le a c = true
      · have ih := merge_assoc A (b :: B) (c :: C)
        rw [e1, List.cons_merge_cons, if_pos h2, ih]
        by_cases h3 : le b c = true
        · rw [List.cons_merge_cons le b c, if_pos h3, List.cons_merge_cons le a b, if_pos h1]
        · rw [List.cons_merge_cons le b c, if_neg h3, List.cons_merge_cons le a c, if_pos h2]
      · have h3 : ¬ le b c = true := fun h => h2 (ht a b c h1 h)
        have ih := merge_assoc (a :: A) (b :: B) C
        rw [List.cons_merge_cons le b c, if_neg h3, List.cons_merge_cons le a c, if_neg h2, ← ih, e1, List.cons_merge_cons le a c, if_neg h2]
    · have e1 : List.merge (a :: A) (b :: B) le = b :: List.merge (a :: A) B le := by rw [List.cons_merge_cons, if_neg h1]
      by_cases h2 : le b c = true
      · have ih := merge_assoc (a :: A) B (c :: C)
        rw [e1, List.cons_merge_cons, if_pos h2, ih, List.cons_merge_cons le b c, if_pos h2, List.cons_merge_cons le a b, if_neg h1]
      · have h3 : ¬ le a c = true := fun h => by
          have h4 : le c b = true := by
            rcases ho b c with h | h
            · exact absurd h h2
            · exact h
          exact h1 (ht a c b h h4)
        have ih := merge_assoc (a :: A) (b :: B) C
        rw [List.cons_merge_cons le b c, if_neg h2, List.cons_merge_cons le a c, if_neg h3, ← ih, e1, List.cons_merge_cons le b c, if_neg h2]
termination_by A B C => A.length + B.length + C.length
end
theorem snoc_ind {p : List α → Prop} (h0 : p []) (h1 : ∀ l x, p l → p (l ++ [x])) (l : List α) : p l := by
  have h : ∀ r : List α, p r.reverse := fun r => by
    induction r with
    | nil => exact h0
    | cons x r ih => rw [List.reverse_cons]; exact h1 _ x ih
  have := h l.reverse
  rwa [List.reverse_reverse] at this
/-- the stable sort: one after the other, each behind its equals -/
def S (l : List α) : List α := l.foldl (fun acc x => List.merge acc [x] le) []
theorem S_snoc (l : List α) (x : α) : S le (l ++ [x]) = List.merge (S le l) [x] le := by
  unfold S
  rw [List.foldl_append]
  rfl
theorem S_len : ∀ (l : List α), (S le l).length = l.length := by
  intro l
  induction l using snoc_ind with
  | h0 => rfl
  | h1 l x ih => rw [S_snoc, List.length_merge, ih, List.length_append]
section
variable {le} (ht : ∀ a b c, le a b = true → le b c = true → le a c = true) (ho : ∀ a b, le a b = true ∨ le b a = true)
include ht ho
theorem S_append (A B : List α) : S le (A ++ B) = List.merge (S le A) (S le B) le := by
  induction B using snoc_ind with
  | h0 => simp [S]
  | h1 B x ih => rw [← List.append_assoc, S_snoc, ih, S_snoc, merge_assoc ht ho]
theorem S_sorted (l : List α) : (S le l).Pairwise fun a b => le a b = true := by
  induction l using snoc_ind with
  | h0 => simp [S]
  | h1 l x ih =>
    rw [S_snoc]
    exact List.pairwise_merge (le := le) (fun a b c => ht a b c) (fun a b => by simpa using ho a b) _ _ ih (List.pairwise_singleton _ _)
theorem merge_sorted {X Y : List α} (hX : X.Pairwise fun a b => le a b = true) (hY : Y.Pairwise fun a b => le a b = true) : (List.merge X Y le).Pairwise fun a b => le a b = true :=
  List.pairwise_merge (le := le) (fun a b c => ht a b c) (fun a b => by simpa using ho a b) _ _ hX hY
end
theorem S_perm (l : List α) : (S le l).Perm l := by
  induction l using snoc_ind with
  | h0 => simp [S]
  | h1 l x ih =>
    rw [S_snoc]
    exact (List.merge_perm_append le).trans (ih.append_right _)
end Stab
end Go.Proofs.YtefbllhpibfojaaDoor

namespace Go.Proofs.YtefbllhpibfojaaDoor
open Go.Sort
namespace Stab
variable {α : Type}

theorem swp_lists [Inhabited α] {d : Array α} {A B C : List α} {x y : α} {i j : Nat} (h : d.toList = A ++ x :: (B ++ y :: C)) (hi : i = A.length) (hj : j = A.length + 1 + B.length) : (swp d i j).toList = A ++ y :: (B ++ x :: C) := by
  subst hi hj
  have h1 : d[A.length]! = x := by
    rw [← Array.getElem!_toList, h]
    simp
  have h2 : d[A.length + 1 + B.length]! = y := by
    rw [← Array.getElem!_toList, h]
    simp [Nat.add_assoc, Nat.add_comm 1]
  unfold swp
  rw [h1, h2, Array.toList_setIfInBounds, Array.toList_setIfInBounds, h]
  rw [List.set_append_right _ _ (Nat.le_refl _), Nat.sub_self, List.set_cons_zero, List.set_append_right _ _ (by omega)]
  have e : A.length + 1 + B.length - A.length = B.length + 1 := by omega
  rw [e, List.set_cons_succ, List.set_append_right _ _ (Nat.le_refl _), Nat.sub_self, List.set_cons_zero]
theorem swp_sz [Inhabited α] (d : Array α) (i j : Nat) : (swp d i j).size = d.size := by
  unfold swp
  simp
/-- what stands at a place -/
theorem at_lists [Inhabited α] {d : Array α} {A C : List α} {x : α} {i : Nat} (h : d.toList = A ++ x :: C) (hi : i = A.length) : d[i]! = x := by
  subst hi
  rw [← Array.getElem!_toList, h]
  simp
/-- one round of an exchange of two runs -/
theorem swap_round [Inhabited α] {d : Array α} {P U1 U2 R V1 V2 Q : List α} {x y : α} {i j : Nat} (h : d.toList = P ++ (V1 ++ x :: U2) ++ R ++ (U1 ++ y :: V2) ++ Q) (hi : i = P.length + V1.length) (hj : j = P.length + V1.length + 1 + U2.length + R.length + U1.length) :
    (swp d i j).toList = P ++ ((V1 ++ [y]) ++ U2) ++ R ++ ((U1 ++ [x]) ++ V2) ++ Q := by
  have h' : d.toList = (P ++ V1) ++ x :: ((U2 ++ R ++ U1) ++ y :: (V2 ++ Q)) := by rw [h]; simp
  rw [swp_lists h' (by simp [hi]) (by simp [hj]; omega)]
  simp
section
variable (le : α → α → Bool) (ht : ∀ a b c, le a b = true → le b c = true → le a c = true)
include ht
/-- where the last of one run is not above the first of another, none is -/
theorem le_all {X Y : List α} (hX : X.Pairwise fun a b => le a b = true) (hY : Y.Pairwise fun a b => le a b = true) (ho : ∀ a, le a a = true) (h : ∀ x y, X.getLast? = some x → Y.head? = some y → le x y = true) : ∀ x ∈ X, ∀ y ∈ Y, le x y = true := by
  intro x hx y hy
  obtain ⟨y0, Y', rfl⟩ : ∃ y0 Y', Y = y0 :: Y' := by
    cases Y with
    | nil => cases hy
    | cons a b => exact ⟨a, b, rfl⟩
  obtain ⟨X', xl, rfl⟩ : ∃ X' xl, X = X' ++ [xl] := by
    rcases List.eq_nil_or_concat X with rfl | ⟨X', xl, rfl⟩
    · cases hx
    · exact ⟨X', xl, by simp⟩
  have h0 := h xl y0 (by simp) rfl
  have h1 : le x xl = true := by
    rcases List.mem_append.1 hx with hx | hx
    · exact (List.pairwise_append.1 hX).2.2 x hx xl (by simp)
    · rw [List.mem_singleton.1 hx]; exact ho xl
  have h2 : le y0 y = true := by
    rcases List.mem_cons.1 hy with rfl | hy
    · exact ho _
    · exact (List.pairwise_cons.1 hY).1 y hy
  exact ht _ _ _ h1 (ht _ _ _ h0 h2)
/-- where the first of one run is above the last of another, all are -/
theorem gt_all {X Y : List α} (hX : X.Pairwise fun a b => le a b = true) (hY : Y.Pairwise fun a b => le a b = true) (ho : ∀ a, le a a = true) (h : ∀ x y, X.head? = some x → Y.getLast? = some y → le x y = false) : ∀ x ∈ X, ∀ y ∈ Y, le x y = false := by
  intro x hx y hy
  obtain ⟨x0, X', rfl⟩ : ∃ y0 Y', X = y0 :: Y' := by
    cases X with
    | nil => cases hx
    | cons a b => exact ⟨a, b, rfl⟩
  obtain ⟨Y', yl, rfl⟩ : ∃ X' xl, Y = X' ++ [xl] := by
    rcases List.eq_nil_or_concat Y with rfl | ⟨X', xl, rfl⟩
    · cases hy
    · exact ⟨X', xl, by simp⟩
  have h0 := h x0 yl rfl (by simp)
  rw [Bool.eq_false_iff] at h0 ⊢
  intro h3
  have h1 : le y yl = true := by
    rcases List.mem_append.1 hy with hy | hy
    · exact (List.pairwise_append.1 hY).2.2 y hy yl (by simp)
    · rw [List.mem_singleton.1 hy]; exact ho yl
  have h2 : le x0 x = true := by
    rcases List.mem_cons.1 hx with rfl | hx
    · exact ho _
    · exact (List.pairwise_cons.1 hX).1 x hx
  exact h0 (ht _ _ _ h2 (ht _ _ _ h3 h1))
/-- the parting of a merge: the first runs in front, the last runs behind -/
theorem merge_part {X1 X2 Y1 Y2 : List α} (hX : (X1 ++ X2).Pairwise fun a b => le a b = true) (hY : (Y1 ++ Y2).Pairwise fun a b => le a b = true) (ho : ∀ a, le a a = true)
    (h1 : ∀ x y, X1.getLast? = some x → Y2.head? = some y → le x y = true) (h2 : ∀ x y, X2.head? = some x → Y1.getLast? = some y → le x y = false) : List.merge (X1 ++ X2) (Y1 ++ Y2) le = List.merge X1 Y1 le ++ List.merge X2 Y2 le :=
  merge_split le X1 Y1 X2 Y2 (le_all le ht (List.pairwise_append.1 hX).1 (List.pairwise_append.1 hY).2.1 ho h1) (gt_all le ht (List.pairwise_append.1 hX).2.1 (List.pairwise_append.1 hY).1 ho h2)
end
end Stab
end Go.Proofs.YtefbllhpibfojaaDoor

namespace Go.Proofs.YtefbllhpibfojaaDoor
open Go.Proofs Stab Go.Shelf Go.RowKit Go.Lib Go.Sort
variable {α : Type} [Inhabited α]

theorem hid' {p : Prop} (h : p) : RowKit.Hid p := h
set_option maxRecDepth 1000000 in
set_option maxHeartbeats 400000 in
theorem swapRange_any (k : Nat) (aE : ∀ w, (isAgg 38).run Tryd.prog w = .ok true w) (zE : ∀ w, (Go.sizeOf 38).run Tryd.prog w = .ok k w) (enc : α → List Value) (g : Nat) (cb : Array Value) (blk off cap : Nat) (d0 d : Array α) (w0 w : World)
    (R : RowK enc k w0 blk off d0) (hs : d0.size = d.size) (S : SWK enc k w0 blk off d w) (hsz : d.size < 4611686018427387904) (A U M V Q : List α) (hd : d.toList = A ++ U ++ M ++ V ++ Q) (hUV : U.length = V.length) :
    Calls Tryd.prog 103 #[.slice (some ⟨blk, off, none⟩) d.size cap, .int .i64 (A.length : Nat), .int .i64 ((A.length + U.length + M.length : Nat)), .int .i64 (U.length : Nat), .func (.func g) #[] cb] w fun e w' => e = .returned (.tuple #[]) ∧ ∃ d' : Array α, d'.size = d.size ∧ d'.toList = A ++ V ++ M ++ U ++ Q ∧ SWK enc k w0 blk off d' w' := by
  have S0 : Aside (SWK enc k w0 blk off d w) := S
  clear S
  go_enter Tryd.func103, Tryd.ntmps103
  obtain ⟨a, ha⟩ : ∃ a, a = A.length := ⟨_, rfl⟩
  obtain ⟨b, hb⟩ : ∃ b, b = A.length + U.length + M.length := ⟨_, rfl⟩
  obtain ⟨n, hn⟩ : ∃ n, n = U.length := ⟨_, rfl⟩
  rw [← hb, ← hn, ← ha]
  have hsum : d.size = a + n + M.length + n + Q.length := by
    have := congrArg List.length hd
    simp only [List.length_append, Array.length_toList] at this
    omega
  have hbn : b = a + n + M.length := by omega
  have HD := hid' hd
  have HE := hid' (And.intro ha (And.intro hb (And.intro hn hUV)))
  have hb1 : a + n ≤ b := by omega
  have hb2 : b + n ≤ d.size := by omega
  clear hd ha hb hn hUV hsum hbn
  go_wp2
  go_loopg [10] n (fun kx s10 wr => ∃ (i : Nat) (dk : Array α) (U1 U2 V1 V2 : List α), s10 = .int .i64 i ∧ Hid (U = U1 ++ U2 ∧ V = V1 ++ V2 ∧ U1.length = i ∧ V1.length = i) ∧ i ≤ n ∧ n - i ≤ kx ∧ dk.size = d.size ∧ Hid (dk.toList = A ++ (V1 ++ U2) ++ M ++ (U1 ++ V2) ++ Q) ∧ Aside (SWK enc k w0 blk off dk wr))
  case atStart => exact ⟨0, d, [], U, [], V, rfl, ⟨rfl, rfl, rfl, rfl⟩, Nat.zero_le _, Nat.le_refl _, rfl, HD.out, S0⟩
  case round =>
    clear S0
    obtain ⟨i, dk, U1, U2, V1, V2, rfl, HU, hin, hkx, hds, HL, S1⟩ := hrel
    by_cases hlt : i < n
    · have hltz : (i : Int) < (n : Int) := by omega
      obtain ⟨x, U3, hU3⟩ : ∃ x U3, U2 = x :: U3 := by
        cases U2 with
        | nil => exfalso; have h1 := HU.out; have h2 := HE.out; have h3 := congrArg List.length h1.1; have h4 := congrArg List.length h1.2.1; simp only [List.length_append, List.length_nil] at h3 h4; omega
        | cons x r => exact ⟨x, r, rfl⟩
      obtain ⟨y, V3, hV3⟩ : ∃ x U3, V2 = x :: U3 := by
        cases V2 with
        | nil => exfalso; have h1 := HU.out; have h2 := HE.out; have h3 := congrArg List.length h1.1; have h4 := congrArg List.length h1.2.1; simp only [List.length_append, List.length_nil] at h3 h4; omega
        | cons x r => exact ⟨x, r, rfl⟩
      subst hU3 hV3
      have hlens : U3.length + 1 + i = n := by have h1 := HU.out; have h2 := HE.out; have := congrArg List.length h1.1; simp at this; omega
      have hnext := swap_round HL.out (i := a + i) (j := b + i) (by have h1 := HU.out; have h2 := HE.out; omega) (by have h1 := HU.out; have h2 := HE.out; omega)
      have HN := hid' hnext
      clear hnext
      go_wp2_with fail
      have ea : ((a : Int) + (i : Int)).toNat = a + i := by omega
      have pa : (0 : Int) ≤ (a : Int) + (i : Int) := by omega
      have ba : (a : Int) + (i : Int) < (d.size : Int) := by omega
      have ra : IntKind.i64.wrap ((a : Int) + (i : Int)) = (a : Int) + (i : Int) := by rw [IntKind.wrap_i64]; omega
      have eb : ((b : Int) + (i : Int)).toNat = b + i := by omega
      have pb : (0 : Int) ≤ (b : Int) + (i : Int) := by omega
      have bb : (b : Int) + (i : Int) < (d.size : Int) := by omega
      have rb : IntKind.i64.wrap ((b : Int) + (i : Int)) = (b : Int) + (i : Int) := by rw [IntKind.wrap_i64]; omega
      have S2 : Aside (SWK enc k w0 blk off (swp dk (a + i) (b + i)) ((wr.drew.setCells blk (off + (a + i) * k) (enc dk[b + i]!)).setCells blk (off + (b + i) * k) (enc dk[a + i]!))) := S1.out.swapped R (a + i) (b + i) (by omega) (by omega)
      have l44a := S1.out.ld1 R (by omega) Tryd.prog (a + i) (by omega)
      have l44b := S1.out.ld1 R (by omega) Tryd.prog (b + i) (by omega)
      have s44a := S1.out.st1 R (by omega) Tryd.prog (a + i) (by omega) dk[b + i]!
      have s44b := S1.out.st2 R (by omega) Tryd.prog (a + i) (b + i) (by omega) (by omega) dk[b + i]! dk[a + i]!
      have n44a : (enc dk[a + i]!).length = k := R.hk _
      have n44b : (enc dk[b + i]!).length = k := R.hk _
      generalize enc dk[a + i]! = cI44 at S2 l44a s44b n44a
      generalize enc dk[b + i]! = cJ44 at S2 l44b s44a s44b n44b
      clear S1 HL
      have mixed : Tryd.prog.follows .mixedOrders = true := by kernel_rfl
      go_big_region_o
      clear l44a l44b s44a s44b
      generalize (wr.drew.setCells blk (off + (a + i) * k) cJ44).setCells blk (off + (b + i) * k) cI44 = w2 at S2 ⊢
      go_wp2
      go_roundg (n - (i + 1))
      case measure => omega
      case rel =>
        have h1 := HU.out
        exact ⟨i + 1, swp dk (a + i) (b + i), U1 ++ [x], U3, V1 ++ [y], V3, by simp, ⟨by rw [h1.1]; simp, by rw [h1.2.1]; simp, by rw [List.length_append, h1.2.2.1]; rfl, by rw [List.length_append, h1.2.2.2]; rfl⟩, by omega, by omega, by rw [swp_sz]; exact hds, HN.out, S2⟩
    · go_wp2
      go_end0
      have h1 := HU.out
      have h2 := HE.out
      have hU2 : U2 = [] := by
        cases U2 with
        | nil => rfl
        | cons x r => exfalso; have h3 := congrArg List.length h1.1; simp only [List.length_append, List.length_cons] at h3; omega
      have hV2 : V2 = [] := by
        cases V2 with
        | nil => rfl
        | cons x r => exfalso; have h3 := congrArg List.length h1.2.1; simp only [List.length_append, List.length_cons] at h3; omega
      subst hU2 hV2
      refine ⟨rfl, dk, hds, ?_, S1.out⟩
      rw [HL.out, h1.1, h1.2.1]
end Go.Proofs.YtefbllhpibfojaaDoor

namespace Go.Proofs.YtefbllhpibfojaaDoor
open Go.Proofs Stab Go.Shelf Go.RowKit Go.Lib Go.Sort
variable {α : Type} [Inhabited α]

theorem swapRange_at (k : Nat) (aE : ∀ w, (isAgg 38).run Tryd.prog w = .ok true w) (zE : ∀ w, (Go.sizeOf 38).run Tryd.prog w = .ok k w) (enc : α → List Value) (g : Nat) (cb : Array Value) (blk off cap : Nat) (d0 d : Array α) (w0 w : World)
    (R : RowK enc k w0 blk off d0) (hs : d0.size = d.size) (S : SWK enc k w0 blk off d w) (hsz : d.size < 4611686018427387904) (A U M V Q : List α) (hd : d.toList = A ++ U ++ M ++ V ++ Q) (hUV : U.length = V.length) (sz : Nat) (a b n : Int) (hz : sz = d.size) (ha : a = (A.length : Nat)) (hb : b = ((A.length + U.length + M.length : Nat))) (hn : n = (U.length : Nat)) :
    Calls Tryd.prog 103 #[.slice (some ⟨blk, off, none⟩) sz cap, .int .i64 a, .int .i64 b, .int .i64 n, .func (.func g) #[] cb] w fun e w' => e = .returned (.tuple #[]) ∧ ∃ d' : Array α, d'.size = d.size ∧ d'.toList = A ++ V ++ M ++ U ++ Q ∧ SWK enc k w0 blk off d' w' := by
  subst hz ha hb hn
  exact swapRange_any k aE zE enc g cb blk off cap d0 d w0 w R hs S hsz A U M V Q hd hUV
set_option maxRecDepth 1000000 in
set_option maxHeartbeats 400000 in
theorem rotate_any (k : Nat) (aE : ∀ w, (isAgg 38).run Tryd.prog w = .ok true w) (zE : ∀ w, (Go.sizeOf 38).run Tryd.prog w = .ok k w) (enc : α → List Value) (g : Nat) (cb : Array Value) (blk off cap : Nat) (d0 d : Array α) (w0 w : World)
    (R : RowK enc k w0 blk off d0) (hs : d0.size = d.size) (S : SWK enc k w0 blk off d w) (hsz : d.size < 4611686018427387904) (A X Y Q : List α) (hd : d.toList = A ++ X ++ Y ++ Q) (hX : 0 < X.length) (hY : 0 < Y.length) :
    Calls Tryd.prog 101 #[.slice (some ⟨blk, off, none⟩) d.size cap, .int .i64 (A.length : Nat), .int .i64 ((A.length + X.length : Nat)), .int .i64 ((A.length + X.length + Y.length : Nat)), .func (.func g) #[] cb] w fun e w' => e = .returned (.tuple #[]) ∧ ∃ d' : Array α, d'.size = d.size ∧ d'.toList = A ++ Y ++ X ++ Q ∧ SWK enc k w0 blk off d' w' := by
  have S0 : Aside (SWK enc k w0 blk off d w) := S
  clear S
  go_enter Tryd.func101, Tryd.ntmps101
  obtain ⟨a, ha⟩ : ∃ a, a = A.length := ⟨_, rfl⟩
  obtain ⟨m, hm⟩ : ∃ m, m = A.length + X.length := ⟨_, rfl⟩
  obtain ⟨b, hb⟩ : ∃ b, b = A.length + X.length + Y.length := ⟨_, rfl⟩
  obtain ⟨x, hx⟩ : ∃ x, x = X.length := ⟨_, rfl⟩
  obtain ⟨y, hy⟩ : ∃ y, y = Y.length := ⟨_, rfl⟩
  rw [← hb, ← hm, ← ha]
  have hsum : d.size = b + Q.length := by
    have := congrArg List.length hd
    simp only [List.length_append, Array.length_toList] at this
    omega
  have hbs : b ≤ d.size := by omega
  have e1 : (m : Int) - (a : Int) = (x : Int) := by omega
  have e2 : (b : Int) - (m : Int) = (y : Int) := by omega
  have w1 : IntKind.i64.wrap ((m : Int) - (a : Int)) = (x : Int) := by rw [IntKind.wrap_i64]; omega
  have w2 : IntKind.i64.wrap ((b : Int) - (m : Int)) = (y : Int) := by rw [IntKind.wrap_i64]; omega
  have hmx : a + x = m := by omega
  have hmy : m + y = b := by omega
  have hx0 : 0 < x := by omega
  have hy0 : 0 < y := by omega
  have HD := hid' hd
  have HE := hid' (And.intro ha (And.intro hm (And.intro hb (And.intro hx hy))))
  have HM := hid' (And.intro hmx hmy)
  have hms : m + y ≤ d.size := by omega
  have hxm : x ≤ m := by omega
  clear hd ha hm hb hx hy hsum hmx hmy hX hY
  go_wp2
  go_loopg [10, 11] (x + y) (fun kx s10 s11 wr => ∃ (i j : Nat) (dk : Array α) (P' X' Y' Q' : List α), s10 = .int .i64 i ∧ s11 = .int .i64 j ∧ Hid (X'.length = i ∧ Y'.length = j ∧ P'.length + i = m ∧ P' ++ Y' ++ X' ++ Q' = A ++ Y ++ X ++ Q) ∧ 0 < i ∧ 0 < j ∧ i + j ≤ kx ∧ m + j ≤ d.size ∧ i ≤ m ∧ dk.size = d.size ∧ Hid (dk.toList = P' ++ X' ++ Y' ++ Q') ∧ Aside (SWK enc k w0 blk off dk wr))
  case atStart => exact ⟨x, y, d, A, X, Y, Q, rfl, rfl, ⟨HE.out.2.2.2.1.symm, HE.out.2.2.2.2.symm, by have := HE.out; have := HM.out; omega, rfl⟩, hx0, hy0, Nat.le_refl _, hms, hxm, rfl, HD.out, S0⟩
  case round =>
    clear S0 w1 w2 e1 e2 hms hxm hx0 hy0
    obtain ⟨i, j, dk, P', X', Y', Q', rfl, rfl, HP, hi0, hj0, hkx, hmj, him, hds, HL, S1⟩ := hrel
    have r1 : IntKind.i64.wrap ((m : Int) - (i : Int)) = (m : Int) - (i : Int) := by rw [IntKind.wrap_i64]; omega
    have r2 : IntKind.i64.wrap ((m : Int) + (j : Int)) = (m : Int) + (j : Int) := by rw [IntKind.wrap_i64]; omega
    have r3 : IntKind.i64.wrap ((m : Int) + (j : Int) - (i : Int)) = (m : Int) + (j : Int) - (i : Int) := by rw [IntKind.wrap_i64]; omega
    have r4 : IntKind.i64.wrap ((i : Int) - (j : Int)) = (i : Int) - (j : Int) := by rw [IntKind.wrap_i64]; omega
    have r5 : IntKind.i64.wrap ((j : Int) - (i : Int)) = (j : Int) - (i : Int) := by rw [IntKind.wrap_i64]; omega
    by_cases hij : (i : Int) = (j : Int)
    · have hij' : i = j := by omega
      subst hij'
      have h1 := HP.out
      go_wp2_with fail
      refine (swapRange_at k aE zE enc g cb blk off cap d0 dk w0 _ R (by omega) S1.out (by omega) P' X' [] Y' Q' (by rw [HL.out]; simp) (by omega) _ _ _ _ hds.symm (by omega) (by simp; omega) (by omega)).mono ?_
      rintro e w5 ⟨rfl, d', hz, hl, hS⟩
      have HL' := hid' hl
      have HS' := hid' hS
      have hz' : d'.size = d.size := by omega
      clear hl hS h1 hz
      go_wp2_with fail
      go_end0
      exact ⟨rfl, d', hz', by rw [HL'.out]; have := HP.out.2.2.2; simpa using this, HS'.out⟩
    · by_cases hgt : (j : Int) < (i : Int)
      · have hsp : X' = X'.take j ++ X'.drop j := (List.take_append_drop j X').symm
        have h1 := HP.out
        have hl1 : (X'.take j).length = j := by rw [List.length_take]; omega
        have hl2 : (X'.drop j).length = i - j := by rw [List.length_drop]; omega
        have HSP := hid' hsp
        have HLL := hid' (And.intro hl1 hl2)
        clear hsp hl1 hl2 h1
        go_wp2_with fail
        have h1 := HP.out
        have h2 := HLL.out
        refine (swapRange_at k aE zE enc g cb blk off cap d0 dk w0 _ R (by omega) S1.out (by omega) P' (X'.take j) (X'.drop j) Y' Q' (by rw [HL.out]; simp) (by omega) _ _ _ _ hds.symm (by omega) (by omega) (by omega)).mono ?_
        rintro e w5 ⟨rfl, d', hz, hl, hS⟩
        have HL' := hid' hl
        have HS' : Aside _ := hS
        have hz' : d'.size = d.size := by omega
        clear hl hS h1 h2 hz S1 HL
        go_wp2_with fail
        go_roundg (i - j + j)
        case measure => omega
        case rel =>
          have h1 := HP.out
          have h2 := HLL.out
          exact ⟨i - j, j, d', P' ++ Y', X'.drop j, X'.take j, Q', by go_num, rfl, ⟨h2.2, h2.1, by rw [List.length_append]; omega, by rw [← h1.2.2.2]; simp⟩, by omega, hj0, Nat.le_refl _, hmj, by omega, hz', by show d'.toList = _; rw [HL'.out], HS'⟩
      · have hlt : i < j := by omega
        have hsp : Y' = Y'.take (j - i) ++ Y'.drop (j - i) := (List.take_append_drop _ Y').symm
        have h1 := HP.out
        have hl1 : (Y'.take (j - i)).length = j - i := by rw [List.length_take]; omega
        have hl2 : (Y'.drop (j - i)).length = i := by rw [List.length_drop]; omega
        have HSP := hid' hsp
        have HLL := hid' (And.intro hl1 hl2)
        clear hsp hl1 hl2 h1
        go_wp2_with fail
        have h1 := HP.out
        have h2 := HLL.out
        refine (swapRange_at k aE zE enc g cb blk off cap d0 dk w0 _ R (by omega) S1.out (by omega) P' X' (Y'.take (j - i)) (Y'.drop (j - i)) Q' (by rw [HL.out]; simp) (by omega) _ _ _ _ hds.symm (by omega) (by omega) (by omega)).mono ?_
        rintro e w5 ⟨rfl, d', hz, hl, hS⟩
        have HL' := hid' hl
        have HS' : Aside _ := hS
        have hz' : d'.size = d.size := by omega
        clear hl hS h1 h2 hz S1 HL
        go_wp2_with fail
        go_roundg (i + (j - i))
        case measure => omega
        case rel =>
          have h1 := HP.out
          have h2 := HLL.out
          exact ⟨i, j - i, d', P', Y'.drop (j - i), Y'.take (j - i), X' ++ Q', rfl, by go_num, ⟨h2.2, h2.1, by omega, by rw [← h1.2.2.2]; simp⟩, hi0, by omega, Nat.le_refl _, by omega, him, hz', by show d'.toList = _; rw [HL'.out]; simp, HS'⟩
end Go.Proofs.YtefbllhpibfojaaDoor

namespace Go.Proofs.YtefbllhpibfojaaDoor
open Go.Proofs Stab Go.Shelf Go.RowKit Go.Lib Go.Sort
variable {α : Type} [Inhabited α]

/-- not above, by a comparison -/
def leC (cf : α → α → Int) (x y : α) : Bool := !ltOf cf y x
theorem getL {d : Array α} {i : Nat} (h : i < d.size) : d.toList.drop i = d[i]! :: d.toList.drop (i + 1) := by
  have h' : i < d.toList.length := by simpa using h
  rw [List.drop_eq_getElem_cons h']
  congr 1
  simp [h]
theorem slide_start (d : Array α) (a : Nat) (ha : a < d.size) : d.toList = d.toList.take a ++ (d.toList.drop (a + 1)).take (a - a) ++ d[a]! :: d.toList.drop (a + 1) := by
  rw [Nat.sub_self, List.take_zero, List.append_nil, ← getL ha, List.take_append_drop]
theorem slide_round (d : Array α) (a q : Nat) (haq : a ≤ q) (hq : q + 1 < d.size) {dk : Array α} (h : dk.toList = d.toList.take a ++ (d.toList.drop (a + 1)).take (q - a) ++ d[a]! :: d.toList.drop (q + 1)) :
    (swp dk q (q + 1)).toList = d.toList.take a ++ (d.toList.drop (a + 1)).take (q + 1 - a) ++ d[a]! :: d.toList.drop (q + 1 + 1) := by
  rw [getL hq] at h
  have hl : (d.toList.take a ++ (d.toList.drop (a + 1)).take (q - a)).length = q := by
    simp only [List.length_append, List.length_take, List.length_drop, Array.length_toList]
    omega
  have h1 := swp_lists (B := []) h (i := q) (j := q + 1) hl.symm (by rw [hl]; simp)
  rw [h1]
  have e : q + 1 - a = q - a + 1 := by omega
  have hlt : q - a < (d.toList.drop (a + 1)).length := by simp only [List.length_drop, Array.length_toList]; omega
  rw [e, List.take_succ_eq_append_getElem hlt, List.getElem_drop]
  have e2 : d.toList[a + 1 + (q - a)]'(by simp; omega) = d[q + 1]! := by
    have e3 : a + 1 + (q - a) = q + 1 := by omega
    simp only [e3]
    simp [hq]
  rw [e2]
  simp
set_option maxRecDepth 1000000 in
set_option maxHeartbeats 400000 in
theorem sym_left (k : Nat) (aE : ∀ w, (isAgg 38).run Tryd.prog w = .ok true w) (zE : ∀ w, (Go.sizeOf 38).run Tryd.prog w = .ok k w) (enc : α → List Value) (cf : α → α → Int) (g : Nat) (cb : Array Value) (blk off cap : Nat) (d0 d : Array α) (w0 w : World)
    (eg : ∀ args w, (callFunc g args).run Tryd.prog w = .ok (.enter g args) w) (hcmp : CmpLays Tryd.prog g cb enc k cf blk off d0.size w0)
    (R : RowK enc k w0 blk off d0) (hs : d0.size = d.size) (S : SWK enc k w0 blk off d w) (hsz : d.size < 4611686018427387904) (a b : Nat) (hab : a + 1 < b) (hb : b ≤ d.size)
    (hmono : ∀ t t', a + 1 ≤ t → t ≤ t' → t' < b → ltOf cf d[t']! d[a]! = true → ltOf cf d[t]! d[a]! = true) (Post : Ending → World → Prop)
    (hPost : ∀ (i : Nat) (d' : Array α) (w' : World), a + 1 ≤ i → i ≤ b → (∀ t, a + 1 ≤ t → t < i → ltOf cf d[t]! d[a]! = true) → (∀ t, i ≤ t → t < b → ltOf cf d[t]! d[a]! = false) → d'.size = d.size → d'.toList = d.toList.take a ++ (d.toList.drop (a + 1)).take (i - 1 - a) ++ d[a]! :: d.toList.drop i → SWK enc k w0 blk off d' w' → Post (.returned (.tuple #[])) w') :
    Calls Tryd.prog 95 #[.slice (some ⟨blk, off, none⟩) d.size cap, .int .i64 (a : Nat), .int .i64 ((a + 1 : Nat)), .int .i64 (b : Nat), .func (.func g) #[] cb] w Post := by
  have S0 : Aside (SWK enc k w0 blk off d w) := S
  have HC : Aside _ := hcmp
  have HPost := hid' hPost
  have HMono := hid' hmono
  have mixed : Tryd.prog.follows .mixedOrders = true := by kernel_rfl
  clear S hcmp hPost hmono
  obtain ⟨m, hm⟩ : ∃ m, m = a + 1 := ⟨_, rfl⟩
  rw [← hm]
  have HM := hid' hm
  have hma : a < m := by omega
  have hmb : m < b := by omega
  have w1 : IntKind.i64.wrap ((m : Int) - (a : Int)) = 1 := by rw [IntKind.wrap_i64]; omega
  clear hm
  go_enter Tryd.func95, Tryd.ntmps95
  go_wp2_with fail
  go_loopg [10, 11] (b - m) (fun kx s10 s11 wr => ∃ (i j : Nat), s10 = .int .i64 i ∧ s11 = .int .i64 j ∧ m ≤ i ∧ i ≤ j ∧ j ≤ b ∧ j - i ≤ kx ∧ Hid ((∀ t, m ≤ t → t < i → ltOf cf d[t]! d[a]! = true) ∧ ∀ t, j ≤ t → t < b → ltOf cf d[t]! d[a]! = false) ∧ Aside (SWK enc k w0 blk off d wr))
  case atStart => exact ⟨m, b, rfl, rfl, Nat.le_refl _, by omega, Nat.le_refl _, Nat.le_refl _, ⟨fun t h1 h2 => by omega, fun t h1 h2 => by omega⟩, S0⟩
  case round =>
    clear S0
    obtain ⟨i, j, rfl, rfl, hi, hij, hj, hkx, HB, S1⟩ := hrel
    by_cases hlt : (i : Int) < (j : Int)
    · have r1 : IntKind.i64.wrap ((i : Int) + (j : Int)) = (i : Int) + (j : Int) := by rw [IntKind.wrap_i64]; omega
      have r2 : IntKind.u64.wrap ((i : Int) + (j : Int)) = (i : Int) + (j : Int) := by rw [IntKind.wrap_u64]; omega
      go_wp2_with fail
      obtain ⟨h, hh⟩ : ∃ h : Nat, ((i : Int) + (j : Int)) / 2 = (h : Int) := ⟨(i + j) / 2, by omega⟩
      rw [hh]
      have hih : i ≤ h := by omega
      have hhj : h < j := by omega
      have w3 : IntKind.i64.wrap ((h : Int) + 1) = (h : Int) + 1 := by rw [IntKind.wrap_i64]; omega
      clear r1 r2 hh
      cases hL : ltOf cf d[h]! d[a]! with
      | true =>
        have ea : ((h : Int)).toNat = h := by omega
        have pa : (0 : Int) ≤ (h : Int) := by omega
        have ba : (h : Int) < (d.size : Int) := by omega
        have ec : ((a : Int)).toNat = a := by omega
        have pc : (0 : Int) ≤ (a : Int) := by omega
        have bc : (a : Int) < (d.size : Int) := by omega
        obtain ⟨x, hx⟩ : ∃ x, x = d[h]! := ⟨_, rfl⟩
        obtain ⟨y, hy⟩ : ∃ x, x = d[a]! := ⟨_, rfl⟩
        have l1 := S1.out.ld R (by omega) Tryd.prog h (by omega)
        have l2 := S1.out.ld R (by omega) Tryd.prog a (by omega)
        rw [← hx] at l1
        rw [← hy] at l2
        have hc := S1.out.cmp HC.out (by omega) x y
        have hv : cf x y < 0 := by rw [hx, hy]; exact of_decide_eq_true hL
        have hd : decide (cf x y < 0) = true := decide_eq_true hv
        have HL := hid' hL
        clear hx hy hL
        go_quiet_grown (first | (go_at_fn g; refine Calls.grown_of (hc _ _)))
        have S2 : Aside (SWK enc k w0 blk off d (grow (wr.drewN nq) osq)) := S1.out.grown nq osq
        clear l1 l2 hc S1
        generalize grow (wr.drewN nq) osq = w2 at S2 ⊢
        clear nq osq
        go_wp2_with fail
        go_roundg (j - (h + 1))
        case measure => omega
        case rel => exact ⟨h + 1, j, by go_num, rfl, by omega, by omega, hj, Nat.le_refl _, ⟨fun t h1 h2 => HMono.out t h (by have := HM.out; omega) (by omega) (by omega) HL.out, HB.out.2⟩, S2⟩
      | false =>
        have ea : ((h : Int)).toNat = h := by omega
        have pa : (0 : Int) ≤ (h : Int) := by omega
        have ba : (h : Int) < (d.size : Int) := by omega
        have ec : ((a : Int)).toNat = a := by omega
        have pc : (0 : Int) ≤ (a : Int) := by omega
        have bc : (a : Int) < (d.size : Int) := by omega
        obtain ⟨x, hx⟩ : ∃ x, x = d[h]! := ⟨_, rfl⟩
        obtain ⟨y, hy⟩ : ∃ x, x = d[a]! := ⟨_, rfl⟩
        have l1 := S1.out.ld R (by omega) Tryd.prog h (by omega)
        have l2 := S1.out.ld R (by omega) Tryd.prog a (by omega)
        rw [← hx] at l1
        rw [← hy] at l2
        have hc := S1.out.cmp HC.out (by omega) x y
        have hv : ¬ cf x y < 0 := by rw [hx, hy]; exact of_decide_eq_false hL
        have hd : decide (cf x y < 0) = false := decide_eq_false hv
        have HL := hid' hL
        clear hx hy hL
        go_quiet_grown (first | (go_at_fn g; refine Calls.grown_of (hc _ _)))
        have S2 : Aside (SWK enc k w0 blk off d (grow (wr.drewN nq) osq)) := S1.out.grown nq osq
        clear l1 l2 hc S1
        generalize grow (wr.drewN nq) osq = w2 at S2 ⊢
        clear nq osq
        go_wp2_with fail
        go_roundg (h - i)
        case measure => omega
        case rel => exact ⟨i, h, rfl, rfl, hi, by omega, by omega, Nat.le_refl _, ⟨HB.out.1, fun t h1 h2 => by
          cases hq : ltOf cf d[t]! d[a]! with
          | false => rfl
          | true => have := HMono.out h t (by have := HM.out; omega) (by omega) h2 hq; rw [HL.out] at this; cases this⟩, S2⟩
    · have hije : i = j := by omega
      subst hije
      have w4 : IntKind.i64.wrap ((i : Int) - 1) = (i : Int) - 1 := by rw [IntKind.wrap_i64]; omega
      have hai : a + 1 ≤ i := by have := HM.out; omega
      go_wp2_with fail
      go_loopg [13] (i - 1 - a) (fun kx s13 wr => ∃ (q : Nat) (dk : Array α), s13 = .int .i64 q ∧ a ≤ q ∧ q + 1 ≤ i ∧ i - 1 - q ≤ kx ∧ dk.size = d.size ∧ Hid (dk.toList = d.toList.take a ++ (d.toList.drop (a + 1)).take (q - a) ++ d[a]! :: d.toList.drop (q + 1)) ∧ Aside (SWK enc k w0 blk off dk wr))
      case atStart => exact ⟨a, d, rfl, Nat.le_refl _, hai, Nat.le_refl _, rfl, slide_start d a (by omega), S1⟩
      case round =>
        clear S1
        obtain ⟨q, dk, rfl, haq, hqi, hkx, hds, HL, S1⟩ := hrel
        by_cases hlt2 : (q : Int) < (i : Int) - 1
        · have hnext := slide_round d a q haq (by omega) HL.out
          have HN := hid' hnext
          clear hnext HL
          have ea : ((q : Int)).toNat = q := by omega
          have pa : (0 : Int) ≤ (q : Int) := by omega
          have ba : (q : Int) < (d.size : Int) := by omega
          have eb : ((q : Int) + 1).toNat = q + 1 := by omega
          have pb : (0 : Int) ≤ (q : Int) + 1 := by omega
          have bb : (q : Int) + 1 < (d.size : Int) := by omega
          have rb : IntKind.i64.wrap ((q : Int) + 1) = (q : Int) + 1 := by rw [IntKind.wrap_i64]; omega
          have S2 : Aside (SWK enc k w0 blk off (swp dk q (q + 1)) ((wr.drew.setCells blk (off + q * k) (enc dk[q + 1]!)).setCells blk (off + (q + 1) * k) (enc dk[q]!))) := S1.out.swapped R q (q + 1) (by omega) (by omega)
          have l44a := S1.out.ld1 R (by omega) Tryd.prog q (by omega)
          have l44b := S1.out.ld1 R (by omega) Tryd.prog (q + 1) (by omega)
          have s44a := S1.out.st1 R (by omega) Tryd.prog q (by omega) dk[q + 1]!
          have s44b := S1.out.st2 R (by omega) Tryd.prog q (q + 1) (by omega) (by omega) dk[q + 1]! dk[q]!
          have n44a : (enc dk[q]!).length = k := R.hk _
          have n44b : (enc dk[q + 1]!).length = k := R.hk _
          generalize enc dk[q]! = cI44 at S2 l44a s44b n44a
          generalize enc dk[q + 1]! = cJ44 at S2 l44b s44a s44b n44b
          clear S1
          go_wp2_with fail
          go_big_region_o
          clear l44a l44b s44a s44b
          generalize (wr.drew.setCells blk (off + q * k) cJ44).setCells blk (off + (q + 1) * k) cI44 = w2 at S2 ⊢
          go_wp2
          go_roundg (i - 1 - (q + 1))
          case measure => omega
          case rel => exact ⟨q + 1, swp dk q (q + 1), by go_num, by omega, by omega, Nat.le_refl _, by rw [swp_sz]; exact hds, HN.out, S2⟩
        · have hqe : q + 1 = i := by omega
          have HQ := hid' hqe
          go_wp2
          go_end0
          have h1 := HB.out
          have h2 := HL.out
          have h3 := HQ.out
          have h4 := HM.out
          refine HPost.out i dk wr hai hj (fun t ht1 ht2 => h1.1 t (by omega) ht2) h1.2 hds ?_ S1.out
          rw [h2]
          have e : q - a = i - 1 - a := by omega
          rw [h3, e]
end Go.Proofs.YtefbllhpibfojaaDoor

namespace Go.Proofs.YtefbllhpibfojaaDoor
open Go.Proofs Stab Go.Shelf Go.RowKit Go.Lib Go.Sort
variable {α : Type} [Inhabited α]

theorem swp_listsB {d : Array α} {A C : List α} {x y : α} {i j : Nat} (h : d.toList = A ++ x :: y :: C) (hi : i = A.length) (hj : j = A.length + 1) : (swp d j i).toList = A ++ y :: x :: C := by
  subst hi hj
  have h1 : d[A.length]! = x := at_lists h rfl
  have h2 : d[A.length + 1]! = y := at_lists (A := A ++ [x]) (C := C) (by rw [h]; simp) (by simp)
  unfold swp
  rw [h1, h2, Array.toList_setIfInBounds, Array.toList_setIfInBounds, h]
  rw [List.set_append_right _ _ (by omega), List.set_append_right _ _ (Nat.le_refl _), Nat.sub_self]
  have e : A.length + 1 - A.length = 1 := by omega
  rw [e]
  rfl
theorem back_start (d : Array α) (m : Nat) (hm : m < d.size) : d.toList = d.toList.take m ++ d[m]! :: ((d.toList.drop m).take (m - m) ++ d.toList.drop (m + 1)) := by
  rw [Nat.sub_self, List.take_zero, List.nil_append, ← getL hm, List.take_append_drop]
theorem back_round (d : Array α) (m q : Nat) (hq0 : 0 < q) (hqm : q ≤ m) (hm : m < d.size) {dk : Array α} (h : dk.toList = d.toList.take q ++ d[m]! :: ((d.toList.drop q).take (m - q) ++ d.toList.drop (m + 1))) :
    (swp dk q (q - 1)).toList = d.toList.take (q - 1) ++ d[m]! :: ((d.toList.drop (q - 1)).take (m - (q - 1)) ++ d.toList.drop (m + 1)) := by
  obtain ⟨p, rfl⟩ : ∃ p, q = p + 1 := ⟨q - 1, by omega⟩
  rw [Nat.add_sub_cancel]
  have hp : p < d.size := by omega
  have hpl : p < d.toList.length := by simpa using hp
  have e1 : d.toList.take (p + 1) = d.toList.take p ++ [d[p]!] := by
    rw [List.take_succ_eq_append_getElem hpl]
    simp [hp]
  rw [e1, List.append_assoc] at h
  have hl : (d.toList.take p).length = p := by simp only [List.length_take, Array.length_toList]; omega
  rw [swp_listsB (A := d.toList.take p) h hl.symm (by rw [hl])]
  have e2 : m - p = m - (p + 1) + 1 := by omega
  rw [getL hp, e2, List.take_succ_cons]
  rfl
set_option maxRecDepth 1000000 in
set_option maxHeartbeats 400000 in
theorem sym_right (k : Nat) (aE : ∀ w, (isAgg 38).run Tryd.prog w = .ok true w) (zE : ∀ w, (Go.sizeOf 38).run Tryd.prog w = .ok k w) (enc : α → List Value) (cf : α → α → Int) (g : Nat) (cb : Array Value) (blk off cap : Nat) (d0 d : Array α) (w0 w : World)
    (eg : ∀ args w, (callFunc g args).run Tryd.prog w = .ok (.enter g args) w) (hcmp : CmpLays Tryd.prog g cb enc k cf blk off d0.size w0)
    (R : RowK enc k w0 blk off d0) (hs : d0.size = d.size) (S : SWK enc k w0 blk off d w) (hsz : d.size < 4611686018427387904) (a m : Nat) (ham : a + 1 < m) (hmb : m + 1 ≤ d.size)
    (hmono : ∀ t t', a ≤ t → t ≤ t' → t' < m → ltOf cf d[m]! d[t]! = true → ltOf cf d[m]! d[t']! = true) (Post : Ending → World → Prop)
    (hPost : ∀ (i : Nat) (d' : Array α) (w' : World), a ≤ i → i ≤ m → (∀ t, a ≤ t → t < i → ltOf cf d[m]! d[t]! = false) → (∀ t, i ≤ t → t < m → ltOf cf d[m]! d[t]! = true) → d'.size = d.size → d'.toList = d.toList.take i ++ d[m]! :: ((d.toList.drop i).take (m - i) ++ d.toList.drop (m + 1)) → SWK enc k w0 blk off d' w' → Post (.returned (.tuple #[])) w') :
    Calls Tryd.prog 95 #[.slice (some ⟨blk, off, none⟩) d.size cap, .int .i64 (a : Nat), .int .i64 (m : Nat), .int .i64 ((m + 1 : Nat)), .func (.func g) #[] cb] w Post := by
  have S0 : Aside (SWK enc k w0 blk off d w) := S
  have HC : Aside _ := hcmp
  have HPost := hid' hPost
  have HMono := hid' hmono
  have mixed : Tryd.prog.follows .mixedOrders = true := by kernel_rfl
  clear S hcmp hPost hmono
  obtain ⟨b, hb⟩ : ∃ b, b = m + 1 := ⟨_, rfl⟩
  rw [← hb]
  have HM := hid' hb
  have hbd : b ≤ d.size := by omega
  have hmb' : m < b := by omega
  have w1 : IntKind.i64.wrap ((m : Int) - (a : Int)) = (m : Int) - (a : Int) := by rw [IntKind.wrap_i64]; omega
  have w1' : ((m : Int) - (a : Int) == 1) = false := by rw [beq_eq_false_iff_ne]; omega
  have w2 : IntKind.i64.wrap ((b : Int) - (m : Int)) = 1 := by rw [IntKind.wrap_i64]; omega
  clear hb
  go_enter Tryd.func95, Tryd.ntmps95
  go_wp2_with fail
  clear w1 w1' w2
  go_loopg [14, 15] (m - a) (fun kx s10 s11 wr => ∃ (i j : Nat), s10 = .int .i64 i ∧ s11 = .int .i64 j ∧ a ≤ i ∧ i ≤ j ∧ j ≤ m ∧ j - i ≤ kx ∧ Hid ((∀ t, a ≤ t → t < i → ltOf cf d[m]! d[t]! = false) ∧ ∀ t, j ≤ t → t < m → ltOf cf d[m]! d[t]! = true) ∧ Aside (SWK enc k w0 blk off d wr))
  case atStart => exact ⟨a, m, rfl, rfl, Nat.le_refl _, by omega, Nat.le_refl _, Nat.le_refl _, ⟨fun t h1 h2 => by omega, fun t h1 h2 => by omega⟩, S0⟩
  case round =>
    clear S0
    obtain ⟨i, j, rfl, rfl, hi, hij, hj, hkx, HB, S1⟩ := hrel
    by_cases hlt : (i : Int) < (j : Int)
    · have r1 : IntKind.i64.wrap ((i : Int) + (j : Int)) = (i : Int) + (j : Int) := by rw [IntKind.wrap_i64]; omega
      have r2 : IntKind.u64.wrap ((i : Int) + (j : Int)) = (i : Int) + (j : Int) := by rw [IntKind.wrap_u64]; omega
      go_wp2_with fail
      obtain ⟨h, hh⟩ : ∃ h : Nat, ((i : Int) + (j : Int)) / 2 = (h : Int) := ⟨(i + j) / 2, by omega⟩
      rw [hh]
      have hih : i ≤ h := by omega
      have hhj : h < j := by omega
      have w3 : IntKind.i64.wrap ((h : Int) + 1) = (h : Int) + 1 := by rw [IntKind.wrap_i64]; omega
      clear r1 r2 hh
      cases hL : ltOf cf d[m]! d[h]! with
      | false =>
        have ea : ((m : Int)).toNat = m := by omega
        have pa : (0 : Int) ≤ (m : Int) := by omega
        have ba : (m : Int) < (d.size : Int) := by omega
        have ec : ((h : Int)).toNat = h := by omega
        have pc : (0 : Int) ≤ (h : Int) := by omega
        have bc : (h : Int) < (d.size : Int) := by omega
        obtain ⟨x, hx⟩ : ∃ x, x = d[m]! := ⟨_, rfl⟩
        obtain ⟨y, hy⟩ : ∃ x, x = d[h]! := ⟨_, rfl⟩
        have l1 := S1.out.ld R (by omega) Tryd.prog m (by omega)
        have l2 := S1.out.ld R (by omega) Tryd.prog h (by omega)
        rw [← hx] at l1
        rw [← hy] at l2
        have hc := S1.out.cmp HC.out (by omega) x y
        have hv : ¬ cf x y < 0 := by rw [hx, hy]; exact of_decide_eq_false hL
        have hd : decide (cf x y < 0) = false := decide_eq_false hv
        have HL := hid' hL
        clear hx hy hL
        go_quiet_grown (first | (go_at_fn g; refine Calls.grown_of (hc _ _)))
        have S2 : Aside (SWK enc k w0 blk off d (grow (wr.drewN nq) osq)) := S1.out.grown nq osq
        clear l1 l2 hc S1
        generalize grow (wr.drewN nq) osq = w2 at S2 ⊢
        clear nq osq
        go_wp2_with fail
        go_roundg (j - (h + 1))
        case measure => omega
        case rel => exact ⟨h + 1, j, by go_num, rfl, by omega, by omega, hj, Nat.le_refl _, ⟨(fun t h1 h2 => by
          cases hq : ltOf cf d[m]! d[t]! with
          | false => rfl
          | true =>
            have := HMono.out t h h1 (by omega) (by omega) hq
            rw [HL.out] at this
            cases this), HB.out.2⟩, S2⟩
      | true =>
        have ea : ((m : Int)).toNat = m := by omega
        have pa : (0 : Int) ≤ (m : Int) := by omega
        have ba : (m : Int) < (d.size : Int) := by omega
        have ec : ((h : Int)).toNat = h := by omega
        have pc : (0 : Int) ≤ (h : Int) := by omega
        have bc : (h : Int) < (d.size : Int) := by omega
        obtain ⟨x, hx⟩ : ∃ x, x = d[m]! := ⟨_, rfl⟩
        obtain ⟨y, hy⟩ : ∃ x, x = d[h]! := ⟨_, rfl⟩
        have l1 := S1.out.ld R (by omega) Tryd.prog m (by omega)
        have l2 := S1.out.ld R (by omega) Tryd.prog h (by omega)
        rw [← hx] at l1
        rw [← hy] at l2
        have hc := S1.out.cmp HC.out (by omega) x y
        have hv : cf x y < 0 := by rw [hx, hy]; exact of_decide_eq_true hL
        have hd : decide (cf x y < 0) = true := decide_eq_true hv
        have HL := hid' hL
        clear hx hy hL
        go_quiet_grown (first | (go_at_fn g; refine Calls.grown_of (hc _ _)))
        have S2 : Aside (SWK enc k w0 blk off d (grow (wr.drewN nq) osq)) := S1.out.grown nq osq
        clear l1 l2 hc S1
        generalize grow (wr.drewN nq) osq = w2 at S2 ⊢
        clear nq osq
        go_wp2_with fail
        go_roundg (h - i)
        case measure => omega
        case rel => exact ⟨i, h, rfl, rfl, hi, by omega, by omega, Nat.le_refl _, ⟨HB.out.1, fun t h1 h2 => HMono.out h t (by omega) h1 h2 HL.out⟩, S2⟩
    · have hije : i = j := by omega
      subst hije
      go_wp2_with fail
      go_loopg [17] (m - i) (fun kx s13 wr => ∃ (q : Nat) (dk : Array α), s13 = .int .i64 q ∧ i ≤ q ∧ q ≤ m ∧ q - i ≤ kx ∧ dk.size = d.size ∧ Hid (dk.toList = d.toList.take q ++ d[m]! :: ((d.toList.drop q).take (m - q) ++ d.toList.drop (m + 1))) ∧ Aside (SWK enc k w0 blk off dk wr))
      case atStart => exact ⟨m, d, rfl, hj, Nat.le_refl _, Nat.le_refl _, rfl, back_start d m (by omega), S1⟩
      case round =>
        clear S1
        obtain ⟨q, dk, rfl, hiq, hqm, hkx, hds, HL, S1⟩ := hrel
        by_cases hlt2 : (i : Int) < (q : Int)
        · have hnext := back_round d m q (by omega) hqm (by omega) HL.out
          have HN := hid' hnext
          clear hnext HL
          have ea : ((q : Int)).toNat = q := by omega
          have pa : (0 : Int) ≤ (q : Int) := by omega
          have ba : (q : Int) < (d.size : Int) := by omega
          have eb : ((q : Int) - 1).toNat = q - 1 := by omega
          have pb : (0 : Int) ≤ (q : Int) - 1 := by omega
          have bb : (q : Int) - 1 < (d.size : Int) := by omega
          have rb : IntKind.i64.wrap ((q : Int) - 1) = (q : Int) - 1 := by rw [IntKind.wrap_i64]; omega
          have S2 : Aside (SWK enc k w0 blk off (swp dk q (q - 1)) ((wr.drew.setCells blk (off + q * k) (enc dk[q - 1]!)).setCells blk (off + (q - 1) * k) (enc dk[q]!))) := S1.out.swapped R q (q - 1) (by omega) (by omega)
          have l44a := S1.out.ld1 R (by omega) Tryd.prog q (by omega)
          have l44b := S1.out.ld1 R (by omega) Tryd.prog (q - 1) (by omega)
          have s44a := S1.out.st1 R (by omega) Tryd.prog q (by omega) dk[q - 1]!
          have s44b := S1.out.st2 R (by omega) Tryd.prog q (q - 1) (by omega) (by omega) dk[q - 1]! dk[q]!
          have n44a : (enc dk[q]!).length = k := R.hk _
          have n44b : (enc dk[q - 1]!).length = k := R.hk _
          generalize enc dk[q]! = cI44 at S2 l44a s44b n44a
          generalize enc dk[q - 1]! = cJ44 at S2 l44b s44a s44b n44b
          clear S1
          go_wp2_with fail
          go_big_region_o
          clear l44a l44b s44a s44b
          generalize (wr.drew.setCells blk (off + q * k) cJ44).setCells blk (off + (q - 1) * k) cI44 = w2' at S2 ⊢
          go_wp2
          go_roundg (q - 1 - i)
          case measure => omega
          case rel => exact ⟨q - 1, swp dk q (q - 1), (by first | (go_num; done) | (congr 1; omega)), by omega, by omega, Nat.le_refl _, by rw [swp_sz]; exact hds, HN.out, S2⟩
        · have hqe : q = i := by omega
          have HQ := hid' hqe
          go_wp2
          go_end0
          have h1 := HB.out
          have h2 := HL.out
          have h3 := HQ.out
          refine HPost.out i dk wr hi hj h1.1 h1.2 hds ?_ S1.out
          rw [h2, h3]
end Go.Proofs.YtefbllhpibfojaaDoor

namespace Go.Proofs.YtefbllhpibfojaaDoor
open Go.Proofs Stab Go.Shelf Go.RowKit Go.Lib Go.Sort
variable {α : Type} [Inhabited α]

theorem rotate_at (k : Nat) (aE : ∀ w, (isAgg 38).run Tryd.prog w = .ok true w) (zE : ∀ w, (Go.sizeOf 38).run Tryd.prog w = .ok k w) (enc : α → List Value) (g : Nat) (cb : Array Value) (blk off cap : Nat) (d0 d : Array α) (w0 w : World)
    (R : RowK enc k w0 blk off d0) (hs : d0.size = d.size) (S : SWK enc k w0 blk off d w) (hsz : d.size < 4611686018427387904) (A X Y Q : List α) (hd : d.toList = A ++ X ++ Y ++ Q) (hX : 0 < X.length) (hY : 0 < Y.length) (sz : Nat) (a m b : Int) (hz : sz = d.size) (ha : a = (A.length : Nat)) (hm : m = ((A.length + X.length : Nat))) (hb : b = ((A.length + X.length + Y.length : Nat))) :
    Calls Tryd.prog 101 #[.slice (some ⟨blk, off, none⟩) sz cap, .int .i64 a, .int .i64 m, .int .i64 b, .func (.func g) #[] cb] w fun e w' => e = .returned (.tuple #[]) ∧ ∃ d' : Array α, d'.size = d.size ∧ d'.toList = A ++ Y ++ X ++ Q ∧ SWK enc k w0 blk off d' w' := by
  subst hz ha hm hb
  exact rotate_any k aE zE enc g cb blk off cap d0 d w0 w R hs S hsz A X Y Q hd hX hY

/-- sorted, by a comparison -/
def SortC (cf : α → α → Int) (X : List α) : Prop := X.Pairwise fun a b => leC cf a b = true

structure SymSplit (cf : α → α → Int) (d : Array α) (A Q X Y : List α) (s e a m b : Nat) (X1 X2 Y1 Y2 : List α) : Prop where
  hd : d.toList = A ++ X1 ++ X2 ++ Y1 ++ Y2 ++ Q
  lX1 : X1.length = s - a
  lX2 : X2.length = m - s
  lY1 : Y1.length = e - m
  lY2 : Y2.length = b - e
  sX1 : SortC cf X1
  sX2 : SortC cf X2
  sY1 : SortC cf Y1
  sY2 : SortC cf Y2
  mg : List.merge X Y (leC cf) = List.merge X1 Y1 (leC cf) ++ List.merge X2 Y2 (leC cf)

theorem at_list {d : Array α} {L R : List α} {x : α} {i : Nat} (h : d.toList = L ++ x :: R) (hi : i = L.length) : d[i]! = x := at_lists h hi

theorem sym_split (cf : α → α → Int) (ht : ∀ a b c, leC cf a b = true → leC cf b c = true → leC cf a c = true) (ho : ∀ a, leC cf a a = true)
    {d : Array α} {A Q X Y : List α} {s e a m b : Nat} (hX : SortC cf X) (hY : SortC cf Y) (hd : d.toList = A ++ X ++ Y ++ Q) (ha : A.length = a) (hm : X.length = m - a) (hb : Y.length = b - m)
    (h1 : a ≤ s) (h2 : s ≤ m) (h3 : m ≤ e) (h4 : e ≤ b)
    (c1 : a < s → e < b → ltOf cf d[e]! d[s - 1]! = false) (c2 : s < m → m < e → ltOf cf d[e - 1]! d[s]! = true) :
    ∃ X1 X2 Y1 Y2, SymSplit cf d A Q X Y s e a m b X1 X2 Y1 Y2 := by
  have eX : X.take (s - a) ++ X.drop (s - a) = X := List.take_append_drop _ _
  have eY : Y.take (e - m) ++ Y.drop (e - m) = Y := List.take_append_drop _ _
  have hX' := hX
  have hY' := hY
  unfold SortC at hX' hY'
  rw [← eX] at hX'
  rw [← eY] at hY'
  have hXp := List.pairwise_append.1 hX'
  have hYp := List.pairwise_append.1 hY'
  have hd' : d.toList = A ++ X.take (s - a) ++ X.drop (s - a) ++ Y.take (e - m) ++ Y.drop (e - m) ++ Q := by
    rw [hd]
    conv => lhs; rw [← eX, ← eY]
    simp
  have l1 : (X.take (s - a)).length = s - a := by rw [List.length_take]; omega
  have l2 : (X.drop (s - a)).length = m - s := by rw [List.length_drop]; omega
  have l3 : (Y.take (e - m)).length = e - m := by rw [List.length_take]; omega
  have l4 : (Y.drop (e - m)).length = b - e := by rw [List.length_drop]; omega
  refine ⟨X.take (s - a), X.drop (s - a), Y.take (e - m), Y.drop (e - m), hd', l1, l2, l3, l4, hXp.1, hXp.2.1, hYp.1, hYp.2.1, ?_⟩
  conv => lhs; rw [← eX, ← eY]
  generalize X.take (s - a) = X1 at *
  generalize X.drop (s - a) = X2 at *
  generalize Y.take (e - m) = Y1 at *
  generalize Y.drop (e - m) = Y2 at *
  refine merge_part (leC cf) ht hX' hY' ho ?_ ?_
  · intro x y hx hy
    obtain ⟨X1', rfl⟩ := List.getLast?_eq_some_iff.1 hx
    obtain ⟨Y2', rfl⟩ := List.head?_eq_some_iff.1 hy
    rw [List.length_append, List.length_singleton] at l1
    rw [List.length_cons] at l4
    have g1 : d[s - 1]! = x := at_list (L := A ++ X1') (R := X2 ++ Y1 ++ (y :: Y2') ++ Q) (by rw [hd']; simp) (by rw [List.length_append]; omega)
    have g2 : d[e]! = y := at_list (L := A ++ (X1' ++ [x]) ++ X2 ++ Y1) (R := Y2' ++ Q) (by rw [hd']; simp) (by simp only [List.length_append, List.length_singleton]; omega)
    have := c1 (by omega) (by omega)
    rw [g1, g2] at this
    show (!ltOf cf y x) = true
    rw [this]; rfl
  · intro x y hx hy
    obtain ⟨X2', rfl⟩ := List.head?_eq_some_iff.1 hx
    obtain ⟨Y1', rfl⟩ := List.getLast?_eq_some_iff.1 hy
    rw [List.length_cons] at l2
    rw [List.length_append, List.length_singleton] at l3
    have g1 : d[s]! = x := at_list (L := A ++ X1) (R := X2' ++ (Y1' ++ [y]) ++ Y2 ++ Q) (by rw [hd']; simp) (by rw [List.length_append]; omega)
    have g2 : d[e - 1]! = y := at_list (L := A ++ X1 ++ (x :: X2') ++ Y1') (R := Y2 ++ Q) (by rw [hd']; simp) (by simp only [List.length_append, List.length_cons]; omega)
    have := c2 (by omega) (by omega)
    rw [g1, g2] at this
    show (!ltOf cf y x) = false
    rw [this]; rfl

/-- what symMergeCmpFunc does to two runs of at most N records in all -/
def SymOk (k : Nat) (enc : α → List Value) (cf : α → α → Int) (g : Nat) (cb : Array Value) (blk off cap : Nat) (d0 : Array α) (w0 : World) (N : Nat) : Prop :=
  ∀ (A X Y Q : List α) (d : Array α) (w : World) (sz : Nat) (a m b : Int), X.length + Y.length ≤ N → 0 < X.length → 0 < Y.length → SortC cf X → SortC cf Y → d.toList = A ++ X ++ Y ++ Q → d0.size = d.size → SWK enc k w0 blk off d w → sz = d.size → a = (A.length : Nat) → m = ((A.length + X.length : Nat)) → b = ((A.length + X.length + Y.length : Nat)) →
    Calls Tryd.prog 95 #[.slice (some ⟨blk, off, none⟩) sz cap, .int .i64 a, .int .i64 m, .int .i64 b, .func (.func g) #[] cb] w fun e w' => e = .returned (.tuple #[]) ∧ ∃ d' : Array α, d'.size = d.size ∧ d'.toList = A ++ List.merge X Y (leC cf) ++ Q ∧ SWK enc k w0 blk off d' w'
end Go.Proofs.YtefbllhpibfojaaDoor
