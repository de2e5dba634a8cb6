/- Layer 12, the texts RegC to StbI joined: what the functions that a scout reaches do with memory, each told once. -/
import Derived.Test.YtghefmppjdneoaaGrpA
import Derived.Deep.Quiet
import Derived.Deep.QuietTactic
import Derived.Test.YtghefmppjdneoaaChecked
import Derived.Sort.Defs
import Derived.Shelf.SlSortCmp.Insertion
import Derived.Sort.Statements
namespace Go.Proofs.Ytghefmppjdneoaa
open Go.RowKit

section
variable {P : Program} {ops : Array Oper} {C : World → Prop} {Q : Act → Prop} {o : Oper} {rest : List Oper} {a : Act}
theorem wpQuiet_val (v : Value) (hw : Region.wanted o (yielded ops a.tmps) = true) (hv : ∀ w, C w → (execOp a.eval o).run P w = .ok (.value v) w) (h : wpQuiet P ops C Q rest (a.put o.dst v)) : wpQuiet P ops C Q (o :: rest) a := by
  unfold wpQuiet
  rw [if_pos hw]
  refine ⟨v, fun w hC => ?_, h⟩
  unfold Oper.quietAt
  rw [hv w hC]
  exact ⟨rfl, rfl⟩
theorem wpQuiet_not (hw : Region.wanted o (yielded ops a.tmps) = false) (h : wpQuiet P ops C Q rest (a.put o.dst undef)) : wpQuiet P ops C Q (o :: rest) a := by
  unfold wpQuiet
  rw [if_neg (by rw [hw]; simp)]
  exact h
theorem wpQuiet_loadAll (hw : Region.wanted o (yielded ops a.tmps) = true) (ty : TypeId) (x : Operand) (ho : o.op = .load ty x) (b off : Nat) (hx : a.eval x = .pointer (some ⟨b, off, none⟩)) (cs : List Value) (d : TypeDesc)
    (hS : ∀ w, C w → w.rangeAt b off cs) (hu : P.underlying ty = some d) (hd : d.isRow = true) (hi : (P.info? ty).map (·.size) = some cs.length)
    (h : wpQuiet P ops C Q rest (a.put o.dst (.agg cs.toArray))) : wpQuiet P ops C Q (o :: rest) a :=
  wpQuiet_val (.agg cs.toArray) hw (fun w hC => by
    unfold execOp
    simp only [ho, hx, Instr.loadAt, Instr.sureAddr, Sem.run_bind, Sem.run_pure, Result.andThen_ok, run_loadVar_mid w b off ty cs d (hS w hC) hu hd hi]) h
theorem run_load_int {ty : TypeId} {k : IntKind} (hu : P.underlying ty = some (.int k)) {w : World} {b off : Nat} {v : Value} (hc : w.cell? ⟨b, off, none⟩ = some v) :
    (Instr.loadAt ty (.pointer (some ⟨b, off, none⟩))).run P w = .ok v w := by
  simp [Instr.loadAt, Instr.sureAddr, loadVar, isAgg, run_underlying hu, hc]
theorem wpQuiet_load1 (v : Value) (hw : Region.wanted o (yielded ops a.tmps) = true) (ty : TypeId) (x : Operand) (ho : o.op = .load ty x) (k : IntKind) (hu : P.underlying ty = some (.int k)) (b off : Nat) (hx : a.eval x = .pointer (some ⟨b, off, none⟩))
    (hS : ∀ w, C w → w.cell? ⟨b, off, none⟩ = some v) (h : wpQuiet P ops C Q rest (a.put o.dst v)) : wpQuiet P ops C Q (o :: rest) a :=
  wpQuiet_val v hw (fun w hC => by
    unfold execOp
    simp only [ho, hx, Sem.run_bind, Sem.run_pure, run_load_int hu (hS w hC), Result.andThen_ok]) h
theorem wpQuiet_call (f : FuncId) (args : List Value) (v : Value) (hw : Region.wanted o (yielded ops a.tmps) = true) (xs : List Operand) (ts : Array TypeId) (_ho : o.op = .call { callee := .value (.func f), args := xs.toArray, argTypes := ts })
    (_ha : xs.map a.eval = args) (hv : ∀ w, (execOp a.eval o).run P w = .ok (.enter f args.toArray) w)
    (hc : ∀ w, C w → Calls P f args.toArray w fun e w' => e = .returned v ∧ C w') (h : wpQuiet P ops C Q rest (a.put o.dst v)) : wpQuiet P ops C Q (o :: rest) a := by
  unfold wpQuiet
  rw [if_pos hw]
  refine ⟨v, fun w hC => ?_, h⟩
  unfold Oper.quietAt
  rw [hv w]
  exact ⟨rfl, hc w hC⟩
theorem wpQuiet_bin (hw : Region.wanted o (yielded ops a.tmps) = true) (op : BinOp) (ty : TypeId) (x y : Operand) (yt : TypeId) (ho : o.op = .binOp op ty x y yt) (vx vy v : Value) (hx : a.eval x = vx) (hy : a.eval y = vy)
    (hg : ∀ w, (eqGuard op ty x y vx vy).run P w = .ok () w) (hb : ∀ w, (binOp op ty vx vy).run P w = .ok v w) (h : wpQuiet P ops C Q rest (a.put o.dst v)) : wpQuiet P ops C Q (o :: rest) a :=
  wpQuiet_val v hw (fun w _ => by
    unfold execOp
    simp only [ho, hx, hy, Sem.run_bind, Sem.run_pure, hg, Result.andThen_ok, hb]) h
/-- in a plain region: the load of a range, its guard met -/
theorem wpList_loadW {Q : Exit → Act → World → Prop} {w : World} (hw : Region.wanted o (yielded ops a.tmps) = true) (ty : TypeId) (x : Operand) (ho : o.op = .load ty x) (b off : Nat) (hx : a.eval x = .pointer (some ⟨b, off, none⟩)) (cs : List Value) (d : TypeDesc)
    (hS : w.rangeAt b off cs) (hu : P.underlying ty = some d) (hd : d.isRow = true) (hi : (P.info? ty).map (·.size) = some cs.length)
    (h : wpList P ops Q rest (a.put o.dst (.agg cs.toArray)) w) : wpList P ops Q (o :: rest) a w :=
  wpList_step fun K hK => by
    rw [if_pos hw]
    exact wp_load_mid ty x ho b off hx cs d hS hu hd hi (hK _ _ h)
theorem wp_region_class {id : Nat} {Q : Exit → Act → World → Prop} {a : Act} {w : World} {l : List Oper} (C : World → Prop) (hm : P.follows .mixedOrders = true) (hB : Region.lexB .any l.toArray = true) (hC : C w.drew)
    (h : wpQuiet P l.toArray C (fun a' => ∀ w', C w' → Q .normal a' w') l a) : (Code.region id l.toArray true).wp P Q a w :=
  wp_region_quiet (C := C) hm hB hC (by simpa using h)
end
end Go.Proofs.Ytghefmppjdneoaa

namespace Go.Proofs.Ytghefmppjdneoaa
namespace Stab
variable {α : Type} (le : α → α → Bool)

theorem merge_split : ∀ (X1 Y1 X2 Y2 : List α), (∀ x ∈ X1, ∀ y ∈ Y2, le x y = true) → (∀ x ∈ X2, ∀ y ∈ Y1, le x y = false) → List.merge (X1 ++ X2) (Y1 ++ Y2) le = List.merge X1 Y1 le ++ List.merge X2 Y2 le
  | [], [], X2, Y2, _, _ => by simp
  | [], y :: Y1, [], Y2, _, _ => by simp
  | [], y :: Y1, x :: X2, Y2, h1, h2 => by
    have ih := merge_split [] Y1 (x :: X2) Y2 (fun _ hx => by cases hx) (fun x' hx y' hy => h2 x' hx y' (List.mem_cons_of_mem _ hy))
    rw [List.nil_append, List.nil_merge] at ih
    rw [List.nil_append, List.nil_merge, List.cons_append, List.cons_merge_cons, if_neg (by rw [h2 x List.mem_cons_self y List.mem_cons_self]; simp), ih]
    rfl
  | x :: X1, [], X2, [], _, _ => by simp
  | x :: X1, [], X2, y :: Y2, h1, h2 => by
    have ih := merge_split X1 [] X2 (y :: Y2) (fun x' hx => h1 x' (List.mem_cons_of_mem _ hx)) (fun _ _ _ hy => by cases hy)
    rw [List.nil_append, List.merge_right] at ih
    rw [List.nil_append, List.merge_right, List.cons_append, List.cons_merge_cons, if_pos (h1 x List.mem_cons_self y List.mem_cons_self), ih]
    rfl
  | x :: X1, y :: Y1, X2, Y2, h1, h2 => by
    rw [List.cons_append, List.cons_append, List.cons_merge_cons, List.cons_merge_cons]
    by_cases h : le x y = true
    · rw [if_pos h, if_pos h]
      exact congrArg (x :: ·) (merge_split X1 (y :: Y1) X2 Y2 (fun x' hx => h1 x' (List.mem_cons_of_mem _ hx)) h2)
    · rw [if_neg h, if_neg h]
      exact congrArg (y :: ·) (merge_split (x :: X1) Y1 X2 Y2 h1 (fun x' hx y' hy => h2 x' hx y' (List.mem_cons_of_mem _ hy)))
termination_by X1 Y1 => X1.length + Y1.length
/-- one more behind -/
theorem merge_one_right (X : List α) (y : α) (i : Nat) (h1 : ∀ x ∈ X.take i, le x y = true) (h2 : ∀ x ∈ X.drop i, le x y = false) : List.merge X [y] le = X.take i ++ y :: X.drop i := by
  have h := merge_split le (X.take i) [] (X.drop i) [y] (fun x hx y' hy => by rw [List.mem_singleton.1 hy]; exact h1 x hx) (fun _ _ _ hy => by cases hy)
  rw [List.take_append_drop, List.nil_append, List.merge_right] at h
  rw [h]
  congr 1
  have h' := merge_split le [] [y] (X.drop i) [] (fun _ hx => by cases hx) (fun x hx y' hy => by rw [List.mem_singleton.1 hy]; exact h2 x hx)
  simpa using h'
/-- one more ahead -/
theorem merge_one_left (x : α) (Y : List α) (i : Nat) (h1 : ∀ y ∈ Y.take i, le x y = false) (h2 : ∀ y ∈ Y.drop i, le x y = true) : List.merge [x] Y le = Y.take i ++ x :: Y.drop i := by
  have h := merge_split le [] (Y.take i) [x] (Y.drop i) (fun _ hx => by cases hx) (fun x' hx y hy => by rw [List.mem_singleton.1 hx]; exact h1 y hy)
  rw [List.take_append_drop, List.nil_append, List.nil_merge] at h
  rw [h]
  congr 1
  have h' := merge_split le [x] [] [] (Y.drop i) (fun x' hx y hy => by rw [List.mem_singleton.1 hx]; exact h2 y hy) (fun _ hx => by cases hx)
  simpa using h'
section
variable {le} (ht : ∀ a b c, le a b = true → le b c = true → le a c = true) (ho : ∀ a b, le a b = true ∨ le b a = true)
include ht ho
theorem merge_assoc : ∀ (A B C : List α), List.merge (List.merge A B le) C le = List.merge A (List.merge B C le) le
  | [], B, C => by simp
  | A, [], C => by simp
  | A, B, [] => by simp
  | a :: A, b :: B, c :: C => by
    by_cases h1 : le a b = true
    · have e1 : List.merge (a :: A) (b :: B) le = a :: List.merge A (b :: B) le := by rw [List.cons_merge_cons, if_pos h1]
      by_cases h2 : le a c = true
      · have ih := merge_assoc A (b :: B) (c :: C)
        rw [e1, List.cons_merge_cons, if_pos h2, ih]
        by_cases h3 : le b c = true
        · rw [List.cons_merge_cons le b c, if_pos h3, List.cons_merge_cons le a b, if_pos h1]
        · rw [List.cons_merge_cons le b c, if_neg h3, List.cons_merge_cons le a c, if_pos h2]
      · have h3 : ¬ le b c = true := fun h => h2 (ht a b c h1 h)
        have ih := merge_assoc (a :: A) (b :: B) C
        rw [List.cons_merge_cons le b c, if_neg h3, List.cons_merge_cons le a c, if_neg h2, ← ih, e1, List.cons_merge_cons le a c, if_neg h2]
    · have e1 : List.merge (a :: A) (b :: B) le = b :: List.merge (a :: A) B le := by rw [List.cons_merge_cons, if_neg h1]
      by_cases h2 : le b c = true
      · have ih := merge_assoc (a :: A) B (c :: C)
        rw [e1, List.cons_merge_cons, if_pos h2, ih, List.cons_merge_cons le b c, if_pos h2, List.cons_merge_cons le a b, if_neg h1]
      · have h3 : ¬ le a c = true := fun h => by
          have h4 : le c b = true := by
            rcases ho b c with h | h
            · exact absurd h h2
            · exact h
          exact h1 (ht a c b h h4)
        have ih := merge_assoc (a :: A) (b :: B) C
        rw [List.cons_merge_cons le b c, if_neg h2, List.cons_merge_cons le a c, if_neg h3, ← ih, e1, List.cons_merge_cons le b c, if_neg h2]
termination_by A B C => A.length + B.length + C.length
end
theorem snoc_ind {p : List α → Prop} (h0 : p []) (h1 : ∀ l x, p l → p (l ++ [x])) (l : List α) : p l := by
  have h : ∀ r : List α, p r.reverse := fun r => by
    induction r with
    | nil => exact h0
    | cons x r ih => rw [List.reverse_cons]; exact h1 _ x ih
  have := h l.reverse
  rwa [List.reverse_reverse] at this
/-- the stable sort: one after the other, each behind its equals -/
def S (l : List α) : List α := l.foldl (fun acc x => List.merge acc [x] le) []
theorem S_snoc (l : List α) (x : α) : S le (l ++ [x]) = List.merge (S le l) [x] le := by
  unfold S
  rw [List.foldl_append]
  rfl
theorem S_len : ∀ (l : List α), (S le l).length = l.length := by
  intro l
  induction l using snoc_ind with
  | h0 => rfl
  | h1 l x ih => rw [S_snoc, List.length_merge, ih, List.length_append]
section
variable {le} (ht : ∀ a b c, le a b = true → le b c = true → le a c = true) (ho : ∀ a b, le a b = true ∨ le b a = true)
include ht ho
theorem S_append (A B : List α) : S le (A ++ B) = List.merge (S le A) (S le B) le := by
  induction B using snoc_ind with
  | h0 => simp [S]
  | h1 B x ih => rw [← List.append_assoc, S_snoc, ih, S_snoc, merge_assoc ht ho]
theorem S_sorted (l : List α) : (S le l).Pairwise fun a b => le a b = true := by
  induction l using snoc_ind with
  | h0 => simp [S]
  | h1 l x ih =>
    rw [S_snoc]
    exact List.pairwise_merge (le := le) (fun a b c => ht a b c) (fun a b => by simpa using ho a b) _ _ ih (List.pairwise_singleton _ _)
theorem merge_sorted {X Y : List α} (hX : X.Pairwise fun a b => le a b = true) (hY : Y.Pairwise fun a b => le a b = true) : (List.merge X Y le).Pairwise fun a b => le a b = true :=
  List.pairwise_merge (le := le) (fun a b c => ht a b c) (fun a b => by simpa using ho a b) _ _ hX hY
end
theorem S_perm (l : List α) : (S le l).Perm l := by
  induction l using snoc_ind with
  | h0 => simp [S]
  | h1 l x ih =>
    rw [S_snoc]
    exact (List.merge_perm_append le).trans (ih.append_right _)
end Stab
end Go.Proofs.Ytghefmppjdneoaa

namespace Go.Proofs.Ytghefmppjdneoaa
open Go.Sort
namespace Stab
variable {α : Type}

theorem swp_lists [Inhabited α] {d : Array α} {A B C : List α} {x y : α} {i j : Nat} (h : d.toList = A ++ x :: (B ++ y :: C)) (hi : i = A.length) (hj : j = A.length + 1 + B.length) : (swp d i j).toList = A ++ y :: (B ++ x :: C) := by
  subst hi hj
  have h1 : d[A.length]! = x := by
    rw [← Array.getElem!_toList, h]
    simp
  have h2 : d[A.length + 1 + B.length]! = y := by
    rw [← Array.getElem!_toList, h]
    simp [Nat.add_assoc, Nat.add_comm 1]
  unfold swp
  rw [h1, h2, Array.toList_setIfInBounds, Array.toList_setIfInBounds, h]
  rw [List.set_append_right _ _ (Nat.le_refl _), Nat.sub_self, List.set_cons_zero, List.set_append_right _ _ (by omega)]
  have e : A.length + 1 + B.length - A.length = B.length + 1 := by omega
  rw [e, List.set_cons_succ, List.set_append_right _ _ (Nat.le_refl _), Nat.sub_self, List.set_cons_zero]
theorem swp_sz [Inhabited α] (d : Array α) (i j : Nat) : (swp d i j).size = d.size := by
  unfold swp
  simp
/-- what stands at a place -/
theorem at_lists [Inhabited α] {d : Array α} {A C : List α} {x : α} {i : Nat} (h : d.toList = A ++ x :: C) (hi : i = A.length) : d[i]! = x := by
  subst hi
  rw [← Array.getElem!_toList, h]
  simp
/-- one round of an exchange of two runs -/
theorem swap_round [Inhabited α] {d : Array α} {P U1 U2 R V1 V2 Q : List α} {x y : α} {i j : Nat} (h : d.toList = P ++ (V1 ++ x :: U2) ++ R ++ (U1 ++ y :: V2) ++ Q) (hi : i = P.length + V1.length) (hj : j = P.length + V1.length + 1 + U2.length + R.length + U1.length) :
    (swp d i j).toList = P ++ ((V1 ++ [y]) ++ U2) ++ R ++ ((U1 ++ [x]) ++ V2) ++ Q := by
  have h' : d.toList = (P ++ V1) ++ x :: ((U2 ++ R ++ U1) ++ y :: (V2 ++ Q)) := by rw [h]; simp
  rw [swp_lists h' (by simp [hi]) (by simp [hj]; omega)]
  simp
section
variable (le : α → α → Bool) (ht : ∀ a b c, le a b = true → le b c = true → le a c = true)
include ht
/-- where the last of one run is not above the first of another, none is -/
theorem le_all {X Y : List α} (hX : X.Pairwise fun a b => le a b = true) (hY : Y.Pairwise fun a b => le a b = true) (ho : ∀ a, le a a = true) (h : ∀ x y, X.getLast? = some x → Y.head? = some y → le x y = true) : ∀ x ∈ X, ∀ y ∈ Y, le x y = true := by
  intro x hx y hy
  obtain ⟨y0, Y', rfl⟩ : ∃ y0 Y', Y = y0 :: Y' := by
    cases Y with
    | nil => cases hy
    | cons a b => exact ⟨a, b, rfl⟩
  obtain ⟨X', xl, rfl⟩ : ∃ X' xl, X = X' ++ [xl] := by
    rcases List.eq_nil_or_concat X with rfl | ⟨X', xl, rfl⟩
    · cases hx
    · exact ⟨X', xl, by simp⟩
  have h0 := h xl y0 (by simp) rfl
  have h1 : le x xl = true := by
    rcases List.mem_append.1 hx with hx | hx
    · exact (List.pairwise_append.1 hX).2.2 x hx xl (by simp)
    · rw [List.mem_singleton.1 hx]; exact ho xl
  have h2 : le y0 y = true := by
    rcases List.mem_cons.1 hy with rfl | hy
    · exact ho _
    · exact (List.pairwise_cons.1 hY).1 y hy
  exact ht _ _ _ h1 (ht _ _ _ h0 h2)
/-- where the first of one run is above the last of another, all are -/
theorem gt_all {X Y : List α} (hX : X.Pairwise fun a b => le a b = true) (hY : Y.Pairwise fun a b => le a b = true) (ho : ∀ a, le a a = true) (h : ∀ x y, X.head? = some x → Y.getLast? = some y → le x y = false) : ∀ x ∈ X, ∀ y ∈ Y, le x y = false := by
  intro x hx y hy
  obtain ⟨x0, X', rfl⟩ : ∃ y0 Y', X = y0 :: Y' := by
    cases X with
    | nil => cases hx
    | cons a b => exact ⟨a, b, rfl⟩
  obtain ⟨Y', yl, rfl⟩ : ∃ X' xl, Y = X' ++ [xl] := by
    rcases List.eq_nil_or_concat Y with rfl | ⟨X', xl, rfl⟩
    · cases hy
    · exact ⟨X', xl, by simp⟩
  have h0 := h x0 yl rfl (by simp)
  rw [Bool.eq_false_iff] at h0 ⊢
  intro h3
  have h1 : le y yl = true := by
    rcases List.mem_append.1 hy with hy | hy
    · exact (List.pairwise_append.1 hY).2.2 y hy yl (by simp)
    · rw [List.mem_singleton.1 hy]; exact ho yl
  have h2 : le x0 x = true := by
    rcases List.mem_cons.1 hx with rfl | hx
    · exact ho _
    · exact (List.pairwise_cons.1 hX).1 x hx
  exact h0 (ht _ _ _ h2 (ht _ _ _ h3 h1))
/-- the parting of a merge: the first runs in front, the last runs behind -/
theorem merge_part {X1 X2 Y1 Y2 : List α} (hX : (X1 ++ X2).Pairwise fun a b => le a b = true) (hY : (Y1 ++ Y2).Pairwise fun a b => le a b = true) (ho : ∀ a, le a a = true)
    (h1 : ∀ x y, X1.getLast? = some x → Y2.head? = some y → le x y = true) (h2 : ∀ x y, X2.head? = some x → Y1.getLast? = some y → le x y = false) : List.merge (X1 ++ X2) (Y1 ++ Y2) le = List.merge X1 Y1 le ++ List.merge X2 Y2 le :=
  merge_split le X1 Y1 X2 Y2 (le_all le ht (List.pairwise_append.1 hX).1 (List.pairwise_append.1 hY).2.1 ho h1) (gt_all le ht (List.pairwise_append.1 hX).2.1 (List.pairwise_append.1 hY).1 ho h2)
end
end Stab
end Go.Proofs.Ytghefmppjdneoaa

namespace Go.Proofs.Ytghefmppjdneoaa
open Go.Proofs Stab Go.Shelf Go.RowKit Go.Lib Go.Sort
section
variable {α : Type}
/-- not above, by a comparison -/
def leC (cf : α → α → Int) (x y : α) : Bool := !ltOf cf y x
/-- sorted, by a comparison -/
def SortC (cf : α → α → Int) (X : List α) : Prop := X.Pairwise fun a b => leC cf a b = true
theorem leC_trans {cf : α → α → Int} (h : SWO (ltOf cf)) (a b c : α) (h1 : leC cf a b = true) (h2 : leC cf b c = true) : leC cf a c = true := by
  unfold leC at *
  rw [Bool.not_eq_true'] at *
  exact h.ntrans _ _ _ h2 h1
theorem leC_refl {cf : α → α → Int} (h : SWO (ltOf cf)) (a : α) : leC cf a a = true := by
  unfold leC
  rw [h.irrefl]; rfl
theorem leC_total {cf : α → α → Int} (h : SWO (ltOf cf)) (a b : α) : leC cf a b = true ∨ leC cf b a = true := by
  unfold leC
  cases h1 : ltOf cf b a with
  | false => exact Or.inl rfl
  | true =>
    cases h2 : ltOf cf a b with
    | false => exact Or.inr rfl
    | true =>
      have := h.trans _ _ _ h1 h2
      rw [h.irrefl] at this
      cases this
theorem SortC.snoc_all {cf : α → α → Int} (h : SWO (ltOf cf)) {X : List α} {y x : α} (hX : SortC cf (X ++ [y])) (hy : leC cf y x = true) : ∀ z ∈ X ++ [y], leC cf z x = true := by
  intro z hz
  rcases List.mem_append.1 hz with hz | hz
  · exact leC_trans h _ _ _ ((List.pairwise_append.1 hX).2.2 z hz y (by simp)) hy
  · rw [List.mem_singleton.1 hz]; exact hy
end
section
variable {α : Type} [Inhabited α]
theorem at_list {d : Array α} {L R : List α} {x : α} {i : Nat} (h : d.toList = L ++ x :: R) (hi : i = L.length) : d[i]! = x := at_lists h hi
theorem swp_listsB {d : Array α} {A C : List α} {x y : α} {i j : Nat} (h : d.toList = A ++ x :: y :: C) (hi : i = A.length) (hj : j = A.length + 1) : (swp d j i).toList = A ++ y :: x :: C := by
  subst hi hj
  have h1 : d[A.length]! = x := at_lists h rfl
  have h2 : d[A.length + 1]! = y := at_lists (A := A ++ [x]) (C := C) (by rw [h]; simp) (by simp)
  unfold swp
  rw [h1, h2, Array.toList_setIfInBounds, Array.toList_setIfInBounds, h]
  rw [List.set_append_right _ _ (by omega), List.set_append_right _ _ (Nat.le_refl _), Nat.sub_self]
  have e : A.length + 1 - A.length = 1 := by omega
  rw [e]
  rfl
theorem insInner_S {cf : α → α → Int} (h : SWO (ltOf cf)) (A : List α) (x : α) : ∀ (X B : List α) (d : Array α), SortC cf X → d.toList = A ++ X ++ x :: B → (insInner (ltOf cf) A.length (A.length + X.length) d).toList = A ++ List.merge X [x] (leC cf) ++ B := by
  intro X
  induction X using snoc_ind with
  | h0 =>
    intro B d _ hd
    have e : insInner (ltOf cf) A.length (A.length + 0) d = d := by
      cases hA : A.length with
      | zero => rfl
      | succ n =>
        show insInner (ltOf cf) (n + 1) (n + 1) d = d
        unfold insInner
        rw [if_neg (by simp)]
    rw [List.length_nil, e, hd]
    simp
  | h1 X y ih =>
    intro B d hX hd
    have hl : A.length + (X ++ [y]).length = (A.length + X.length) + 1 := by rw [List.length_append, List.length_singleton]; omega
    have g1 : d[A.length + X.length + 1]! = x := at_list (L := A ++ (X ++ [y])) hd (by simp; omega)
    have g2 : d[A.length + X.length]! = y := at_list (L := A ++ X) (R := x :: B) (by rw [hd]; simp) (by simp)
    rw [hl]
    unfold insInner
    rw [g1, g2]
    by_cases hc : ltOf cf x y = true
    · rw [if_pos (by rw [hc]; simp; omega)]
      have hs : (swp d (A.length + X.length + 1) (A.length + X.length)).toList = A ++ X ++ x :: (y :: B) := by
        have := swp_listsB (d := d) (A := A ++ X) (C := B) (x := y) (y := x) (i := A.length + X.length) (j := A.length + X.length + 1) (by rw [hd]; simp) (by simp) (by simp)
        rw [this]
      rw [ih (y :: B) _ (List.pairwise_append.1 hX).1 hs]
      have hm := merge_split (leC cf) X [x] [y] [] (fun _ _ _ hq => by cases hq) (fun x' hx' y' hy' => by rw [List.mem_singleton.1 hx', List.mem_singleton.1 hy']; unfold leC; rw [hc]; rfl)
      rw [List.append_nil, List.merge_right] at hm
      rw [hm]
      simp
    · have hc' : ltOf cf x y = false := by simpa using hc
      rw [if_neg (by rw [hc']; simp)]
      have hall := hX.snoc_all h (y := y) (x := x) (by unfold leC; rw [hc']; rfl)
      have hm := merge_split (leC cf) (X ++ [y]) [] [] [x] (fun x' hx' y' hy' => by rw [List.mem_singleton.1 hy']; exact hall x' hx') (fun _ hq => by cases hq)
      rw [List.append_nil, List.nil_append, List.merge_right, List.nil_merge] at hm
      rw [hm, hd]
      simp
theorem insOuter_S {cf : α → α → Int} (h : SWO (ltOf cf)) (A Q : List α) : ∀ (M P : List α) (d : Array α), d.toList = A ++ S (leC cf) P ++ M ++ Q → (insOuter (ltOf cf) A.length (A.length + P.length + M.length) (A.length + P.length) d).toList = A ++ S (leC cf) (P ++ M) ++ Q
  | [], P, d, hd => by
    rw [insOuter, if_neg (by simp), hd]
    simp
  | x :: M, P, d, hd => by
    have hl : A.length + P.length + (x :: M).length = A.length + (P ++ [x]).length + M.length := by simp; omega
    rw [insOuter, if_pos (by simp)]
    have h1 := insInner_S h A x (S (leC cf) P) (M ++ Q) d (S_sorted (leC_trans h) (leC_total h) P) (by rw [hd]; simp)
    rw [S_len] at h1
    have h2 := insOuter_S h A Q M (P ++ [x]) (insInner (ltOf cf) A.length (A.length + P.length) d) (by rw [h1, S_snoc]; simp)
    rw [hl]
    have e : A.length + (P ++ [x]).length = A.length + P.length + 1 := by simp; omega
    rw [e] at h2 ⊢
    rw [h2]
    simp
theorem insertionSort_S {cf : α → α → Int} (h : SWO (ltOf cf)) (A M Q : List α) (d : Array α) (hd : d.toList = A ++ M ++ Q) : (Sort.insertionSort (ltOf cf) d A.length (A.length + M.length)).toList = A ++ S (leC cf) M ++ Q := by
  unfold Sort.insertionSort
  cases M with
  | nil =>
    rw [insOuter, if_neg (by simp), hd]
    rfl
  | cons x M =>
    have h1 := insOuter_S h A Q M [x] d (by rw [hd]; simp [S])
    have e : A.length + (x :: M).length = A.length + [x].length + M.length := by simp; omega
    rw [e]
    exact h1
end
end Go.Proofs.Ytghefmppjdneoaa
