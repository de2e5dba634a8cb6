/- slices.symMergeCmpFunc, insertionSortCmpFunc, stableCmpFunc at records. -/
import Derived.Test.YtefbllhpibfojaaDoorGrpF
import Derived.Test.YtefbllhpibfojaaDoorGrpE
import Derived.Shelf.SlSortCmp.PdqK
import Derived.Ground.SlsfProg
namespace Go.Proofs.YtefbllhpibfojaaDoor
open Go.Proofs Stab Go.Shelf Go.RowKit Go.Lib Go.Sort
variable {α : Type} [Inhabited α]

theorem at_mid {d : Array α} {L M R : List α} (h : d.toList = L ++ M ++ R) {i : Nat} (hi : i < M.length) : d[L.length + i]! = M[i] := by
  have e : M = M.take i ++ M[i] :: M.drop (i + 1) := by
    rw [← List.drop_eq_getElem_cons hi, List.take_append_drop]
  refine at_list (L := L ++ M.take i) (R := M.drop (i + 1) ++ R) ?_ (by rw [List.length_append, List.length_take]; omega)
  rw [h, List.append_assoc L, List.append_assoc L, ← List.cons_append, ← List.append_assoc (M.take i), ← e]
omit [Inhabited α] in
theorem mem_take_iff {Y : List α} {y : α} {j : Nat} (h : y ∈ Y.take j) : ∃ i, ∃ hi : i < Y.length, i < j ∧ Y[i] = y := by
  obtain ⟨i, hi, e⟩ := List.mem_iff_getElem.1 h
  rw [List.length_take] at hi
  exact ⟨i, by omega, by omega, by rw [← e, List.getElem_take]⟩
omit [Inhabited α] in
theorem mem_drop_iff {Y : List α} {y : α} {j : Nat} (h : y ∈ Y.drop j) : ∃ i, ∃ hi : i < Y.length, j ≤ i ∧ Y[i] = y := by
  obtain ⟨i, hi, e⟩ := List.mem_iff_getElem.1 h
  rw [List.length_drop] at hi
  exact ⟨j + i, by omega, by omega, by rw [← e, List.getElem_drop]⟩
omit [Inhabited α] in
theorem SortC.le {cf : α → α → Int} {X : List α} (h : SortC cf X) (ho : ∀ a, leC cf a a = true) {i j : Nat} (hij : i ≤ j) (hj : j < X.length) : leC cf X[i] X[j] = true := by
  by_cases e : i = j
  · subst e; exact ho _
  · exact List.pairwise_iff_getElem.1 h i j (by omega) hj (by omega)
omit [Inhabited α] in
theorem leC_f {cf : α → α → Int} {x y : α} (h : ltOf cf y x = true) : leC cf x y = false := by show (!ltOf cf y x) = false; rw [h]; rfl
omit [Inhabited α] in
theorem leC_t {cf : α → α → Int} {x y : α} (h : ltOf cf y x = false) : leC cf x y = true := by show (!ltOf cf y x) = true; rw [h]; rfl
omit [Inhabited α] in
theorem of_leC_t {cf : α → α → Int} {x y : α} (h : leC cf x y = true) : ltOf cf y x = false := by
  have h' : (!ltOf cf y x) = true := h
  simpa using h'
omit [Inhabited α] in
theorem of_leC_f {cf : α → α → Int} {x y : α} (h : leC cf x y = false) : ltOf cf y x = true := by
  have h' : (!ltOf cf y x) = false := h
  simpa using h'

theorem sym_all (k : Nat) (aE : ∀ w, (isAgg 38).run Tryd.prog w = .ok true w) (zE : ∀ w, (Go.sizeOf 38).run Tryd.prog w = .ok k w) (enc : α → List Value) (cf : α → α → Int) (g : Nat) (cb : Array Value) (blk off cap : Nat) (d0 : Array α) (w0 : World)
    (eg : ∀ args w, (callFunc g args).run Tryd.prog w = .ok (.enter g args) w) (hcmp : CmpLays Tryd.prog g cb enc k cf blk off d0.size w0)
    (ht : ∀ a b c, leC cf a b = true → leC cf b c = true → leC cf a c = true) (ho : ∀ a, leC cf a a = true)
    (R : RowK enc k w0 blk off d0) (hsz : d0.size < 2305843009213693952) : ∀ N, SymOk k enc cf g cb blk off cap d0 w0 N
  | 0 => by
    intro A X Y Q d w sz a m b hN hX0
    omega
  | N + 1 => by
    have ih := sym_all k aE zE enc cf g cb blk off cap d0 w0 eg hcmp ht ho R hsz N
    intro A X Y Q d w sz a m b hN hX0 hY0 sX sY hd hs S hz ha hm hb
    subst hz ha hm hb
    have hlen : A.length + X.length + Y.length + Q.length = d.size := by
      have := congrArg List.length hd
      simp only [List.length_append, Array.length_toList] at this
      omega
    have gY : ∀ i (hi : i < Y.length), d[A.length + X.length + i]! = Y[i] := fun i hi => by
      have := at_mid (L := A ++ X) (M := Y) (R := Q) hd hi
      rwa [List.length_append] at this
    have gX : ∀ i (hi : i < X.length), d[A.length + i]! = X[i] := fun i hi => at_mid (L := A) (M := X) (R := Y ++ Q) (by rw [hd]; simp) hi
    by_cases hX1 : X.length = 1
    · obtain ⟨x, rfl⟩ := List.length_eq_one_iff.1 hX1
      have gA : d[A.length]! = x := by have := gX 0 (by omega); simpa using this
      have h := sym_left k aE zE enc cf g cb blk off cap d0 d w0 w eg hcmp R hs S (by omega) A.length (A.length + 1 + Y.length) (by omega) (by omega) ?_
        (fun e w' => e = .returned (.tuple #[]) ∧ ∃ d' : Array α, d'.size = d.size ∧ d'.toList = A ++ List.merge [x] Y (leC cf) ++ Q ∧ SWK enc k w0 blk off d' w') ?_
      · simpa using h
      · intro t t' h1 h2 h3 h4
        have e1 := gY (t - A.length - 1) (by omega)
        have e2 := gY (t' - A.length - 1) (by omega)
        have q1 : A.length + 1 + (t - A.length - 1) = t := by omega
        have q2 : A.length + 1 + (t' - A.length - 1) = t' := by omega
        simp only [List.length_singleton] at e1 e2
        rw [q1] at e1
        rw [q2] at e2
        rw [e1, gA]
        rw [e2, gA] at h4
        have hle := sY.le ho (i := t - A.length - 1) (j := t' - A.length - 1) (by omega) (by omega)
        cases hq : ltOf cf Y[t - A.length - 1] x with
        | true => rfl
        | false =>
          have := of_leC_t (ht _ _ _ (leC_t hq) hle)
          rw [h4] at this
          cases this
      · intro i d' w' h1 h2 h3 h4 h5 h6 h7
        refine ⟨rfl, d', h5, ?_, h7⟩
        rw [h6, gA]
        have hm := merge_one_left (leC cf) x Y (i - 1 - A.length) (fun y hy => ?_) (fun y hy => ?_)
        · rw [hm, hd]
          have e1 : (A ++ [x] ++ Y ++ Q).take A.length = A := by simp
          have e2 : (A ++ [x] ++ Y ++ Q).drop (A.length + 1) = Y ++ Q := by
            have : A.length + 1 = (A ++ [x]).length := by simp
            rw [this, List.append_assoc (A ++ [x]), List.drop_left]
          have e3 : (A ++ [x] ++ Y ++ Q).drop i = Y.drop (i - 1 - A.length) ++ Q := by
            have hi : i = (A.length + 1) + (i - 1 - A.length) := by omega
            conv => lhs; rw [hi]
            rw [← List.drop_drop, e2, List.drop_append_of_le_length (by omega)]
          rw [e1, e2, e3, List.take_append_of_le_length (by omega)]
          simp
        · obtain ⟨j, hj, hj', rfl⟩ := mem_take_iff hy
          have e1 := gY j hj
          simp only [List.length_singleton] at e1
          have := h3 (A.length + 1 + j) (by omega) (by omega)
          rw [e1, gA] at this
          exact leC_f this
        · obtain ⟨j, hj, hj', rfl⟩ := mem_drop_iff hy
          have e1 := gY j hj
          simp only [List.length_singleton] at e1
          have := h4 (A.length + 1 + j) (by omega) (by omega)
          rw [e1, gA] at this
          exact leC_t this
    · by_cases hY1 : Y.length = 1
      · obtain ⟨y, rfl⟩ := List.length_eq_one_iff.1 hY1
        have gM : d[A.length + X.length]! = y := by have := gY 0 (by omega); simpa using this
        have h := sym_right k aE zE enc cf g cb blk off cap d0 d w0 w eg hcmp R hs S (by omega) A.length (A.length + X.length) (by omega) (by simp only [List.length_singleton] at hlen; omega) ?_
          (fun e w' => e = .returned (.tuple #[]) ∧ ∃ d' : Array α, d'.size = d.size ∧ d'.toList = A ++ List.merge X [y] (leC cf) ++ Q ∧ SWK enc k w0 blk off d' w') ?_
        · simpa using h
        · intro t t' h1 h2 h3 h4
          have e1 := gX (t - A.length) (by omega)
          have e2 := gX (t' - A.length) (by omega)
          have q1 : A.length + (t - A.length) = t := by omega
          have q2 : A.length + (t' - A.length) = t' := by omega
          rw [q1] at e1
          rw [q2] at e2
          rw [e2, gM]
          rw [e1, gM] at h4
          have hle := sX.le ho (i := t - A.length) (j := t' - A.length) (by omega) (by omega)
          cases hq : ltOf cf y X[t' - A.length] with
          | true => rfl
          | false =>
            have := of_leC_t (ht _ _ _ hle (leC_t hq))
            rw [h4] at this
            cases this
        · intro i d' w' h1 h2 h3 h4 h5 h6 h7
          refine ⟨rfl, d', h5, ?_, h7⟩
          rw [h6, gM]
          have hm := merge_one_right (leC cf) X y (i - A.length) (fun x hx => ?_) (fun x hx => ?_)
          · rw [hm, hd]
            have e2 : (A ++ X ++ [y] ++ Q).drop A.length = X ++ [y] ++ Q := by rw [List.append_assoc A, List.append_assoc A, List.drop_left]
            have e0 : (A ++ X ++ [y] ++ Q).take i = A ++ X.take (i - A.length) := by
              rw [List.append_assoc A, List.append_assoc A, List.take_append, List.append_assoc X, List.take_append_of_le_length (l₁ := X) (by omega), List.take_of_length_le (by omega)]
            have e3 : (A ++ X ++ [y] ++ Q).drop i = X.drop (i - A.length) ++ [y] ++ Q := by
              have hi : i = A.length + (i - A.length) := by omega
              conv => lhs; rw [hi]
              rw [← List.drop_drop, e2, List.append_assoc X, List.drop_append_of_le_length (by omega), List.append_assoc]
            have e4 : (A ++ X ++ [y] ++ Q).drop (A.length + X.length + 1) = Q := by
              have : A.length + X.length + 1 = (A ++ X ++ [y]).length := by simp; omega
              rw [this, List.drop_left]
            have hl : (X.drop (i - A.length)).length = A.length + X.length - i := by rw [List.length_drop]; omega
            have e5 : List.take (A.length + X.length - i) (X.drop (i - A.length)) = X.drop (i - A.length) := List.take_of_length_le (by omega)
            rw [e0, e3, e4, List.append_assoc (X.drop _), List.take_append_of_le_length (by omega), e5]
            simp
          · obtain ⟨j, hj, hj', rfl⟩ := mem_take_iff hx
            have e1 := gX j hj
            have := h3 (A.length + j) (by omega) (by omega)
            rw [e1, gM] at this
            exact leC_t this
          · obtain ⟨j, hj, hj', rfl⟩ := mem_drop_iff hx
            have e1 := gX j hj
            have := h4 (A.length + j) (by omega) (by omega)
            rw [e1, gM] at this
            exact leC_f this
      · have IH : SymOk k enc cf g cb blk off cap d0 w0 (X.length + Y.length - 1) := fun A' X' Y' Q' d' w' sz a m b hN' => ih A' X' Y' Q' d' w' sz a m b (by omega)
        obtain ⟨mid, hmid⟩ : ∃ mid : Nat, ((A.length : Int) + ((A.length + X.length + Y.length : Nat) : Int)) / 2 = (mid : Int) := ⟨(A.length + (A.length + X.length + Y.length)) / 2, by omega⟩
        by_cases hmm : (mid : Int) < ((A.length + X.length : Nat) : Int)
        · exact sym_rest1 k aE zE enc cf g cb blk off cap d0 d w0 w eg hcmp ht ho R hs S (by omega) A X Y Q sX sY hd IH A.length (A.length + X.length) (A.length + X.length + Y.length) rfl (by omega) (by omega) (by omega) (by omega) (by omega) mid hmid hmm
        · exact sym_rest2 k aE zE enc cf g cb blk off cap d0 d w0 w eg hcmp ht ho R hs S (by omega) A X Y Q sX sY hd IH A.length (A.length + X.length) (A.length + X.length + Y.length) rfl (by omega) (by omega) (by omega) (by omega) (by omega) mid hmid hmm
end Go.Proofs.YtefbllhpibfojaaDoor

namespace Go.Proofs.YtefbllhpibfojaaDoor
open Go.Proofs Stab Go.Shelf Go.RowKit Go.Lib Go.Sort
variable {α : Type}

theorem leC_trans {cf : α → α → Int} (h : SWO (ltOf cf)) (a b c : α) (h1 : leC cf a b = true) (h2 : leC cf b c = true) : leC cf a c = true := by
  unfold leC at *
  rw [Bool.not_eq_true'] at *
  exact h.ntrans _ _ _ h2 h1
theorem leC_refl {cf : α → α → Int} (h : SWO (ltOf cf)) (a : α) : leC cf a a = true := by
  unfold leC
  rw [h.irrefl]; rfl
theorem leC_total {cf : α → α → Int} (h : SWO (ltOf cf)) (a b : α) : leC cf a b = true ∨ leC cf b a = true := by
  unfold leC
  cases h1 : ltOf cf b a with
  | false => exact Or.inl rfl
  | true =>
    cases h2 : ltOf cf a b with
    | false => exact Or.inr rfl
    | true =>
      have := h.trans _ _ _ h1 h2
      rw [h.irrefl] at this
      cases this
theorem SortC.snoc_all {cf : α → α → Int} (h : SWO (ltOf cf)) {X : List α} {y x : α} (hX : SortC cf (X ++ [y])) (hy : leC cf y x = true) : ∀ z ∈ X ++ [y], leC cf z x = true := by
  intro z hz
  rcases List.mem_append.1 hz with hz | hz
  · exact leC_trans h _ _ _ ((List.pairwise_append.1 hX).2.2 z hz y (by simp)) hy
  · rw [List.mem_singleton.1 hz]; exact hy

variable [Inhabited α]
theorem insInner_S {cf : α → α → Int} (h : SWO (ltOf cf)) (A : List α) (x : α) : ∀ (X B : List α) (d : Array α), SortC cf X → d.toList = A ++ X ++ x :: B → (insInner (ltOf cf) A.length (A.length + X.length) d).toList = A ++ List.merge X [x] (leC cf) ++ B := by
  intro X
  induction X using snoc_ind with
  | h0 =>
    intro B d _ hd
    have e : insInner (ltOf cf) A.length (A.length + 0) d = d := by
      cases hA : A.length with
      | zero => rfl
      | succ n =>
        show insInner (ltOf cf) (n + 1) (n + 1) d = d
        unfold insInner
        rw [if_neg (by simp)]
    rw [List.length_nil, e, hd]
    simp
  | h1 X y ih =>
    intro B d hX hd
    have hl : A.length + (X ++ [y]).length = (A.length + X.length) + 1 := by rw [List.length_append, List.length_singleton]; omega
    have g1 : d[A.length + X.length + 1]! = x := at_list (L := A ++ (X ++ [y])) hd (by simp; omega)
    have g2 : d[A.length + X.length]! = y := at_list (L := A ++ X) (R := x :: B) (by rw [hd]; simp) (by simp)
    rw [hl]
    unfold insInner
    rw [g1, g2]
    by_cases hc : ltOf cf x y = true
    · rw [if_pos (by rw [hc]; simp; omega)]
      have hs : (swp d (A.length + X.length + 1) (A.length + X.length)).toList = A ++ X ++ x :: (y :: B) := by
        have := swp_listsB (d := d) (A := A ++ X) (C := B) (x := y) (y := x) (i := A.length + X.length) (j := A.length + X.length + 1) (by rw [hd]; simp) (by simp) (by simp)
        rw [this]
      rw [ih (y :: B) _ (List.pairwise_append.1 hX).1 hs]
      have hm := merge_split (leC cf) X [x] [y] [] (fun _ _ _ hq => by cases hq) (fun x' hx' y' hy' => by rw [List.mem_singleton.1 hx', List.mem_singleton.1 hy']; unfold leC; rw [hc]; rfl)
      rw [List.append_nil, List.merge_right] at hm
      rw [hm]
      simp
    · have hc' : ltOf cf x y = false := by simpa using hc
      rw [if_neg (by rw [hc']; simp)]
      have hall := hX.snoc_all h (y := y) (x := x) (by unfold leC; rw [hc']; rfl)
      have hm := merge_split (leC cf) (X ++ [y]) [] [] [x] (fun x' hx' y' hy' => by rw [List.mem_singleton.1 hy']; exact hall x' hx') (fun _ hq => by cases hq)
      rw [List.append_nil, List.nil_append, List.merge_right, List.nil_merge] at hm
      rw [hm, hd]
      simp
theorem insOuter_S {cf : α → α → Int} (h : SWO (ltOf cf)) (A Q : List α) : ∀ (M P : List α) (d : Array α), d.toList = A ++ S (leC cf) P ++ M ++ Q → (insOuter (ltOf cf) A.length (A.length + P.length + M.length) (A.length + P.length) d).toList = A ++ S (leC cf) (P ++ M) ++ Q
  | [], P, d, hd => by
    rw [insOuter, if_neg (by simp), hd]
    simp
  | x :: M, P, d, hd => by
    have hl : A.length + P.length + (x :: M).length = A.length + (P ++ [x]).length + M.length := by simp; omega
    rw [insOuter, if_pos (by simp)]
    have h1 := insInner_S h A x (S (leC cf) P) (M ++ Q) d (S_sorted (leC_trans h) (leC_total h) P) (by rw [hd]; simp)
    rw [S_len] at h1
    have h2 := insOuter_S h A Q M (P ++ [x]) (insInner (ltOf cf) A.length (A.length + P.length) d) (by rw [h1, S_snoc]; simp)
    rw [hl]
    have e : A.length + (P ++ [x]).length = A.length + P.length + 1 := by simp; omega
    rw [e] at h2 ⊢
    rw [h2]
    simp
theorem insertionSort_S {cf : α → α → Int} (h : SWO (ltOf cf)) (A M Q : List α) (d : Array α) (hd : d.toList = A ++ M ++ Q) : (Sort.insertionSort (ltOf cf) d A.length (A.length + M.length)).toList = A ++ S (leC cf) M ++ Q := by
  unfold Sort.insertionSort
  cases M with
  | nil =>
    rw [insOuter, if_neg (by simp), hd]
    rfl
  | cons x M =>
    have h1 := insOuter_S h A Q M [x] d (by rw [hd]; simp [S])
    have e : A.length + (x :: M).length = A.length + [x].length + M.length := by simp; omega
    rw [e]
    exact h1

/-- each block of so many sorted by itself -/
def Bl (cf : α → α → Int) (bs : Nat) (l : List α) : List α :=
  if bs = 0 ∨ l.length ≤ bs then S (leC cf) l else S (leC cf) (l.take bs) ++ Bl cf bs (l.drop bs)
termination_by l.length
decreasing_by
  rename_i hh
  rw [List.length_drop]
  omega
omit [Inhabited α] in
theorem Bl_short {cf : α → α → Int} {bs : Nat} {l : List α} (h : l.length ≤ bs) : Bl cf bs l = S (leC cf) l := by rw [Bl, if_pos (Or.inr h)]
omit [Inhabited α] in
theorem Bl_block {cf : α → α → Int} {bs : Nat} (hb : 0 < bs) (B R : List α) (hB : B.length = bs) : Bl cf bs (B ++ R) = S (leC cf) B ++ Bl cf bs R := by
  by_cases h : R.length = 0
  · have : R = [] := List.eq_nil_of_length_eq_zero h
    subst this
    rw [List.append_nil, Bl_short (Nat.le_of_eq hB), Bl_short (Nat.zero_le _)]
    simp [S]
  · rw [Bl, if_neg (by rw [List.length_append]; omega), ← hB, List.take_left, List.drop_left]
omit [Inhabited α] in
theorem Bl_append {cf : α → α → Int} {bs : Nat} (hb : 0 < bs) (R : List α) : ∀ (q : Nat) (P : List α), P.length = q * bs → Bl cf bs (P ++ R) = Bl cf bs P ++ Bl cf bs R
  | 0, P, h => by
    have : P = [] := List.eq_nil_of_length_eq_zero (by omega)
    subst this
    rw [List.nil_append, Bl_short (l := []) (Nat.zero_le _)]
    simp [S]
  | q + 1, P, h => by
    have hm : (q + 1) * bs = q * bs + bs := Nat.succ_mul q bs
    have e : P = P.take bs ++ P.drop bs := (List.take_append_drop bs P).symm
    have hl : (P.take bs).length = bs := by rw [List.length_take]; omega
    rw [e, List.append_assoc, Bl_block hb _ _ hl, Bl_block hb _ _ hl, Bl_append hb R q (P.drop bs) (by rw [List.length_drop]; omega), List.append_assoc]
omit [Inhabited α] in
theorem Bl_len {cf : α → α → Int} {bs : Nat} (hb : 0 < bs) : ∀ (n : Nat) (l : List α), l.length ≤ n → (Bl cf bs l).length = l.length
  | 0, l, h => by rw [Bl_short (by omega), S_len]
  | n + 1, l, h => by
    rw [Bl]
    split
    · exact S_len _ _
    · rename_i hh
      rw [List.length_append, S_len, Bl_len hb n _ (by rw [List.length_drop]; omega), List.length_take, List.length_drop]
      omega
end Go.Proofs.YtefbllhpibfojaaDoor

namespace Go.Proofs
open Go.RowKit Go.Sort Go.Shelf
shelf_lay_g SlLaysF0.n20 Slsf 20 at Tryd 94 as Tryd.insA
end Go.Proofs
namespace Go.Proofs.YtefbllhpibfojaaDoor
open Go.Proofs Stab Go.Shelf Go.RowKit Go.Lib Go.Sort
variable {α : Type} [Inhabited α]

theorem ins_at (k : Nat) (aE : ∀ w, (isAgg 38).run Tryd.prog w = .ok true w) (zE : ∀ w, (Go.sizeOf 38).run Tryd.prog w = .ok k w) (enc : α → List Value) (cf : α → α → Int) (g : Nat) (cb : Array Value) (blk off cap : Nat) (d0 d : Array α) (w0 w : World)
    (eg : ∀ args w, (callFunc g args).run Tryd.prog w = .ok (.enter g args) w) (hcmp : CmpLays Tryd.prog g cb enc k cf blk off d0.size w0) (hO : SWO (ltOf cf))
    (R : RowK enc k w0 blk off d0) (hs : d0.size = d.size) (S : SWK enc k w0 blk off d w) (hsz : d.size < 2305843009213693952) (A M Q : List α) (hd : d.toList = A ++ M ++ Q) (sz : Nat) (a b : Int) (hz : sz = d.size) (ha : a = (A.length : Nat)) (hb : b = ((A.length + M.length : Nat))) :
    Calls Tryd.prog 94 #[.slice (some ⟨blk, off, none⟩) sz cap, .int .i64 a, .int .i64 b, .func (.func g) #[] cb] w fun e w' => e = .returned (.tuple #[]) ∧ ∃ d' : Array α, d'.size = d.size ∧ d'.toList = A ++ Stab.S (leC cf) M ++ Q ∧ SWK enc k w0 blk off d' w' := by
  subst hz ha hb
  have hl : A.length + M.length + Q.length = d.size := by
    have := congrArg List.length hd
    simp only [List.length_append, Array.length_toList] at this
    omega
  refine (AnyQ.insertionSortCmpFunc_w (ρ := Tryd.insA_ren) Tryd.insA k aE zE enc cf g cb blk off cap A.length (A.length + M.length) d0 d w0 w eg hcmp R hs S hO (by omega) (by omega) (by omega)).mono ?_
  rintro e w' ⟨rfl, hS⟩
  exact ⟨rfl, _, (insertionSort_holds hO d A.length (A.length + M.length) (by omega) (by omega)).1.1, insertionSort_S hO A M Q d hd, hS⟩
theorem ins_none (p : Option Addr) (cap : Nat) (fv : Value) (w : World) : Calls Tryd.prog 94 #[.slice p 0 cap, .int .i64 0, .int .i64 0, fv] w fun e w' => e = .returned (.tuple #[]) ∧ w' = w := by
  go_enter Tryd.func94, Tryd.ntmps94
  go_wp2_with fail
  go_loopg [8] 0 (fun kx s8 wr => s8 = .int .i64 1 ∧ wr = w)
  case atStart => exact ⟨rfl, rfl⟩
  case round =>
    obtain ⟨rfl, rfl⟩ := hrel
    go_wp2_with fail
    go_end0
    exact ⟨rfl, rfl⟩
end Go.Proofs.YtefbllhpibfojaaDoor

namespace Go.Proofs.YtefbllhpibfojaaDoor
open Go.Proofs Stab Go.Shelf Go.RowKit Go.Lib Go.Sort
variable {α : Type}

theorem Bl_two {cf : α → α → Int} {bs : Nat} (hb : 0 < bs) (X Y R : List α) (hX : X.length = bs) (hY : Y.length = bs) : Bl cf bs (X ++ Y ++ R) = S (leC cf) X ++ S (leC cf) Y ++ Bl cf bs R := by
  rw [List.append_assoc, Bl_block hb X _ hX, Bl_block hb Y _ hY, List.append_assoc]
theorem Bl_last {cf : α → α → Int} {bs : Nat} (hb : 0 < bs) (X Y : List α) (hX : X.length = bs) (hY : Y.length ≤ bs) : Bl cf bs (X ++ Y) = S (leC cf) X ++ S (leC cf) Y := by
  rw [Bl_block hb X _ hX, Bl_short hY]
theorem S_merge {cf : α → α → Int} (h : SWO (ltOf cf)) (X Y : List α) : List.merge (S (leC cf) X) (S (leC cf) Y) (leC cf) = S (leC cf) (X ++ Y) := (S_append (leC_trans h) (leC_total h) X Y).symm
theorem S_sortC {cf : α → α → Int} (h : SWO (ltOf cf)) (X : List α) : SortC cf (S (leC cf) X) := S_sorted (leC_trans h) (leC_total h) X
theorem split_at (R : List α) (k : Nat) (h : k ≤ R.length) : ∃ X R', R = X ++ R' ∧ X.length = k := ⟨R.take k, R.drop k, (List.take_append_drop k R).symm, by rw [List.length_take]; omega⟩

variable [Inhabited α]
set_option maxRecDepth 1000000 in
set_option maxHeartbeats 400000 in
theorem stable_any (k : Nat) (aE : ∀ w, (isAgg 38).run Tryd.prog w = .ok true w) (zE : ∀ w, (Go.sizeOf 38).run Tryd.prog w = .ok k w) (enc : α → List Value) (cf : α → α → Int) (g : Nat) (cb : Array Value) (blk off cap : Nat) (d0 d : Array α) (w0 w : World)
    (eg : ∀ args w, (callFunc g args).run Tryd.prog w = .ok (.enter g args) w) (hcmp : CmpLays Tryd.prog g cb enc k cf blk off d0.size w0) (hO : SWO (ltOf cf))
    (R : RowK enc k w0 blk off d0) (hs : d0.size = d.size) (S1 : SWK enc k w0 blk off d w) (hsz : d.size < 2305843009213693952) :
    Calls Tryd.prog 84 #[.slice (some ⟨blk, off, none⟩) d.size cap, .int .i64 d.size, .func (.func g) #[] cb] w fun e w' => e = .returned (.tuple #[]) ∧ ∃ d' : Array α, d'.size = d.size ∧ d'.toList = S (leC cf) d.toList ∧ SWK enc k w0 blk off d' w' := by
  have S0 : Aside (SWK enc k w0 blk off d w) := S1
  clear S1
  have SY := sym_all k aE zE enc cf g cb blk off cap d0 w0 eg hcmp (leC_trans hO) (leC_refl hO) R (by omega)
  have HSY : Aside _ := SY
  have HC : Aside _ := hcmp
  have HO : Aside _ := hO
  clear SY hcmp hO
  go_enter Tryd.func84, Tryd.ntmps84
  obtain ⟨n, hn⟩ : ∃ n, n = d.size := ⟨_, rfl⟩
  obtain ⟨L, hL⟩ : ∃ L, L = d.toList := ⟨_, rfl⟩
  have hLn : L.length = n := by rw [hL, hn]; simp
  rw [← hn]
  have HN := hid' (And.intro hn (And.intro hL hLn))
  have hnz : n < 2305843009213693952 := by omega
  clear hn hL hLn hsz
  go_wp2_with fail
  go_loopg [7, 8] n (fun kx s7 s8 wr => ∃ (a q : Nat) (dk : Array α) (P Q : List α), s7 = .int .i64 a ∧ s8 = .int .i64 ((a + 20 : Nat)) ∧ Hid (L = P ++ Q ∧ P.length = a ∧ a = q * 20 ∧ dk.size = n ∧ dk.toList = Bl cf 20 P ++ Q) ∧ a ≤ n ∧ n - a ≤ kx ∧ Aside (SWK enc k w0 blk off dk wr))
  case atStart => exact ⟨0, 0, d, [], L, rfl, rfl, ⟨rfl, rfl, rfl, HN.out.1.symm, by rw [Bl_short (Nat.zero_le _)]; exact HN.out.2.1.symm⟩, Nat.zero_le _, Nat.le_refl _, S0⟩
  case round =>
    clear S0
    obtain ⟨a, q, dk, P, Q, rfl, rfl, HP, han, hkx, S1⟩ := hrel
    have r1 : IntKind.i64.wrap (((a + 20 : Nat) : Int) + 20) = ((a + 20 + 20 : Nat) : Int) := by rw [IntKind.wrap_i64]; omega
    by_cases hlt : ((a + 20 : Nat) : Int) ≤ (n : Int)
    · obtain ⟨X, Q', hQ, hX⟩ := split_at Q 20 (by have h1 := HP.out; have h2 := HN.out; have := congrArg List.length h1.1; rw [List.length_append] at this; omega)
      have HX := hid' (And.intro hQ hX)
      clear hQ hX
      have hb := ins_at k aE zE enc cf g cb blk off cap d0 dk w0 wr eg HC.out HO.out R (by have := HP.out.2.2.2.1; have := HN.out.1; omega) S1.out (by have := HP.out.2.2.2.1; omega) (Bl cf 20 P) X Q' (by have h1 := HP.out; have h2 := HX.out; rw [h1.2.2.2.2, h2.1, List.append_assoc]) n a ((a + 20 : Nat)) (by have := HP.out.2.2.2.1; omega)
        (by rw [Bl_len (by omega) P.length P (Nat.le_refl _), HP.out.2.1]) (by rw [Bl_len (by omega) P.length P (Nat.le_refl _), HP.out.2.1, HX.out.2])
      have HB : Aside _ := hb
      clear hb S1
      go_wp2_with fail
      refine Calls.mono HB.out ?_
      rintro e w5 ⟨rfl, d', hz, hl, hS⟩
      have HL' := hid' (And.intro hz hl)
      have HS' : Aside _ := hS
      clear hl hS hz HB
      go_wp2_with fail
      go_roundg (n - (a + 20))
      case measure => omega
      case rel =>
        have h1 := HP.out
        have h2 := HX.out
        have h3 := HL'.out
        refine ⟨a + 20, q + 1, d', P ++ X, Q', rfl, by go_num, ⟨by rw [h1.1, h2.1, List.append_assoc], by rw [List.length_append]; omega, by omega, by omega, ?_⟩, by omega, Nat.le_refl _, HS'⟩
        show d'.toList = _
        rw [h3.2, Bl_append (by omega) X q P (by omega), Bl_short (l := X) (by omega)]
    · have hb := ins_at k aE zE enc cf g cb blk off cap d0 dk w0 wr eg HC.out HO.out R (by have := HP.out.2.2.2.1; have := HN.out.1; omega) S1.out (by have := HP.out.2.2.2.1; omega) (Bl cf 20 P) Q [] (by have h1 := HP.out; rw [h1.2.2.2.2, List.append_nil]) n a n (by have := HP.out.2.2.2.1; omega)
        (by rw [Bl_len (by omega) P.length P (Nat.le_refl _), HP.out.2.1]) (by rw [Bl_len (by omega) P.length P (Nat.le_refl _)]; have h1 := HP.out; have h2 := HN.out; have := congrArg List.length h1.1; rw [List.length_append] at this; omega)
      have HB : Aside _ := hb
      clear hb S1 r1
      go_wp2_with fail
      refine Calls.mono HB.out ?_
      rintro e w5 ⟨rfl, d', hz, hl, hS⟩
      have hbl : d'.toList = Bl cf 20 L := by
        have h1 := HP.out
        have h2 := HN.out
        have h3 := congrArg List.length h1.1
        rw [List.length_append] at h3
        rw [hl, h1.1, Bl_append (by omega) Q q P (by omega), Bl_short (l := Q) (by omega), List.append_nil]
      have HL' := hid' (And.intro (show d'.size = n by have := HP.out.2.2.2.1; omega) hbl)
      have HS' : Aside _ := hS
      clear hl hS hz hbl HB HP hlt han hkx
      go_wp2_with fail
      go_loopg [6] n (fun kx s6 wr => ∃ (bs : Nat) (dk : Array α), s6 = .int .i64 bs ∧ 20 ≤ bs ∧ bs < 2 * n + 40 ∧ n - bs ≤ kx ∧ Hid (dk.size = n ∧ dk.toList = Bl cf bs L) ∧ Aside (SWK enc k w0 blk off dk wr))
      case atStart => exact ⟨20, d', rfl, by omega, by omega, by omega, HL'.out, HS'⟩
      case round =>
        clear HL' HS'
        obtain ⟨bs, dk, rfl, hb20, hbn, hkx, HD, S1⟩ := hrel
        by_cases hlt2 : (bs : Int) < (n : Int)
        · have hbs : bs < 2305843009213693952 := by omega
          go_wp2_with fail
          go_loopg [7, 8] n (fun kx s7 s8 wr => ∃ (a q : Nat) (dk : Array α) (P Q : List α), s7 = .int .i64 a ∧ s8 = .int .i64 ((a + 2 * bs : Nat)) ∧ Hid (L = P ++ Q ∧ P.length = a ∧ a = q * (2 * bs) ∧ dk.size = n ∧ dk.toList = Bl cf (2 * bs) P ++ Bl cf bs Q) ∧ a ≤ n ∧ n - a ≤ kx ∧ Aside (SWK enc k w0 blk off dk wr))
          case atStart => exact ⟨0, 0, dk, [], L, rfl, by go_num, ⟨rfl, rfl, by omega, HD.out.1, by rw [Bl_short (l := []) (Nat.zero_le _)]; exact HD.out.2⟩, Nat.zero_le _, Nat.le_refl _, S1⟩
          case round =>
            clear S1 HD
            obtain ⟨a, q, dk, P, Q, rfl, rfl, HP, han, hkx2, S1⟩ := hrel
            have r4 : IntKind.i64.wrap ((a : Int) + (bs : Int)) = ((a + bs : Nat) : Int) := by rw [IntKind.wrap_i64]; omega
            by_cases hlt3 : ((a + 2 * bs : Nat) : Int) ≤ (n : Int)
            · obtain ⟨X, Q1, hQ, hX⟩ := split_at Q bs (by have h1 := HP.out; have h2 := HN.out; have := congrArg List.length h1.1; rw [List.length_append] at this; omega)
              obtain ⟨Y, Q2, hQ1, hY⟩ := split_at Q1 bs (by have h1 := HP.out; have h2 := HN.out; have := congrArg List.length h1.1; rw [List.length_append] at this; have := congrArg List.length hQ; rw [List.length_append] at this; omega)
              have HX := hid' (And.intro hQ (And.intro hX (And.intro hQ1 hY)))
              clear hQ hX hQ1 hY
              have hPl : (Bl cf (2 * bs) P).length = a := by rw [Bl_len (by omega) P.length P (Nat.le_refl _), HP.out.2.1]
              have hb := HSY.out (bs + bs) (Bl cf (2 * bs) P) (S (leC cf) X) (S (leC cf) Y) (Bl cf bs Q2) dk wr n a ((a + bs : Nat)) ((a + 2 * bs : Nat)) (by rw [S_len, S_len]; have := HX.out; omega) (by rw [S_len]; have := HX.out; omega) (by rw [S_len]; have := HX.out; omega) (S_sortC HO.out X) (S_sortC HO.out Y)
                (by have h1 := HP.out; have h2 := HX.out; rw [h1.2.2.2.2, h2.1, h2.2.2.1, ← List.append_assoc X, Bl_two (by omega) X Y Q2 h2.2.1 h2.2.2.2]; simp) (by have := HP.out.2.2.2.1; have := HN.out.1; omega) S1.out (by have := HP.out.2.2.2.1; omega)
                (by rw [hPl]) (by rw [hPl, S_len, HX.out.2.1]) (by rw [hPl, S_len, S_len, HX.out.2.1, HX.out.2.2.2]; omega)
              have HB : Aside _ := hb
              clear hb S1 hPl
              go_wp2_with fail
              refine Calls.mono HB.out ?_
              rintro e w6 ⟨rfl, d2, hz, hl, hS⟩
              have HL2 := hid' (And.intro hz hl)
              have HS2 : Aside _ := hS
              clear hl hS hz HB
              go_wp2_with fail
              go_roundg (n - (a + 2 * bs))
              case measure => omega
              case rel =>
                have h1 := HP.out
                have h2 := HX.out
                have h3 := HL2.out
                refine ⟨a + 2 * bs, q + 1, d2, P ++ (X ++ Y), Q2, rfl, by go_num, ⟨by rw [h1.1, h2.1, h2.2.2.1]; simp, by rw [List.length_append, List.length_append]; omega, by have e : (q + 1) * (2 * bs) = q * (2 * bs) + 2 * bs := Nat.succ_mul q (2 * bs); have := h1.2.2.1; omega, by omega, ?_⟩, by omega, Nat.le_refl _, HS2⟩
                show d2.toList = _
                rw [h3.2, S_merge HO.out, Bl_append (by omega) (X ++ Y) q P (by omega), Bl_short (l := X ++ Y) (by rw [List.length_append]; omega)]
            · have hQl : Q.length + a = n := by have h1 := HP.out; have h2 := HN.out; have := congrArg List.length h1.1; rw [List.length_append] at this; omega
              by_cases hlt4 : ((a + bs : Nat) : Int) < (n : Int)
              · obtain ⟨X, Y, hQ, hX⟩ := split_at Q bs (by omega)
                have hY : Y.length + bs = Q.length := by rw [hQ, List.length_append]; omega
                have HX := hid' (And.intro hQ (And.intro hX hY))
                clear hQ hX
                have hPl : (Bl cf (2 * bs) P).length = a := by rw [Bl_len (by omega) P.length P (Nat.le_refl _), HP.out.2.1]
                have hb := HSY.out (bs + bs) (Bl cf (2 * bs) P) (S (leC cf) X) (S (leC cf) Y) [] dk wr n a ((a + bs : Nat)) n (by rw [S_len, S_len]; have := HX.out; omega) (by rw [S_len]; have := HX.out; omega) (by rw [S_len]; have := HX.out; omega) (S_sortC HO.out X) (S_sortC HO.out Y)
                  (by have h1 := HP.out; have h2 := HX.out; rw [h1.2.2.2.2, h2.1, Bl_last (by omega) X Y h2.2.1 (by omega)]; simp) (by have := HP.out.2.2.2.1; have := HN.out.1; omega) S1.out (by have := HP.out.2.2.2.1; omega)
                  (by rw [hPl]) (by rw [hPl, S_len, HX.out.2.1]) (by rw [hPl, S_len, S_len, HX.out.2.1]; have := HX.out.2.2; omega)
                have HB : Aside _ := hb
                have HQ := hid' (And.intro hQl hY)
                clear hb S1 hPl hQl hY
                go_wp2_with fail
                refine Calls.mono HB.out ?_
                rintro e w6 ⟨rfl, d2, hz, hl, hS⟩
                have HL2 := hid' (And.intro hz hl)
                have HS2 : Aside _ := hS
                clear hl hS hz HB
                go_wp2_with fail
                go_roundg (n - 2 * bs)
                case measure => omega
                case rel =>
                  have h1 := HP.out
                  have h2 := HX.out
                  have h3 := HL2.out
                  have h4 := HQ.out
                  refine ⟨2 * bs, d2, by go_num, by omega, by omega, Nat.le_refl _, ⟨by omega, ?_⟩, HS2⟩
                  show d2.toList = _
                  rw [h3.2, S_merge HO.out, h1.1, Bl_append (by omega) Q q P (by omega), h2.1, Bl_short (l := X ++ Y) (by rw [List.length_append]; omega), List.append_nil]
              · have HQ := hid' hQl
                clear hQl
                go_wp2_with fail
                go_roundg (n - 2 * bs)
                case measure => omega
                case rel =>
                  have h1 := HP.out
                  have h4 := HQ.out
                  refine ⟨2 * bs, dk, by go_num, by omega, by omega, Nat.le_refl _, ⟨h1.2.2.2.1, ?_⟩, S1⟩
                  show dk.toList = _
                  rw [h1.2.2.2.2, h1.1, Bl_append (by omega) Q q P (by omega), Bl_short (l := Q) (bs := bs) (by omega), Bl_short (l := Q) (by omega)]
        · go_wp2
          go_end0
          have h1 := HD.out
          have h2 := HN.out
          refine ⟨rfl, dk, by omega, ?_, S1.out⟩
          rw [h1.2, Bl_short (by omega), h2.2.1]
theorem stable_none (p : Option Addr) (cap : Nat) (fv : Value) (w : World) : Calls Tryd.prog 84 #[.slice p 0 cap, .int .i64 0, fv] w fun e w' => e = .returned (.tuple #[]) ∧ w' = w := by
  go_enter Tryd.func84, Tryd.ntmps84
  go_wp2_with fail
  go_loopg [7, 8] 0 (fun kx s7 s8 wr => s7 = .int .i64 0 ∧ s8 = .int .i64 20 ∧ wr = w)
  case atStart => exact ⟨rfl, rfl, rfl⟩
  case round =>
    obtain ⟨rfl, rfl, rfl⟩ := hrel
    go_wp2_with fail
    refine (ins_none p cap fv _).mono ?_
    rintro e w5 ⟨rfl, rfl⟩
    go_wp2_with fail
    go_loopg [6] 0 (fun kx s6 wr => s6 = .int .i64 20 ∧ wr = w5)
    case atStart => exact ⟨rfl, rfl⟩
    case round =>
      obtain ⟨rfl, rfl⟩ := hrel
      go_wp2_with fail
      go_end0
      exact ⟨rfl, rfl⟩
end Go.Proofs.YtefbllhpibfojaaDoor
