/- Layer 13, plain: nodes in the order of how far they are; without a node the others come in the same order. -/
import Derived.Test.YtdfeiajdmmlllaaDoorStbI
import Derived.Test.YtdfeiajdmmlllaaDoorSap
namespace Go.Proofs.YtdfeiajdmmlllaaDoor
open Go.Proofs Stab Go.Shelf Go.RowKit Go.Lib Go.Sort

/-- so many nodes, in the order of how far they are; of two that are as far, the lower one first -/
def ltN (far : Int → Nat) (a b : Int) : Prop := far a < far b ∨ (far a = far b ∧ a < b)
def cfN (far : Int → Nat) (a b : Int) : Int := if far a < far b then -1 else if far b < far a then 1 else 0
/-- the nodes among some numbers, rising -/
def six : List Int := [1, 2, 3, 4, 5, 6]
def nodesOf (l : List Int) : List Int := six.filter fun n => decide (n ∈ l)
def walkR (far : Int → Nat) (l : List Int) : List Int := S (leC (cfN far)) (nodesOf l)

theorem ltOf_cfN (far : Int → Nat) (a b : Int) : ltOf (cfN far) a b = decide (far a < far b) := by
  unfold ltOf cfN
  by_cases h : far a < far b
  · simp [h]
  · by_cases h2 : far b < far a <;> simp [h, h2]
theorem leC_cfN (far : Int → Nat) (a b : Int) : leC (cfN far) a b = decide (far a ≤ far b) := by
  unfold leC
  rw [ltOf_cfN]
  by_cases h : far a ≤ far b
  · rw [decide_eq_true h, decide_eq_false (by omega)]; rfl
  · rw [decide_eq_false h, decide_eq_true (by omega)]; rfl
theorem swoN (far : Int → Nat) : SWO (ltOf (cfN far)) where
  irrefl x := by rw [ltOf_cfN]; simp
  trans x y z h1 h2 := by rw [ltOf_cfN, decide_eq_true_eq] at *; omega
  ntrans x y z h1 h2 := by rw [ltOf_cfN, decide_eq_false_iff_not] at *; omega
theorem ltN_irrefl {far : Int → Nat} {a : Int} : ¬ ltN far a a := by unfold ltN; omega
theorem ltN_trans {far : Int → Nat} {a b c : Int} (h1 : ltN far a b) (h2 : ltN far b c) : ltN far a c := by unfold ltN at *; omega
theorem ltN_total {far : Int → Nat} {a b : Int} (h : a ≠ b) : ltN far a b ∨ ltN far b a := by unfold ltN; omega
/-- rows in that order are told by what is in them -/
theorem ltN_ext {far : Int → Nat} : ∀ {a b : List Int}, a.Pairwise (ltN far) → b.Pairwise (ltN far) → (∀ k, k ∈ a ↔ k ∈ b) → a = b
  | [], [], _, _, _ => rfl
  | [], y :: b, _, _, h => by have := (h y).2 List.mem_cons_self; cases this
  | x :: a, [], _, _, h => by have := (h x).1 List.mem_cons_self; cases this
  | x :: a, y :: b, ha, hb, h => by
    have ha1 := List.pairwise_cons.1 ha
    have hb1 := List.pairwise_cons.1 hb
    have hxy : x = y := by
      rcases List.mem_cons.1 ((h x).1 List.mem_cons_self) with e | e
      · exact e
      · rcases List.mem_cons.1 ((h y).2 List.mem_cons_self) with e2 | e2
        · exact e2.symm
        · exact absurd (ltN_trans (hb1.1 x e) (ha1.1 y e2)) ltN_irrefl
    subst hxy
    rw [ltN_ext ha1.2 hb1.2 fun k => ?_]
    constructor
    · intro hk
      rcases List.mem_cons.1 ((h k).1 (List.mem_cons_of_mem _ hk)) with e | e
      · exact absurd (e ▸ ha1.1 k hk) ltN_irrefl
      · exact e
    · intro hk
      rcases List.mem_cons.1 ((h k).2 (List.mem_cons_of_mem _ hk)) with e | e
      · exact absurd (e ▸ hb1.1 k hk) ltN_irrefl
      · exact e
theorem merge_ltN {far : Int → Nat} (x : Int) : ∀ (A : List Int), A.Pairwise (ltN far) → (∀ a ∈ A, a < x) → (List.merge A [x] (leC (cfN far))).Pairwise (ltN far)
  | [], _, _ => by rw [List.nil_merge]; exact List.pairwise_singleton _ _
  | a :: A, h, hx => by
    have h1 := List.pairwise_cons.1 h
    have ih := merge_ltN x A h1.2 fun b hb => hx b (List.mem_cons_of_mem _ hb)
    have hax := hx a List.mem_cons_self
    rw [List.cons_merge_cons]
    by_cases hl : leC (cfN far) a x = true
    · rw [if_pos hl]
      rw [leC_cfN, decide_eq_true_eq] at hl
      refine List.pairwise_cons.2 ⟨fun b hb => ?_, ih⟩
      rcases List.mem_merge.1 hb with hb | hb
      · exact h1.1 b hb
      · rw [List.mem_singleton.1 hb]
        unfold ltN
        omega
    · rw [if_neg hl, List.merge_right]
      rw [leC_cfN, decide_eq_true_eq] at hl
      refine List.pairwise_cons.2 ⟨fun b hb => ?_, h⟩
      rcases List.mem_cons.1 hb with rfl | hb
      · unfold ltN; omega
      · have := h1.1 b hb
        unfold ltN at this ⊢
        omega
theorem S_ltN (far : Int → Nat) (l : List Int) : l.Pairwise (fun a b => a < b) → (S (leC (cfN far)) l).Pairwise (ltN far) := by
  induction l using snoc_ind with
  | h0 => intro _; exact List.Pairwise.nil
  | h1 l x ih =>
    intro h
    rw [S_snoc]
    have h2 := List.pairwise_append.1 h
    exact merge_ltN x _ (ih h2.1) fun a ha => h2.2.2 a ((S_perm _ l).mem_iff.1 ha) x List.mem_cons_self
theorem nodes_up (l : List Int) : (nodesOf l).Pairwise fun a b => a < b := by
  unfold nodesOf
  refine List.Pairwise.filter _ ?_
  unfold six
  decide
theorem mem_nodes {l : List Int} {n : Int} : n ∈ nodesOf l ↔ n ∈ l ∧ 1 ≤ n ∧ n ≤ 6 := by
  unfold nodesOf
  rw [List.mem_filter, decide_eq_true_eq]
  unfold six
  simp only [List.mem_cons, List.not_mem_nil, or_false]
  have e : (n = 1 ∨ n = 2 ∨ n = 3 ∨ n = 4 ∨ n = 5 ∨ n = 6) ↔ (1 ≤ n ∧ n ≤ 6) := by omega
  rw [e]
  exact And.comm
theorem walk_up (far : Int → Nat) (l : List Int) : (walkR far l).Pairwise (ltN far) := S_ltN far _ (nodes_up l)
theorem mem_walk {far : Int → Nat} {l : List Int} {n : Int} : n ∈ walkR far l ↔ n ∈ l ∧ 1 ≤ n ∧ n ≤ 6 := by
  unfold walkR
  rw [(S_perm _ _).mem_iff, mem_nodes]
theorem walk_len (far : Int → Nat) (l : List Int) : (walkR far l).length ≤ 6 := by
  unfold walkR
  rw [S_len]
  exact List.length_filter_le _ six
/-- a walk is told by its order and what is in it -/
theorem walk_eq {far : Int → Nat} {l m : List Int} (hm : m.Pairwise (ltN far)) (h : ∀ n, n ∈ m ↔ n ∈ l ∧ 1 ≤ n ∧ n ≤ 6) : walkR far l = m :=
  ltN_ext (walk_up far l) hm fun n => by rw [mem_walk, h]
/-- without a node: the others in the same order -/
theorem walk_without (far : Int → Nat) (l : List Int) (g : Int) : walkR far (l.filter fun n => decide (n ≠ g)) = (walkR far l).filter fun n => decide (n ≠ g) := by
  refine walk_eq ((walk_up far l).filter _) fun n => ?_
  rw [List.mem_filter, mem_walk, List.mem_filter]
  constructor
  · rintro ⟨⟨h1, h2⟩, h3⟩; exact ⟨⟨h1, h3⟩, h2⟩
  · rintro ⟨⟨h1, h3⟩, h2⟩; exact ⟨⟨h1, h2⟩, h3⟩
theorem walk_same {far : Int → Nat} {l m : List Int} (h : ∀ n, n ∈ m ↔ n ∈ l) : walkR far m = walkR far l :=
  walk_eq (walk_up far l) fun n => by rw [mem_walk, h]
/-- the first two: another node's going doesn't turn them -/
theorem owners_stay (far : Int → Nat) (l : List Int) (g : Int) (h : g ∉ (walkR far l).take 2) : (walkR far (l.filter fun n => decide (n ≠ g))).take 2 = (walkR far l).take 2 := by
  rw [walk_without]
  have key : ∀ (w : List Int), g ∉ w.take 2 → (w.filter fun n => decide (n ≠ g)).take 2 = w.take 2 := by
    intro w hw
    match w, hw with
    | [], _ => rfl
    | [a], hw =>
      have : a ≠ g := fun e => hw (by simp [e])
      simp [this]
    | a :: b :: r, hw =>
      have h1 : a ≠ g := fun e => hw (by simp [e])
      have h2 : b ≠ g := fun e => hw (by simp [e])
      simp [h1, h2]
  exact key _ h

/-- where a key stands: its first eight bytes as a number -/
def placeR (l : List UInt8) : Nat := (l.take 8).foldl (fun n b => n * 256 + b.toNat) 0
def ringB : List UInt8 := [114, 105, 110, 103]
def pointText (node n : Int) : List UInt8 := Sap.row [ringB, Sap.num node, Sap.num n]
def pointR (node n : Int) : Nat := placeR (Sha.sha (pointText node n))
/-- how far a point is from a place on -/
def gapR (src : Nat) (node : Int) (n : Nat) : Nat := (pointR node n + (18446744073709551616 - src)) % 18446744073709551616
/-- how far a node's nearest point is, of its first k points -/
def nearK (src : Nat) (node : Int) (k : Nat) : Nat := (List.range k).foldl (fun best n => min best (gapR src node n)) 18446744073709551615
def nearR (src : Nat) (node : Int) : Nat := nearK src node 8
theorem nearK_succ (src : Nat) (node : Int) (k : Nat) : nearK src node (k + 1) = min (nearK src node k) (gapR src node k) := by
  unfold nearK
  rw [List.range_succ, List.foldl_append]
  rfl
theorem fold_place (l : List UInt8) : ∀ (n j : Nat), n < 256 ^ j → l.foldl (fun n b => n * 256 + b.toNat) n < 256 ^ (j + l.length) := by
  induction l with
  | nil => intro n j h; exact h
  | cons b r ih =>
    intro n j h
    have hb := b.toNat_lt
    have h2 := ih (n * 256 + b.toNat) (j + 1) (by rw [Nat.pow_succ]; omega)
    rw [List.foldl_cons, List.length_cons]
    have e : j + (r.length + 1) = j + 1 + r.length := by omega
    rw [e]
    exact h2
theorem place_lt (l : List UInt8) : placeR l < 18446744073709551616 := by
  have h := fold_place (l.take 8) 0 0 (by decide)
  have h2 : 256 ^ (0 + (l.take 8).length) ≤ 256 ^ 8 := Nat.pow_le_pow_right (by decide) (by rw [List.length_take]; omega)
  have e : (256 : Nat) ^ 8 = 18446744073709551616 := by decide
  unfold placeR
  omega
theorem gap_lt (src : Nat) (node : Int) (n : Nat) : gapR src node n < 18446744073709551616 := Nat.mod_lt _ (by decide)
theorem near_lt (src : Nat) (node : Int) (k : Nat) : nearK src node k < 18446744073709551616 := by
  induction k with
  | zero => show (18446744073709551615 : Nat) < _; decide
  | succ k ih => rw [nearK_succ]; omega
/-- nodes in the order in which they own a key -/
def farR (key : List UInt8) (n : Int) : Nat := nearR (placeR key) n
def walkK (key : List UInt8) (l : List Int) : List Int := walkR (farR key) l
end Go.Proofs.YtdfeiajdmmlllaaDoor
