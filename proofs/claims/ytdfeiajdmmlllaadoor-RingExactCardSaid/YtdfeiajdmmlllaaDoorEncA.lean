/- Rows of things of several cells each: as they lie, as a call makes them. -/
import Derived.Test.YtdfeiajdmmlllaaDoorStampH
import Derived.Deep.Upon
import Derived.Sort.Grow
import Derived.Shelf.SlSortCmp.KitK
namespace Go.Proofs.YtdfeiajdmmlllaaDoor
open Go.Proofs Go.Shelf Go.RowKit Go.Lib Go.Sort

section
variable {P : Program} {ops : Array Oper} {Q : Exit → Act → World → Prop} {o : Oper} {rest : List Oper} {a : Act} {w : World}
theorem wpList_val (v : Value) (hw : Region.wanted o (yielded ops a.tmps) = true) (hv : (execOp a.eval o).run P w = .ok (.value v) w) (h : wpList P ops Q rest (a.put o.dst v) w) : wpList P ops Q (o :: rest) a w :=
  wpList_step fun K hK => by
    rw [if_pos hw]
    unfold Oper.wp
    rw [hv]
    exact hK _ _ h
theorem wpList_eq (v : Value) (hw : Region.wanted o (yielded ops a.tmps) = true) (op : BinOp) (ty : TypeId) (x y : Operand) (yt : TypeId) (ho : o.op = .binOp op ty x y yt) (vx vy : Value) (hx : a.eval x = vx) (hy : a.eval y = vy)
    (hg : ∀ w, (eqGuard op ty x y vx vy).run P w = .ok () w) (hb : ∀ w, (binOp op ty vx vy).run P w = .ok v w) (h : wpList P ops Q rest (a.put o.dst v) w) : wpList P ops Q (o :: rest) a w :=
  wpList_val v hw (by
    unfold execOp
    simp only [ho, hx, hy, Sem.run_bind, Sem.run_pure, hg, Result.andThen_ok, hb]) h
end
theorem below_drewN {B : Nat} {w0 w : World} (h : Below B w0 w) (n : Nat) : Below B w0 (w.drewN n) := by
  induction n with
  | zero => exact h
  | succ n ih => exact ih.drew
theorem below_grow {B : Nat} {w0 w : World} (h : Below B w0 w) (hB : B ≤ w.heap.size) (os : Array Obj) : Below B w0 (grow w os) :=
  ⟨h.os, h.tape, h.output, Nat.le_trans h.size (by rw [size_grow]; omega), fun k hk => by
    show (w.heap ++ os)[k]? = _
    rw [Array.getElem?_append_left (by omega)]
    exact h.block k hk⟩
theorem u8s_length' (l : List UInt8) : (u8s l).length = l.length := by simp [u8s]
theorem u8s_one (k : List UInt8) : ∀ v ∈ u8s k, v.oneCell' = true := by
  intro v hv
  simp only [u8s, List.mem_map] at hv
  obtain ⟨n, _, rfl⟩ := hv
  rfl
/-- only blocks laid and orders drawn -/
def Grw (w w' : World) : Prop := ∃ q os, w' = grow (w.drewN q) os
theorem Grw.refl (w : World) : Grw w w := ⟨0, #[], by rw [grow_empty]; rfl⟩
theorem Grw.alloc {w w' : World} (h : Grw w w') (o : Obj) : Grw w (w'.alloc o) := by
  obtain ⟨q, os, rfl⟩ := h
  exact ⟨q, os ++ #[o], by rw [alloc_eq_grow, grow_grow]⟩
theorem Grw.drewN {w w' : World} (h : Grw w w') (n : Nat) : Grw w (w'.drewN n) := by
  obtain ⟨q, os, rfl⟩ := h
  exact ⟨q + n, os, by show grow ((w.drewN q).drewN n) os = _; rw [World.drewN_drewN]⟩
theorem Grw.trans {a b c : World} (h : Grw a b) (k : Grw b c) : Grw a c := by
  obtain ⟨q, os, rfl⟩ := h
  obtain ⟨q', os', rfl⟩ := k
  exact ⟨q + q', os ++ os', by show grow (grow ((a.drewN q).drewN q') os) os' = _; rw [grow_grow, World.drewN_drewN]⟩
theorem Grw.below {w w' : World} (h : Grw w w') : Below w.heap.size w w' := by
  obtain ⟨q, os, rfl⟩ := h
  exact below_grow (below_drewN (Below.refl _ _) q) (Nat.le_refl _) os

theorem own_below2 {w0 w w' : World} {B B' : Nat} {e : TypeId} {size n : Nat} {v : Value} {xs : List Value} (h : Own w B e size v n xs) (hb : Below B' w0 w) (hBB : B' ≤ B) (hB : B' ≤ w.heap.size) (hg : w.grownBy w' v.ownBlock) : Below B' w0 w' :=
  hb.grown hg hB (fun k hk => Nat.le_trans hBB (h.lt k hk).1)
theorem Own.rebase {w : World} {B B' : Nat} {e : TypeId} {size n : Nat} {v : Value} {xs : List Value} (h : Own w B e size v n xs) (hB : B' ≤ B) : Own w B' e size v n xs := by
  refine ⟨h.1, ?_⟩
  rcases h.2 with h2 | ⟨g, cap, cur, fr, h3, h4, h5⟩
  · exact .inl h2
  · exact .inr ⟨g, cap, cur, fr, h3, Nat.le_trans hB h4, h5⟩
theorem Own.cut {w : World} {B : Nat} {e : TypeId} {size n m g cap : Nat} {xs : List Value} (h : Own w B e size (.slice (some ⟨g, 0, none⟩) n cap) n xs) (hm : m ≤ n) : Own w B e size (.slice (some ⟨g, 0, none⟩) m cap) m (xs.take (m * size)) := by
  rcases h.2 with ⟨h2, _⟩ | ⟨g', cap', cur, fr, h3, h4, h5, h6, h7, h8, h9, h10⟩
  · cases h2
  · injection h3 with e1 e2 e3
    injection e1 with e1
    injection e1 with e1
    subst e1 e3
    have hle : m * size ≤ n * size := Nat.mul_le_mul_right _ hm
    refine ⟨by rw [List.length_take, h.1, Nat.min_eq_left hle], .inr ⟨g, cap, cur, fr, rfl, h4, h5, h6, by omega, h8, h9, ?_⟩⟩
    rw [← h10, List.take_take, Nat.min_eq_left hle]

variable {α : Type}
/-- the slice value holds these things, each of k cells -/
def EncIn (enc : α → List Value) (k : Nat) (w : World) (A : Option Addr) (l : List α) : Prop :=
  0 < l.length → ∃ g off, A = some ⟨g, off, none⟩ ∧ g < w.heap.size ∧ ∀ i (h : i < l.length), w.rangeAt g (off + i * k) (enc l[i])
section
variable {enc : α → List Value} {k : Nat} {w w' : World} {A : Option Addr} {l : List α}
theorem EncIn.nil : EncIn enc k w A [] := fun h => absurd h (Nat.lt_irrefl 0)
theorem EncIn.below (h : EncIn enc k w A l) {B : Nat} (hB : w.heap.size ≤ B) (hb : Below B w w') : EncIn enc k w' A l := fun h0 => by
  obtain ⟨g, off, e, hlt, hc⟩ := h h0
  refine ⟨g, off, e, Nat.lt_of_lt_of_le hlt hb.size, fun i hi j v hv => ?_⟩
  exact (hb.cell (p := ⟨g, off + i * k + j, none⟩) (by show g < B; omega)).trans (hc i hi j v hv)
theorem EncIn.up (h : EncIn enc k w A l) (hb : Below w.heap.size w w') : EncIn enc k w' A l := h.below (Nat.le_refl _) hb
theorem EncIn.alloc (h : EncIn enc k w A l) (o : Obj) : EncIn enc k (w.alloc o) A l := h.up ((Below.refl _ _).alloc (Nat.le_refl _) _)
theorem EncIn.drew (h : EncIn enc k w A l) : EncIn enc k w.drew A l := h

/-- where a slice's part begins -/
def cutA (A : Option Addr) (k cap sz : Nat) : Option Addr := if cap = k then A else A.map (·.add (k * sz))
theorem cutA_at {A : Option Addr} {k cap sz : Nat} {g off : Nat} (hA : A = some ⟨g, off, none⟩) (h : k < cap) : cutA A k cap sz = some ⟨g, off + k * sz, none⟩ := by
  subst hA
  unfold cutA
  rw [if_neg (by omega)]
  simp only [Option.map_some, Option.some.injEq]
  unfold Addr.add
  split
  · rename_i h0
    rw [h0, Nat.add_zero]
  · rfl
theorem cutA_zero {cap sz g off : Nat} : cutA (some ⟨g, off, none⟩) 0 cap sz = some ⟨g, off, none⟩ := by
  by_cases h : 0 < cap
  · have := cutA_at (sz := sz) (A := some ⟨g, off, none⟩) rfl (k := 0) (cap := cap) h
    rwa [Nat.zero_mul, Nat.add_zero] at this
  · unfold cutA
    rw [if_pos (by omega)]
theorem EncIn.drop {m c : Nat} (h : EncIn enc k w A l) (hc : l.length ≤ c) : EncIn enc k w (cutA A m c k) (l.drop m) := fun h0 => by
  rw [List.length_drop] at h0
  obtain ⟨g, off, hA, hlt, hc'⟩ := h (by omega)
  refine ⟨g, off + m * k, cutA_at hA (by omega), hlt, fun i hi => ?_⟩
  rw [List.length_drop] at hi
  have := hc' (m + i) (by omega)
  rw [List.getElem_drop]
  rwa [Nat.add_mul, ← Nat.add_assoc] at this
theorem EncIn.take {m c : Nat} (h : EncIn enc k w A l) (hc : l.length ≤ c) : EncIn enc k w (cutA A 0 c k) (l.take m) := fun h0 => by
  rw [List.length_take] at h0
  obtain ⟨g, off, hA, hlt, hc'⟩ := h (by omega)
  refine ⟨g, off, ?_, hlt, fun i hi => ?_⟩
  · have := cutA_at (sz := k) hA (k := 0) (cap := c) (by omega)
    rwa [Nat.zero_mul, Nat.add_zero] at this
  · rw [List.length_take] at hi
    rw [List.getElem_take]
    exact hc' i (by omega)
theorem EncIn.at (h : EncIn enc k w A l) {i : Nat} (hi : i < l.length) : ∃ g off, A = some ⟨g, off, none⟩ ∧ g < w.heap.size ∧ w.rangeAt g (off + i * k) (enc l[i]) := by
  obtain ⟨g, off, h1, h2, h3⟩ := h (by omega)
  exact ⟨g, off, h1, h2, h3 i hi⟩
/-- the cells of things, one behind the other -/
theorem enc_get (hl : ∀ x ∈ l, (enc x).length = k) {i : Nat} (hi : i < l.length) {j : Nat} {v : Value} (hv : (enc l[i])[j]? = some v) : (l.flatMap enc)[i * k + j]? = some v := by
  induction l generalizing i with
  | nil => cases hi
  | cons x r ih =>
    have hx := hl x List.mem_cons_self
    rw [List.flatMap_cons]
    cases i with
    | zero =>
      have hv' : (enc x)[j]? = some v := hv
      rw [Nat.zero_mul, Nat.zero_add, List.getElem?_append_left (List.getElem?_eq_some_iff.1 hv').1]
      exact hv'
    | succ i =>
      have e : (i + 1) * k + j = (enc x).length + (i * k + j) := by rw [hx, Nat.add_mul]; omega
      rw [e, List.getElem?_append_right (by omega), Nat.add_sub_cancel_left]
      have hi' : i < r.length := by simpa using hi
      exact ih (fun y hy => hl y (List.mem_cons_of_mem _ hy)) hi' hv
theorem enc_len (hl : ∀ x ∈ l, (enc x).length = k) : (l.flatMap enc).length = l.length * k := by
  induction l with
  | nil => simp
  | cons x r ih =>
    rw [List.flatMap_cons, List.length_append, hl x List.mem_cons_self, ih (fun y hy => hl y (List.mem_cons_of_mem _ hy)), List.length_cons, Nat.succ_mul]
    omega
theorem enc_take (hl : ∀ x ∈ l, (enc x).length = k) (m : Nat) : (l.flatMap enc).take (m * k) = (l.take m).flatMap enc := by
  by_cases hm : m ≤ l.length
  · conv => lhs; rw [← List.take_append_drop m l, List.flatMap_append]
    have h1 : ((l.take m).flatMap enc).length = m * k := by
      rw [enc_len (fun x hx => hl x (List.mem_of_mem_take hx)), List.length_take, Nat.min_eq_left hm]
    rw [← h1, List.take_left]
  · rw [List.take_of_length_le (l := l) (by omega), List.take_of_length_le]
    rw [enc_len hl]
    exact Nat.mul_le_mul_right _ (by omega)
theorem enc_cells {g off : Nat} (hk : 0 < k) (hl : ∀ x ∈ l, (enc x).length = k) (h : ∀ i (h : i < l.length), w.rangeAt g (off + i * k) (enc l[i])) : ∀ j u, (l.flatMap enc)[j]? = some u → w.cell? ((⟨g, off, none⟩ : Addr).add j) = some u := by
  intro j u hu
  have hj : j < l.length * k := by
    rw [← enc_len hl]
    exact (List.getElem?_eq_some_iff.1 hu).1
  have hi : j / k < l.length := (Nat.div_lt_iff_lt_mul hk).2 hj
  have hm : j % k < k := Nat.mod_lt _ hk
  have he : j / k * k + j % k = j := by rw [Nat.mul_comm]; exact Nat.div_add_mod j k
  have hlen := hl _ (List.getElem_mem hi)
  obtain ⟨v, hv⟩ : ∃ v, (enc l[j / k])[j % k]? = some v := ⟨_, List.getElem?_eq_getElem (by rw [hlen]; exact hm)⟩
  have h1 := enc_get hl hi hv
  rw [he, hu] at h1
  injection h1 with h1
  subst h1
  have h2 := h (j / k) hi (j % k) u hv
  have e : (⟨g, off, none⟩ : Addr).add j = ⟨g, off + j / k * k + j % k, none⟩ := by
    unfold Addr.add
    split
    · rename_i h0
      rw [Nat.add_assoc, he, h0]
      rfl
    · simp only [Addr.mk.injEq, and_true, true_and]
      omega
  rw [e]
  exact h2
theorem enc_one (h1 : ∀ x ∈ l, ∀ v ∈ enc x, v.oneCell' = true) : ∀ v ∈ l.flatMap enc, v.oneCell' = true := by
  intro v hv
  obtain ⟨x, hx, hv⟩ := List.mem_flatMap.1 hv
  exact h1 x hx v hv
/-- a row that an append has made -/
theorem Own.rows {base : Nat} {e : TypeId} {n : Nat} {v : Value} (h : Own w base e k v n (l.flatMap enc)) (hn : n = l.length) (hl : ∀ x ∈ l, (enc x).length = k) : ∃ A c, v = .slice A n c ∧ n ≤ c ∧ EncIn enc k w A l := by
  by_cases h0 : 0 < n
  · obtain ⟨g, cap, rfl, _, hg, hc, _⟩ := h.form h0
    refine ⟨_, _, rfl, hc, fun _ => ⟨g, 0, rfl, hg, fun i hi j v hv => ?_⟩⟩
    have hij := enc_get hl hi hv
    rw [Nat.zero_add, h.cellAt rfl _ (by
      have := (List.getElem?_eq_some_iff.1 hij).1
      rwa [enc_len hl, ← hn] at this)]
    exact hij
  · have hl0 : ¬ 0 < l.length := by omega
    rcases h.2 with ⟨rfl, h2⟩ | ⟨g, cap, cur, fr, h1, _, _, _, hc, _⟩
    · exact ⟨none, 0, by rw [h2], by omega, fun h => absurd h hl0⟩
    · exact ⟨_, cap, h1, hc, fun h => absurd h hl0⟩
end
end Go.Proofs.YtdfeiajdmmlllaaDoor
