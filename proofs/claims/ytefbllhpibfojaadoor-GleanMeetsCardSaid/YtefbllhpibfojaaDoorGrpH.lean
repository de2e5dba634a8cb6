/- Rows of things of several cells; laws of plain regions; slices.IndexFunc, DeleteFunc, Clone, CompactFunc. -/
import Derived.Test.YtefbllhpibfojaaDoorGrpC
import Derived.Deep.Upon
import Derived.Sort.Grow
import Derived.Shelf.SlSortCmp.KitK
import Derived.Lib.SlKept
import Derived.Test.YtefbllhpibfojaaDoorGrpD
import Derived.Great.FillDense
import Derived.Great.BuildSlice
import Derived.BigQuiet
namespace Go.Proofs.YtefbllhpibfojaaDoor
open Go.Proofs Go.Shelf Go.RowKit Go.Lib Go.Sort

section
variable {P : Program} {ops : Array Oper} {Q : Exit → Act → World → Prop} {o : Oper} {rest : List Oper} {a : Act} {w : World}
theorem wpList_val (v : Value) (hw : Region.wanted o (yielded ops a.tmps) = true) (hv : (execOp a.eval o).run P w = .ok (.value v) w) (h : wpList P ops Q rest (a.put o.dst v) w) : wpList P ops Q (o :: rest) a w :=
  wpList_step fun K hK => by
    rw [if_pos hw]
    unfold Oper.wp
    rw [hv]
    exact hK _ _ h
theorem wpList_eq (v : Value) (hw : Region.wanted o (yielded ops a.tmps) = true) (op : BinOp) (ty : TypeId) (x y : Operand) (yt : TypeId) (ho : o.op = .binOp op ty x y yt) (vx vy : Value) (hx : a.eval x = vx) (hy : a.eval y = vy)
    (hg : ∀ w, (eqGuard op ty x y vx vy).run P w = .ok () w) (hb : ∀ w, (binOp op ty vx vy).run P w = .ok v w) (h : wpList P ops Q rest (a.put o.dst v) w) : wpList P ops Q (o :: rest) a w :=
  wpList_val v hw (by
    unfold execOp
    simp only [ho, hx, hy, Sem.run_bind, Sem.run_pure, hg, Result.andThen_ok, hb]) h
end
theorem below_drewN {B : Nat} {w0 w : World} (h : Below B w0 w) (n : Nat) : Below B w0 (w.drewN n) := by
  induction n with
  | zero => exact h
  | succ n ih => exact ih.drew
theorem below_grow {B : Nat} {w0 w : World} (h : Below B w0 w) (hB : B ≤ w.heap.size) (os : Array Obj) : Below B w0 (grow w os) :=
  ⟨h.os, h.tape, h.output, Nat.le_trans h.size (by rw [size_grow]; omega), fun k hk => by
    show (w.heap ++ os)[k]? = _
    rw [Array.getElem?_append_left (by omega)]
    exact h.block k hk⟩
theorem u8s_length' (l : List UInt8) : (u8s l).length = l.length := by simp [u8s]
theorem u8s_one (k : List UInt8) : ∀ v ∈ u8s k, v.oneCell' = true := by
  intro v hv
  simp only [u8s, List.mem_map] at hv
  obtain ⟨n, _, rfl⟩ := hv
  rfl
/-- only blocks laid and orders drawn -/
def Grw (w w' : World) : Prop := ∃ q os, w' = grow (w.drewN q) os
theorem Grw.refl (w : World) : Grw w w := ⟨0, #[], by rw [grow_empty]; rfl⟩
theorem Grw.alloc {w w' : World} (h : Grw w w') (o : Obj) : Grw w (w'.alloc o) := by
  obtain ⟨q, os, rfl⟩ := h
  exact ⟨q, os ++ #[o], by rw [alloc_eq_grow, grow_grow]⟩
theorem Grw.drewN {w w' : World} (h : Grw w w') (n : Nat) : Grw w (w'.drewN n) := by
  obtain ⟨q, os, rfl⟩ := h
  exact ⟨q + n, os, by show grow ((w.drewN q).drewN n) os = _; rw [World.drewN_drewN]⟩
theorem Grw.trans {a b c : World} (h : Grw a b) (k : Grw b c) : Grw a c := by
  obtain ⟨q, os, rfl⟩ := h
  obtain ⟨q', os', rfl⟩ := k
  exact ⟨q + q', os ++ os', by show grow (grow ((a.drewN q).drewN q') os) os' = _; rw [grow_grow, World.drewN_drewN]⟩
theorem Grw.below {w w' : World} (h : Grw w w') : Below w.heap.size w w' := by
  obtain ⟨q, os, rfl⟩ := h
  exact below_grow (below_drewN (Below.refl _ _) q) (Nat.le_refl _) os

theorem own_below2 {w0 w w' : World} {B B' : Nat} {e : TypeId} {size n : Nat} {v : Value} {xs : List Value} (h : Own w B e size v n xs) (hb : Below B' w0 w) (hBB : B' ≤ B) (hB : B' ≤ w.heap.size) (hg : w.grownBy w' v.ownBlock) : Below B' w0 w' :=
  hb.grown hg hB (fun k hk => Nat.le_trans hBB (h.lt k hk).1)
theorem Own.rebase {w : World} {B B' : Nat} {e : TypeId} {size n : Nat} {v : Value} {xs : List Value} (h : Own w B e size v n xs) (hB : B' ≤ B) : Own w B' e size v n xs := by
  refine ⟨h.1, ?_⟩
  rcases h.2 with h2 | ⟨g, cap, cur, fr, h3, h4, h5⟩
  · exact .inl h2
  · exact .inr ⟨g, cap, cur, fr, h3, Nat.le_trans hB h4, h5⟩
theorem Own.cut {w : World} {B : Nat} {e : TypeId} {size n m g cap : Nat} {xs : List Value} (h : Own w B e size (.slice (some ⟨g, 0, none⟩) n cap) n xs) (hm : m ≤ n) : Own w B e size (.slice (some ⟨g, 0, none⟩) m cap) m (xs.take (m * size)) := by
  rcases h.2 with ⟨h2, _⟩ | ⟨g', cap', cur, fr, h3, h4, h5, h6, h7, h8, h9, h10⟩
  · cases h2
  · injection h3 with e1 e2 e3
    injection e1 with e1
    injection e1 with e1
    subst e1 e3
    have hle : m * size ≤ n * size := Nat.mul_le_mul_right _ hm
    refine ⟨by rw [List.length_take, h.1, Nat.min_eq_left hle], .inr ⟨g, cap, cur, fr, rfl, h4, h5, h6, by omega, h8, h9, ?_⟩⟩
    rw [← h10, List.take_take, Nat.min_eq_left hle]

variable {α : Type}
/-- the slice value holds these things, each of k cells -/
def EncIn (enc : α → List Value) (k : Nat) (w : World) (A : Option Addr) (l : List α) : Prop :=
  0 < l.length → ∃ g off, A = some ⟨g, off, none⟩ ∧ g < w.heap.size ∧ ∀ i (h : i < l.length), w.rangeAt g (off + i * k) (enc l[i])
section
variable {enc : α → List Value} {k : Nat} {w w' : World} {A : Option Addr} {l : List α}
theorem EncIn.nil : EncIn enc k w A [] := fun h => absurd h (Nat.lt_irrefl 0)
theorem EncIn.below (h : EncIn enc k w A l) {B : Nat} (hB : w.heap.size ≤ B) (hb : Below B w w') : EncIn enc k w' A l := fun h0 => by
  obtain ⟨g, off, e, hlt, hc⟩ := h h0
  refine ⟨g, off, e, Nat.lt_of_lt_of_le hlt hb.size, fun i hi j v hv => ?_⟩
  exact (hb.cell (p := ⟨g, off + i * k + j, none⟩) (by show g < B; omega)).trans (hc i hi j v hv)
theorem EncIn.up (h : EncIn enc k w A l) (hb : Below w.heap.size w w') : EncIn enc k w' A l := h.below (Nat.le_refl _) hb
theorem EncIn.alloc (h : EncIn enc k w A l) (o : Obj) : EncIn enc k (w.alloc o) A l := h.up ((Below.refl _ _).alloc (Nat.le_refl _) _)
theorem EncIn.drew (h : EncIn enc k w A l) : EncIn enc k w.drew A l := h

/-- where a slice's part begins -/
def cutA (A : Option Addr) (k cap sz : Nat) : Option Addr := if cap = k then A else A.map (·.add (k * sz))
theorem cutA_at {A : Option Addr} {k cap sz : Nat} {g off : Nat} (hA : A = some ⟨g, off, none⟩) (h : k < cap) : cutA A k cap sz = some ⟨g, off + k * sz, none⟩ := by
  subst hA
  unfold cutA
  rw [if_neg (by omega)]
  simp only [Option.map_some, Option.some.injEq]
  unfold Addr.add
  split
  · rename_i h0
    rw [h0, Nat.add_zero]
  · rfl
theorem cutA_zero {cap sz g off : Nat} : cutA (some ⟨g, off, none⟩) 0 cap sz = some ⟨g, off, none⟩ := by
  by_cases h : 0 < cap
  · have := cutA_at (sz := sz) (A := some ⟨g, off, none⟩) rfl (k := 0) (cap := cap) h
    rwa [Nat.zero_mul, Nat.add_zero] at this
  · unfold cutA
    rw [if_pos (by omega)]
theorem EncIn.drop {m c : Nat} (h : EncIn enc k w A l) (hc : l.length ≤ c) : EncIn enc k w (cutA A m c k) (l.drop m) := fun h0 => by
  rw [List.length_drop] at h0
  obtain ⟨g, off, hA, hlt, hc'⟩ := h (by omega)
  refine ⟨g, off + m * k, cutA_at hA (by omega), hlt, fun i hi => ?_⟩
  rw [List.length_drop] at hi
  have := hc' (m + i) (by omega)
  rw [List.getElem_drop]
  rwa [Nat.add_mul, ← Nat.add_assoc] at this
theorem EncIn.take {m c : Nat} (h : EncIn enc k w A l) (hc : l.length ≤ c) : EncIn enc k w (cutA A 0 c k) (l.take m) := fun h0 => by
  rw [List.length_take] at h0
  obtain ⟨g, off, hA, hlt, hc'⟩ := h (by omega)
  refine ⟨g, off, ?_, hlt, fun i hi => ?_⟩
  · have := cutA_at (sz := k) hA (k := 0) (cap := c) (by omega)
    rwa [Nat.zero_mul, Nat.add_zero] at this
  · rw [List.length_take] at hi
    rw [List.getElem_take]
    exact hc' i (by omega)
theorem EncIn.at (h : EncIn enc k w A l) {i : Nat} (hi : i < l.length) : ∃ g off, A = some ⟨g, off, none⟩ ∧ g < w.heap.size ∧ w.rangeAt g (off + i * k) (enc l[i]) := by
  obtain ⟨g, off, h1, h2, h3⟩ := h (by omega)
  exact ⟨g, off, h1, h2, h3 i hi⟩
/-- the cells of things, one behind the other -/
theorem enc_get (hl : ∀ x ∈ l, (enc x).length = k) {i : Nat} (hi : i < l.length) {j : Nat} {v : Value} (hv : (enc l[i])[j]? = some v) : (l.flatMap enc)[i * k + j]? = some v := by
  induction l generalizing i with
  | nil => cases hi
  | cons x r ih =>
    have hx := hl x List.mem_cons_self
    rw [List.flatMap_cons]
    cases i with
    | zero =>
      have hv' : (enc x)[j]? = some v := hv
      rw [Nat.zero_mul, Nat.zero_add, List.getElem?_append_left (List.getElem?_eq_some_iff.1 hv').1]
      exact hv'
    | succ i =>
      have e : (i + 1) * k + j = (enc x).length + (i * k + j) := by rw [hx, Nat.add_mul]; omega
      rw [e, List.getElem?_append_right (by omega), Nat.add_sub_cancel_left]
      have hi' : i < r.length := by simpa using hi
      exact ih (fun y hy => hl y (List.mem_cons_of_mem _ hy)) hi' hv
theorem enc_len (hl : ∀ x ∈ l, (enc x).length = k) : (l.flatMap enc).length = l.length * k := by
  induction l with
  | nil => simp
  | cons x r ih =>
    rw [List.flatMap_cons, List.length_append, hl x List.mem_cons_self, ih (fun y hy => hl y (List.mem_cons_of_mem _ hy)), List.length_cons, Nat.succ_mul]
    omega
theorem enc_take (hl : ∀ x ∈ l, (enc x).length = k) (m : Nat) : (l.flatMap enc).take (m * k) = (l.take m).flatMap enc := by
  by_cases hm : m ≤ l.length
  · conv => lhs; rw [← List.take_append_drop m l, List.flatMap_append]
    have h1 : ((l.take m).flatMap enc).length = m * k := by
      rw [enc_len (fun x hx => hl x (List.mem_of_mem_take hx)), List.length_take, Nat.min_eq_left hm]
    rw [← h1, List.take_left]
  · rw [List.take_of_length_le (l := l) (by omega), List.take_of_length_le]
    rw [enc_len hl]
    exact Nat.mul_le_mul_right _ (by omega)
theorem enc_cells {g off : Nat} (hk : 0 < k) (hl : ∀ x ∈ l, (enc x).length = k) (h : ∀ i (h : i < l.length), w.rangeAt g (off + i * k) (enc l[i])) : ∀ j u, (l.flatMap enc)[j]? = some u → w.cell? ((⟨g, off, none⟩ : Addr).add j) = some u := by
  intro j u hu
  have hj : j < l.length * k := by
    rw [← enc_len hl]
    exact (List.getElem?_eq_some_iff.1 hu).1
  have hi : j / k < l.length := (Nat.div_lt_iff_lt_mul hk).2 hj
  have hm : j % k < k := Nat.mod_lt _ hk
  have he : j / k * k + j % k = j := by rw [Nat.mul_comm]; exact Nat.div_add_mod j k
  have hlen := hl _ (List.getElem_mem hi)
  obtain ⟨v, hv⟩ : ∃ v, (enc l[j / k])[j % k]? = some v := ⟨_, List.getElem?_eq_getElem (by rw [hlen]; exact hm)⟩
  have h1 := enc_get hl hi hv
  rw [he, hu] at h1
  injection h1 with h1
  subst h1
  have h2 := h (j / k) hi (j % k) u hv
  have e : (⟨g, off, none⟩ : Addr).add j = ⟨g, off + j / k * k + j % k, none⟩ := by
    unfold Addr.add
    split
    · rename_i h0
      rw [Nat.add_assoc, he, h0]
      rfl
    · simp only [Addr.mk.injEq, and_true, true_and]
      omega
  rw [e]
  exact h2
theorem enc_one (h1 : ∀ x ∈ l, ∀ v ∈ enc x, v.oneCell' = true) : ∀ v ∈ l.flatMap enc, v.oneCell' = true := by
  intro v hv
  obtain ⟨x, hx, hv⟩ := List.mem_flatMap.1 hv
  exact h1 x hx v hv
/-- a row that an append has made -/
theorem Own.rows {base : Nat} {e : TypeId} {n : Nat} {v : Value} (h : Own w base e k v n (l.flatMap enc)) (hn : n = l.length) (hl : ∀ x ∈ l, (enc x).length = k) : ∃ A c, v = .slice A n c ∧ n ≤ c ∧ EncIn enc k w A l := by
  by_cases h0 : 0 < n
  · obtain ⟨g, cap, rfl, _, hg, hc, _⟩ := h.form h0
    refine ⟨_, _, rfl, hc, fun _ => ⟨g, 0, rfl, hg, fun i hi j v hv => ?_⟩⟩
    have hij := enc_get hl hi hv
    rw [Nat.zero_add, h.cellAt rfl _ (by
      have := (List.getElem?_eq_some_iff.1 hij).1
      rwa [enc_len hl, ← hn] at this)]
    exact hij
  · have hl0 : ¬ 0 < l.length := by omega
    rcases h.2 with ⟨rfl, h2⟩ | ⟨g, cap, cur, fr, h1, _, _, _, hc, _⟩
    · exact ⟨none, 0, by rw [h2], by omega, fun h => absurd h hl0⟩
    · exact ⟨_, cap, h1, hc, fun h => absurd h hl0⟩
end
end Go.Proofs.YtefbllhpibfojaaDoor

namespace Go.Proofs.YtefbllhpibfojaaDoor
open Go.Proofs Go.Shelf Go.RowKit Go.Lib Go.Sort

section
variable {α : Type} [Inhabited α] {enc : α → List Value} {k : Nat}
theorem setMany_put (hk : ∀ x, (enc x).length = k) (d : Array α) (i : Nat) (hi : i < d.size) (x : α) : setMany (flatK enc k d) (i * k) (enc x) = flatK enc k (d.setIfInBounds i x) := by
  refine ext_get! (by simp) fun t ht => ?_
  have ht' : t < d.size * k := by simpa using ht
  have k0 : 0 < k := by
    rcases Nat.eq_zero_or_pos k with h | h
    · subst h; simp at ht'
    · exact h
  rw [get_setMany _ _ _ t (by simpa using ht'), get_flatK _ _ _ t ht', get_flatK _ _ _ t (by simpa using ht'), hk]
  by_cases a : t / k = i
  · rw [if_pos ((blk_iff k i t k0).2 a)]
    have e : t - i * k = t % k := by subst a; rw [Nat.mod_eq_sub_div_mul]
    rw [e, a, getElem!_set_same d i x hi]
  · rw [if_neg (fun h => a ((blk_iff k i t k0).1 h)), getElem!_set_other d i (t / k) x a]
variable {w0 W : World} {blk off : Nat} {dk : Array α}
theorem swk_put (h : SWK enc k w0 blk off dk W) (hk : ∀ x, (enc x).length = k) (hblk : blk < w0.heap.size) (i : Nat) (hi : i < dk.size) (x : α) :
    SWK enc k w0 blk off (dk.setIfInBounds i x) (W.setCells blk (off + i * k) (enc x)) := by
  obtain ⟨n, os, rfl⟩ := h
  refine ⟨n, os, ?_⟩
  unfold sortWorldK
  rw [setCells_grow os blk _ _ _ (by rw [size_putRowK]; exact hblk)]
  congr 1
  unfold putRowK
  have hb : i * k + k ≤ dk.size * k := by
    have := Nat.mul_le_mul_right k (show i + 1 ≤ dk.size from hi)
    rwa [Nat.add_mul, Nat.one_mul] at this
  rw [setCells_putRow _ _ _ _ _ _ (by rw [hk, size_flatK]; exact hb), setMany_put hk dk i hi x]
theorem setCells_append (b : Nat) : ∀ (us vs : List Value) (o : Nat) (w : World), w.setCells b o (us ++ vs) = (w.setCells b o us).setCells b (o + us.length) vs
  | [], vs, o, w => rfl
  | u :: us, vs, o, w => by
    rw [List.cons_append, World.setCells, setCells_append b us vs, World.setCells]
    congr 1
    simp; omega
theorem swk_puts (hk : ∀ x, (enc x).length = k) (hblk : blk < w0.heap.size) (z : α) : ∀ (m i : Nat) (dk : Array α) (W : World), SWK enc k w0 blk off dk W → i + m ≤ dk.size →
    ∃ dk' : Array α, dk'.size = dk.size ∧ (∀ j, j < i → dk'[j]! = dk[j]!) ∧ SWK enc k w0 blk off dk' (W.setCells blk (off + i * k) (List.replicate m (enc z)).flatten)
  | 0, i, dk, W, h, _ => ⟨dk, rfl, fun _ _ => rfl, by simpa [World.setCells] using h⟩
  | m + 1, i, dk, W, h, hm => by
    obtain ⟨dk', h1, h2, h3⟩ := swk_puts hk hblk z m (i + 1) _ _ (swk_put h hk hblk i (by omega) z) (by simp; omega)
    refine ⟨dk', by simpa using h1, fun j hj => ?_, ?_⟩
    · rw [h2 j (by omega), getElem!_set_other dk i j z (by omega)]
    · rw [List.replicate_succ, List.flatten_cons, setCells_append, hk]
      have e : off + (i + 1) * k = off + i * k + k := by rw [Nat.add_mul]; omega
      rwa [e] at h3
theorem flatten_replicate_get (L : List Value) (hL : 0 < L.length) : ∀ (m t : Nat), t < m * L.length → (List.replicate m L).flatten[t]? = L[t % L.length]?
  | 0, t, h => by simp at h
  | m + 1, t, h => by
    rw [List.replicate_succ, List.flatten_cons]
    by_cases ht : t < L.length
    · rw [List.getElem?_append_left ht, Nat.mod_eq_of_lt ht]
    · rw [List.getElem?_append_right (by omega), flatten_replicate_get L hL m _ (by rw [Nat.succ_mul] at h; omega)]
      congr 1
      rw [Nat.mod_eq_sub_mod (a := t) (by omega)]
theorem zeroCells_eq (L : List Value) (hL : 0 < L.length) (m : Nat) : (Builtin.zeroCells L.toArray m).toList = (List.replicate m L).flatten := by
  apply List.ext_getElem?
  intro t
  by_cases ht : t < m * L.length
  · rw [flatten_replicate_get L hL m t ht]
    have hm : t % L.length < L.length := Nat.mod_lt _ hL
    simp [Builtin.zeroCells, ht, hm]
  · have h1 : (List.replicate m L).flatten.length = m * L.length := by simp
    rw [List.getElem?_eq_none (by simp [Builtin.zeroCells]; omega), List.getElem?_eq_none (by omega)]
/-- 'clear' of the rest of a row -/
theorem run_clear_enc {P : Program} (h : SWK enc k w0 blk off dk W) {d0 : Array α} (R : RowK enc k w0 blk off d0) (hs : dk.size = d0.size) (hk0 : 0 < k) (t e ty : TypeId) (z : α) (ht : P.underlying t = some (.slice e)) (hv : ∀ w, (zeroValue e).run P w = .ok (.agg (enc z).toArray) w) (i c : Nat) (hi : i < dk.size) :
    (Builtin.clear_ #[t] ty #[.slice (some ⟨blk, off + i * k, none⟩) (dk.size - i) c]).run P W = .ok (.tuple #[]) (W.setCells blk (off + i * k) (List.replicate (dk.size - i) (enc z)).flatten) := by
  have hz : (Builtin.zeroCells (Value.agg (enc z).toArray).cells (dk.size - i)).toList = (List.replicate (dk.size - i) (enc z)).flatten := zeroCells_eq _ (by rw [R.hk]; exact hk0) _
  have hlen : (List.replicate (dk.size - i) (enc z)).flatten.length = (dk.size - i) * k := by simp [R.hk]
  have hb : i * k + (dk.size - i) * k = dk.size * k := by rw [← Nat.add_mul]; congr 1; omega
  have hst : Sem.run P (storeCells ⟨blk, off + i * k, none⟩ (Builtin.zeroCells (Value.agg (enc z).toArray).cells (dk.size - i)).toList) W = .ok () (W.setCells blk (off + i * k) (List.replicate (dk.size - i) (enc z)).flatten) := by
    rw [hz]
    refine stores_of_holds P (h.holds R.hblk R.hH hs) (i * k) _ (by rw [size_flatK, hlen]; omega) ?_
    intro v hv
    obtain ⟨l, hl, hv⟩ := List.mem_flatten.1 hv
    rw [(List.mem_replicate.1 hl).2] at hv
    exact R.h1 z v hv
  obtain ⟨n, hn⟩ : ∃ n, dk.size - i = n + 1 := ⟨dk.size - i - 1, by omega⟩
  rw [hn] at hst ⊢
  simp [Builtin.clear_, run_underlying ht, hv, hst]

/-- the row that a call owns, to a function that rewrites it -/
theorem own_holdsK {w : World} {B g n cap : Nat} {e : TypeId} {l : List α} (hk : ∀ x, (enc x).length = k) (h : Own w B e k (.slice (some ⟨g, 0, none⟩) n cap) n (l.flatMap enc)) (hl : n = l.length) : HoldsK enc k w g 0 l.toArray := by
  intro j hj
  have hj' : j < l.length * k := by simpa using hj
  have hk0 : 0 < k := by
    rcases Nat.eq_zero_or_pos k with h | h
    · subst h; simp at hj'
    · exact h
  have hi : j / k < l.length := (Nat.div_lt_iff_lt_mul hk0).2 hj'
  have hm : j % k < k := Nat.mod_lt _ hk0
  have he : j / k * k + j % k = j := by rw [Nat.mul_comm]; exact Nat.div_add_mod j k
  rw [get_flatK _ _ _ j (by simpa using hj'), Nat.zero_add]
  have hx : l.toArray[j / k]! = l[j / k] := by simp [hi]
  rw [hx]
  constructor
  · rw [h.cellAt rfl j (by rw [hl]; exact hj')]
    have hv : (enc l[j / k])[j % k]? = some (enc l[j / k])[j % k]! := by
      have hmm : j % k < (enc l[j / k]).length := by rw [hk]; exact hm
      simp [hmm]
    have := enc_get (fun x _ => hk x) hi hv
    rwa [he] at this
  · rcases h.2 with ⟨h2, _⟩ | ⟨g', cap', cur, fr, h3, h4, h5, h6, h7, h8, h9, h10⟩
    · cases h2
    · injection h3 with e1 e2 e3
      injection e1 with e1
      injection e1 with e1
      subst e1 e3
      have hcl : j < cur.length := by
        rw [h9]
        have : l.length * k ≤ cap * k := Nat.mul_le_mul_right _ (by omega)
        omega
      simp only [World.frozen?, h5]
      exact h6 j hcl
theorem own_rowK {w : World} {B g n cap : Nat} {e : TypeId} {l : List α} (hk : ∀ x, (enc x).length = k) (h1 : ∀ x, ∀ v ∈ enc x, v.oneCell' = true) (h : Own w B e k (.slice (some ⟨g, 0, none⟩) n cap) n (l.flatMap enc)) (hl : n = l.length) : RowK enc k w g 0 l.toArray :=
  ⟨hk, h1, own_holdsK hk h hl, (h.lt g rfl).2⟩
theorem heap_grow_at {w : World} {os : Array Obj} {b : Nat} (h : b < w.heap.size) : (grow w os).heap[b]? = w.heap[b]? := by
  show (w.heap ++ os)[b]? = _
  rw [Array.getElem?_append_left h]
theorem heap_putRow_other {w : World} {F : Array Value} {g b : Nat} (h : b ≠ g) : (putRow id w g 0 F).heap[b]? = w.heap[b]? := by
  unfold putRow mapBlock
  simp only [Array.getElem?_modify]
  rw [if_neg (fun e => h e.symm)]
theorem swk_below {w W : World} {g : Nat} {d : Array α} (h : SWK enc k w g 0 d W) {B : Nat} (hg : B ≤ g) (hB : B ≤ w.heap.size) : Below B w W := by
  obtain ⟨n, os, rfl⟩ := h
  unfold sortWorldK
  have h1 : Below B w (putRowK enc k (Sort.ahead w n) g 0 d) := ⟨rfl, rfl, rfl, by rw [size_putRowK]; exact Nat.le_refl _, fun b hb => heap_putRow_other (w := Sort.ahead w n) (by omega)⟩
  exact below_grow h1 (by rw [size_putRowK]; exact hB) os
theorem swk_block {w W : World} {g : Nat} {d : Array α} (h : SWK enc k w g 0 d W) {cur : List Value} {e : TypeId} {fr : Nat × Nat} (hg : w.heap[g]? = some (.cells cur.toArray e fr)) :
    W.heap[g]? = some (.cells (putCells id 0 (flatK enc k d) cur.toArray) e fr) := by
  obtain ⟨n, os, rfl⟩ := h
  unfold sortWorldK
  have hlt : g < w.heap.size := (Array.getElem?_eq_some_iff.1 hg).1
  rw [heap_grow_at (by rw [size_putRowK]; exact hlt)]
  unfold putRowK putRow mapBlock
  simp only [Array.getElem?_modify, if_true]
  show (w.heap[g]?).map _ = _
  rw [hg]
  rfl
theorem flatK_list (hk : ∀ x, (enc x).length = k) (d : Array α) : (flatK enc k d).toList = d.toList.flatMap enc := by
  have hl : ∀ x ∈ d.toList, (enc x).length = k := fun x _ => hk x
  apply List.ext_getElem?
  intro j
  by_cases hj : j < d.size * k
  · have hk0 : 0 < k := by
      rcases Nat.eq_zero_or_pos k with h | h
      · subst h; simp at hj
      · exact h
    have hi : j / k < d.toList.length := by rw [Array.length_toList]; exact (Nat.div_lt_iff_lt_mul hk0).2 hj
    have hm : j % k < k := Nat.mod_lt _ hk0
    have he : j / k * k + j % k = j := by rw [Nat.mul_comm]; exact Nat.div_add_mod j k
    have hmm : j % k < (enc d.toList[j / k]).length := by rw [hk]; exact hm
    have h1 := enc_get hl hi (j := j % k) (v := (enc d.toList[j / k])[j % k]) (List.getElem?_eq_getElem hmm)
    rw [he] at h1
    rw [h1]
    have h2 := get_flatK enc k d j hj
    rw [Array.getElem?_toList, Array.getElem?_eq_getElem (by simpa using hj)]
    rw [getElem!_pos _ j (by simpa using hj)] at h2
    rw [h2]
    have h3 : d[j / k]! = d.toList[j / k] := by
      have : j / k < d.size := by simpa using hi
      simp [this]
    rw [h3, getElem!_pos (enc d.toList[j / k]) (j % k) hmm]
  · rw [List.getElem?_eq_none (by simp; omega), List.getElem?_eq_none (by rw [enc_len hl, Array.length_toList]; omega)]
/-- .. and back -/
theorem swk_own {w W : World} {B g n cap : Nat} {e : TypeId} {xs : List Value} {d : Array α} (hk : ∀ x, (enc x).length = k) (h : Own w B e k (.slice (some ⟨g, 0, none⟩) n cap) n xs) (hS : SWK enc k w g 0 d W) (hd : d.size = n) :
    Own W B e k (.slice (some ⟨g, 0, none⟩) n cap) n (d.toList.flatMap enc) := by
  have hl : ∀ x ∈ d.toList, (enc x).length = k := fun x _ => hk x
  refine ⟨by rw [enc_len hl, Array.length_toList, hd], .inr ?_⟩
  rcases h.2 with ⟨h2, _⟩ | ⟨g', cap', cur, fr, h3, h4, h5, h6, h7, h8, h9, h10⟩
  · cases h2
  · injection h3 with e1 e2 e3
    injection e1 with e1
    injection e1 with e1
    subst e1 e3
    have hb := swk_block hS h5
    have hlen : (putCells id 0 (flatK enc k d) cur.toArray).toList.length = cur.length := by simp [putCells]
    refine ⟨g, cap, (putCells id 0 (flatK enc k d) cur.toArray).toList, fr, rfl, h4, by rw [Array.toArray_toList]; exact hb, fun i hi => h6 i (by omega), h7, h8, by rw [hlen, h9], ?_⟩
    rw [← flatK_list hk]
    apply List.ext_getElem?
    intro j
    have hc : n * k ≤ cur.length := by rw [h9]; exact Nat.mul_le_mul_right _ h7
    rw [List.getElem?_take]
    by_cases hj : j < n * k
    · rw [if_pos hj, Array.getElem?_toList, Array.getElem?_toList]
      unfold putCells
      rw [Array.getElem?_mapIdx]
      have hjc : j < cur.toArray.size := by simp; omega
      have hjd : j < d.size * k := by rw [hd]; exact hj
      have hjf : j < (flatK enc k d).size := by rw [size_flatK]; exact hjd
      rw [Array.getElem?_eq_getElem hjc, Array.getElem?_eq_getElem hjf, Option.map_some, if_pos ⟨by omega, by omega⟩, Nat.sub_zero, getElem!_pos _ j hjf]
      rfl
    · rw [if_neg hj, List.getElem?_eq_none]
      simp [hd]; omega
end
end Go.Proofs.YtefbllhpibfojaaDoor

namespace Go.Proofs.YtefbllhpibfojaaDoor
open Go.Proofs Go.Shelf Go.RowKit Go.Lib Go.Sort

section
variable {P : Program} {ops : Array Oper} {Q : Exit → Act → World → Prop} {o : Oper} {rest : List Oper} {a : Act} {w : World}
theorem exec_allocZ (T : TypeId) (z : List Value) (ho : o.op = .alloc T) (hz : ∀ w, (zeroValue T).run P w = .ok (.agg z.toArray) w) (w : World) :
    (execOp a.eval o).run P w = .ok (.value (.pointer (some ⟨w.heap.size, 0, none⟩))) (w.alloc (.cells z.toArray T)) := by
  unfold execOp
  simp only [ho]
  go_simp
/-- a variable of several cells is made -/
theorem wpList_allocZ (T : TypeId) (z : List Value) (hw : Region.wanted o (yielded ops a.tmps) = true) (ho : o.op = .alloc T) (hz : ∀ w, (zeroValue T).run P w = .ok (.agg z.toArray) w)
    (h : ∀ g w', g = w.heap.size → At w' g T z → Below w.heap.size w w' → wpList P ops Q rest (a.put o.dst (.pointer (some ⟨g, 0, none⟩))) w') : wpList P ops Q (o :: rest) a w :=
  wpList_step fun K hK => by
    rw [if_pos hw]
    unfold Oper.wp
    rw [exec_allocZ T z ho hz w]
    exact hK _ _ (h _ _ rfl (At.new w T z) ((Below.refl _ _).alloc (Nat.le_refl _) _))
end
theorem range_below' {w w' : World} {b o : Nat} {cs : List Value} (h : w.rangeAt b o cs) (hb : Below w.heap.size w w') (hlt : b < w.heap.size) : w'.rangeAt b o cs := fun j v hv => (hb.cell (p := ⟨b, o + j, none⟩) hlt).trans (h j v hv)
section
variable {α : Type} {enc : α → List Value} {k : Nat}
/-- a thing of the row is changed -/
theorem own_put {w : World} {B n g cap : Nat} {e : TypeId} {l : List α} (hk : ∀ x, (enc x).length = k) (h : Own w B e k (.slice (some ⟨g, 0, none⟩) n cap) n (l.flatMap enc)) (hn : n = l.length) (i : Nat) (hi : i < n) (x : α) :
    Own (w.setCells g (i * k) (enc x)) B e k (.slice (some ⟨g, 0, none⟩) n cap) n ((l.set i x).flatMap enc) := by
  subst hn
  have hl : ∀ x ∈ l, (enc x).length = k := fun x _ => hk x
  have hl' : ∀ y ∈ l.set i x, (enc y).length = k := fun x _ => hk x
  refine ⟨by rw [enc_len hl', List.length_set], .inr ?_⟩
  rcases h.2 with ⟨h2, _⟩ | ⟨g', cap', cur, fr, h3, h4, h5, h6, h7, h8, h9, h10⟩
  · cases h2
  · injection h3 with e1 e2 e3
    injection e1 with e1
    injection e1 with e1
    subst e1 e3
    have hb : i * k + k ≤ l.length * k := by
      have := Nat.mul_le_mul_right k (show i + 1 ≤ l.length from hi)
      rwa [Nat.add_mul, Nat.one_mul] at this
    have hcap : l.length * k ≤ cap * k := Nat.mul_le_mul_right _ h7
    have hs := heap_setCells (enc x) (i * k) h5 (by rw [hk]; omega)
    refine ⟨g, cap, _, fr, rfl, h4, hs, fun j hj => h6 j ?_, h7, h8, ?_, ?_⟩
    · simp only [List.length_append, List.length_take, List.length_drop, hk] at hj
      omega
    · simp only [List.length_append, List.length_take, List.length_drop, hk]
      omega
    · have e1 : l = l.take i ++ l[i] :: l.drop (i + 1) := by rw [← List.drop_eq_getElem_cons hi, List.take_append_drop]
      have e2 : l.set i x = l.take i ++ x :: l.drop (i + 1) := by
        rw [List.set_eq_take_append_cons_drop, if_pos hi]
      rw [e2, List.flatMap_append, List.flatMap_cons]
      have t1 : cur.take (i * k) = (l.take i).flatMap enc := by
        rw [← enc_take hl, ← h10, List.take_take, Nat.min_eq_left (by omega)]
      have t2 : (cur.drop (i * k + k)).take (l.length * k - (i * k + k)) = (l.drop (i + 1)).flatMap enc := by
        have h11 : (cur.take (l.length * k)).drop (i * k + k) = (l.drop (i + 1)).flatMap enc := by
          rw [h10]
          conv => lhs; rw [← List.take_append_drop (i + 1) l, List.flatMap_append]
          have : ((l.take (i + 1)).flatMap enc).length = i * k + k := by
            rw [enc_len (fun x _ => hk x), List.length_take, Nat.min_eq_left hi]; exact Nat.succ_mul i k
          rw [← this, List.drop_left]
        rw [← h11, List.drop_take]
      rw [hk, t1, List.append_assoc]
      have l1 : ((l.take i).flatMap enc).length = i * k := by rw [enc_len (fun x _ => hk x), List.length_take, Nat.min_eq_left (by omega)]
      rw [List.take_append, l1, List.take_of_length_le (by rw [l1]; omega), List.take_append, hk, List.take_of_length_le (l := enc x) (by rw [hk]; omega)]
      congr 2
      rw [← t2]
      congr 1
      omega
theorem own_there {w : World} {B n g cap : Nat} {e : TypeId} {xs : List Value} (h : Own w B e k (.slice (some ⟨g, 0, none⟩) n cap) n xs) (i : Nat) (hi : i < n) : w.there g (i * k) k := fun j hj => by
  rcases h.2 with ⟨h2, _⟩ | ⟨g', cap', cur, fr, h3, h4, h5, h6, h7, h8, h9, h10⟩
  · cases h2
  · injection h3 with e1 e2 e3
    injection e1 with e1
    injection e1 with e1
    subst e1 e3
    have hb : i * k + k ≤ n * k := by
      have := Nat.mul_le_mul_right k (show i + 1 ≤ n from hi)
      rwa [Nat.add_mul, Nat.one_mul] at this
    have hcap : n * k ≤ cap * k := Nat.mul_le_mul_right _ h7
    have hc : i * k + j < cur.length := by omega
    constructor
    · simp [World.cell?, h5, hc]
    · simp only [World.frozen?, h5]
      exact h6 _ hc
theorem own_range {w : World} {B n g cap : Nat} {e : TypeId} {l : List α} (hk : ∀ x, (enc x).length = k) (h : Own w B e k (.slice (some ⟨g, 0, none⟩) n cap) n (l.flatMap enc)) (hn : n = l.length) (i : Nat) (hi : i < l.length) : w.rangeAt g (i * k) (enc l[i]) := fun j v hv => by
  have hij := enc_get (fun x _ => hk x) hi hv
  have hlt := (List.getElem?_eq_some_iff.1 hij).1
  rw [h.cellAt rfl _ (by rw [hn]; rwa [enc_len (fun x _ => hk x)] at hlt)]
  exact hij
variable {P : Program} {ops : Array Oper} {Q : Exit → Act → World → Prop} {o : Oper} {rest : List Oper} {a : Act} {w : World}
/-- a thing stored into a row -/
theorem wpList_put (hgd : o.guard = none) (ty : TypeId) (x y : Operand) (ho : o.op = .store ty x y) (g i : Nat) (hx : a.eval x = .pointer (some ⟨g, i * k, none⟩)) (u : α) (hy : a.eval y = .agg (enc u).toArray)
    {B n cap : Nat} {e : TypeId} (l : List α) (hk : ∀ x, (enc x).length = k) (h1 : ∀ v ∈ enc u, v.oneCell' = true) (hi : (P.info? ty).map (·.size) = some k) (hown : Own w B e k (.slice (some ⟨g, 0, none⟩) n cap) n (l.flatMap enc)) (hn : n = l.length) (hil : i < n)
    (h : ∀ w', Own w' B e k (.slice (some ⟨g, 0, none⟩) n cap) n ((l.set i u).flatMap enc) → w.grownBy w' (some g) → w'.heap.size = w.heap.size → wpList P ops Q rest (a.put o.dst undef) w') : wpList P ops Q (o :: rest) a w := by
  refine wpList_store_mid hgd ty x y ho g (i * k) (enc u).toArray hx hy ?_ (by simpa [hk] using hi) (all_oneCell_toArray h1) ?_
  · have := own_there hown i hil
    simpa [hk] using this
  · refine h _ ?_ (grown_setCells g _ _ w w (World.grownBy.refl w _)) ?_
    · have := own_put hk hown hn i hil u
      simpa using this
    · have hs : ∀ (vs : List Value) (o : Nat) (w : World), (w.setCells g o vs).heap.size = w.heap.size := by
        intro vs
        induction vs with
        | nil => intro o w; rfl
        | cons v r ih => intro o w; rw [World.setCells, ih]; simp [World.setCell]
      exact hs _ _ _
/-- 'clear' of a row's rest -/
theorem run_clear_own {P : Program} (hk : ∀ x, (enc x).length = k) (hk0 : 0 < k) {w : World} {B n g cap : Nat} {e : TypeId} {l : List α} (h : Own w B e k (.slice (some ⟨g, 0, none⟩) n cap) n (l.flatMap enc)) (hn : n = l.length) (t e' ty : TypeId) (z : α) (h1 : ∀ v ∈ enc z, v.oneCell' = true) (ht : P.underlying t = some (.slice e')) (hv : ∀ w, (zeroValue e').run P w = .ok (.agg (enc z).toArray) w) (i c : Nat) (hi : i < n) :
    (Builtin.clear_ #[t] ty #[.slice (some ⟨g, i * k, none⟩) (n - i) c]).run P w = .ok (.tuple #[]) (w.setCells g (i * k) (List.replicate (n - i) (enc z)).flatten) := by
  have hz : (Builtin.zeroCells (Value.agg (enc z).toArray).cells (n - i)).toList = (List.replicate (n - i) (enc z)).flatten := zeroCells_eq _ (by rw [hk]; exact hk0) _
  have hlen : (List.replicate (n - i) (enc z)).flatten.length = (n - i) * k := by simp [hk]
  have hb : i * k + (n - i) * k = n * k := by rw [← Nat.add_mul]; congr 1; omega
  have hth : ∀ j, j < (n - i) * k → (w.cell? ⟨g, i * k + j, none⟩).isSome = true ∧ w.frozen? ⟨g, i * k + j, none⟩ = false := by
    intro j hj
    rcases h.2 with ⟨h2, _⟩ | ⟨g', cap', cur, fr, h3, h4, h5, h6, h7, h8, h9, h10⟩
    · cases h2
    · injection h3 with e1 e2 e3
      injection e1 with e1
      injection e1 with e1
      subst e1 e3
      have hcap : n * k ≤ cap * k := Nat.mul_le_mul_right _ h7
      have hc : i * k + j < cur.length := by omega
      constructor
      · simp [World.cell?, h5, hc]
      · simp only [World.frozen?, h5]
        exact h6 _ hc
  have hst : Sem.run P (storeCells ⟨g, i * k, none⟩ (Builtin.zeroCells (Value.agg (enc z).toArray).cells (n - i)).toList) w = .ok () (w.setCells g (i * k) (List.replicate (n - i) (enc z)).flatten) := by
    rw [hz]
    have := stores_of_holds P (W := w) (blk := g) (off := i * k) (F := ((List.range ((n - i) * k)).map fun j => (w.cell? ⟨g, i * k + j, none⟩).getD undef).toArray) (fun j hj => by
      have hj' : j < (n - i) * k := by simpa using hj
      have h2 := hth j hj'
      refine ⟨?_, h2.2⟩
      obtain ⟨v, hv⟩ := Option.isSome_iff_exists.1 h2.1
      rw [hv]
      simp [hj', hv]) 0 (List.replicate (n - i) (enc z)).flatten (by simp [hk]) (by
      intro v hv
      obtain ⟨l, hl, hv⟩ := List.mem_flatten.1 hv
      rw [(List.mem_replicate.1 hl).2] at hv
      exact h1 v hv)
    simpa using this
  obtain ⟨m, hm⟩ : ∃ m, n - i = m + 1 := ⟨n - i - 1, by omega⟩
  rw [hm] at hst ⊢
  simp [Builtin.clear_, run_underlying ht, hv, hst]
theorem own_clear (hk : ∀ x, (enc x).length = k) {B n g cap : Nat} {e : TypeId} (z : α) : ∀ (m i : Nat) (l : List α) (w : World), Own w B e k (.slice (some ⟨g, 0, none⟩) n cap) n (l.flatMap enc) → n = l.length → i + m ≤ n →
    ∃ l' : List α, l'.length = n ∧ l'.take i = l.take i ∧ Own (w.setCells g (i * k) (List.replicate m (enc z)).flatten) B e k (.slice (some ⟨g, 0, none⟩) n cap) n (l'.flatMap enc) ∧ w.grownBy (w.setCells g (i * k) (List.replicate m (enc z)).flatten) (some g)
  | 0, i, l, w, h, hn, _ => ⟨l, hn.symm, rfl, by simpa [World.setCells] using h, World.grownBy.refl _ _⟩
  | m + 1, i, l, w, h, hn, hm => by
    obtain ⟨l', h1, h2, h3, h4⟩ := own_clear hk z m (i + 1) _ _ (own_put hk h hn i (by omega) z) (by simpa using hn) (by omega)
    refine ⟨l', h1, ?_, ?_, ?_⟩
    · have := congrArg (List.take i) h2
      rw [List.take_take, List.take_take, Nat.min_eq_left (by omega)] at this
      rw [this, List.take_set_of_le (Nat.le_refl i)]
    · rw [List.replicate_succ, List.flatten_cons, setCells_append, hk]
      have e : (i + 1) * k = i * k + k := by rw [Nat.add_mul]; omega
      rwa [e] at h3
    · rw [List.replicate_succ, List.flatten_cons]
      exact grown_setCells g _ _ w w (World.grownBy.refl _ _)
end
/-- nothing is appended -/
theorem wpList_append_nothing {P : Program} {ops : Array Oper} {rest : List Oper} {o : Oper} {a : Act} {w : World} {Q : Exit → Act → World → Prop} (hw : Region.wanted o (yielded ops a.tmps) = true) (s x : Operand) (t e : TypeId) (ho : o.op = .call { callee := .builtin .append, args := #[s, x], argTypes := #[t, t] })
    (i : TypeInfo) (ht : P.underlying t = some (.slice e)) (hi : P.info? e = some i) (base : Option Addr) (sLen sCap : Nat) (hle : sLen ≤ sCap) (hs : a.eval s = .slice base sLen sCap) (A : Option Addr) (c : Nat) (hx : a.eval x = .slice A 0 c)
    (h : wpList P ops Q rest (a.put o.dst (.slice base sLen sCap)) w) : wpList P ops Q (o :: rest) a w := by
  refine wpList_val (.slice base sLen sCap) hw ?_ h
  have hsrc : Src P i.size t (.slice A 0 c) 0 [] w := by
    cases A with
    | none => exact Src.ofNil w ht c
    | some ad => exact Src.ofSlice w ht ad 0 c [] (by simp) (fun j u hu => by simp at hu) (fun u hu => by simp at hu)
  have hr := run_append_nothing w t t o.type e i ht hi base sLen sCap hle (.slice A 0 c) hsrc
  unfold execOp
  simp only [ho, resolve, invoke, builtin, Sem.run_bind, Sem.run_pure, Result.andThen_ok, List.map_toArray, List.map_cons, List.map_nil, hs, hx, hr]
section
variable {α : Type} {enc : α → List Value} {k : Nat}
/-- things appended to a row of the call's own -/
theorem wpList_append_enc {P : Program} {ops : Array Oper} {rest : List Oper} {o : Oper} {a : Act} {w : World} {Q : Exit → Act → World → Prop} (hgd : o.guard = none) (hw : Region.wanted o (yielded ops a.tmps) = true) (s x : Operand) (t e bytes : Nat) (ho : o.op = .call { callee := .builtin .append, args := #[s, x], argTypes := #[t, t] })
    (z : Value) (ht : P.underlying t = some (.slice e)) (hinf : (P.info? e).map (fun i => (i.zero, i.size, i.bytes)) = some (some z, k, bytes)) (hzs : z.cells.size = k) (hsz : 0 < k)
    (base : Nat) (v : Value) (n : Nat) (l m : List α) (hs : a.eval s = v) (hown : Own w base e k v n (l.flatMap enc)) (hm : ∀ x ∈ m, (enc x).length = k) (hm1 : ∀ x ∈ m, ∀ u ∈ enc x, u.oneCell' = true)
    (B : Option Addr) (M d : Nat) (hx : a.eval x = .slice B M d) (hM : M = m.length) (hB : EncIn enc k w B m) (h63 : n + m.length ≤ maxLen) (hbytes : (n + m.length) * bytes ≤ 140737488355328) (hbase : base ≤ w.heap.size)
    (h : ∀ v' w', Own w' base e k v' (n + m.length) ((l ++ m).flatMap enc) → w.grownBy w' v.ownBlock → (v'.ownBlock = v.ownBlock ∨ v'.ownBlock = some w.heap.size) → wpList P ops Q rest (a.put o.dst v') w') : wpList P ops Q (o :: rest) a w := by
  subst hM
  cases hi : P.info? e with
  | none => rw [hi] at hinf; cases hinf
  | some i =>
    rw [hi, Option.map_some, Option.some.injEq, Prod.mk.injEq, Prod.mk.injEq] at hinf
    obtain ⟨hz, hsize, hby⟩ := hinf
    by_cases h0 : 0 < m.length
    · obtain ⟨gB, off, rfl, hlt, hc⟩ := hB h0
      refine wpList_append_Own w hgd s x t ho base e i z k bytes ht hi hz hsize hby hzs hsz _ n (l.flatMap enc) hs hown ⟨gB, off, none⟩ m.length d (m.flatMap enc) hx (enc_len hm) (enc_cells hsz hm hc) (enc_one hm1) h63 hbytes hbase ?_
      intro v' w' hO hg hor
      rw [← List.flatMap_append] at hO
      exact h v' w' hO hg hor
    · have hm0 : m = [] := List.length_eq_zero_iff.1 (by omega)
      subst hm0
      have hown2 := hown.2
      have key : ∃ base' c, v = .slice base' n c ∧ n ≤ c := by
        rcases hown2 with ⟨rfl, rfl⟩ | ⟨g, cap, cur, fr, rfl, _, _, _, hc, _⟩
        · exact ⟨none, 0, rfl, Nat.le_refl _⟩
        · exact ⟨_, cap, rfl, hc⟩
      obtain ⟨base', c, hv, hnc⟩ := key
      refine wpList_append_nothing hw s x t e ho i ht hi base' n c hnc (hs.trans hv) B d hx ?_
      rw [← hv]
      exact h v w (by simpa using hown) (World.grownBy.refl _ _) (.inl rfl)
end
end Go.Proofs.YtefbllhpibfojaaDoor

namespace Go.Proofs.YtefbllhpibfojaaDoor
open Go.Proofs Go.Shelf Go.RowKit Go.Lib Go.Sort

theorem exec_build {P : Program} {a : Act} {o : Oper} (t : TypeId) (parts : Array (Nat × Operand)) (cells : Array Value) (ho : o.op = .build t parts) (h : P.built t (parts.map fun (i, x) => (i, a.eval x)).toList = some cells) (w : World) :
    (execOp a.eval o).run P w = .ok (.value (.agg cells)) w := by
  unfold execOp
  simp only [ho, Sem.run_bind, run_build w t _ cells h, Result.andThen_ok, Sem.run_pure]
section
variable {P : Program} {ops : Array Oper} {Q : Exit → Act → World → Prop} {o : Oper} {rest : List Oper} {a : Act} {w : World}
theorem wpList_build (cells : Array Value) (hw : Region.wanted o (yielded ops a.tmps) = true) (t : TypeId) (parts : Array (Nat × Operand)) (ho : o.op = .build t parts) (hb : P.built t (parts.map fun (i, x) => (i, a.eval x)).toList = some cells)
    (h : wpList P ops Q rest (a.put o.dst (.agg cells)) w) : wpList P ops Q (o :: rest) a w :=
  wpList_val _ hw (exec_build t parts cells ho hb w) h
/-- an integer stored into a variable -/
theorem wpList_store1 (hgd : o.guard = none) (ty : TypeId) (x y : Operand) (ho : o.op = .store ty x y) (b off : Nat) (k : IntKind) (n : Int)
    (hx : a.eval x = .pointer (some ⟨b, off, none⟩)) (hy : a.eval y = .int k n) (hi : (P.info? ty).map (·.size) = some 1) (t : TypeId) (cs : List Value) (hg : At w b t cs) (hl : off < cs.length)
    (h : ∀ w', At w' b t (cs.set off (.int k n)) → w.grownBy w' (some b) → w'.heap.size = w.heap.size → wpList P ops Q rest (a.put o.dst undef) w') : wpList P ops Q (o :: rest) a w :=
  wpList_plain hgd fun _ hK => by
    have hc : (w.cell? ⟨b, off, none⟩).isSome = true ∧ w.frozen? ⟨b, off, none⟩ = false := by
      rw [hg.cell, hg.frozen]
      simp [hl]
    unfold Oper.wp execOp
    have hr : (Instr.storeAt ty (.pointer (some ⟨b, off, none⟩)) (.int k n)).run P w = .ok () (w.setCell ⟨b, off, none⟩ (.int k n)) := by
      cases hq : P.info? ty with
      | none => simp [hq] at hi
      | some i =>
        have hs : i.size = 1 := by simpa [hq] using hi
        obtain ⟨v0, hv0⟩ := Option.isSome_iff_exists.1 hc.1
        simp [Instr.storeAt, Instr.sureAddr, storeVar, sizeOf, typeInfo, hq, hs, hv0, hc.2, Value.cells, storeCells, go_sem]
    simp only [ho, hx, hy, Sem.run_bind, Sem.run_pure, hr, Result.andThen_ok]
    exact hK _ _ (h _ (hg.set off _) (grown_setCell (World.grownBy.refl _ _) (.inl rfl) _) (by simp [World.setCell]))
/-- an array or a struct stored into a part of a variable -/
theorem wpList_storePart (hgd : o.guard = none) (ty : TypeId) (x y : Operand) (ho : o.op = .store ty x y) (b off : Nat) (new : List Value) (hx : a.eval x = .pointer (some ⟨b, off, none⟩)) (hy : a.eval y = .agg new.toArray)
    (t : TypeId) (cs : List Value) (hg : At w b t cs) (hl : off + new.length ≤ cs.length) (hi : (P.info? ty).map (·.size) = some new.length) (h1 : ∀ v ∈ new, v.oneCell' = true)
    (h : ∀ w', At w' b t (cs.take off ++ new ++ cs.drop (off + new.length)) → w.grownBy w' (some b) → w'.heap.size = w.heap.size → wpList P ops Q rest (a.put o.dst undef) w') : wpList P ops Q (o :: rest) a w := by
  refine wpList_store_mid hgd ty x y ho b off new.toArray hx hy (by simpa using hg.there off new.length hl) (by simpa using hi) (all_oneCell_toArray h1) ?_
  refine h _ ?_ (grown_setCells b _ off w w (World.grownBy.refl w _)) ?_
  · simpa using At.setCells new off hg hl
  · have hs : ∀ (vs : List Value) (o : Nat) (w : World), (w.setCells b o vs).heap.size = w.heap.size := by
      intro vs
      induction vs with
      | nil => intro o w; rfl
      | cons v r ih => intro o w; rw [World.setCells, ih]; simp [World.setCell]
    exact hs _ _ _
end
theorem ret_cellTmp {P : Program} {fn : Func} {R : Ending → World → Prop} {a : Act} {w : World} {p q : Tmp} {ty : TypeId} (hr : fn.results = #[.cell p ty, .tmp q]) (hd : a.defers = []) (g : Nat) (t : TypeId) (cs : List Value) (d : TypeDesc)
    (hp : a.tmps.getD p undef = .pointer (some ⟨g, 0, none⟩)) (hg : At w g t cs) (hu : P.underlying ty = some d) (hdd : (match d with | .struct _ | .array _ _ => true | _ => false) = true)
    (hi : (P.info? ty).map (·.size) = some cs.length) (v : Value) (hv : a.tmps.getD q undef = v) (hR : R (.returned (.tuple #[.agg cs.toArray, v])) w) : bodyPost P fn R .ret a w := by
  refine bodyPost_ret ?_ hd hR
  have hp' : a.tmps[p]?.getD undef = .pointer (some ⟨g, 0, none⟩) := by simpa using hp
  have hv' : a.tmps[q]?.getD undef = v := by simpa using hv
  simp [results, hr, hp', hv', asAddr, run_loadVar_row w g t ty cs.toArray (0, 0) d hg hu hdd (by simpa using hi)]
/-- string(x[:]) of a part of a variable -/
theorem conv_part {W : World} {b o cap : Nat} {l : List UInt8} (h : W.rangeAt b o (u8s l)) {n : Nat} (hn : n = l.length) :
    (convert 70 9 (.slice (some ⟨b, o, none⟩) n cap)).run Tryd.prog W = .ok (.string ⟨l.toArray⟩) W := by
  subst hn
  refine run_convert_bytes_back (P := Tryd.prog) W 70 9 5 ⟨b, o, none⟩ cap l Tryd.underlying70 Tryd.underlying5 Tryd.underlying9 fun i hi => ?_
  have e : (⟨b, o, none⟩ : Addr).add i = ⟨b, o + i, none⟩ := by unfold Addr.add; split <;> simp_all
  rw [e]
  exact h i _ (by simp [u8s, hi])
theorem exec_conv {a : Act} {o : Oper} (y : Operand) (ho : o.op = .convert 70 9 y) {W : World} {b off cap n : Nat} {l : List UInt8} (hy : a.eval y = .slice (some ⟨b, off, none⟩) n cap) (hn : n = l.length) (h : W.rangeAt b off (u8s l)) :
    (execOp a.eval o).run Tryd.prog W = .ok (.value (.string ⟨l.toArray⟩)) W := by
  unfold execOp
  simp only [ho, hy, Sem.run_bind, Sem.run_pure, conv_part h hn, Result.andThen_ok]
theorem exec_cat {a : Act} {o : Oper} (x y : Operand) (yt : TypeId) (ho : o.op = .binOp .add 9 x y yt) {s t : ByteArray} (hx : a.eval x = .string s) (hy : a.eval y = .string t) (hsz : s.size + t.size ≤ 9223372036854775807) (W : World) :
    (execOp a.eval o).run Tryd.prog W = .ok (.value (.string (s ++ t))) W := by
  unfold execOp
  simp only [ho, hx, hy]
  go_simp
/-- a slice built of one string -/
theorem exec_one_str {a : Act} {o : Oper} (y : Operand) (ho : o.op = .buildSlice 69 1 #[(0, y)]) {s : ByteArray} (hy : a.eval y = .string s) (W : World) :
    (execOp a.eval o).run Tryd.prog W = .ok (.value (.slice (some ⟨W.heap.size, 0, none⟩) 1 1)) (W.alloc (.cells #[.string s] 9)) := by
  unfold execOp
  simp only [ho]
  have e : (#[(0, y)] : Array (Nat × Operand)).map (fun (i, x) => (i, a.eval x)) = #[(0, .string s)] := by simp [hy]
  rw [e]
  go_simp
/-- a row of strings that an append has made -/
theorem Own.strs {w : World} {base : Nat} {e : TypeId} {n : Nat} {v : Value} {ss : List ByteArray} (h : Own w base e 1 v n (ss.map Value.string)) (hn : n = ss.length) {p : Nat} (hp : p < base ∨ w.heap.size ≤ p) : ∃ A c, v = .slice A n c ∧ StrsAt w A ss p := by
  by_cases h0 : 0 < n
  · obtain ⟨g, cap, rfl, hb, hg, hc, _⟩ := h.form h0
    refine ⟨_, _, rfl, fun _ => ⟨⟨g, 0, none⟩, rfl, by show g ≠ p; omega, hg, fun i hi => ?_⟩⟩
    have e : (⟨g, 0, none⟩ : Addr).add i = ⟨g, i, none⟩ := by unfold Addr.add; split <;> simp_all
    rw [e, h.cellAt rfl i (by omega)]
    simp [hi]
  · have hl0 : ¬ 0 < ss.length := by omega
    rcases h.2 with ⟨rfl, h2⟩ | ⟨g, cap, cur, fr, h1, _, _, _, hc, _⟩
    · exact ⟨none, 0, by rw [h2], fun h => absurd h hl0⟩
    · exact ⟨_, cap, h1, fun h => absurd h hl0⟩
theorem infoStr : (Tryd.prog.info? 9).map (fun i => (i.zero, i.size, i.bytes)) = some (some (.string ByteArray.empty), 1, 16) := by kernel_rfl
end Go.Proofs.YtefbllhpibfojaaDoor

namespace Go.Proofs.YtefbllhpibfojaaDoor
open Go.Proofs Go.Shelf Go.RowKit Go.Lib Go.Sort

section
variable {P : Program} {ops : Array Oper} {Q : Exit → Act → World → Prop} {rest : List Oper} {a : Act} {w : World} {o : Oper} {α : Type} {enc : α → List Value}
theorem exec_rowsE (t e sz : Nat) (l : List α) (parts : Array (Nat × Operand)) (ho : o.op = .buildSlice t l.length parts) (hu : P.underlying t = some (.slice e)) (hie : (P.info? e).map (fun i => (i.zero.isSome, i.size)) = some (true, sz)) (hsz : 0 < sz) (hl : 0 < l.length) (hsm : l.length * sz ≤ 2 ^ 24) (hk : ∀ x ∈ l, (enc x).length = sz)
    (hp : (parts.map fun (i, x) => (i, a.eval x)).toList = ((l.map fun x => Value.agg (enc x).toArray).zipIdx 0).map fun x => (x.2, x.1)) (w : World) :
    (execOp a.eval o).run P w = .ok (.value (.slice (some ⟨w.heap.size, 0, none⟩) l.length l.length)) (w.alloc (.cells (l.flatMap enc).toArray e)) := by
  cases hi : P.info? e with
  | none => rw [hi] at hie; cases hie
  | some ie =>
    rw [hi, Option.map_some, Option.some.injEq, Prod.mk.injEq] at hie
    obtain ⟨z, hz⟩ := Option.isSome_iff_exists.1 hie.1
    have hs := hie.2
    have hf := Go.Great.fill_whole hsz (l.map fun x => Value.agg (enc x).toArray) ((Array.range (l.length * sz)).map (z.cells[· % z.cells.size]!)) (by
      intro v hv
      obtain ⟨x, hx, rfl⟩ := List.mem_map.1 hv
      simp [Value.cells, hk x hx]) (by simp)
    have hpos : 0 < l.length * sz := Nat.mul_pos hl hsz
    have hrun := run_buildSlice (P := P) w t e l.length (parts.map fun (i, x) => (i, a.eval x)) _ ie z hu hi hz (by rw [hs]; omega) (by rw [hs]; omega) (by rw [hs, hp]; exact hf)
    have e3 : ((l.map fun x => Value.agg (enc x).toArray).flatMap fun v => v.cells.toList) = l.flatMap enc := by
      rw [List.flatMap_map]
      rfl
    rw [e3] at hrun
    unfold execOp
    simp only [ho, Sem.run_bind, hrun, Result.andThen_ok, Sem.run_pure]
theorem enc_laid {sz : Nat} {l : List α} (hk : ∀ x ∈ l, (enc x).length = sz) (w : World) (e : TypeId) : EncIn enc sz (w.alloc (.cells (l.flatMap enc).toArray e)) (some ⟨w.heap.size, 0, none⟩) l := fun _ =>
  ⟨w.heap.size, 0, rfl, by simp, fun i hi j v hv => by
    rw [Nat.zero_add, (At.new w e (l.flatMap enc)).cell]
    exact enc_get hk hi hv⟩
/-- a slice of things, written out -/
theorem wpList_rowsE (hw : Region.wanted o (yielded ops a.tmps) = true) (t e sz : Nat) (l : List α) (parts : Array (Nat × Operand)) (hop : o.op = .buildSlice t l.length parts) (hu : P.underlying t = some (.slice e)) (hie : (P.info? e).map (fun i => (i.zero.isSome, i.size)) = some (true, sz)) (hsz : 0 < sz) (hl : 0 < l.length) (hsm : l.length * sz ≤ 2 ^ 24) (hk : ∀ x ∈ l, (enc x).length = sz)
    (hp : (parts.map fun (i, x) => (i, a.eval x)).toList = ((l.map fun x => Value.agg (enc x).toArray).zipIdx 0).map fun x => (x.2, x.1))
    (h : ∀ g w', g = w.heap.size → Below w.heap.size w w' → EncIn enc sz w' (some ⟨g, 0, none⟩) l → Own w' w.heap.size e sz (.slice (some ⟨g, 0, none⟩) l.length l.length) l.length (l.flatMap enc) → wpList P ops Q rest (a.put o.dst (.slice (some ⟨g, 0, none⟩) l.length l.length)) w') : wpList P ops Q (o :: rest) a w :=
  wpList_step fun K hK => by
    rw [if_pos hw]
    unfold Oper.wp
    rw [exec_rowsE t e sz l parts hop hu hie hsz hl hsm hk hp w]
    refine hK _ _ (h _ _ rfl ((Below.refl _ _).alloc (Nat.le_refl _) _) (enc_laid hk w e) ?_)
    have hm : l.length ≤ maxLen := by
      have : l.length * 1 ≤ l.length * sz := Nat.mul_le_mul_left _ hsz
      unfold maxLen
      omega
    have h1 := Own.made (base := w.heap.size) w e sz (l.flatMap enc) l.length l.length (Nat.le_refl _) (Nat.le_refl _) hm (enc_len hk)
    rwa [List.take_of_length_le (by rw [enc_len hk]; exact Nat.le_refl _)] at h1
/-- .. of one thing -/
theorem wpList_one (hw : Region.wanted o (yielded ops a.tmps) = true) (t e sz : Nat) (x : α) (y : Operand) (hop : o.op = .buildSlice t 1 #[(0, y)]) (hy : a.eval y = .agg (enc x).toArray) (hu : P.underlying t = some (.slice e)) (hie : (P.info? e).map (fun i => (i.zero.isSome, i.size)) = some (true, sz)) (hsz : 0 < sz) (hsm : sz ≤ 2 ^ 24) (hk : (enc x).length = sz)
    (h : ∀ g w', g = w.heap.size → Below w.heap.size w w' → EncIn enc sz w' (some ⟨g, 0, none⟩) [x] → wpList P ops Q rest (a.put o.dst (.slice (some ⟨g, 0, none⟩) 1 1)) w') : wpList P ops Q (o :: rest) a w :=
  wpList_rowsE (enc := enc) hw t e sz [x] #[(0, y)] hop hu hie hsz (by simp) (by simpa using hsm) (by simpa using hk) (by simp [hy]) fun g w' h1 h2 h3 _ => h g w' h1 h2 h3
end
end Go.Proofs.YtefbllhpibfojaaDoor

namespace Go.Proofs.YtefbllhpibfojaaDoor
open Go.Proofs Go.Shelf Go.RowKit Go.Lib Go.Sort
variable {α : Type}

/-- what a search finds: no place, or the first one -/
def Found (p : α → Bool) (l : List α) (r : Int) : Prop := (r = -1 ∧ ∀ x ∈ l, p x = false) ∨ ∃ k, ∃ h : k < l.length, r = (k : Nat) ∧ p l[k] = true ∧ ∀ j (hj : j < k), p (l[j]'(by omega)) = false
def idxP (p : α → Bool) (l : List α) : Int := match l.findIdx? p with | none => -1 | some k => (k : Int)
theorem found_idxP (p : α → Bool) (l : List α) : Found p l (idxP p l) := by
  unfold idxP
  cases h : l.findIdx? p with
  | none => exact .inl ⟨rfl, List.findIdx?_eq_none_iff.1 h⟩
  | some k =>
    obtain ⟨h1, h2, h3⟩ := List.findIdx?_eq_some_iff_getElem.1 h
    exact .inr ⟨k, h1, rfl, h2, fun j hj => by have := h3 j hj; simpa using this⟩
theorem Found.unique {p : α → Bool} {l : List α} {r s : Int} (h : Found p l r) (k : Found p l s) : r = s := by
  rcases h with ⟨h1, h2⟩ | ⟨a, ha, h1, h2, h3⟩
  · rcases k with ⟨k1, k2⟩ | ⟨b, hb, k1, k2, k3⟩
    · rw [h1, k1]
    · rw [h2 _ (List.getElem_mem hb)] at k2; cases k2
  · rcases k with ⟨k1, k2⟩ | ⟨b, hb, k1, k2, k3⟩
    · rw [k2 _ (List.getElem_mem ha)] at h2; cases h2
    · have h4 : ¬ a < b := fun hab => by rw [k3 a hab] at h2; cases h2
      have h5 : ¬ b < a := fun hab => by rw [h3 b hab] at k2; cases k2
      omega
set_option maxRecDepth 100000 in
set_option maxHeartbeats 400000 in
theorem idxRec_any (k : Nat) (_aE : ∀ w, (isAgg 38).run Tryd.prog w = .ok true w) (zE : ∀ w, (Go.sizeOf 38).run Tryd.prog w = .ok k w) (enc : α → List Value) (hk : ∀ x, (enc x).length = k) (hi : (Tryd.prog.info? 38).map (·.size) = some k)
    (p : α → Bool) (g : Nat) (lb : Array Value) (eg : ∀ args w, (callFunc g args).run Tryd.prog w = .ok (.enter g args) w) (A : Option Addr) (cap : Nat) (l : List α) (w : World) (C : World → Prop) (hC : ∀ W, C W → EncIn enc k W A l)
    (hp : ∀ W x, C W → Calls Tryd.prog g (#[.agg (enc x).toArray] ++ lb) W fun e w' => e = .returned (.bool (p x)) ∧ C w') (hw : C w) (hn : l.length < 9223372036854775807) :
    Calls Tryd.prog 77 #[.slice A l.length cap, .func (.func g) #[] lb] w fun e w' => e = .returned (.int .i64 (idxP p l)) ∧ C w' := by
  obtain ⟨n, hln⟩ : ∃ n, n = l.length := ⟨_, rfl⟩
  rw [← hln]
  have HN := Lib.hid hln
  have HC := Lib.hid hC
  have HP := Lib.hid hp
  have HW := Lib.hid hw
  have hnb : n < 9223372036854775807 := by omega
  clear hln hC hp hw hn
  go_enter Tryd.func77, Tryd.ntmps77
  go_wp2_with fail
  go_loopg [8] n (fun gg s8 wr => ∃ kk : Nat, kk ≤ n ∧ n - kk ≤ gg ∧ s8 = .int .i64 kk ∧ Hid (C wr) ∧ Hid (∀ x ∈ l.take kk, p x = false))
  case atStart => exact ⟨0, Nat.zero_le _, by omega, rfl, HW.out, by intro x hx; simp at hx⟩
  case round =>
    clear HW
    obtain ⟨kk, hkk, hg, rfl, HW, HA⟩ := hrel
    by_cases hlt : kk < n
    · have hltz : (kk : Int) < (n : Int) := by omega
      have i0 : (0 : Int) ≤ (kk : Int) := by omega
      have hkl : kk < l.length := by have := HN.out; omega
      obtain ⟨gA, off, hA, hgA, hrg⟩ := (HC.out wr HW.out).at hkl
      obtain ⟨x, hx⟩ : ∃ x, x = l[kk] := ⟨_, rfl⟩
      rw [← hx] at hrg
      have HR := Lib.hid hrg
      have HX := Lib.hid hx
      have hlx : (Tryd.prog.info? 38).map (·.size) = some (enc x).length := by rw [hk]; exact hi
      have HL := Lib.hid hlx
      have hcall := HP.out wr x HW.out
      clear hrg hx hlx hgA
      subst hA
      cases hq : p x with
      | true =>
        rw [hq] at hcall
        have HQ := Lib.hid hq
        have HCa := Lib.hid hcall
        clear hq hcall
        go_wp2_with (first
          | (with_reducible refine wpList_load_mid rfl 38 (.tmp 14) rfl gA (off + kk * k) ?_ _ _ HR.out Tryd.underlying38 rfl HL.out ?_; (focus (go_simp)))
          | (go_at_fn g; refine Calls.mono HCa.out ?_; rintro e w' ⟨rfl, hb'⟩))
        go_ret
        exact ⟨ret_int (Found.unique (.inr ⟨kk, hkl, rfl, by rw [← HX.out]; exact HQ.out, fun j hj => HA.out _ (List.mem_take_iff_getElem.2 ⟨j, by omega, rfl⟩)⟩) (found_idxP p l)), hb'⟩
      | false =>
        rw [hq] at hcall
        have HQ := Lib.hid hq
        have HCa := Lib.hid hcall
        clear hq hcall
        go_wp2_with (first
          | (with_reducible refine wpList_load_mid rfl 38 (.tmp 14) rfl gA (off + kk * k) ?_ _ _ HR.out Tryd.underlying38 rfl HL.out ?_; (focus (go_simp)))
          | (go_at_fn g; refine Calls.mono HCa.out ?_; rintro e w' ⟨rfl, hb'⟩))
        go_roundg (n - (kk + 1))
        case measure => omega
        case rel =>
          refine ⟨kk + 1, by omega, by omega, by go_num, hb', (show Hid _ from fun y hy => ?_)⟩
          rw [List.take_succ_eq_append_getElem hkl] at hy
          rcases List.mem_append.1 hy with hy | hy
          · exact HA.out y hy
          · rw [List.mem_singleton.1 hy, ← HX.out]; exact HQ.out
    · have hltz : ¬ (kk : Int) < (n : Int) := by omega
      have hkn : l.length ≤ kk := by have := HN.out; omega
      go_wp2_with fail
      go_ret
      exact ⟨ret_int (Found.unique (.inl ⟨rfl, fun x hx => HA.out x (by rw [List.take_of_length_le hkn]; exact hx)⟩) (found_idxP p l)), HW.out⟩
theorem kept_takeRec [Inhabited α] {kp : Nat → Bool} {d dk : Array α} {i : Nat} (h : Lib.KeptInv kp d d.size i dk) : dk.toList.take i = Lib.keptUpTo kp d d.size := by
  apply List.ext_getElem?
  intro j
  rw [List.getElem?_take]
  by_cases hj : j < i
  · have hd : j < dk.size := by have := h.lt; have := h.size; omega
    rw [if_pos hj, h.low j hj, Array.getElem?_toList, Array.getElem?_eq_getElem hd, getElem!_pos dk j hd]
  · rw [if_neg hj, List.getElem?_eq_none (by rw [h.len]; omega)]
set_option maxRecDepth 100000 in
set_option maxHeartbeats 1000000 in
theorem delRec_any [Inhabited α] (k : Nat) (hk0 : 0 < k) (aE : ∀ w, (isAgg 38).run Tryd.prog w = .ok true w) (zE : ∀ w, (Go.sizeOf 38).run Tryd.prog w = .ok k w) (enc : α → List Value) (hk : ∀ x, (enc x).length = k) (h1 : ∀ x, ∀ v ∈ enc x, v.oneCell' = true) (hi : (Tryd.prog.info? 38).map (·.size) = some k)
    (zr : α) (vE : ∀ w, (zeroValue 38).run Tryd.prog w = .ok (.agg (enc zr).toArray) w)
    (p : α → Bool) (f : Nat) (lb : Array Value) (eg : ∀ args w, (callFunc f args).run Tryd.prog w = .ok (.enter f args) w) (B : Nat) (v : Value) (n : Nat) (l : List α) (w : World) (hown : Own w B 38 k v n (l.flatMap enc)) (hn : n = l.length) (hnb : n < 9223372036854775807)
    (hp : ∀ W x, w.grownBy W v.ownBlock → Calls Tryd.prog f (#[.agg (enc x).toArray] ++ lb) W fun e w' => e = .returned (.bool (p x)) ∧ Below W.heap.size W w') :
    Calls Tryd.prog 46 #[v, .func (.func f) #[] lb] w fun e w' => ∃ v' m, e = .returned v' ∧ m = (l.filter fun x => !p x).length ∧ Own w' B 38 k v' m ((l.filter fun x => !p x).flatMap enc) ∧ w.grownBy w' v.ownBlock := by
  have hlk : ∀ x ∈ l, (enc x).length = k := fun x _ => hk x
  obtain ⟨A, c, hv, hnc, hE⟩ := hown.rows hn hlk
  subst hv
  have hidx := idxRec_any k aE zE enc hk hi p f lb eg A c l w (fun W => Below w.heap.size w W) (fun W hb => hE.up hb)
    (fun W x hb => (hp W x (grown_below (World.grownBy.refl w _) hb)).mono fun e w' ⟨h1, h2⟩ => ⟨h1, hb.trans (h2.mono hb.size)⟩) (Below.refl _ _) (by omega)
  rw [← hn] at hidx
  have HID := Lib.hid hidx
  have HP := Lib.hid hp
  have HO := Lib.hid hown
  have HN := Lib.hid hn
  clear hidx hE hp hown hn
  rcases found_idxP p l with ⟨hr, hall⟩ | ⟨k0, hk0l, hr, hpk, hbef⟩
  · have HA := Lib.hid hall
    rw [hr] at HID
    clear hall hr
    go_enter Tryd.func46, Tryd.ntmps46
    go_wp2_with (go_at_call 77; refine Calls.mono HID.out ?_; rintro e w1 ⟨rfl, hb1⟩; have HB := Lib.hid hb1; clear hb1)
    go_ret
    have hfil : (l.filter fun x => !p x) = l := List.filter_eq_self.2 (fun x hx => by rw [HA.out x hx]; rfl)
    refine ⟨_, n, rfl, by rw [hfil]; exact HN.out, ?_, grown_below (World.grownBy.refl w _) HB.out⟩
    rw [hfil]
    exact HO.out.below HB.out
  · obtain ⟨g, rfl⟩ : ∃ g, A = some ⟨g, 0, none⟩ := by
      rcases HO.out.2 with ⟨h, h0⟩ | ⟨g, cap, cur, fr, h, _⟩
      · have := HN.out; omega
      · injection h with e1
        exact ⟨g, e1⟩
    obtain ⟨kp, hkp⟩ : ∃ kp : Nat → Bool, kp = fun j => !p l.toArray[j]! := ⟨_, rfl⟩
    have hget : ∀ j (h : j < l.length), l.toArray[j]! = l[j] := fun j h => by simp [h]
    have hfil : Lib.keptUpTo kp l.toArray l.toArray.size = (l.filter fun x => !p x) := by rw [hkp]; exact Lib.keptUpTo_filter (fun x => !p x) l.toArray
    have hst : Lib.KeptInv kp l.toArray (k0 + 1) k0 l.toArray := Lib.KeptInv.start (fun j hj => by rw [hkp]; show (!p l.toArray[j]!) = true; rw [hget j (by omega), hbef j hj]; rfl) (by rw [hkp]; show (!p l.toArray[k0]!) = false; rw [hget k0 hk0l, hpk]; rfl)
    have HKP := Lib.hid hkp
    have HFI := Lib.hid hfil
    have HST := Lib.hid hst
    rw [hr] at HID
    have HGT := Lib.hid hget
    have hk0n : k0 < n := by have := HN.out; omega
    have hne1 : ((k0 : Int) == -1) = false := beq_eq_false_iff_ne.2 (by omega)
    clear hkp hfil hst hpk hbef hget hk0l hr
    go_enter Tryd.func46, Tryd.ntmps46
    go_wp2_with (go_at_call 77; refine Calls.mono HID.out ?_; rintro e w1 ⟨rfl, hb1⟩; have HB := Lib.hid hb1; clear hb1)
    clear HID
    go_loopg [5, 6] n (fun gg s5 s6 wr => ∃ (i j : Nat) (dk : Array α), s5 = .int .i64 i ∧ s6 = .int .i64 j ∧ j ≤ n ∧ i < j ∧ n - j ≤ gg ∧ Hid (Own wr B 38 k (.slice (some ⟨g, 0, none⟩) n c) n (dk.toList.flatMap enc)) ∧ Hid (w.grownBy wr (some g)) ∧ Hid (Lib.KeptInv kp l.toArray j i dk))
    case atStart => exact ⟨k0, k0 + 1, l.toArray, rfl, by go_num, by omega, by omega, by omega, HO.out.below HB.out, grown_below (World.grownBy.refl w _) HB.out, HST.out⟩
    case round =>
      clear HB HST hk0n hne1
      obtain ⟨i, j, dk, rfl, rfl, hjn, hij, hgg, HO1, HG1, HI⟩ := hrel
      by_cases hlt : j < n
      · have hltz : (j : Int) < (n : Int) := by omega
        have j0 : (0 : Int) ≤ (j : Int) := by omega
        have i0 : (0 : Int) ≤ (i : Int) := by omega
        have iz : (i : Int) < (n : Int) := by omega
        have hdl : n = dk.toList.length := by have h2 := HI.out.size; have h3 := HN.out; rw [Array.length_toList, h2, List.size_toArray, h3]
        obtain ⟨x, hx⟩ : ∃ x, x = l.toArray[j]! := ⟨_, rfl⟩
        have hxd : dk.toList[j]'(by omega) = x := by
          have h2 := HI.out.high j (by omega)
          have hjd : j < dk.size := by rw [Array.length_toList] at hdl; omega
          rw [hx, ← h2, getElem!_pos dk j hjd]
          rfl
        have hr := own_range hk HO1.out hdl j (by omega)
        rw [hxd] at hr
        have hlx : (Tryd.prog.info? 38).map (·.size) = some (enc x).length := by rw [hk]; exact hi
        have HR := Lib.hid hr
        have HL := Lib.hid hlx
        have HX := Lib.hid hx
        have HD := Lib.hid hdl
        have HLZ := Lib.hid (show (enc x).length = (enc zr).length by rw [hk, hk])
        clear hr hlx hx hxd hdl
        have HIN := Lib.hid (show i < n by omega)
        cases hq : p x with
        | true =>
          have HPx := Lib.hid (show ∀ W, w.grownBy W (some g) → Calls Tryd.prog f (#[.agg (enc x).toArray] ++ lb) W fun e w' => e = .returned (.bool true) ∧ Below W.heap.size W w' from fun W hW => by have := HP.out W x hW; rwa [hq] at this)
          have HQ := Lib.hid hq
          clear hq
          go_wp2_with (first
            | (with_reducible refine wpList_load_mid rfl 38 (.tmp 24) rfl g (j * k) ?_ _ _ HR.out Tryd.underlying38 rfl HL.out ?_; (focus (go_simp)))
            | (with_reducible refine wpList_allocZ 38 (enc zr) rfl rfl vE ?_; intro g2 w2 hg2 hat2 hb2; have HAT2 := Lib.hid hat2; have HB2 := Lib.hid hb2; have HG2 := Lib.hid hg2; clear hat2 hb2 hg2)
            | (with_reducible refine wpList_storeAll rfl 38 (.tmp 7) (.tmp 25) rfl g2 rfl _ _ (enc x) HAT2.out rfl HLZ.out HL.out (h1 _) ?_; intro w3 hat3 hg3 hs3; have HAT3 := Lib.hid hat3; have HG3 := Lib.hid hg3; clear hat3 hg3 hs3)
            | (go_at_fn f; have hb3 := Below.ofGrown HB2.out HG3.out HB2.out.size (Nat.le_of_eq HG2.out.symm); have HB3 := Lib.hid hb3; clear hb3; refine Calls.mono (HPx.out w3 (grown_below HG1.out HB3.out)) ?_; rintro e w4 ⟨rfl, hb4⟩; have HB4 := Lib.hid (HB3.out.trans (hb4.mono HB3.out.size)); have HAT4 := Lib.hid (HAT3.out.below hb4 HAT3.out.lt); have HO4 := Lib.hid (HO1.out.below HB4.out); clear hb4)
            | (with_reducible refine wpList_loadAll rfl 38 (.tmp 7) rfl g2 rfl _ _ _ HAT3.out Tryd.underlying38 rfl HL.out ?_))
          go_roundg (n - (j + 1))
          case measure => omega
          case rel => exact ⟨i, j + 1, dk, rfl, by go_num, by omega, by omega, Nat.le_refl _, HO4.out, grown_below HG1.out HB4.out, HI.out.skip (by rw [HKP.out]; show (!p l.toArray[j]!) = false; rw [← HX.out, HQ.out]; rfl)⟩
        | false =>
          have HPx := Lib.hid (show ∀ W, w.grownBy W (some g) → Calls Tryd.prog f (#[.agg (enc x).toArray] ++ lb) W fun e w' => e = .returned (.bool false) ∧ Below W.heap.size W w' from fun W hW => by have := HP.out W x hW; rwa [hq] at this)
          have HQ := Lib.hid hq
          clear hq
          go_wp2_with (first
            | (with_reducible refine wpList_load_mid rfl 38 (.tmp 24) rfl g (j * k) ?_ _ _ HR.out Tryd.underlying38 rfl HL.out ?_; (focus (go_simp)))
            | (with_reducible refine wpList_allocZ 38 (enc zr) rfl rfl vE ?_; intro g2 w2 hg2 hat2 hb2; have HAT2 := Lib.hid hat2; have HB2 := Lib.hid hb2; have HG2 := Lib.hid hg2; clear hat2 hb2 hg2)
            | (with_reducible refine wpList_storeAll rfl 38 (.tmp 7) (.tmp 25) rfl g2 rfl _ _ (enc x) HAT2.out rfl HLZ.out HL.out (h1 _) ?_; intro w3 hat3 hg3 hs3; have HAT3 := Lib.hid hat3; have HG3 := Lib.hid hg3; clear hat3 hg3 hs3)
            | (go_at_fn f; have hb3 := Below.ofGrown HB2.out HG3.out HB2.out.size (Nat.le_of_eq HG2.out.symm); have HB3 := Lib.hid hb3; clear hb3; refine Calls.mono (HPx.out w3 (grown_below HG1.out HB3.out)) ?_; rintro e w4 ⟨rfl, hb4⟩; have HB4 := Lib.hid (HB3.out.trans (hb4.mono HB3.out.size)); have HAT4 := Lib.hid (HAT3.out.below hb4 HAT3.out.lt); have HO4 := Lib.hid (HO1.out.below HB4.out); clear hb4)
            | (with_reducible refine wpList_loadAll rfl 38 (.tmp 7) rfl g2 rfl _ _ _ HAT3.out Tryd.underlying38 rfl HL.out ?_)
            | (with_reducible refine wpList_loadAll rfl 38 (.tmp 7) rfl g2 rfl _ _ _ HAT4.out Tryd.underlying38 rfl HL.out ?_)
            | (with_reducible refine wpList_put (enc := enc) (k := k) rfl 38 (.tmp 33) (.tmp 32) rfl g i ?_ x rfl dk.toList hk (h1 _) hi HO4.out HD.out HIN.out ?_; (focus (go_simp)); intro w5 hO5 hg5 hs5; have HO5 := Lib.hid hO5; have HG5 := Lib.hid (grown_trans (grown_below HG1.out HB4.out) hg5); clear hO5 hg5 hs5))
          go_roundg (n - (j + 1))
          case measure => omega
          case rel =>
            have hkp2 := HI.out.keep (by have := HN.out; simp; omega) (show kp j = true by rw [HKP.out]; show (!p l.toArray[j]!) = true; rw [← HX.out, HQ.out]; rfl)
            rw [← HX.out] at hkp2
            refine ⟨i + 1, j + 1, dk.setIfInBounds i x, by go_num, by go_num, by omega, by omega, Nat.le_refl _, ?_, HG5.out, hkp2⟩
            show Own _ _ _ _ _ _ _
            rw [Array.toList_setIfInBounds]
            exact HO5.out
      · have hjn2 : n = j := by omega
        have hin : (i : Int) < (n : Int) := by omega
        have i0 : (0 : Int) ≤ (i : Int) := by omega
        have hdl : n = dk.toList.length := by have h2 := HI.out.size; have h3 := HN.out; rw [Array.length_toList, h2, List.size_toArray, h3]
        have hic : (i : Int) ≤ (c : Int) := by omega
        obtain ⟨w6, hw6⟩ : ∃ w6, w6 = wr.setCells g (i * k) (List.replicate (n - i) (enc zr)).flatten := ⟨_, rfl⟩
        have hcl : ∀ ty, (Builtin.clear_ #[22] ty #[.slice (some ⟨g, i * k, none⟩) (n - i) (c - i)]).run Tryd.prog wr = .ok (.tuple #[]) w6 := fun ty => by
          rw [hw6]
          exact run_clear_own hk hk0 HO1.out hdl 22 38 ty zr (h1 _) Tryd.underlying22 vE i (c - i) (by omega)
        have HW6 := Lib.hid hw6
        have HD := Lib.hid hdl
        have HJ := Lib.hid hjn2
        clear hw6 hdl hjn2
        go_wp2_with fail
        go_ret
        have hI := HI.out
        have hjs : j = l.toArray.size := by have h2 := HJ.out; have h3 := HN.out; rw [List.size_toArray]; omega
        rw [hjs] at hI
        have hkt := kept_takeRec hI
        have hlen := hI.len
        rw [HFI.out] at hkt hlen
        obtain ⟨l', hl1, hl2, hl3, hl4⟩ := own_clear hk zr (n - i) i dk.toList wr HO1.out HD.out (by omega)
        rw [← HW6.out] at hl3 hl4
        have hcut := hl3.cut (m := i) (by omega)
        rw [enc_take (fun x _ => hk x), hl2, hkt] at hcut
        exact ⟨_, i, rfl, hlen.symm, hcut, grown_trans HG1.out hl4⟩
set_option maxRecDepth 100000 in
set_option maxHeartbeats 400000 in
theorem cloneRec_any (k : Nat) (hk0 : 0 < k) (enc : α → List Value) (hk : ∀ x, (enc x).length = k) (h1 : ∀ x, ∀ v ∈ enc x, v.oneCell' = true) (bytes : Nat) (zr : α) (hinf : (Tryd.prog.info? 38).map (fun i => (i.zero, i.size, i.bytes)) = some (some (.agg (enc zr).toArray), k, bytes))
    (A : Option Addr) (c : Nat) (l : List α) (w : World) (hE : EncIn enc k w A l) (hn : l.length < 1099511627776) (hby : l.length * bytes ≤ 140737488355328) :
    Calls Tryd.prog 52 #[.slice A l.length c] w fun e w' => ∃ v', e = .returned v' ∧ Own w' w.heap.size 38 k v' l.length (l.flatMap enc) ∧ Below w.heap.size w w' := by
  have q22 : ∀ (w : World) (a : Option Addr) (n c n' c' : Nat), (binOp .eql 22 (.slice a n c) (.slice none n' c')).run Tryd.prog w = .ok (.bool a.isNone) w := fun w a n c n' c' => Lib.run_eql_slice_nil w _ _ a n c n' c' Tryd.underlying22
  have u22 : ∀ w, Sem.run Tryd.prog (underlying 22) w = .ok (TypeDesc.slice 38) w := run_underlying Tryd.underlying22
  cases A with
  | none =>
    have hl : l = [] := by
      cases l with
      | nil => rfl
      | cons x r => obtain ⟨g, off, h, _⟩ := hE (by simp); cases h
    subst hl
    clear hE hn hby
    go_enter Tryd.func52, Tryd.ntmps52
    go_wp2_with fail
    go_ret
    exact ⟨_, rfl, Own.nil _ _ _ _, Below.refl _ _⟩
  | some ad =>
    have hw1 : Own (w.alloc (.cells #[] 38)) w.heap.size 38 k (.slice (some ⟨w.heap.size, 0, none⟩) 0 0) 0 (([] : List α).flatMap enc) := by
      have := Own.made (base := w.heap.size) w 38 k [] 0 0 (Nat.le_refl _) (Nat.le_refl _) (by unfold maxLen; omega) (by simp)
      simpa using this
    have HW1 := Lib.hid hw1
    have HE := Lib.hid (hE.alloc (.cells #[] 38))
    have HN := Lib.hid (And.intro hn hby)
    have HI := Lib.hid hinf
    have HZ := Lib.hid (show (Value.agg (enc zr).toArray).cells.size = k by rw [← hk zr]; rfl)
    obtain ⟨n, hln⟩ : ∃ n, n = l.length := ⟨_, rfl⟩
    rw [← hln]
    have HLN := Lib.hid hln
    clear hw1 hE hn hby hinf hln
    go_enter Tryd.func52, Tryd.ntmps52
    go_wp2_with (at_builtin; with_reducible refine wpList_append_enc (enc := enc) (k := k) rfl rfl (.tmp 5) (.tmp 6) 22 38 bytes rfl _ Tryd.underlying22 HI.out HZ.out hk0 w.heap.size (.slice (some ⟨w.heap.size, 0, none⟩) 0 0) 0 [] l rfl HW1.out (fun x _ => hk x) (fun x _ => h1 x) (some ad) n c rfl HLN.out HE.out (by have := HN.out.1; unfold maxLen; omega) (by rw [Nat.zero_add]; exact HN.out.2) (by simp) ?_; intro v' w2 hO hg _; have HO := Lib.hid hO; have HG := Lib.hid hg; clear hO hg)
    go_ret
    refine ⟨v', rfl, ?_, ?_⟩
    · have := HO.out
      rw [Nat.zero_add, List.nil_append] at this
      rw [HLN.out]; exact this
    · exact own_below2 HW1.out ((Below.refl _ _).alloc (Nat.le_refl _) _) (Nat.le_refl _) (by simp) HG.out
end Go.Proofs.YtefbllhpibfojaaDoor

namespace Go.Proofs.YtefbllhpibfojaaDoor
open Go.Proofs Go.Shelf Go.RowKit Go.Lib Go.Sort
variable {α : Type}

set_option maxRecDepth 100000 in
set_option maxHeartbeats 400000 in
theorem idxRng_any (k : Nat) (_aE : ∀ w, (isAgg 26).run Tryd.prog w = .ok true w) (zE : ∀ w, (Go.sizeOf 26).run Tryd.prog w = .ok k w) (enc : α → List Value) (hk : ∀ x, (enc x).length = k) (hi : (Tryd.prog.info? 26).map (·.size) = some k)
    (p : α → Bool) (g : Nat) (lb : Array Value) (eg : ∀ args w, (callFunc g args).run Tryd.prog w = .ok (.enter g args) w) (A : Option Addr) (cap : Nat) (l : List α) (w : World) (C : World → Prop) (hC : ∀ W, C W → EncIn enc k W A l)
    (hp : ∀ W x, C W → Calls Tryd.prog g (#[.agg (enc x).toArray] ++ lb) W fun e w' => e = .returned (.bool (p x)) ∧ C w') (hw : C w) (hn : l.length < 9223372036854775807) :
    Calls Tryd.prog 89 #[.slice A l.length cap, .func (.func g) #[] lb] w fun e w' => e = .returned (.int .i64 (idxP p l)) ∧ C w' := by
  obtain ⟨n, hln⟩ : ∃ n, n = l.length := ⟨_, rfl⟩
  rw [← hln]
  have HN := Lib.hid hln
  have HC := Lib.hid hC
  have HP := Lib.hid hp
  have HW := Lib.hid hw
  have hnb : n < 9223372036854775807 := by omega
  clear hln hC hp hw hn
  go_enter Tryd.func89, Tryd.ntmps89
  go_wp2_with fail
  go_loopg [8] n (fun gg s8 wr => ∃ kk : Nat, kk ≤ n ∧ n - kk ≤ gg ∧ s8 = .int .i64 kk ∧ Hid (C wr) ∧ Hid (∀ x ∈ l.take kk, p x = false))
  case atStart => exact ⟨0, Nat.zero_le _, by omega, rfl, HW.out, by intro x hx; simp at hx⟩
  case round =>
    clear HW
    obtain ⟨kk, hkk, hg, rfl, HW, HA⟩ := hrel
    by_cases hlt : kk < n
    · have hltz : (kk : Int) < (n : Int) := by omega
      have i0 : (0 : Int) ≤ (kk : Int) := by omega
      have hkl : kk < l.length := by have := HN.out; omega
      obtain ⟨gA, off, hA, hgA, hrg⟩ := (HC.out wr HW.out).at hkl
      obtain ⟨x, hx⟩ : ∃ x, x = l[kk] := ⟨_, rfl⟩
      rw [← hx] at hrg
      have HR := Lib.hid hrg
      have HX := Lib.hid hx
      have hlx : (Tryd.prog.info? 26).map (·.size) = some (enc x).length := by rw [hk]; exact hi
      have HL := Lib.hid hlx
      have hcall := HP.out wr x HW.out
      clear hrg hx hlx hgA
      subst hA
      cases hq : p x with
      | true =>
        rw [hq] at hcall
        have HQ := Lib.hid hq
        have HCa := Lib.hid hcall
        clear hq hcall
        go_wp2_with (first
          | (with_reducible refine wpList_load_mid rfl 26 (.tmp 14) rfl gA (off + kk * k) ?_ _ _ HR.out Tryd.underlying26 rfl HL.out ?_; (focus (go_simp)))
          | (go_at_fn g; refine Calls.mono HCa.out ?_; rintro e w' ⟨rfl, hb'⟩))
        go_ret
        exact ⟨ret_int (Found.unique (.inr ⟨kk, hkl, rfl, by rw [← HX.out]; exact HQ.out, fun j hj => HA.out _ (List.mem_take_iff_getElem.2 ⟨j, by omega, rfl⟩)⟩) (found_idxP p l)), hb'⟩
      | false =>
        rw [hq] at hcall
        have HQ := Lib.hid hq
        have HCa := Lib.hid hcall
        clear hq hcall
        go_wp2_with (first
          | (with_reducible refine wpList_load_mid rfl 26 (.tmp 14) rfl gA (off + kk * k) ?_ _ _ HR.out Tryd.underlying26 rfl HL.out ?_; (focus (go_simp)))
          | (go_at_fn g; refine Calls.mono HCa.out ?_; rintro e w' ⟨rfl, hb'⟩))
        go_roundg (n - (kk + 1))
        case measure => omega
        case rel =>
          refine ⟨kk + 1, by omega, by omega, by go_num, hb', (show Hid _ from fun y hy => ?_)⟩
          rw [List.take_succ_eq_append_getElem hkl] at hy
          rcases List.mem_append.1 hy with hy | hy
          · exact HA.out y hy
          · rw [List.mem_singleton.1 hy, ← HX.out]; exact HQ.out
    · have hltz : ¬ (kk : Int) < (n : Int) := by omega
      have hkn : l.length ≤ kk := by have := HN.out; omega
      go_wp2_with fail
      go_ret
      exact ⟨ret_int (Found.unique (.inl ⟨rfl, fun x hx => HA.out x (by rw [List.take_of_length_le hkn]; exact hx)⟩) (found_idxP p l)), HW.out⟩
theorem kept_takeRng [Inhabited α] {kp : Nat → Bool} {d dk : Array α} {i : Nat} (h : Lib.KeptInv kp d d.size i dk) : dk.toList.take i = Lib.keptUpTo kp d d.size := by
  apply List.ext_getElem?
  intro j
  rw [List.getElem?_take]
  by_cases hj : j < i
  · have hd : j < dk.size := by have := h.lt; have := h.size; omega
    rw [if_pos hj, h.low j hj, Array.getElem?_toList, Array.getElem?_eq_getElem hd, getElem!_pos dk j hd]
  · rw [if_neg hj, List.getElem?_eq_none (by rw [h.len]; omega)]
set_option maxRecDepth 100000 in
set_option maxHeartbeats 1000000 in
theorem delRng_any [Inhabited α] (k : Nat) (hk0 : 0 < k) (aE : ∀ w, (isAgg 26).run Tryd.prog w = .ok true w) (zE : ∀ w, (Go.sizeOf 26).run Tryd.prog w = .ok k w) (enc : α → List Value) (hk : ∀ x, (enc x).length = k) (h1 : ∀ x, ∀ v ∈ enc x, v.oneCell' = true) (hi : (Tryd.prog.info? 26).map (·.size) = some k)
    (zr : α) (vE : ∀ w, (zeroValue 26).run Tryd.prog w = .ok (.agg (enc zr).toArray) w)
    (p : α → Bool) (f : Nat) (lb : Array Value) (eg : ∀ args w, (callFunc f args).run Tryd.prog w = .ok (.enter f args) w) (B : Nat) (v : Value) (n : Nat) (l : List α) (w : World) (hown : Own w B 26 k v n (l.flatMap enc)) (hn : n = l.length) (hnb : n < 9223372036854775807)
    (hp : ∀ W x, w.grownBy W v.ownBlock → Calls Tryd.prog f (#[.agg (enc x).toArray] ++ lb) W fun e w' => e = .returned (.bool (p x)) ∧ Below W.heap.size W w') :
    Calls Tryd.prog 70 #[v, .func (.func f) #[] lb] w fun e w' => ∃ v' m, e = .returned v' ∧ m = (l.filter fun x => !p x).length ∧ Own w' B 26 k v' m ((l.filter fun x => !p x).flatMap enc) ∧ w.grownBy w' v.ownBlock := by
  have hlk : ∀ x ∈ l, (enc x).length = k := fun x _ => hk x
  obtain ⟨A, c, hv, hnc, hE⟩ := hown.rows hn hlk
  subst hv
  have hidx := idxRng_any k aE zE enc hk hi p f lb eg A c l w (fun W => Below w.heap.size w W) (fun W hb => hE.up hb)
    (fun W x hb => (hp W x (grown_below (World.grownBy.refl w _) hb)).mono fun e w' ⟨h1, h2⟩ => ⟨h1, hb.trans (h2.mono hb.size)⟩) (Below.refl _ _) (by omega)
  rw [← hn] at hidx
  have HID := Lib.hid hidx
  have HP := Lib.hid hp
  have HO := Lib.hid hown
  have HN := Lib.hid hn
  clear hidx hE hp hown hn
  rcases found_idxP p l with ⟨hr, hall⟩ | ⟨k0, hk0l, hr, hpk, hbef⟩
  · have HA := Lib.hid hall
    rw [hr] at HID
    clear hall hr
    go_enter Tryd.func70, Tryd.ntmps70
    go_wp2_with (go_at_call 89; refine Calls.mono HID.out ?_; rintro e w1 ⟨rfl, hb1⟩; have HB := Lib.hid hb1; clear hb1)
    go_ret
    have hfil : (l.filter fun x => !p x) = l := List.filter_eq_self.2 (fun x hx => by rw [HA.out x hx]; rfl)
    refine ⟨_, n, rfl, by rw [hfil]; exact HN.out, ?_, grown_below (World.grownBy.refl w _) HB.out⟩
    rw [hfil]
    exact HO.out.below HB.out
  · obtain ⟨g, rfl⟩ : ∃ g, A = some ⟨g, 0, none⟩ := by
      rcases HO.out.2 with ⟨h, h0⟩ | ⟨g, cap, cur, fr, h, _⟩
      · have := HN.out; omega
      · injection h with e1
        exact ⟨g, e1⟩
    obtain ⟨kp, hkp⟩ : ∃ kp : Nat → Bool, kp = fun j => !p l.toArray[j]! := ⟨_, rfl⟩
    have hget : ∀ j (h : j < l.length), l.toArray[j]! = l[j] := fun j h => by simp [h]
    have hfil : Lib.keptUpTo kp l.toArray l.toArray.size = (l.filter fun x => !p x) := by rw [hkp]; exact Lib.keptUpTo_filter (fun x => !p x) l.toArray
    have hst : Lib.KeptInv kp l.toArray (k0 + 1) k0 l.toArray := Lib.KeptInv.start (fun j hj => by rw [hkp]; show (!p l.toArray[j]!) = true; rw [hget j (by omega), hbef j hj]; rfl) (by rw [hkp]; show (!p l.toArray[k0]!) = false; rw [hget k0 hk0l, hpk]; rfl)
    have HKP := Lib.hid hkp
    have HFI := Lib.hid hfil
    have HST := Lib.hid hst
    rw [hr] at HID
    have HGT := Lib.hid hget
    have hk0n : k0 < n := by have := HN.out; omega
    have hne1 : ((k0 : Int) == -1) = false := beq_eq_false_iff_ne.2 (by omega)
    clear hkp hfil hst hpk hbef hget hk0l hr
    go_enter Tryd.func70, Tryd.ntmps70
    go_wp2_with (go_at_call 89; refine Calls.mono HID.out ?_; rintro e w1 ⟨rfl, hb1⟩; have HB := Lib.hid hb1; clear hb1)
    clear HID
    go_loopg [5, 6] n (fun gg s5 s6 wr => ∃ (i j : Nat) (dk : Array α), s5 = .int .i64 i ∧ s6 = .int .i64 j ∧ j ≤ n ∧ i < j ∧ n - j ≤ gg ∧ Hid (Own wr B 26 k (.slice (some ⟨g, 0, none⟩) n c) n (dk.toList.flatMap enc)) ∧ Hid (w.grownBy wr (some g)) ∧ Hid (Lib.KeptInv kp l.toArray j i dk))
    case atStart => exact ⟨k0, k0 + 1, l.toArray, rfl, by go_num, by omega, by omega, by omega, HO.out.below HB.out, grown_below (World.grownBy.refl w _) HB.out, HST.out⟩
    case round =>
      clear HB HST hk0n hne1
      obtain ⟨i, j, dk, rfl, rfl, hjn, hij, hgg, HO1, HG1, HI⟩ := hrel
      by_cases hlt : j < n
      · have hltz : (j : Int) < (n : Int) := by omega
        have j0 : (0 : Int) ≤ (j : Int) := by omega
        have i0 : (0 : Int) ≤ (i : Int) := by omega
        have iz : (i : Int) < (n : Int) := by omega
        have hdl : n = dk.toList.length := by have h2 := HI.out.size; have h3 := HN.out; rw [Array.length_toList, h2, List.size_toArray, h3]
        obtain ⟨x, hx⟩ : ∃ x, x = l.toArray[j]! := ⟨_, rfl⟩
        have hxd : dk.toList[j]'(by omega) = x := by
          have h2 := HI.out.high j (by omega)
          have hjd : j < dk.size := by rw [Array.length_toList] at hdl; omega
          rw [hx, ← h2, getElem!_pos dk j hjd]
          rfl
        have hr := own_range hk HO1.out hdl j (by omega)
        rw [hxd] at hr
        have hlx : (Tryd.prog.info? 26).map (·.size) = some (enc x).length := by rw [hk]; exact hi
        have HR := Lib.hid hr
        have HL := Lib.hid hlx
        have HX := Lib.hid hx
        have HD := Lib.hid hdl
        have HLZ := Lib.hid (show (enc x).length = (enc zr).length by rw [hk, hk])
        clear hr hlx hx hxd hdl
        have HIN := Lib.hid (show i < n by omega)
        cases hq : p x with
        | true =>
          have HPx := Lib.hid (show ∀ W, w.grownBy W (some g) → Calls Tryd.prog f (#[.agg (enc x).toArray] ++ lb) W fun e w' => e = .returned (.bool true) ∧ Below W.heap.size W w' from fun W hW => by have := HP.out W x hW; rwa [hq] at this)
          have HQ := Lib.hid hq
          clear hq
          go_wp2_with (first
            | (with_reducible refine wpList_load_mid rfl 26 (.tmp 24) rfl g (j * k) ?_ _ _ HR.out Tryd.underlying26 rfl HL.out ?_; (focus (go_simp)))
            | (with_reducible refine wpList_allocZ 26 (enc zr) rfl rfl vE ?_; intro g2 w2 hg2 hat2 hb2; have HAT2 := Lib.hid hat2; have HB2 := Lib.hid hb2; have HG2 := Lib.hid hg2; clear hat2 hb2 hg2)
            | (with_reducible refine wpList_storeAll rfl 26 (.tmp 7) (.tmp 25) rfl g2 rfl _ _ (enc x) HAT2.out rfl HLZ.out HL.out (h1 _) ?_; intro w3 hat3 hg3 hs3; have HAT3 := Lib.hid hat3; have HG3 := Lib.hid hg3; clear hat3 hg3 hs3)
            | (go_at_fn f; have hb3 := Below.ofGrown HB2.out HG3.out HB2.out.size (Nat.le_of_eq HG2.out.symm); have HB3 := Lib.hid hb3; clear hb3; refine Calls.mono (HPx.out w3 (grown_below HG1.out HB3.out)) ?_; rintro e w4 ⟨rfl, hb4⟩; have HB4 := Lib.hid (HB3.out.trans (hb4.mono HB3.out.size)); have HAT4 := Lib.hid (HAT3.out.below hb4 HAT3.out.lt); have HO4 := Lib.hid (HO1.out.below HB4.out); clear hb4)
            | (with_reducible refine wpList_loadAll rfl 26 (.tmp 7) rfl g2 rfl _ _ _ HAT3.out Tryd.underlying26 rfl HL.out ?_))
          go_roundg (n - (j + 1))
          case measure => omega
          case rel => exact ⟨i, j + 1, dk, rfl, by go_num, by omega, by omega, Nat.le_refl _, HO4.out, grown_below HG1.out HB4.out, HI.out.skip (by rw [HKP.out]; show (!p l.toArray[j]!) = false; rw [← HX.out, HQ.out]; rfl)⟩
        | false =>
          have HPx := Lib.hid (show ∀ W, w.grownBy W (some g) → Calls Tryd.prog f (#[.agg (enc x).toArray] ++ lb) W fun e w' => e = .returned (.bool false) ∧ Below W.heap.size W w' from fun W hW => by have := HP.out W x hW; rwa [hq] at this)
          have HQ := Lib.hid hq
          clear hq
          go_wp2_with (first
            | (with_reducible refine wpList_load_mid rfl 26 (.tmp 24) rfl g (j * k) ?_ _ _ HR.out Tryd.underlying26 rfl HL.out ?_; (focus (go_simp)))
            | (with_reducible refine wpList_allocZ 26 (enc zr) rfl rfl vE ?_; intro g2 w2 hg2 hat2 hb2; have HAT2 := Lib.hid hat2; have HB2 := Lib.hid hb2; have HG2 := Lib.hid hg2; clear hat2 hb2 hg2)
            | (with_reducible refine wpList_storeAll rfl 26 (.tmp 7) (.tmp 25) rfl g2 rfl _ _ (enc x) HAT2.out rfl HLZ.out HL.out (h1 _) ?_; intro w3 hat3 hg3 hs3; have HAT3 := Lib.hid hat3; have HG3 := Lib.hid hg3; clear hat3 hg3 hs3)
            | (go_at_fn f; have hb3 := Below.ofGrown HB2.out HG3.out HB2.out.size (Nat.le_of_eq HG2.out.symm); have HB3 := Lib.hid hb3; clear hb3; refine Calls.mono (HPx.out w3 (grown_below HG1.out HB3.out)) ?_; rintro e w4 ⟨rfl, hb4⟩; have HB4 := Lib.hid (HB3.out.trans (hb4.mono HB3.out.size)); have HAT4 := Lib.hid (HAT3.out.below hb4 HAT3.out.lt); have HO4 := Lib.hid (HO1.out.below HB4.out); clear hb4)
            | (with_reducible refine wpList_loadAll rfl 26 (.tmp 7) rfl g2 rfl _ _ _ HAT3.out Tryd.underlying26 rfl HL.out ?_)
            | (with_reducible refine wpList_loadAll rfl 26 (.tmp 7) rfl g2 rfl _ _ _ HAT4.out Tryd.underlying26 rfl HL.out ?_)
            | (with_reducible refine wpList_put (enc := enc) (k := k) rfl 26 (.tmp 33) (.tmp 32) rfl g i ?_ x rfl dk.toList hk (h1 _) hi HO4.out HD.out HIN.out ?_; (focus (go_simp)); intro w5 hO5 hg5 hs5; have HO5 := Lib.hid hO5; have HG5 := Lib.hid (grown_trans (grown_below HG1.out HB4.out) hg5); clear hO5 hg5 hs5))
          go_roundg (n - (j + 1))
          case measure => omega
          case rel =>
            have hkp2 := HI.out.keep (by have := HN.out; simp; omega) (show kp j = true by rw [HKP.out]; show (!p l.toArray[j]!) = true; rw [← HX.out, HQ.out]; rfl)
            rw [← HX.out] at hkp2
            refine ⟨i + 1, j + 1, dk.setIfInBounds i x, by go_num, by go_num, by omega, by omega, Nat.le_refl _, ?_, HG5.out, hkp2⟩
            show Own _ _ _ _ _ _ _
            rw [Array.toList_setIfInBounds]
            exact HO5.out
      · have hjn2 : n = j := by omega
        have hin : (i : Int) < (n : Int) := by omega
        have i0 : (0 : Int) ≤ (i : Int) := by omega
        have hdl : n = dk.toList.length := by have h2 := HI.out.size; have h3 := HN.out; rw [Array.length_toList, h2, List.size_toArray, h3]
        have hic : (i : Int) ≤ (c : Int) := by omega
        obtain ⟨w6, hw6⟩ : ∃ w6, w6 = wr.setCells g (i * k) (List.replicate (n - i) (enc zr)).flatten := ⟨_, rfl⟩
        have hcl : ∀ ty, (Builtin.clear_ #[45] ty #[.slice (some ⟨g, i * k, none⟩) (n - i) (c - i)]).run Tryd.prog wr = .ok (.tuple #[]) w6 := fun ty => by
          rw [hw6]
          exact run_clear_own hk hk0 HO1.out hdl 45 26 ty zr (h1 _) Tryd.underlying45 vE i (c - i) (by omega)
        have HW6 := Lib.hid hw6
        have HD := Lib.hid hdl
        have HJ := Lib.hid hjn2
        clear hw6 hdl hjn2
        go_wp2_with fail
        go_ret
        have hI := HI.out
        have hjs : j = l.toArray.size := by have h2 := HJ.out; have h3 := HN.out; rw [List.size_toArray]; omega
        rw [hjs] at hI
        have hkt := kept_takeRng hI
        have hlen := hI.len
        rw [HFI.out] at hkt hlen
        obtain ⟨l', hl1, hl2, hl3, hl4⟩ := own_clear hk zr (n - i) i dk.toList wr HO1.out HD.out (by omega)
        rw [← HW6.out] at hl3 hl4
        have hcut := hl3.cut (m := i) (by omega)
        rw [enc_take (fun x _ => hk x), hl2, hkt] at hcut
        exact ⟨_, i, rfl, hlen.symm, hcut, grown_trans HG1.out hl4⟩
set_option maxRecDepth 100000 in
set_option maxHeartbeats 400000 in
theorem cloneRng_any (k : Nat) (hk0 : 0 < k) (enc : α → List Value) (hk : ∀ x, (enc x).length = k) (h1 : ∀ x, ∀ v ∈ enc x, v.oneCell' = true) (bytes : Nat) (zr : α) (hinf : (Tryd.prog.info? 26).map (fun i => (i.zero, i.size, i.bytes)) = some (some (.agg (enc zr).toArray), k, bytes))
    (A : Option Addr) (c : Nat) (l : List α) (w : World) (hE : EncIn enc k w A l) (hn : l.length < 1099511627776) (hby : l.length * bytes ≤ 140737488355328) :
    Calls Tryd.prog 71 #[.slice A l.length c] w fun e w' => ∃ v', e = .returned v' ∧ Own w' w.heap.size 26 k v' l.length (l.flatMap enc) ∧ Below w.heap.size w w' := by
  have q22 : ∀ (w : World) (a : Option Addr) (n c n' c' : Nat), (binOp .eql 45 (.slice a n c) (.slice none n' c')).run Tryd.prog w = .ok (.bool a.isNone) w := fun w a n c n' c' => Lib.run_eql_slice_nil w _ _ a n c n' c' Tryd.underlying45
  have u22 : ∀ w, Sem.run Tryd.prog (underlying 45) w = .ok (TypeDesc.slice 26) w := run_underlying Tryd.underlying45
  cases A with
  | none =>
    have hl : l = [] := by
      cases l with
      | nil => rfl
      | cons x r => obtain ⟨g, off, h, _⟩ := hE (by simp); cases h
    subst hl
    clear hE hn hby
    go_enter Tryd.func71, Tryd.ntmps71
    go_wp2_with fail
    go_ret
    exact ⟨_, rfl, Own.nil _ _ _ _, Below.refl _ _⟩
  | some ad =>
    have hw1 : Own (w.alloc (.cells #[] 26)) w.heap.size 26 k (.slice (some ⟨w.heap.size, 0, none⟩) 0 0) 0 (([] : List α).flatMap enc) := by
      have := Own.made (base := w.heap.size) w 26 k [] 0 0 (Nat.le_refl _) (Nat.le_refl _) (by unfold maxLen; omega) (by simp)
      simpa using this
    have HW1 := Lib.hid hw1
    have HE := Lib.hid (hE.alloc (.cells #[] 26))
    have HN := Lib.hid (And.intro hn hby)
    have HI := Lib.hid hinf
    have HZ := Lib.hid (show (Value.agg (enc zr).toArray).cells.size = k by rw [← hk zr]; rfl)
    obtain ⟨n, hln⟩ : ∃ n, n = l.length := ⟨_, rfl⟩
    rw [← hln]
    have HLN := Lib.hid hln
    clear hw1 hE hn hby hinf hln
    go_enter Tryd.func71, Tryd.ntmps71
    go_wp2_with (at_builtin; with_reducible refine wpList_append_enc (enc := enc) (k := k) rfl rfl (.tmp 5) (.tmp 6) 45 26 bytes rfl _ Tryd.underlying45 HI.out HZ.out hk0 w.heap.size (.slice (some ⟨w.heap.size, 0, none⟩) 0 0) 0 [] l rfl HW1.out (fun x _ => hk x) (fun x _ => h1 x) (some ad) n c rfl HLN.out HE.out (by have := HN.out.1; unfold maxLen; omega) (by rw [Nat.zero_add]; exact HN.out.2) (by simp) ?_; intro v' w2 hO hg _; have HO := Lib.hid hO; have HG := Lib.hid hg; clear hO hg)
    go_ret
    refine ⟨v', rfl, ?_, ?_⟩
    · have := HO.out
      rw [Nat.zero_add, List.nil_append] at this
      rw [HLN.out]; exact this
    · exact own_below2 HW1.out ((Below.refl _ _).alloc (Nat.le_refl _) _) (Nat.le_refl _) (by simp) HG.out
end Go.Proofs.YtefbllhpibfojaaDoor

namespace Go.Proofs.YtefbllhpibfojaaDoor
open Go.Proofs Go.Shelf Go.RowKit Go.Lib Go.Sort

section
variable {α : Type}
/-- of neighbours that are alike, the first -/
def compF (eq : α → α → Bool) : α → List α → List α
  | _, [] => []
  | p, y :: r => bif eq y p then compF eq y r else y :: compF eq y r
def compL (eq : α → α → Bool) : List α → List α
  | [] => []
  | x :: r => x :: compF eq x r
theorem compF_snoc (eq : α → α → Bool) : ∀ (l : List α) (p z : α), compF eq p (l ++ [z]) = compF eq p l ++ (bif eq z ((p :: l).getLast (by simp)) then [] else [z])
  | [], p, z => by
    simp only [List.nil_append, compF, List.getLast_singleton]
    try rfl
  | y :: r, p, z => by
    have ih := compF_snoc eq r y z
    simp only [List.cons_append, compF]
    rw [ih]
    have e : (p :: y :: r).getLast (by simp) = (y :: r).getLast (by simp) := rfl
    rw [e]
    cases eq y p <;> rfl
theorem compL_snoc (eq : α → α → Bool) (l : List α) (hl : l ≠ []) (z : α) : compL eq (l ++ [z]) = compL eq l ++ (bif eq z (l.getLast hl) then [] else [z]) := by
  cases l with
  | nil => exact absurd rfl hl
  | cons x r =>
    simp only [List.cons_append, compL]
    rw [compF_snoc]
def kpC [Inhabited α] (eq : α → α → Bool) (d : Array α) (j : Nat) : Bool := j == 0 || !eq d[j]! d[j - 1]!
theorem kpC_zero [Inhabited α] {kp : Nat → Bool} {eq : α → α → Bool} {d : Array α} (h : kp = kpC eq d) {j : Nat} (hj : j = 0) : kp j = true := by
  subst h hj; rfl
theorem kept_compL [Inhabited α] (eq : α → α → Bool) (d : Array α) : ∀ m, m ≤ d.size → Lib.keptUpTo (kpC eq d) d m = compL eq (d.toList.take m)
  | 0, _ => by simp [Lib.keptUpTo, compL]
  | m + 1, hm => by
    have hml : m < d.toList.length := by rw [Array.length_toList]; omega
    rw [Lib.keptUpTo_succ, kept_compL eq d m (by omega), List.take_succ_eq_append_getElem hml]
    have hd : d[m]! = d.toList[m] := by
      have hmd : m < d.size := by omega
      simp [hmd]
    by_cases h0 : m = 0
    · subst h0
      simp [kpC, compL, compF, hd]
    · have hne : d.toList.take m ≠ [] := by
        intro e
        have := congrArg List.length e
        rw [List.length_take, List.length_nil] at this
        omega
      rw [compL_snoc eq _ hne]
      have hlast : (d.toList.take m).getLast hne = d[m - 1]! := by
        rw [List.getLast_eq_getElem]
        have hm1 : m - 1 < d.size := by omega
        simp only [List.getElem_take, List.length_take, Array.length_toList, Nat.min_eq_left (show m ≤ d.size by omega)]
        simp [hm1]
      rw [hlast, ← hd]
      have hk : kpC eq d m = !eq d[m]! d[m - 1]! := by
        unfold kpC
        have : (m == 0) = false := by simp [h0]
        rw [this]; rfl
      rw [hk]
      cases eq d[m]! d[m - 1]! <;> rfl
end
section
variable {P : Program} {ops : Array Oper} {C : World → Prop} {Q : Act → Prop} {o : Oper} {rest : List Oper} {a : Act}
/-- a call of a function value that stands in a variable -/
theorem wpQuiet_fn (f : FuncId) (args : List Value) (v : Value) (hw : Region.wanted o (yielded ops a.tmps) = true) (x : Operand) (xs : List Operand) (ts : Array TypeId) (ho : o.op = .call { callee := .value x, args := xs.toArray, argTypes := ts })
    (cb : Array Value) (hx : a.eval x = .func (.func f) #[] cb) (ha : xs.map a.eval = args) (eg : ∀ args w, (callFunc f args).run P w = .ok (.enter f args) w)
    (hc : ∀ w, C w → Calls P f (args.toArray ++ cb) w fun e w' => e = .returned v ∧ C w') (h : wpQuiet P ops C Q rest (a.put o.dst v)) : wpQuiet P ops C Q (o :: rest) a := by
  unfold wpQuiet
  rw [if_pos hw]
  refine ⟨v, fun w hC => ?_, h⟩
  unfold Oper.quietAt
  have hv : (execOp a.eval o).run P w = .ok (.enter f (args.toArray ++ cb)) w := by
    have ha' : Array.map a.eval xs.toArray = args.toArray := by rw [List.map_toArray, ha]
    unfold execOp
    simp only [ho, resolve, hx, ha']
    simp [Deferred.ofValue, invoke, eg]
  rw [hv]
  exact ⟨rfl, hc w hC⟩
end
/-- only blocks laid since -/
def Behind (w0 w : World) : Prop := Below w0.heap.size w0 w

set_option maxRecDepth 100000 in
set_option maxHeartbeats 2000000 in
theorem cmpct_any {α : Type} [Inhabited α] (k : Nat) (hk0 : 0 < k) (_aE : ∀ w, (isAgg 38).run Tryd.prog w = .ok true w) (zE : ∀ w, (Go.sizeOf 38).run Tryd.prog w = .ok k w) (enc : α → List Value) (hk : ∀ x, (enc x).length = k) (h1 : ∀ x, ∀ v ∈ enc x, v.oneCell' = true) (hi : (Tryd.prog.info? 38).map (·.size) = some k)
    (zr : α) (vE : ∀ w, (zeroValue 38).run Tryd.prog w = .ok (.agg (enc zr).toArray) w)
    (eq : α → α → Bool) (f : Nat) (lb : Array Value) (eg : ∀ args w, (callFunc f args).run Tryd.prog w = .ok (.enter f args) w) (B : Nat) (v : Value) (n : Nat) (l : List α) (w : World) (hown : Own w B 38 k v n (l.flatMap enc)) (hn : n = l.length) (hnb : n < 9223372036854775807)
    (hp : ∀ W x y, Calls Tryd.prog f (#[.agg (enc x).toArray, .agg (enc y).toArray] ++ lb) W fun e w' => e = .returned (.bool (eq x y)) ∧ Below W.heap.size W w') :
    Calls Tryd.prog 55 #[v, .func (.func f) #[] lb] w fun e w' => ∃ v', e = .returned v' ∧ Own w' B 38 k v' (compL eq l).length ((compL eq l).flatMap enc) ∧ w.grownBy w' v.ownBlock := by
  have hlk : ∀ x ∈ l, (enc x).length = k := fun x _ => hk x
  have HU := Lib.hid Tryd.underlying38
  have hcall : ∀ (x y : α) (b : Bool), eq x y = b → ∀ W W', Behind W W' → Calls Tryd.prog f (#[.agg (enc x).toArray, .agg (enc y).toArray] ++ lb) W' fun e w' => e = .returned (.bool b) ∧ Behind W w' := fun x y b hb W W' hW => (hp W' x y).mono fun e w' ⟨h1, h2⟩ => ⟨by rw [h1, hb], Below.trans hW (h2.mono (Below.size hW))⟩
  have HP := Lib.hid hcall
  have HO := Lib.hid hown
  have HN := Lib.hid hn
  by_cases h2 : n < 2
  · have hcl : compL eq l = l := by
      match l, hn with
      | [], _ => rfl
      | [x], _ => rfl
      | x :: y :: r, hn => simp at hn; omega
    have HCL := Lib.hid hcl
    obtain ⟨A, c, hv, hnc, hE⟩ := hown.rows hn hlk
    subst hv
    clear hcl hp hcall hown hE hn hlk
    have h2z : (n : Int) < 2 := by omega
    go_enter Tryd.func55, Tryd.ntmps55
    go_wp2_with fail
    go_ret
    refine ⟨_, rfl, ?_, World.grownBy.refl _ _⟩
    rw [HCL.out, ← HN.out]
    exact HO.out
  · obtain ⟨g, c, rfl, hBg, hgw, hnc, _⟩ := hown.form (by omega)
    obtain ⟨kp, hkp⟩ : ∃ kp : Nat → Bool, kp = kpC eq l.toArray := ⟨_, rfl⟩
    have hfil : Lib.keptUpTo kp l.toArray l.toArray.size = compL eq l := by
      rw [hkp, kept_compL eq l.toArray _ (Nat.le_refl _)]
      simp
    have HKP := Lib.hid hkp
    have HFI := Lib.hid hfil
    have hlx : ∀ x, (Tryd.prog.info? 38).map (·.size) = some (enc x).length := fun x => by rw [hk]; exact hi
    have HLX := Lib.hid hlx
    have hn2 : 2 ≤ n := by omega
    have h2z : ¬ (n : Int) < 2 := by omega
    clear hkp hfil hp hcall hown hn hlk hlx h2 hBg hgw
    go_enter Tryd.func55, Tryd.ntmps55
    go_wp2_with fail
    go_loopg [5] n (fun gg s5 wr => ∃ k1 : Nat, s5 = .int .i64 k1 ∧ 1 ≤ k1 ∧ k1 ≤ n ∧ n - k1 ≤ gg ∧ Hid (Below w.heap.size w wr) ∧ Hid (∀ j, j < k1 → kp j = true))
    case atStart => exact ⟨1, rfl, Nat.le_refl _, by omega, by omega, Below.refl _ _, fun j hj => kpC_zero HKP.out (by omega)⟩
    case round =>
      obtain ⟨k1, rfl, hk1, hk1n, hgg, HBW, HALL⟩ := hrel
      by_cases hlt : k1 < n
      · have hltz : (k1 : Int) < (n : Int) := by omega
        have i0 : (0 : Int) ≤ (k1 : Int) := by omega
        have i1 : (0 : Int) ≤ (k1 : Int) - 1 := by omega
        have i2 : (k1 : Int) - 1 < (n : Int) := by omega
        have i3 : IntKind.i64.wrap ((k1 : Int) - 1) = (k1 : Int) - 1 := by rw [IntKind.wrap_i64]; omega
        have i4 : ((k1 : Int) - 1).toNat = k1 - 1 := by omega
        obtain ⟨x, hx⟩ : ∃ x, x = l.toArray[k1]! := ⟨_, rfl⟩
        obtain ⟨y, hy⟩ : ∃ x, x = l.toArray[k1 - 1]! := ⟨_, rfl⟩
        have gx : l[k1]'(by have := HN.out; omega) = x := by have hh : k1 < l.length := (by have := HN.out; omega); rw [hx]; simp [hh]
        have gy : l[k1 - 1]'(by have := HN.out; omega) = y := by have hh : k1 - 1 < l.length := (by have := HN.out; omega); rw [hy]; simp [hh]
        have hOr := HO.out.below HBW.out
        have hrx := own_range hk hOr HN.out k1 (by have := HN.out; omega)
        have hry := own_range hk hOr HN.out (k1 - 1) (by have := HN.out; omega)
        rw [gx] at hrx
        rw [gy] at hry
        have hglt : g < wr.heap.size := (hOr.lt g rfl).2
        have HRk := Lib.hid (show ∀ W, Behind wr W → W.rangeAt g (k1 * k) (enc x) from fun W hW => range_below' hrx hW hglt)
        have HRp := Lib.hid (show ∀ W, Behind wr W → W.rangeAt g ((k1 - 1) * k) (enc y) from fun W hW => range_below' hry hW hglt)
        have HLk := Lib.hid (HLX.out x)
        have HLp := Lib.hid (HLX.out y)
        have HX := Lib.hid (And.intro hx hy)
        clear hx hy gx gy hOr hrx hry hglt
        cases hq : eq x y with
        | false =>
          have HQ := Lib.hid hq
          have HCa := Lib.hid (HP.out x y false hq wr)
          clear hq
          go_wp2_with fail
          refine wp_region_class (Behind wr) (by kernel_rfl) (by kernel_rfl) (Below.refl _ _).drew ?_
          iterate 11 (first
            | (with_reducible refine wpQuiet_loadAll (by with_unfolding_all rfl) 38 _ (by with_unfolding_all rfl) g (k1 * k) (by with_unfolding_all rfl) _ _ (fun w h => HRk.out w h) HU.out (by with_unfolding_all rfl) HLk.out ?_; simp only [Act.put, List.setIfInBounds_toArray, List.set_cons_zero, List.set_cons_succ])
            | (with_reducible refine wpQuiet_loadAll (by with_unfolding_all rfl) 38 _ (by with_unfolding_all rfl) g ((k1 - 1) * k) (by with_unfolding_all rfl) _ _ (fun w h => HRp.out w h) HU.out (by with_unfolding_all rfl) HLp.out ?_; simp only [Act.put, List.setIfInBounds_toArray, List.set_cons_zero, List.set_cons_succ])
            | (with_reducible refine wpQuiet_fn f [.agg (enc x).toArray, .agg (enc y).toArray] (.bool false) (by with_unfolding_all rfl) (.tmp 18) _ _ (by with_unfolding_all rfl) lb (by with_unfolding_all rfl) (by with_unfolding_all rfl) eg (fun w h => HCa.out w h) ?_; simp only [Act.put, List.setIfInBounds_toArray, List.set_cons_zero, List.set_cons_succ])
            | (go_big_quiet_step (exact fun _ => rfl)))
          with_reducible refine wpQuiet_nil ?_
          intro w2 h2
          have HB2 := Lib.hid (show Below wr.heap.size wr w2 from h2)
          clear h2
          go_wp2_with fail
          go_roundg (n - (k1 + 1))
          case measure => omega
          case rel =>
            refine ⟨k1 + 1, by go_num, by omega, by omega, by omega, HBW.out.trans (HB2.out.mono HBW.out.size), fun j hj => ?_⟩
            by_cases hjk : j = k1
            · rw [HKP.out, hjk]
              unfold kpC
              rw [← HX.out.1, ← HX.out.2, HQ.out]
              simp
            · exact HALL.out j (by omega)
        | true =>
          have HQ := Lib.hid hq
          have HCa := Lib.hid (HP.out x y true hq wr)
          clear hq
          go_wp2_with fail
          refine wp_region_class (Behind wr) (by kernel_rfl) (by kernel_rfl) (Below.refl _ _).drew ?_
          iterate 11 (first
            | (with_reducible refine wpQuiet_loadAll (by with_unfolding_all rfl) 38 _ (by with_unfolding_all rfl) g (k1 * k) (by with_unfolding_all rfl) _ _ (fun w h => HRk.out w h) HU.out (by with_unfolding_all rfl) HLk.out ?_; simp only [Act.put, List.setIfInBounds_toArray, List.set_cons_zero, List.set_cons_succ])
            | (with_reducible refine wpQuiet_loadAll (by with_unfolding_all rfl) 38 _ (by with_unfolding_all rfl) g ((k1 - 1) * k) (by with_unfolding_all rfl) _ _ (fun w h => HRp.out w h) HU.out (by with_unfolding_all rfl) HLp.out ?_; simp only [Act.put, List.setIfInBounds_toArray, List.set_cons_zero, List.set_cons_succ])
            | (with_reducible refine wpQuiet_fn f [.agg (enc x).toArray, .agg (enc y).toArray] (.bool true) (by with_unfolding_all rfl) (.tmp 18) _ _ (by with_unfolding_all rfl) lb (by with_unfolding_all rfl) (by with_unfolding_all rfl) eg (fun w h => HCa.out w h) ?_; simp only [Act.put, List.setIfInBounds_toArray, List.set_cons_zero, List.set_cons_succ])
            | (go_big_quiet_step (exact fun _ => rfl)))
          with_reducible refine wpQuiet_nil ?_
          intro w2 h2
          have HB2 := Lib.hid (show Below wr.heap.size wr w2 from h2)
          clear h2
          have hst : Lib.KeptInv kp l.toArray (k1 + 1) k1 l.toArray := Lib.KeptInv.start HALL.out (by
            rw [HKP.out]
            unfold kpC
            rw [← HX.out.1, ← HX.out.2, HQ.out]
            simp; omega)
          have HST := Lib.hid hst
          have HBW2 := Lib.hid (HBW.out.trans (HB2.out.mono HBW.out.size))
          obtain ⟨k0, hk0'⟩ : ∃ k0, k0 = k1 := ⟨_, rfl⟩
          subst hk0'
          have hlt0 : k0 < n := hlt
          have i5 : (k0 : Int) ≤ (c : Int) := by omega
          have i6 : (k0 : Int) ≤ (n : Int) := by omega
          clear hst HX HALL HBW HB2 HRk HRp HLk HLp HQ HCa hltz hlt i0 i1 i2 i3 i4
          go_wp2_with fail
          go_loopg [5, 7] n (fun gg s5 s7 wr => ∃ (i k2 : Nat) (dk : Array α), s5 = .int .i64 i ∧ s7 = .int .i64 k2 ∧ 1 ≤ k2 ∧ k0 + k2 ≤ n ∧ i < k0 + k2 ∧ n - (k0 + k2) ≤ gg ∧ Hid (Own wr B 38 k (.slice (some ⟨g, 0, none⟩) n c) n (dk.toList.flatMap enc)) ∧ Hid (w.grownBy wr (some g)) ∧ Hid (Lib.KeptInv kp l.toArray (k0 + k2) i dk))
          case atStart => exact ⟨k0, 1, l.toArray, rfl, rfl, Nat.le_refl _, by omega, by omega, by omega, HO.out.below HBW2.out, grown_below (World.grownBy.refl w _) HBW2.out, HST.out⟩
          case round =>
            clear HBW2 HST HO
            obtain ⟨i, k2, dk, rfl, rfl, hk2, hkn, hik, hgg2, HO1, HG1, HI⟩ := hrel
            by_cases hlt : k2 < n - k0
            · have hltz : (k2 : Int) < ((n - k0 : Nat) : Int) := by omega
              have i0 : (0 : Int) ≤ (k2 : Int) := by omega
              have i1 : (0 : Int) ≤ (k2 : Int) - 1 := by omega
              have i2 : (k2 : Int) - 1 < ((n - k0 : Nat) : Int) := by omega
              have i3 : IntKind.i64.wrap ((k2 : Int) - 1) = (k2 : Int) - 1 := by rw [IntKind.wrap_i64]; omega
              have i4 : ((k2 : Int) - 1).toNat = k2 - 1 := by omega
              have ia : (0 : Int) ≤ (i : Int) := by omega
              have ib : (i : Int) < (n : Int) := by omega
              have hdl : n = dk.toList.length := by have h2 := HI.out.size; have h3 := HN.out; rw [Array.length_toList, h2, List.size_toArray, h3]
              have hds : dk.size = n := by rw [hdl, Array.length_toList]
              obtain ⟨x, hx⟩ : ∃ x, x = l.toArray[k0 + k2]! := ⟨_, rfl⟩
              obtain ⟨y, hy⟩ : ∃ x, x = l.toArray[k0 + k2 - 1]! := ⟨_, rfl⟩
              have gx : dk.toList[k0 + k2]'(by omega) = x := by
                have h2 := HI.out.high (k0 + k2) (by omega)
                have hjd : k0 + k2 < dk.size := by omega
                rw [hx, ← h2, getElem!_pos dk _ hjd]
                rfl
              have gy : dk.toList[k0 + k2 - 1]'(by omega) = y := by
                have h2 := HI.out.high (k0 + k2 - 1) (by omega)
                have hjd : k0 + k2 - 1 < dk.size := by omega
                rw [hy, ← h2, getElem!_pos dk _ hjd]
                rfl
              have hrx := own_range hk HO1.out hdl (k0 + k2) (by omega)
              have hry := own_range hk HO1.out hdl (k0 + k2 - 1) (by omega)
              have ex : (k0 + k2) * k = k0 * k + k2 * k := Nat.add_mul _ _ _
              have ey : (k0 + k2 - 1) * k = k0 * k + (k2 - 1) * k := by rw [← Nat.add_mul]; congr 1; omega
              rw [gx, ex] at hrx
              rw [gy, ey] at hry
              have hglt : g < wr.heap.size := (HO1.out.lt g rfl).2
              have HRk := Lib.hid (show ∀ W, Behind wr W → W.rangeAt g (k0 * k + k2 * k) (enc x) from fun W hW => range_below' hrx hW hglt)
              have HRp := Lib.hid (show ∀ W, Behind wr W → W.rangeAt g (k0 * k + (k2 - 1) * k) (enc y) from fun W hW => range_below' hry hW hglt)
              have HLk := Lib.hid (HLX.out x)
              have HLp := Lib.hid (HLX.out y)
              have HX := Lib.hid (And.intro hx hy)
              have HD := Lib.hid hdl
              have HIN := Lib.hid (show i < n by omega)
              clear hx hy gx gy hrx hry hglt hds ex ey hdl
              have hkpx : kp (k0 + k2) = !eq x y := by
                rw [HKP.out]
                unfold kpC
                rw [← HX.out.1, ← HX.out.2]
                have : (k0 + k2 == 0) = false := by simp; omega
                rw [this]; rfl
              have HKX := Lib.hid hkpx
              clear hkpx
              cases hq : eq x y with
              | true =>
                have HQ := Lib.hid hq
                have HCa := Lib.hid (HP.out x y true hq wr)
                clear hq
                go_wp2_with fail
                refine wp_region_class (Behind wr) (by kernel_rfl) (by kernel_rfl) (Below.refl _ _).drew ?_
                iterate 12 (first
                  | (with_reducible refine wpQuiet_loadAll (by with_unfolding_all rfl) 38 _ (by with_unfolding_all rfl) g (k0 * k + k2 * k) (by with_unfolding_all rfl) _ _ (fun w h => HRk.out w h) HU.out (by with_unfolding_all rfl) HLk.out ?_; simp only [Act.put, List.setIfInBounds_toArray, List.set_cons_zero, List.set_cons_succ])
                  | (with_reducible refine wpQuiet_loadAll (by with_unfolding_all rfl) 38 _ (by with_unfolding_all rfl) g (k0 * k + (k2 - 1) * k) (by with_unfolding_all rfl) _ _ (fun w h => HRp.out w h) HU.out (by with_unfolding_all rfl) HLp.out ?_; simp only [Act.put, List.setIfInBounds_toArray, List.set_cons_zero, List.set_cons_succ])
                  | (with_reducible refine wpQuiet_fn f [.agg (enc x).toArray, .agg (enc y).toArray] (.bool true) (by with_unfolding_all rfl) (.tmp 38) _ _ (by with_unfolding_all rfl) lb (by with_unfolding_all rfl) (by with_unfolding_all rfl) eg (fun w h => HCa.out w h) ?_; simp only [Act.put, List.setIfInBounds_toArray, List.set_cons_zero, List.set_cons_succ])
                  | (go_big_quiet_step (exact fun _ => rfl)))
                with_reducible refine wpQuiet_nil ?_
                intro w2 h2
                have HB2 := Lib.hid (show Below wr.heap.size wr w2 from h2)
                clear h2
                go_wp2_with fail
                go_roundg (n - (k0 + (k2 + 1)))
                case measure => omega
                case rel => exact ⟨i, k2 + 1, dk, rfl, by go_num, by omega, by omega, by omega, by omega, HO1.out.below HB2.out, grown_below HG1.out HB2.out, HI.out.skip (by rw [HKX.out, HQ.out]; rfl)⟩
              | false =>
                have HQ := Lib.hid hq
                have HCa := Lib.hid (HP.out x y false hq wr)
                clear hq
                go_wp2_with fail
                refine wp_region_class (Behind wr) (by kernel_rfl) (by kernel_rfl) (Below.refl _ _).drew ?_
                iterate 12 (first
                  | (with_reducible refine wpQuiet_loadAll (by with_unfolding_all rfl) 38 _ (by with_unfolding_all rfl) g (k0 * k + k2 * k) (by with_unfolding_all rfl) _ _ (fun w h => HRk.out w h) HU.out (by with_unfolding_all rfl) HLk.out ?_; simp only [Act.put, List.setIfInBounds_toArray, List.set_cons_zero, List.set_cons_succ])
                  | (with_reducible refine wpQuiet_loadAll (by with_unfolding_all rfl) 38 _ (by with_unfolding_all rfl) g (k0 * k + (k2 - 1) * k) (by with_unfolding_all rfl) _ _ (fun w h => HRp.out w h) HU.out (by with_unfolding_all rfl) HLp.out ?_; simp only [Act.put, List.setIfInBounds_toArray, List.set_cons_zero, List.set_cons_succ])
                  | (with_reducible refine wpQuiet_fn f [.agg (enc x).toArray, .agg (enc y).toArray] (.bool false) (by with_unfolding_all rfl) (.tmp 38) _ _ (by with_unfolding_all rfl) lb (by with_unfolding_all rfl) (by with_unfolding_all rfl) eg (fun w h => HCa.out w h) ?_; simp only [Act.put, List.setIfInBounds_toArray, List.set_cons_zero, List.set_cons_succ])
                  | (go_big_quiet_step (exact fun _ => rfl)))
                with_reducible refine wpQuiet_nil ?_
                intro w2 h2
                have HB2 := Lib.hid (show Below wr.heap.size wr w2 from h2)
                clear h2
                have HO2 := Lib.hid (HO1.out.below HB2.out)
                have HRx := Lib.hid (HRk.out w2 HB2.out)
                go_wp2_with (first
                  | (with_reducible refine wpList_load_mid rfl 38 (.tmp 54) rfl g (k0 * k + k2 * k) ?_ _ _ HRx.out Tryd.underlying38 rfl HLk.out ?_; (focus (go_simp)))
                  | (with_reducible refine wpList_put (enc := enc) (k := k) rfl 38 (.tmp 56) (.tmp 55) rfl g i ?_ x rfl dk.toList hk (h1 _) hi HO2.out HD.out HIN.out ?_; (focus (go_simp)); intro w5 hO5 hg5 hs5; have HO5 := Lib.hid hO5; have HG5 := Lib.hid (grown_trans (grown_below HG1.out HB2.out) hg5); clear hO5 hg5 hs5))
                go_roundg (n - (k0 + (k2 + 1)))
                case measure => omega
                case rel =>
                  have hkp2 := HI.out.keep (by have := HN.out; simp; omega) (show kp (k0 + k2) = true by rw [HKX.out, HQ.out]; rfl)
                  rw [← HX.out.1] at hkp2
                  refine ⟨i + 1, k2 + 1, dk.setIfInBounds i x, by go_num, by go_num, by omega, by omega, by omega, by omega, ?_, HG5.out, hkp2⟩
                  show Own _ _ _ _ _ _ _
                  rw [Array.toList_setIfInBounds]
                  exact HO5.out
            · have hjn2 : n = k0 + k2 := by omega
              have hin : (i : Int) < (n : Int) := by omega
              have i0 : (0 : Int) ≤ (i : Int) := by omega
              have hdl : n = dk.toList.length := by have h2 := HI.out.size; have h3 := HN.out; rw [Array.length_toList, h2, List.size_toArray, h3]
              have hic : (i : Int) ≤ (c : Int) := by omega
              have hltz : ¬ (k2 : Int) < ((n - k0 : Nat) : Int) := by omega
              obtain ⟨w6, hw6⟩ : ∃ w6, w6 = wr.setCells g (i * k) (List.replicate (n - i) (enc zr)).flatten := ⟨_, rfl⟩
              have hcl : ∀ ty, (Builtin.clear_ #[22] ty #[.slice (some ⟨g, i * k, none⟩) (n - i) (c - i)]).run Tryd.prog wr = .ok (.tuple #[]) w6 := fun ty => by
                rw [hw6]
                exact run_clear_own hk hk0 HO1.out hdl 22 38 ty zr (h1 _) Tryd.underlying22 vE i (c - i) (by omega)
              have HW6 := Lib.hid hw6
              have HD := Lib.hid hdl
              have HJ := Lib.hid hjn2
              clear hw6 hdl hjn2
              go_wp2_with fail
              go_ret
              have hI := HI.out
              have hjs : k0 + k2 = l.toArray.size := by have h2 := HJ.out; have h3 := HN.out; rw [List.size_toArray]; omega
              rw [hjs] at hI
              have hkt := kept_takeRec hI
              have hlen := hI.len
              rw [HFI.out] at hkt hlen
              obtain ⟨l', hl1, hl2, hl3, hl4⟩ := own_clear hk zr (n - i) i dk.toList wr HO1.out HD.out (by omega)
              rw [← HW6.out] at hl3 hl4
              have hcut := hl3.cut (m := i) (by omega)
              rw [enc_take (fun x _ => hk x), hl2, hkt] at hcut
              exact ⟨_, rfl, by rw [hlen]; exact hcut, grown_trans HG1.out hl4⟩
      · have hltz : ¬ (k1 : Int) < (n : Int) := by omega
        have hkn : k1 = n := by omega
        have HKN := Lib.hid hkn
        clear hkn
        go_wp2_with fail
        go_ret
        have hcl : compL eq l = l := by
          rw [← HFI.out, Lib.keptUpTo_all kp l.toArray _ (fun j hj => HALL.out j (by have := HKN.out; have := HN.out; rw [List.size_toArray] at hj; omega)), range_map_get]
        refine ⟨_, rfl, ?_, grown_below (World.grownBy.refl w _) HBW.out⟩
        rw [hcl, ← HN.out]
        exact HO.out.below HBW.out
end Go.Proofs.YtefbllhpibfojaaDoor
