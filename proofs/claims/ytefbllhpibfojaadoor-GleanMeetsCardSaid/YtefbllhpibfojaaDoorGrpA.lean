/- General words on memory; SHA-256; the small functions of layer 2. -/
import Derived.Test.YtefbllhpibfojaaDoorChecked
import Derived.WalkKit
import Derived.ProofKit
import Derived.Lib.Hide
import Derived.Deep.MidRow
import Derived.Deep.Draws
import Derived.Maps.AppendAt
import Derived.Lib.ConvBytes
namespace Go.Proofs.YtefbllhpibfojaaDoor
open Go.RowKit

/-- Block b of the world holds just these cells, of element type t, none of them frozen. -/
def At (w : World) (b : Nat) (t : TypeId) (cs : List Value) : Prop := w.heap[b]? = some (.cells cs.toArray t (0, 0))

section
variable {w w' : World} {b : Nat} {t : TypeId} {cs : List Value}
theorem At.lt (h : At w b t cs) : b < w.heap.size := by
  by_cases hlt : b < w.heap.size
  · exact hlt
  · unfold At at h
    rw [Array.getElem?_eq_none (by omega)] at h
    cases h
theorem At.cell (h : At w b t cs) (i : Nat) : w.cell? ⟨b, i, none⟩ = cs[i]? := by
  unfold At at h
  simp [World.cell?, h]
theorem At.cell' (h : At w b t cs) {i : Nat} {v : Value} (hv : cs[i]? = some v) : w.cell? ⟨b, i, none⟩ = some v := (h.cell i).trans hv
theorem At.frozen (h : At w b t cs) (i : Nat) : w.frozen? ⟨b, i, none⟩ = false := by
  unfold At at h
  simp [World.frozen?, h]
theorem At.new (w : World) (t : TypeId) (cs : List Value) : At (w.alloc (.cells cs.toArray t (0, 0))) w.heap.size t cs := by
  show (w.heap.push _)[w.heap.size]? = _
  simp
theorem At.newA (w : World) (t : TypeId) {C : Array Value} {cs : List Value} (h : C = cs.toArray) : At (w.alloc (.cells C t (0, 0))) w.heap.size t cs := by
  subst h
  exact At.new w t cs
theorem At.drew (h : At w b t cs) : At w.drew b t cs := h
theorem At.alloc (h : At w b t cs) (o : Obj) : At (w.alloc o) b t cs := by
  have hl := h.lt
  show (w.heap.push o)[b]? = _
  rw [Array.getElem?_push, if_neg (by omega)]
  exact h
theorem At.set (h : At w b t cs) (i : Nat) (v : Value) : At (w.setCell ⟨b, i, none⟩ v) b t (cs.set i v) := by
  unfold At at h ⊢
  simp [World.setCell, Array.getElem?_modify, h]
theorem At.far (h : At w b t cs) {p : Addr} (hp : p.block ≠ b) (v : Value) : At (w.setCell p v) b t cs := by
  unfold At at h ⊢
  simp only [World.setCell, Array.getElem?_modify]
  rw [if_neg (by omega)]
  exact h
theorem At.below {B : Nat} (h : At w b t cs) (hb : Below B w w') (hlt : b < B) : At w' b t cs := (hb.block b hlt).trans h
theorem At.inj {t' : TypeId} {cs' : List Value} (h : At w b t cs) (h' : At w b t' cs') : cs = cs' := by
  unfold At at h h'
  rw [h] at h'
  simpa using (by injection h' with h'; injection h' : cs.toArray = cs'.toArray)
end
theorem cellOf_below {w w' : World} {B : Nat} (hb : Below B w w') {a : Addr} (ha : a.block < B) : w'.cell? a = w.cell? a := hb.cell ha

theorem stored_some {P : Program} {w : World} {a : Addr} {v : Value} {m : Mode} (hc : (w.cell? a).isSome = true) (hf : w.frozen? a = false) : stored P w a v m = .ok () (w.setCell a v) := by
  obtain ⟨u, hu⟩ := Option.isSome_iff_exists.1 hc
  simp [stored, hu, hf]
theorem cell_set_ne (w : World) (b i j : Nat) (v : Value) (h : j ≠ i) : (w.setCell ⟨b, j, none⟩ v).cell? ⟨b, i, none⟩ = w.cell? ⟨b, i, none⟩ :=
  World.cell?_setCell_other _ _ _ _ (by intro e; injection e; omega)
theorem heap_set (w : World) (a : Addr) (v : Value) (k : Nat) : (w.setCell a v).heap[k]? =
    (if a.block = k then (w.heap[k]?).map (fun
      | .cells c elem frozen => .cells (if a.spot.isSome then c else c.setIfInBounds a.off v) elem frozen
      | o => o) else w.heap[k]?) := by
  simp only [World.setCell, Array.getElem?_modify]
  rfl
theorem frozen_set (w : World) (a : Addr) (v : Value) (c : Addr) : (w.setCell a v).frozen? c = w.frozen? c := by
  unfold World.frozen?
  rw [heap_set]
  by_cases hk : a.block = c.block
  · rw [if_pos hk]
    cases w.heap[c.block]? with
    | none => rfl
    | some o => cases o <;> rfl
  · rw [if_neg hk]
theorem isSome_set (w : World) (a : Addr) (v : Value) (c : Addr) : ((w.setCell a v).cell? c).isSome = (w.cell? c).isSome := by
  unfold World.cell?
  rw [heap_set]
  by_cases hk : a.block = c.block
  · rw [if_pos hk]
    cases w.heap[c.block]? with
    | none => rfl
    | some o =>
      cases o <;> try rfl
      simp only [Option.map_some]
      cases c.spot.isSome
      · cases a.spot.isSome
        · simp only [Bool.false_eq_true, if_false, Array.getElem?_setIfInBounds]
          split
          · split
            · simp; omega
            · simp; omega
          · rfl
        · rfl
      · rfl
  · rw [if_neg hk]

/-- what lies in a cell, whatever it is: for a cell that is about to be written -/
def valAt (w : World) (b i : Nat) : Value := (w.cell? ⟨b, i, none⟩).getD undef
theorem valAt_some {w : World} {b i : Nat} (h : (w.cell? ⟨b, i, none⟩).isSome = true) : w.cell? ⟨b, i, none⟩ = some (valAt w b i) := by
  obtain ⟨v, hv⟩ := Option.isSome_iff_exists.1 h
  simp [valAt, hv]

theorem take_snoc {α : Type} (l : List α) (k : Nat) (h : k < l.length) : l.take (k + 1) = l.take k ++ [l[k]] := List.take_succ_eq_append_getElem h
theorem ret_int {k : IntKind} {a b : Int} (h : a = b) : Ending.returned (.int k a) = .returned (.int k b) := by rw [h]
theorem ret_val {a b : Value} (h : a = b) : Ending.returned a = .returned b := by rw [h]

theorem At.setCells {b : Nat} {t : TypeId} : ∀ (vs : List Value) (o : Nat) {w : World} {cs : List Value}, At w b t cs → o + vs.length ≤ cs.length →
    At (w.setCells b o vs) b t (cs.take o ++ vs ++ cs.drop (o + vs.length))
  | [], o, w, cs, h, _ => by simpa [World.setCells] using h
  | v :: r, o, w, cs, h, hl => by
    have hl' : o + 1 + r.length ≤ cs.length := by simp at hl; omega
    have := At.setCells r (o + 1) (h.set o v) (by simpa using hl')
    have e : (cs.set o v).take (o + 1) ++ r ++ (cs.set o v).drop (o + 1 + r.length) = cs.take o ++ (v :: r) ++ cs.drop (o + (v :: r).length) := by
      have ho : o < cs.length := by omega
      rw [List.take_succ_eq_append_getElem (by simpa using ho), List.take_set, List.drop_set, if_pos (by omega)]
      simp [show o + 1 + r.length = o + (r.length + 1) from by omega]
      exact List.set_eq_of_length_le (by simp; omega)
    rw [e] at this
    exact this
theorem At.setAll {w : World} {b : Nat} {t : TypeId} {cs vs : List Value} (h : At w b t cs) (hl : vs.length = cs.length) : At (w.setCells b 0 vs) b t vs := by
  have := At.setCells vs 0 h (by omega)
  simpa [hl] using this
theorem grown_setCells (b : Nat) : ∀ (vs : List Value) (o : Nat) (w0 w : World), w0.grownBy w (some b) → w0.grownBy (w.setCells b o vs) (some b)
  | [], _, _, _, h => h
  | v :: r, o, w0, w, h => grown_setCells b r (o + 1) w0 _ ⟨h.os, h.tape, h.output, by simpa [World.setCell] using h.size, fun i hi hne => by
      rw [heap_set, if_neg (by intro e; exact hne (by rw [← e]))]
      exact h.block i hi hne⟩
theorem At.there {w : World} {b : Nat} {t : TypeId} {cs : List Value} (h : At w b t cs) (o n : Nat) (hl : o + n ≤ cs.length) : w.there b o n := fun j hj => by
  constructor
  · rw [h.cell, List.getElem?_eq_getElem (by omega)]
    rfl
  · exact h.frozen _
theorem At.range {w : World} {b : Nat} {t : TypeId} {cs : List Value} (h : At w b t cs) (o n : Nat) : w.rangeAt b o ((cs.drop o).take n) := fun j v hv => by
  rw [h.cell, ← hv, List.getElem?_take]
  split
  · rw [List.getElem?_drop]
  · rename_i hj
    rw [List.getElem?_take, if_neg hj] at hv
    cases hv

section
variable {P : Program} {ops : Array Oper} {rest : List Oper} {o : Oper} {a : Act} {w : World} {Q : Exit → Act → World → Prop}
/-- a whole array or struct read out of a variable -/
theorem wpList_loadAll (hgd : o.guard = none) (ty : TypeId) (x : Operand) (ho : o.op = .load ty x) (g : Nat) (hx : a.eval x = .pointer (some ⟨g, 0, none⟩)) (t : TypeId) (cs : List Value) (d : TypeDesc)
    (hg : At w g t cs) (hu : P.underlying ty = some d) (hd : (match d with | .struct _ | .array _ _ => true | _ => false) = true) (hi : (P.info? ty).map (·.size) = some cs.length)
    (h : wpList P ops Q rest (a.put o.dst (.agg cs.toArray)) w) : wpList P ops Q (o :: rest) a w :=
  wpList_load_row hgd ty x ho g hx t cs.toArray (0, 0) d hg hu hd (by simpa using hi) h
/-- a whole array or struct written into a variable -/
theorem wpList_storeAll (hgd : o.guard = none) (ty : TypeId) (x y : Operand) (ho : o.op = .store ty x y) (g : Nat) (hx : a.eval x = .pointer (some ⟨g, 0, none⟩)) (t : TypeId) (cs new : List Value)
    (hg : At w g t cs) (hy : a.eval y = .agg new.toArray) (hl : new.length = cs.length) (hi : (P.info? ty).map (·.size) = some new.length) (h1 : ∀ v ∈ new, v.oneCell' = true)
    (h : ∀ w', At w' g t new → w.grownBy w' (some g) → w'.heap.size = w.heap.size → wpList P ops Q rest (a.put o.dst undef) w') : wpList P ops Q (o :: rest) a w := by
  refine wpList_store_mid hgd ty x y ho g 0 new.toArray hx hy (hg.there 0 _ (by simp; omega)) (by simpa using hi) (all_oneCell_toArray h1) ?_
  refine h _ ?_ ?_ ?_
  · have := hg.setAll hl
    simpa using this
  · exact grown_setCells g _ 0 w w (World.grownBy.refl w _)
  · have hs : ∀ (vs : List Value) (o : Nat) (w : World), (w.setCells g o vs).heap.size = w.heap.size := by
      intro vs
      induction vs with
      | nil => intro o w; rfl
      | cons v r ih => intro o w; rw [World.setCells, ih]; simp [World.setCell]
    exact hs _ _ _
end
theorem ret_cellAll {P : Program} {fn : Func} {R : Ending → World → Prop} {a : Act} {w : World} {p : Tmp} {ty : TypeId} (hr : fn.results = #[.cell p ty]) (hd : a.defers = []) (g : Nat) (t : TypeId) (cs : List Value) (d : TypeDesc)
    (hp : a.tmps.getD p undef = .pointer (some ⟨g, 0, none⟩)) (hg : At w g t cs) (hu : P.underlying ty = some d) (hdd : (match d with | .struct _ | .array _ _ => true | _ => false) = true)
    (hi : (P.info? ty).map (·.size) = some cs.length) (hR : R (.returned (.agg cs.toArray)) w) : bodyPost P fn R .ret a w :=
  bodyPost_ret (results_cell_row hr a.tmps w g t cs.toArray (0, 0) d hp hg hu hdd (by simpa using hi)) hd hR

theorem bytes_length (s : ByteArray) : s.data.toList.length = s.size := by cases s; rfl

theorem ofInt_u32 (a : Nat) (ha : a < 4294967296) : (BitVec.ofInt 32 (a : Int)).toNat = a := by
  rw [BitVec.ofInt_natCast, BitVec.toNat_ofNat]; exact Nat.mod_eq_of_lt (by omega)
theorem u32_xor_nat (a b : Nat) (ha : a < 4294967296) (hb : b < 4294967296) : bits .xor .u32 (a : Int) (b : Int) = ((a ^^^ b : Nat) : Int) := by
  have hx : a ^^^ b < 2 ^ 32 := Nat.xor_lt_two_pow (by omega) (by omega)
  show IntKind.u32.wrap ((BitVec.ofInt 32 (a : Int) ^^^ BitVec.ofInt 32 (b : Int)).toNat : Int) = _
  rw [BitVec.toNat_xor, ofInt_u32 a ha, ofInt_u32 b hb, IntKind.wrap_u32']
  omega
theorem u32_and_nat (a b : Nat) (ha : a < 4294967296) (hb : b < 4294967296) : bits .and .u32 (a : Int) (b : Int) = ((a &&& b : Nat) : Int) := by
  have hx : a &&& b < 2 ^ 32 := Nat.and_lt_two_pow _ (by omega)
  show IntKind.u32.wrap ((BitVec.ofInt 32 (a : Int) &&& BitVec.ofInt 32 (b : Int)).toNat : Int) = _
  rw [BitVec.toNat_and, ofInt_u32 a ha, ofInt_u32 b hb, IntKind.wrap_u32']
  omega
theorem u32_or_nat (a b : Nat) (ha : a < 4294967296) (hb : b < 4294967296) : bits .or .u32 (a : Int) (b : Int) = ((a ||| b : Nat) : Int) := by
  have hx : a ||| b < 2 ^ 32 := Nat.or_lt_two_pow (by omega) (by omega)
  show IntKind.u32.wrap ((BitVec.ofInt 32 (a : Int) ||| BitVec.ofInt 32 (b : Int)).toNat : Int) = _
  rw [BitVec.toNat_or, ofInt_u32 a ha, ofInt_u32 b hb, IntKind.wrap_u32']
  omega
end Go.Proofs.YtefbllhpibfojaaDoor

namespace Go.Proofs.YtefbllhpibfojaaDoor
open Go.RowKit

theorem At.grown {w w' : World} {b : Nat} {t : TypeId} {cs : List Value} {row : Option Nat} (h : At w b t cs) (hg : w.grownBy w' row) (hne : some b ≠ row) : At w' b t cs := (hg.block b h.lt hne).trans h
/-- a variable that reads as these cells, whatever its type and its marks -/
def Tab (w : World) (b : Nat) (cs : List Value) : Prop := ∃ t fr, w.heap[b]? = some (.cells cs.toArray t fr)
section
variable {w w' : World} {b : Nat} {cs : List Value}
theorem Tab.lt (h : Tab w b cs) : b < w.heap.size := by
  obtain ⟨t, fr, h⟩ := h
  by_cases hlt : b < w.heap.size
  · exact hlt
  · rw [Array.getElem?_eq_none (by omega)] at h
    cases h
theorem Tab.cell' (h : Tab w b cs) {i : Nat} {v : Value} (hv : cs[i]? = some v) : w.cell? ⟨b, i, none⟩ = some v := by
  obtain ⟨t, fr, h⟩ := h
  simp [World.cell?, h, hv]
theorem Tab.below {B : Nat} (h : Tab w b cs) (hb : Below B w w') (hlt : b < B) : Tab w' b cs := by
  obtain ⟨t, fr, h⟩ := h
  exact ⟨t, fr, (hb.block b hlt).trans h⟩
theorem Tab.grown {row : Option Nat} (h : Tab w b cs) (hg : w.grownBy w' row) (hne : some b ≠ row) : Tab w' b cs := by
  have hl := h.lt
  obtain ⟨t, fr, h⟩ := h
  exact ⟨t, fr, (hg.block b hl hne).trans h⟩
end
theorem Below.ofGrown {w0 w w' : World} {B : Nat} {row : Nat} (h : Below B w0 w) (hg : w.grownBy w' (some row)) (hB : B ≤ w.heap.size) (hr : B ≤ row) : Below B w0 w' :=
  h.grown hg hB (by intro k hk; injection hk; omega)
theorem grown_setCell {w0 w : World} {g : Nat} (h : w0.grownBy w (some g)) {q : Addr} (hq : q.block = g ∨ w0.heap.size ≤ q.block) (v : Value) : w0.grownBy (w.setCell q v) (some g) :=
  ⟨h.os, h.tape, h.output, by have := h.size; simpa [World.setCell] using this, fun i hi hne => by
    rw [heap_set, if_neg (by
      intro e
      rcases hq with hq | hq
      · exact hne (by rw [← e, hq])
      · omega)]
    exact h.block i hi hne⟩
theorem grown_alloc {w0 w : World} {row : Option Nat} (h : w0.grownBy w row) (o : Obj) : w0.grownBy (w.alloc o) row :=
  ⟨h.os, h.tape, h.output, Nat.le_trans h.size (by simp), fun i hi hne => (Below.heap_alloc w o i (Nat.lt_of_lt_of_le hi h.size)).trans (h.block i hi hne)⟩
theorem grown_drew {w0 w : World} {row : Option Nat} (h : w0.grownBy w row) : w0.grownBy w.drew row := ⟨h.os, h.tape, h.output, h.size, h.block⟩
theorem grown_trans {a b c : World} {g : Nat} (h : a.grownBy b (some g)) (k : b.grownBy c (some g)) : a.grownBy c (some g) :=
  ⟨k.os.trans h.os, k.tape.trans h.tape, k.output.trans h.output, Nat.le_trans h.size k.size, fun i hi hne => (k.block i (Nat.lt_of_lt_of_le hi h.size) hne).trans (h.block i hi hne)⟩
theorem grown_below {a b c : World} {row : Option Nat} (h : a.grownBy b row) (k : Below b.heap.size b c) : a.grownBy c row :=
  ⟨k.os.trans h.os, k.tape.trans h.tape, k.output.trans h.output, Nat.le_trans h.size k.size, fun i hi hne => (k.block i (Nat.lt_of_lt_of_le hi h.size)).trans (h.block i hi hne)⟩

/-- a[k] of an array by value, whose elements are of one cell each -/
theorem run_index_arr {P : Program} (w : World) (t e n : Nat) (k : IntKind) (i : Nat) (cs : Array Value) (v : Value) (ht : P.underlying t = some (.array n e)) (hs : (P.info? e).map (·.size) = some 1)
    {kk : IntKind} (hu : P.underlying e = some (.int kk)) (hi : i < n) (hv : cs[i]? = some v) :
    (Instr.index t (.agg cs) (.int k (i : Int))).run P w = .ok v w := by
  cases hq : P.info? e with
  | none => simp [hq] at hs
  | some j =>
    have hj : j.size = 1 := by simpa [hq] using hs
    have h0 : (0 : Int) ≤ i ∧ (i : Int) < n := ⟨by omega, by omega⟩
    simp only [Instr.index, asIntOf, Sem.run_bind, Sem.run_pure, Result.andThen_ok, run_underlying ht, h0, and_self, if_true]
    simp [sizeOf, typeInfo, hq, hj]
    simp [part, isAgg, run_underlying hu, hv]
end Go.Proofs.YtefbllhpibfojaaDoor

namespace Go.Proofs.YtefbllhpibfojaaDoor
open Go.RowKit

theorem heap_setCells {b : Nat} {t : TypeId} {fr : Nat × Nat} : ∀ (vs : List Value) (o : Nat) {w : World} {cur : List Value}, w.heap[b]? = some (.cells cur.toArray t fr) → o + vs.length ≤ cur.length →
    (w.setCells b o vs).heap[b]? = some (.cells (cur.take o ++ vs ++ cur.drop (o + vs.length)).toArray t fr)
  | [], o, w, cur, h, _ => by simpa [World.setCells] using h
  | v :: r, o, w, cur, h, hl => by
    have hl' : o + 1 + r.length ≤ (cur.set o v).length := by simp at hl ⊢; omega
    have h' : (w.setCell ⟨b, o, none⟩ v).heap[b]? = some (.cells (cur.set o v).toArray t fr) := by
      simp [World.setCell, Array.getElem?_modify, h]
    have := heap_setCells r (o + 1) h' hl'
    have e : (cur.set o v).take (o + 1) ++ r ++ (cur.set o v).drop (o + 1 + r.length) = cur.take o ++ (v :: r) ++ cur.drop (o + (v :: r).length) := by
      have ho : o < cur.length := by simp at hl; omega
      rw [List.take_succ_eq_append_getElem (by simpa using ho), List.take_set, List.drop_set, if_pos (by omega)]
      simp [show o + 1 + r.length = o + (r.length + 1) from by omega]
      exact List.set_eq_of_length_le (by simp; omega)
    rw [e] at this
    exact this

/-- the slice value owns these cells (n elements of 'size' cells each), in a row of the call's own, from block 'base' on -/
def Own (w : World) (base : Nat) (e : TypeId) (size : Nat) (v : Value) (n : Nat) (xs : List Value) : Prop :=
  xs.length = n * size ∧
  ((v = .slice none 0 0 ∧ n = 0) ∨
   ∃ g cap cur fr, v = .slice (some ⟨g, 0, none⟩) n cap ∧ base ≤ g ∧ w.heap[g]? = some (.cells (List.toArray cur) e fr) ∧ (∀ i, i < cur.length → (decide (fr.1 ≤ i) && decide (i < fr.2)) = false) ∧ n ≤ cap ∧ cap ≤ maxLen ∧ cur.length = cap * size ∧ cur.take (n * size) = xs)

section
variable {w w' : World} {base : Nat} {e : TypeId} {size : Nat} {v : Value} {n : Nat} {xs : List Value}
theorem Own.nil (w : World) (base : Nat) (e : TypeId) (size : Nat) : Own w base e size (.slice none 0 0) 0 [] := ⟨by simp, .inl ⟨rfl, rfl⟩⟩
theorem Own.lt (h : Own w base e size v n xs) : ∀ k, v.ownBlock = some k → base ≤ k ∧ k < w.heap.size := by
  intro k hk
  rcases h.2 with ⟨rfl, _⟩ | ⟨g, cap, cur, fr, rfl, hb, hg, _⟩
  · simp [Value.ownBlock] at hk
  · simp [Value.ownBlock] at hk
    subst hk
    exact ⟨hb, (Array.getElem?_eq_some_iff.1 hg).1⟩
theorem Own.keep (h : Own w base e size v n xs) (hk : ∀ g, v.ownBlock = some g → w'.heap[g]? = w.heap[g]?) : Own w' base e size v n xs := by
  refine ⟨h.1, ?_⟩
  rcases h.2 with hn | ⟨g, cap, cur, fr, rfl, hb, hgg, rest⟩
  · exact .inl hn
  · exact .inr ⟨g, cap, cur, fr, rfl, hb, (hk g rfl).trans hgg, rest⟩
theorem Own.grown {row : Option Nat} (h : Own w base e size v n xs) (hg : w.grownBy w' row) (hne : v.ownBlock = none ∨ v.ownBlock ≠ row) : Own w' base e size v n xs :=
  h.keep fun g hv => hg.block g (h.lt g hv).2 (by
    rcases hne with hn | hn
    · rw [hn] at hv; cases hv
    · rw [← hv]; exact hn)
theorem Own.below (h : Own w base e size v n xs) (hb : Below w.heap.size w w') : Own w' base e size v n xs :=
  h.keep fun g hv => hb.block g (h.lt g hv).2
theorem Own.alloc (h : Own w base e size v n xs) (o : Obj) : Own (w.alloc o) base e size v n xs :=
  h.keep fun g hv => Below.heap_alloc w o g (h.lt g hv).2
theorem Own.drew (h : Own w base e size v n xs) : Own w.drew base e size v n xs := h
theorem Own.cellAt (h : Own w base e size v n xs) {g : Nat} (hg : v.ownBlock = some g) (j : Nat) (hj : j < n * size) : w.cell? ⟨g, j, none⟩ = xs[j]? := by
  rcases h.2 with ⟨rfl, _⟩ | ⟨g', cap, cur, fr, rfl, _, hgg, _, _, _, _, htake⟩
  · simp [Value.ownBlock] at hg
  · simp [Value.ownBlock] at hg
    subst hg
    rw [← htake, List.getElem?_take, if_pos hj]
    simp [World.cell?, hgg]
theorem Own.form (h : Own w base e size v n xs) (hn : 0 < n) : ∃ g cap, v = .slice (some ⟨g, 0, none⟩) n cap ∧ base ≤ g ∧ g < w.heap.size ∧ n ≤ cap ∧ cap ≤ maxLen := by
  rcases h.2 with ⟨_, h0⟩ | ⟨g, cap, cur, fr, rfl, hb, hg, _, hc, hm, _⟩
  · omega
  · exact ⟨g, cap, rfl, hb, (Array.getElem?_eq_some_iff.1 hg).1, hc, hm⟩
/-- a new row, of so many elements -/
theorem Own.made (w : World) (e : TypeId) (size : Nat) (cur : List Value) (n cap : Nat) (hb : base ≤ w.heap.size) (hn : n ≤ cap) (hm : cap ≤ maxLen) (hs : cur.length = cap * size) :
    Own (w.alloc (.cells cur.toArray e)) base e size (.slice (some ⟨w.heap.size, 0, none⟩) n cap) n (cur.take (n * size)) := by
  refine ⟨?_, .inr ⟨w.heap.size, cap, cur, (0, 0), rfl, hb, heap_alloc_new w _, fun i _ => by simp, hn, hm, hs, rfl⟩⟩
  rw [List.length_take, hs, Nat.min_eq_left (Nat.mul_le_mul_right _ hn)]
end

section
variable {P : Program} (w : World)
theorem run_append_Own (base : Nat) (t ty e : TypeId) (i : TypeInfo) (z : Value) (size bytes : Nat) (ht : P.underlying t = some (.slice e)) (hi : P.info? e = some i) (hz : i.zero = some z)
    (hsize : i.size = size) (hby : i.bytes = bytes) (hzs : z.cells.size = size) (hsz : 0 < size)
    (v : Value) (n : Nat) (xs : List Value) (hown : Own w base e size v n xs)
    (a : Addr) (m c : Nat) (news : List Value) (hl : news.length = m * size) (hnews : ∀ j u, news[j]? = some u → w.cell? (a.add j) = some u) (h1 : ∀ u ∈ news, u.oneCell' = true)
    (h63 : n + m ≤ maxLen) (hbytes : (n + m) * bytes ≤ 140737488355328) (hbase : base ≤ w.heap.size) :
    ∃ v' w', (Builtin.append_ #[t, t] ty #[v, .slice (some a) m c]).run P w = .ok v' w' ∧ Own w' base e size v' (n + m) (xs ++ news) ∧ w.grownBy w' v.ownBlock ∧
      (v' = .slice none 0 0 ↔ v = .slice none 0 0 ∧ m = 0) ∧ (v'.ownBlock = v.ownBlock ∨ v'.ownBlock = some w.heap.size) := by
  subst hsize
  subst hby
  have hsmall : n + m ≤ 9223372036854775807 := by simp only [maxLen] at h63; omega
  have hlen : (xs ++ news).length = (n + m) * i.size := by rw [List.length_append, hown.1, hl, Nat.add_mul]
  have grown : ∀ (old : Nat), ∀ (row : Option Nat),
      Own (w.drew.alloc (.cells (xs.toArray ++ news.toArray ++ Builtin.zeroCells z.cells (grownCap w (n + m) old e - (n + m))) e)) base e i.size
        (.slice (some ⟨w.heap.size, 0, none⟩) (n + m) (grownCap w (n + m) old e)) (n + m) (xs ++ news) ∧
      w.grownBy (w.drew.alloc (.cells (xs.toArray ++ news.toArray ++ Builtin.zeroCells z.cells (grownCap w (n + m) old e - (n + m))) e)) row := by
    intro old row
    have hge := grownCap_ge w (n + m) old e
    have hcm : grownCap w (n + m) old e ≤ maxLen := grownCap_le_maxLen w (n + m) old e h63
    refine ⟨⟨hlen, .inr ⟨w.heap.size, _, (xs.toArray ++ news.toArray ++ Builtin.zeroCells z.cells (grownCap w (n + m) old e - (n + m))).toList, (0, 0), rfl, hbase, ?_, fun i _ => by simp, hge, hcm, ?_, ?_⟩⟩,
      ⟨rfl, rfl, rfl, by simp, fun k hk _ => Below.heap_alloc w.drew _ k hk⟩⟩
    · rw [Array.toArray_toList]
      exact heap_alloc_new w.drew _
    · simp only [Array.length_toList, Array.size_append, List.size_toArray, size_zeroCells, hzs, hown.1, hl, ← Nat.add_mul]
      congr 1
      omega
    · simp only [Array.toList_append, List.append_assoc]
      rw [← List.append_assoc, ← hlen]
      exact List.take_left
  rcases hown.2 with ⟨rfl, rfl⟩ | ⟨g, cap, cur, fr, rfl, hbg, hg, hfr, hnc, hcm, hcs, htake⟩
  · have hx : xs = [] := List.eq_nil_of_length_eq_zero (by simpa using hown.1)
    subst hx
    by_cases hm : m = 0
    · subst hm
      have hn : news = [] := List.eq_nil_of_length_eq_zero (by simpa using hl)
      subst hn
      refine ⟨.slice none 0 0, w, ?_, Own.nil w base e i.size, ⟨rfl, rfl, rfl, Nat.le_refl _, fun _ _ _ => rfl⟩, by simp, .inl rfl⟩
      simp [Builtin.append_, run_underlying ht, sizeOf, typeInfo, hi, Builtin.lenOf, Builtin.firstCells, loadCells, loadCellsFrom]
    · have hr := run_append_nil (P := P) w t ty e i z ht hi hz a m c news hl hnews (by omega) (by omega) (by have hb := hbytes; simp only [Nat.zero_add] at hb; omega)
      have hgr := grown 0 (Value.ownBlock (.slice none 0 0))
      simp only [Nat.zero_add, List.nil_append, Array.empty_append] at hgr ⊢
      exact ⟨_, _, hr, hgr.1, hgr.2, by simp [hm], .inr rfl⟩
  · by_cases hroom : n + m ≤ cap
    · have hfit : n * i.size + news.length ≤ cur.length := by rw [hl, hcs, ← Nat.add_mul]; exact Nat.mul_le_mul_right _ hroom
      have hcell : ∀ j, j < cur.length → (w.cell? ⟨g, j, none⟩).isSome = true := fun j hj => by simp [World.cell?, hg, hj]
      have hfz : ∀ j, j < cur.length → w.frozen? ⟨g, j, none⟩ = false := fun j hj => by
        have := hfr j hj
        simp only [World.frozen?, hg]
        exact this
      have hf := run_firstCells_some (P := P) w i.size m a m c news hl hnews
      have hst := run_storeCells_cells (P := P) g (n * i.size) news 0 w (fun j hj => by simpa using hcell _ (by omega)) (fun j hj => by simpa using hfz _ (by omega)) h1
      simp only [Nat.add_zero] at hst
      refine ⟨.slice (some ⟨g, 0, none⟩) (n + m) cap, w.setCells g (n * i.size) news, ?_, ⟨hlen, .inr ⟨g, cap, _, fr, rfl, hbg, heap_setCells news (n * i.size) hg hfit, ?_, hroom, hcm, ?_, ?_⟩⟩, grown_setCells g _ _ w w (World.grownBy.refl w _), by simp, .inl rfl⟩
      · simp [Builtin.append_, run_underlying ht, sizeOf, typeInfo, hi, Builtin.lenOf, hroom, hf, Addr.add_lit, hst]
      · intro j hj
        refine hfr j ?_
        simp at hj
        omega
      · simp
        omega
      · rw [htake, ← hlen]
        exact List.take_left
    · have holds : ∀ j u, xs[j]? = some u → w.cell? ((⟨g, 0, none⟩ : Addr).add j) = some u := by
        intro j u hu
        have hj : j < n * i.size := by
          have := (List.getElem?_eq_some_iff.1 hu).1
          have h0 := hown.1
          omega
        have hadd : (⟨g, 0, none⟩ : Addr).add j = ⟨g, j, none⟩ := by unfold Addr.add; split <;> simp_all
        rw [hadd, hown.cellAt rfl j hj]
        exact hu
      have hr := run_append_grow (P := P) w t ty e i z ht hi hz ⟨g, 0, none⟩ n cap xs hown.1 holds a m c news hl hnews (by omega) (by omega) (growslice_fits (by omega) hbytes)
      have hgr := grown cap (Value.ownBlock (.slice (some ⟨g, 0, none⟩) n cap))
      exact ⟨_, _, hr, hgr.1, hgr.2, by simp, .inr rfl⟩

theorem wp_append_Own {o : Oper} {a : Act} {K : Act → World → Prop} {Q : Exit → Act → World → Prop} (s x : Operand) (t : TypeId)
    (ho : o.op = .call { callee := .builtin .append, args := #[s, x], argTypes := #[t, t] })
    (base : Nat) (e : TypeId) (i : TypeInfo) (z : Value) (size bytes : Nat) (ht : P.underlying t = some (.slice e)) (hi : P.info? e = some i) (hz : i.zero = some z)
    (hsize : i.size = size) (hby : i.bytes = bytes) (hzs : z.cells.size = size) (hsz : 0 < size)
    (v : Value) (n : Nat) (xs : List Value) (hs : a.eval s = v) (hown : Own w base e size v n xs)
    (ad : Addr) (m c : Nat) (news : List Value) (hx : a.eval x = .slice (some ad) m c) (hl : news.length = m * size) (hnews : ∀ j u, news[j]? = some u → w.cell? (ad.add j) = some u) (h1 : ∀ u ∈ news, u.oneCell' = true)
    (h63 : n + m ≤ maxLen) (hbytes : (n + m) * bytes ≤ 140737488355328) (hbase : base ≤ w.heap.size)
    (h : ∀ v' w', Own w' base e size v' (n + m) (xs ++ news) → w.grownBy w' v.ownBlock → (v'.ownBlock = v.ownBlock ∨ v'.ownBlock = some w.heap.size) → K (a.put o.dst v') w') : o.wp P a w K Q := by
  obtain ⟨v', w', hr, h2, h3, _, h5⟩ := run_append_Own (P := P) w base t o.type e i z size bytes ht hi hz hsize hby hzs hsz v n xs hown ad m c news hl hnews h1 h63 hbytes hbase
  unfold Oper.wp execOp
  simp only [ho, resolve, invoke, builtin, Sem.run_bind, Sem.run_pure, Result.andThen_ok, List.map_toArray, List.map_cons, List.map_nil, hs, hx, hr]
  exact h v' w' h2 h3 h5

theorem wpList_append_Own {ops : Array Oper} {rest : List Oper} {o : Oper} {a : Act} {Q : Exit → Act → World → Prop} (hgd : o.guard = none) (s x : Operand) (t : TypeId)
    (ho : o.op = .call { callee := .builtin .append, args := #[s, x], argTypes := #[t, t] })
    (base : Nat) (e : TypeId) (i : TypeInfo) (z : Value) (size bytes : Nat) (ht : P.underlying t = some (.slice e)) (hi : P.info? e = some i) (hz : i.zero = some z)
    (hsize : i.size = size) (hby : i.bytes = bytes) (hzs : z.cells.size = size) (hsz : 0 < size)
    (v : Value) (n : Nat) (xs : List Value) (hs : a.eval s = v) (hown : Own w base e size v n xs)
    (ad : Addr) (m c : Nat) (news : List Value) (hx : a.eval x = .slice (some ad) m c) (hl : news.length = m * size) (hnews : ∀ j u, news[j]? = some u → w.cell? (ad.add j) = some u) (h1 : ∀ u ∈ news, u.oneCell' = true)
    (h63 : n + m ≤ maxLen) (hbytes : (n + m) * bytes ≤ 140737488355328) (hbase : base ≤ w.heap.size)
    (h : ∀ v' w', Own w' base e size v' (n + m) (xs ++ news) → w.grownBy w' v.ownBlock → (v'.ownBlock = v.ownBlock ∨ v'.ownBlock = some w.heap.size) → wpList P ops Q rest (a.put o.dst v') w') : wpList P ops Q (o :: rest) a w :=
  wpList_plain hgd fun _ hK => wp_append_Own w s x t ho base e i z size bytes ht hi hz hsize hby hzs hsz v n xs hs hown ad m c news hx hl hnews h1 h63 hbytes hbase fun v' w' h2 h3 h4 => hK _ _ (h v' w' h2 h3 h4)
theorem one_new (w : World) (x : Value) (t : TypeId) : ∀ j u, [x][j]? = some u → (w.alloc (.cells #[x] t)).cell? ((⟨w.heap.size, 0, none⟩ : Addr).add j) = some u := cell_one_new w x t
end
/-- the row of '[]byte(s)' -/
theorem Own.ofBytes {base : Nat} (w : World) (e : TypeId) (s : ByteArray) (hb : base ≤ w.heap.size) (hm : s.size ≤ maxLen) :
    Own (Lib.bytesWorld w e s) base e 1 (.slice (some ⟨w.heap.size, 0, none⟩) s.size (grownCap w s.size 0 e)) s.size (s.data.toList.map fun b => Value.int .u8 (b.toNat : Int)) := by
  have hge := grownCap_ge w s.size 0 e
  have hcs : (Lib.bytesCells w e s).toList.length = grownCap w s.size 0 e := by
    simp [Lib.bytesCells]
    omega
  refine ⟨by simp, .inr ⟨w.heap.size, _, (Lib.bytesCells w e s).toList, _, rfl, hb, by simpa using Lib.bytesWorld_at_new w e s, ?_, hge, grownCap_le_maxLen w s.size 0 e hm, by omega, ?_⟩⟩
  · intro i hi
    simp at hi ⊢
    omega
  · rw [Nat.mul_one]
    simp [Lib.bytesCells]
end Go.Proofs.YtefbllhpibfojaaDoor

namespace Go.Proofs.YtefbllhpibfojaaDoor.Sha

def rotr (x n : Nat) : Nat := (x * 2 ^ (32 - n)) % 4294967296 ||| x / 2 ^ n
/-- a word turned right by several numbers, joined -/
def turned (x : Nat) (ns : List Nat) : Nat := ns.foldl (fun o n => o ^^^ rotr x n) 0
theorem rotr_lt (x n : Nat) (hx : x < 4294967296) : rotr x n < 4294967296 := by
  unfold rotr
  exact Nat.or_lt_two_pow (n := 32) (Nat.mod_lt _ (by omega)) (Nat.lt_of_le_of_lt (Nat.div_le_self _ _) hx)
theorem turned_lt (x : Nat) (ns : List Nat) (hx : x < 4294967296) : turned x ns < 4294967296 := by
  unfold turned
  suffices ∀ o, o < 4294967296 → ns.foldl (fun o n => o ^^^ rotr x n) o < 4294967296 from this 0 (by omega)
  induction ns with
  | nil => intro o h; simpa using h
  | cons n ns ih => intro o h; exact ih _ (Nat.xor_lt_two_pow (n := 32) h (rotr_lt x n hx))
theorem turned_snoc (x : Nat) (ns : List Nat) (n : Nat) : turned x (ns ++ [n]) = turned x ns ^^^ rotr x n := by
  simp [turned]

/-- the word that some bytes spell, the highest first -/
def spell (l : List UInt8) : Nat := l.foldl (fun o b => o * 256 + b.toNat) 0
theorem spell_snoc (l : List UInt8) (b : UInt8) : spell (l ++ [b]) = spell l * 256 + b.toNat := by simp [spell]
theorem spell_lt (l : List UInt8) : spell l < 256 ^ l.length := by
  suffices h : ∀ (l : List UInt8) (o : Nat), l.foldl (fun o b => o * 256 + b.toNat) o < (o + 1) * 256 ^ l.length by
    simpa [spell] using h l 0
  intro l
  induction l with
  | nil => intro o; simp
  | cons b l ih =>
    intro o
    refine Nat.lt_of_lt_of_le (ih _) ?_
    rw [List.length_cons, Nat.pow_succ, Nat.mul_comm (256 ^ l.length) 256, ← Nat.mul_assoc]
    refine Nat.mul_le_mul_right _ ?_
    have := b.toNat_lt
    show o * 256 + b.toNat + 1 ≤ _
    omega
def word (blk : List UInt8) (t : Nat) : Nat := spell ((blk.drop (4 * t)).take 4)
theorem word_lt (blk : List UInt8) (t : Nat) : word blk t < 4294967296 := by
  have h := spell_lt ((blk.drop (4 * t)).take 4)
  have h2 : ((blk.drop (4 * t)).take 4).length ≤ 4 := List.length_take_le _ _
  have h3 : (256 : Nat) ^ ((blk.drop (4 * t)).take 4).length ≤ 256 ^ 4 := Nat.pow_le_pow_right (by omega) h2
  exact Nat.lt_of_lt_of_le h h3
def first (blk : List UInt8) (n : Nat) : List Nat := (List.range n).map (word blk)

/-- the next word of a schedule -/
def next (ws : List Nat) : Nat :=
  let t := ws.length
  (((((turned (ws.getD (t - 2) 0) [17, 19] ^^^ ws.getD (t - 2) 0 / 1024) + ws.getD (t - 7) 0) % 4294967296)
    + (turned (ws.getD (t - 15) 0) [7, 18] ^^^ ws.getD (t - 15) 0 / 8)) % 4294967296 + ws.getD (t - 16) 0) % 4294967296
def grow : Nat → List Nat → List Nat
  | 0, ws => ws
  | n + 1, ws => grow n (ws ++ [next ws])
theorem grow_succ (n : Nat) : ∀ ws, grow (n + 1) ws = grow n ws ++ [next (grow n ws)] := by
  induction n with
  | zero => intro ws; rfl
  | succ n ih => intro ws; rw [grow, ih, grow]
theorem grow_length (n : Nat) : ∀ ws, (grow n ws).length = ws.length + n := by
  induction n with
  | zero => intro ws; rfl
  | succ n ih => intro ws; rw [grow, ih]; simp; omega
theorem next_lt (ws : List Nat) : next ws < 4294967296 := Nat.mod_lt _ (by omega)
theorem grow_lt (n : Nat) : ∀ ws, (∀ x ∈ ws, x < 4294967296) → ∀ x ∈ grow n ws, x < 4294967296 := by
  induction n with
  | zero => intro ws h; exact h
  | succ n ih =>
    intro ws h
    refine ih _ ?_
    intro x hx
    rcases List.mem_append.1 hx with hx | hx
    · exact h x hx
    · simp at hx; subst hx; exact next_lt ws
/-- the words of a block's rounds -/
def schedule (blk : List UInt8) : List Nat := grow 48 (first blk 16)
theorem first_length (blk : List UInt8) (n : Nat) : (first blk n).length = n := by simp [first]
theorem schedule_length (blk : List UInt8) : (schedule blk).length = 64 := by rw [schedule, grow_length, first_length]
theorem first_lt (blk : List UInt8) (n : Nat) : ∀ x ∈ first blk n, x < 4294967296 := by
  intro x hx
  simp only [first, List.mem_map] at hx
  obtain ⟨t, _, rfl⟩ := hx
  exact word_lt blk t
theorem schedule_lt (blk : List UInt8) : ∀ x ∈ schedule blk, x < 4294967296 := grow_lt _ _ (first_lt _ _)
theorem first_zero (blk : List UInt8) : first blk 0 = [] := rfl
theorem first_succ (blk : List UInt8) (n : Nat) : first blk (n + 1) = first blk n ++ [word blk n] := by
  simp [first, List.range_succ]

def words : List Nat := [
  0x428a2f98, 0x71374491, 0xb5c0fbcf, 0xe9b5dba5, 0x3956c25b, 0x59f111f1, 0x923f82a4, 0xab1c5ed5,
  0xd807aa98, 0x12835b01, 0x243185be, 0x550c7dc3, 0x72be5d74, 0x80deb1fe, 0x9bdc06a7, 0xc19bf174,
  0xe49b69c1, 0xefbe4786, 0x0fc19dc6, 0x240ca1cc, 0x2de92c6f, 0x4a7484aa, 0x5cb0a9dc, 0x76f988da,
  0x983e5152, 0xa831c66d, 0xb00327c8, 0xbf597fc7, 0xc6e00bf3, 0xd5a79147, 0x06ca6351, 0x14292967,
  0x27b70a85, 0x2e1b2138, 0x4d2c6dfc, 0x53380d13, 0x650a7354, 0x766a0abb, 0x81c2c92e, 0x92722c85,
  0xa2bfe8a1, 0xa81a664b, 0xc24b8b70, 0xc76c51a3, 0xd192e819, 0xd6990624, 0xf40e3585, 0x106aa070,
  0x19a4c116, 0x1e376c08, 0x2748774c, 0x34b0bcb5, 0x391c0cb3, 0x4ed8aa4a, 0x5b9cca4f, 0x682e6ff3,
  0x748f82ee, 0x78a5636f, 0x84c87814, 0x8cc70208, 0x90befffa, 0xa4506ceb, 0xbef9a3f7, 0xc67178f2]

/-- eight words -/
structure St where
  a : Nat
  b : Nat
  c : Nat
  d : Nat
  e : Nat
  f : Nat
  g : Nat
  h : Nat
def St.list (s : St) : List Nat := [s.a, s.b, s.c, s.d, s.e, s.f, s.g, s.h]
structure St.Ok (s : St) : Prop where
  a : s.a < 4294967296
  b : s.b < 4294967296
  c : s.c < 4294967296
  d : s.d < 4294967296
  e : s.e < 4294967296
  f : s.f < 4294967296
  g : s.g < 4294967296
  h : s.h < 4294967296
def begun : St := ⟨0x6a09e667, 0xbb67ae85, 0x3c6ef372, 0xa54ff53a, 0x510e527f, 0x9b05688c, 0x1f83d9ab, 0x5be0cd19⟩
theorem begun_ok : begun.Ok := by constructor <;> decide

def t1 (s : St) (k w : Nat) : Nat :=
  ((((s.h + turned s.e [6, 11, 25]) % 4294967296 + (s.e &&& s.f ^^^ (4294967295 - s.e) &&& s.g)) % 4294967296 + k) % 4294967296 + w) % 4294967296
def t2 (s : St) : Nat := (turned s.a [2, 13, 22] + (s.a &&& s.b ^^^ s.a &&& s.c ^^^ s.b &&& s.c)) % 4294967296
def step (s : St) (k w : Nat) : St :=
  ⟨(t1 s k w + t2 s) % 4294967296, s.a, s.b, s.c, (s.d + t1 s k w) % 4294967296, s.e, s.f, s.g⟩
theorem step_ok (s : St) (k w : Nat) (h : s.Ok) : (step s k w).Ok :=
  ⟨Nat.mod_lt _ (by omega), h.a, h.b, h.c, Nat.mod_lt _ (by omega), h.e, h.f, h.g⟩
/-- the state behind so many rounds -/
def rounds (s : St) : List (Nat × Nat) → St
  | [] => s
  | (k, w) :: r => rounds (step s k w) r
theorem rounds_snoc (l : List (Nat × Nat)) : ∀ (s : St) (k w : Nat), rounds s (l ++ [(k, w)]) = step (rounds s l) k w := by
  induction l with
  | nil => intro s k w; rfl
  | cons x l ih => intro s k w; exact ih _ _ _
theorem rounds_ok (l : List (Nat × Nat)) : ∀ (s : St), s.Ok → (rounds s l).Ok := by
  induction l with
  | nil => intro s h; exact h
  | cons x l ih => intro s h; exact ih _ (step_ok _ _ _ h)
def sum (s v : St) : St :=
  ⟨(s.a + v.a) % 4294967296, (s.b + v.b) % 4294967296, (s.c + v.c) % 4294967296, (s.d + v.d) % 4294967296,
   (s.e + v.e) % 4294967296, (s.f + v.f) % 4294967296, (s.g + v.g) % 4294967296, (s.h + v.h) % 4294967296⟩
theorem sum_ok (s v : St) : (sum s v).Ok := by constructor <;> exact Nat.mod_lt _ (by omega)
/-- the state behind a block -/
def mix (s : St) (blk : List UInt8) : St := sum s (rounds s (words.zip (schedule blk)))

/-- the state behind all whole blocks, and what is left -/
def absorb : Nat → St → List UInt8 → St × List UInt8
  | 0, s, l => (s, l)
  | n + 1, s, l => if 64 ≤ l.length then absorb n (mix s (l.take 64)) (l.drop 64) else (s, l)
def run (s : St) (l : List UInt8) : St × List UInt8 := absorb l.length s l

/-- the bytes of a number, so many, the highest first -/
def bytes : Nat → Nat → List UInt8
  | 0, _ => []
  | k + 1, n => UInt8.ofNat (n / 256 ^ k % 256) :: bytes k n
def digest (s : St) : List UInt8 := s.list.flatMap (bytes 4)
/-- what comes behind a text of n bytes -/
def pad (n : Nat) : List UInt8 := 128 :: List.replicate ((119 - n % 64) % 64) 0 ++ bytes 8 (8 * n % 18446744073709551616)
def sha (l : List UInt8) : List UInt8 := digest (run begun (l ++ pad l.length)).1
end Go.Proofs.YtefbllhpibfojaaDoor.Sha

namespace Go.Proofs.YtefbllhpibfojaaDoor.Sha

theorem absorb_fuel : ∀ (n m : Nat) (s : St) (l : List UInt8), l.length ≤ n → l.length ≤ m → absorb n s l = absorb m s l := by
  intro n
  induction n with
  | zero =>
    intro m s l hn hm
    have hl : l = [] := List.eq_nil_of_length_eq_zero (by omega)
    subst hl
    cases m with
    | zero => rfl
    | succ m => simp [absorb]
  | succ n ih =>
    intro m s l hn hm
    cases m with
    | zero =>
      have hl : l = [] := List.eq_nil_of_length_eq_zero (by omega)
      subst hl
      simp [absorb]
    | succ m =>
      simp only [absorb]
      split
      · exact ih m _ _ (by rw [List.length_drop]; omega) (by rw [List.length_drop]; omega)
      · rfl
theorem run_step (s : St) (l : List UInt8) (h : 64 ≤ l.length) : run s l = run (mix s (l.take 64)) (l.drop 64) := by
  unfold run
  cases hl : l.length with
  | zero => omega
  | succ n =>
    rw [absorb, if_pos h]
    exact absorb_fuel _ _ _ _ (by rw [List.length_drop]; omega) (by omega)
theorem run_end (s : St) (l : List UInt8) (h : l.length < 64) : run s l = (s, l) := by
  unfold run
  cases hl : l.length with
  | zero => rfl
  | succ n => rw [absorb, if_neg (by omega)]
theorem run_append (x : List UInt8) : ∀ (n : Nat) (s : St) (l : List UInt8), l.length ≤ n → run s (l ++ x) = run (run s l).1 ((run s l).2 ++ x) := by
  intro n
  induction n with
  | zero =>
    intro s l hn
    rw [run_end s l (by omega)]
  | succ n ih =>
    intro s l hn
    by_cases h : 64 ≤ l.length
    · rw [run_step s l h, run_step s (l ++ x) (by rw [List.length_append]; omega), List.take_append_of_le_length h, List.drop_append_of_le_length h]
      exact ih _ _ (by rw [List.length_drop]; omega)
    · rw [run_end s l (by omega)]
theorem run_rest (n : Nat) : ∀ (s : St) (l : List UInt8), l.length ≤ n → (run s l).2.length < 64 := by
  induction n with
  | zero => intro s l hn; rw [run_end s l (by omega)]; show l.length < 64; omega
  | succ n ih =>
    intro s l hn
    by_cases h : 64 ≤ l.length
    · rw [run_step s l h]
      exact ih _ _ (by rw [List.length_drop]; omega)
    · rw [run_end s l (by omega)]; show l.length < 64; omega
theorem run_ok (n : Nat) : ∀ (s : St) (l : List UInt8), l.length ≤ n → s.Ok → (run s l).1.Ok := by
  induction n with
  | zero => intro s l hn h; rw [run_end s l (by omega)]; exact h
  | succ n ih =>
    intro s l hn hs
    by_cases h : 64 ≤ l.length
    · rw [run_step s l h]
      exact ih _ _ (by rw [List.length_drop]; omega) (sum_ok _ _)
    · rw [run_end s l (by omega)]; exact hs
theorem run_mod (n : Nat) : ∀ (s : St) (l : List UInt8), l.length ≤ n → (run s l).2.length = l.length % 64 := by
  induction n with
  | zero => intro s l hn; rw [run_end s l (by omega)]; show l.length = _; omega
  | succ n ih =>
    intro s l hn
    by_cases h : 64 ≤ l.length
    · rw [run_step s l h, ih _ _ (by rw [List.length_drop]; omega), List.length_drop]; omega
    · rw [run_end s l (by omega)]; show l.length = _; omega
theorem bytes_length (k n : Nat) : (bytes k n).length = k := by
  induction k with
  | zero => rfl
  | succ k ih => simp [bytes, ih]
theorem pad_length (n : Nat) : (pad n).length = 9 + (119 - n % 64) % 64 := by
  simp [pad, bytes_length]; omega
end Go.Proofs.YtefbllhpibfojaaDoor.Sha

namespace Go.Proofs.YtefbllhpibfojaaDoor
open Go.RowKit

theorem rotAmt (n : Nat) (h0 : 0 < n) (h : n < 32) : bits BinOp.and IntKind.u64 (IntKind.u64.wrap (-(n : Int))) 31 = ((32 - n : Nat) : Int) := by
  have : ∀ n : Fin 32, 0 < n.val → bits BinOp.and IntKind.u64 (IntKind.u64.wrap (-(n.val : Int))) 31 = ((32 - n.val : Nat) : Int) := by decide +kernel
  exact this ⟨n, h⟩ h0

theorem rot_any (x n : Nat) (hx : x < 4294967296) (h0 : 0 < n) (h : n < 32) (w : World) :
    Calls Tryd.prog 100 #[.int .u32 x, .int .i64 (-n)] w fun e w' => e = .returned (.int .u32 (Sha.rotr x n)) ∧ w = w' := by
  have H := rotAmt n h0 h
  obtain ⟨m, hm, hm1, hm2, hm3⟩ : ∃ m : Nat, m = 32 - n ∧ 0 < m ∧ m < 32 ∧ n = 32 - m := ⟨32 - n, rfl, by omega, by omega, by omega⟩
  rw [← hm] at H
  have hn : (32 : Int) - (m : Int) = (n : Int) := by omega
  have e1 : ∀ w, Sem.run Tryd.prog (Op.shift BinOp.shl IntKind.u32 (x : Int) IntKind.u64 (m : Int)) w = .ok (.int .u32 ((x * 2 ^ m % 4294967296 : Nat) : Int)) w := by
    intro w
    rw [shift_shl_u32 _ _ _ (by omega) (by omega), Int.toNat_natCast, IntKind.wrap_u32']
    simp
  have e2 : ∀ w, Sem.run Tryd.prog (Op.shift BinOp.shr IntKind.u32 (x : Int) IntKind.u64 (n : Int)) w = .ok (.int .u32 ((x / 2 ^ n : Nat) : Int)) w := by
    intro w
    rw [shift_shr_u32 _ _ _ (by omega) (by omega), Int.toNat_natCast]
    simp
  have e3 : bits .or .u32 ((x * 2 ^ m % 4294967296 : Nat) : Int) ((x / 2 ^ n : Nat) : Int) = (Sha.rotr x n : Nat) := by
    rw [u32_or_nat _ _ (Nat.mod_lt _ (by omega)) (Nat.lt_of_le_of_lt (Nat.div_le_self _ _) hx), Sha.rotr, hm]
  clear hm hm3
  go_enter Tryd.func100, Tryd.ntmps100
  go_wp2
  go_ret
  exact ⟨by rw [← e3]; simp, rfl⟩

theorem turned_any (x : Nat) (ns : List Nat) (b c : Nat) (w : World) (hx : x < 4294967296) (hns : ∀ n ∈ ns, 0 < n ∧ n < 32) (hl : ns.length < 100)
    (hc : ∀ i (h : i < ns.length), w.cell? ⟨b, i, none⟩ = some (.int .i64 ns[i])) :
    Calls Tryd.prog 93 #[.int .u32 x, .slice (some ⟨b, 0, none⟩) ns.length c] w fun e w' => e = .returned (.int .u32 (Sha.turned x ns)) ∧ w = w' := by
  go_enter Tryd.func93, Tryd.ntmps93
  go_wp2
  go_loop [4, 9] (fun t i => ∃ k : Nat, k ≤ ns.length ∧ i = .int .i64 k ∧ t = .int .u32 (Sha.turned x (ns.take k))) (fun _ i => ns.length - (intOf i).toNat)
  case atStart => exact ⟨0, Nat.zero_le _, rfl, rfl⟩
  case round =>
    obtain ⟨k, hk, rfl, rfl⟩ := hrel
    by_cases hlt : k < ns.length
    · have h1 := hns ns[k] (List.getElem_mem hlt)
      have hcell := hc k hlt
      clear hc hns
      have h2 := Sha.turned_lt x (ns.take k) hx
      have h3 := Sha.rotr_lt x ns[k] hx
      have HT := Lib.hid (take_snoc ns k hlt)
      go_wp2_with (go_at_call 100; refine (rot_any x ns[k] hx h1.1 h1.2 _).mono ?_; rintro e w' ⟨rfl, rfl⟩)
      go_round
      case rel => exact ⟨k + 1, by omega, by go_num, by rw [HT.out, Sha.turned_snoc, u32_xor_nat _ _ h2 h3]⟩
      case measure => simp [intOf]; omega
    · clear hc
      go_wp2
      go_ret
      exact ⟨by rw [List.take_of_length_le (by omega)]; rfl, rfl⟩
theorem turned_two (x n m : Nat) (n' m' : Int) (en : n' = n) (em : m' = m) (b c : Nat) (w : World) (hx : x < 4294967296) (hn : 0 < n ∧ n < 32) (hm : 0 < m ∧ m < 32)
    (h0 : w.cell? ⟨b, 0, none⟩ = some (.int .i64 n')) (h1 : w.cell? ⟨b, 1, none⟩ = some (.int .i64 m')) :
    Calls Tryd.prog 93 #[.int .u32 x, .slice (some ⟨b, 0, none⟩) 2 c] w fun e w' => e = .returned (.int .u32 (Sha.turned x [n, m])) ∧ w = w' :=
  turned_any x [n, m] b c w hx (by simp; omega) (by simp) (by
    subst en em
    intro i hi
    match i, hi with
    | 0, _ => exact h0
    | 1, _ => exact h1)
theorem turned_three (x n m k : Nat) (n' m' k' : Int) (en : n' = n) (em : m' = m) (ek : k' = k) (b c : Nat) (w : World) (hx : x < 4294967296) (hn : 0 < n ∧ n < 32) (hm : 0 < m ∧ m < 32) (hk : 0 < k ∧ k < 32)
    (h0 : w.cell? ⟨b, 0, none⟩ = some (.int .i64 n')) (h1 : w.cell? ⟨b, 1, none⟩ = some (.int .i64 m')) (h2 : w.cell? ⟨b, 2, none⟩ = some (.int .i64 k')) :
    Calls Tryd.prog 93 #[.int .u32 x, .slice (some ⟨b, 0, none⟩) 3 c] w fun e w' => e = .returned (.int .u32 (Sha.turned x [n, m, k])) ∧ w = w' :=
  turned_any x [n, m, k] b c w hx (by simp; omega) (by simp) (by
    subst en em ek
    intro i hi
    match i, hi with
    | 0, _ => exact h0
    | 1, _ => exact h1
    | 2, _ => exact h2)
theorem turned_17_19 (x b c : Nat) (w : World) (hx : x < 4294967296) (h0 : w.cell? ⟨b, 0, none⟩ = some (.int .i64 17)) (h1 : w.cell? ⟨b, 1, none⟩ = some (.int .i64 19)) :
    Calls Tryd.prog 93 #[.int .u32 x, .slice (some ⟨b, 0, none⟩) 2 c] w fun e w' => e = .returned (.int .u32 (Sha.turned x [17, 19])) ∧ w = w' :=
  turned_two x 17 19 17 19 rfl rfl b c w hx (by omega) (by omega) h0 h1
theorem turned_7_18 (x b c : Nat) (w : World) (hx : x < 4294967296) (h0 : w.cell? ⟨b, 0, none⟩ = some (.int .i64 7)) (h1 : w.cell? ⟨b, 1, none⟩ = some (.int .i64 18)) :
    Calls Tryd.prog 93 #[.int .u32 x, .slice (some ⟨b, 0, none⟩) 2 c] w fun e w' => e = .returned (.int .u32 (Sha.turned x [7, 18])) ∧ w = w' :=
  turned_two x 7 18 7 18 rfl rfl b c w hx (by omega) (by omega) h0 h1
theorem turned_6_11_25 (x b c : Nat) (w : World) (hx : x < 4294967296) (h0 : w.cell? ⟨b, 0, none⟩ = some (.int .i64 6)) (h1 : w.cell? ⟨b, 1, none⟩ = some (.int .i64 11)) (h2 : w.cell? ⟨b, 2, none⟩ = some (.int .i64 25)) :
    Calls Tryd.prog 93 #[.int .u32 x, .slice (some ⟨b, 0, none⟩) 3 c] w fun e w' => e = .returned (.int .u32 (Sha.turned x [6, 11, 25])) ∧ w = w' :=
  turned_three x 6 11 25 6 11 25 rfl rfl rfl b c w hx (by omega) (by omega) (by omega) h0 h1 h2
theorem turned_2_13_22 (x b c : Nat) (w : World) (hx : x < 4294967296) (h0 : w.cell? ⟨b, 0, none⟩ = some (.int .i64 2)) (h1 : w.cell? ⟨b, 1, none⟩ = some (.int .i64 13)) (h2 : w.cell? ⟨b, 2, none⟩ = some (.int .i64 22)) :
    Calls Tryd.prog 93 #[.int .u32 x, .slice (some ⟨b, 0, none⟩) 3 c] w fun e w' => e = .returned (.int .u32 (Sha.turned x [2, 13, 22])) ∧ w = w' :=
  turned_three x 2 13 22 2 13 22 rfl rfl rfl b c w hx (by omega) (by omega) (by omega) h0 h1 h2
end Go.Proofs.YtefbllhpibfojaaDoor
