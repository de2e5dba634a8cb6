/- Layer 12, the texts Lib to SkyP joined: what the functions that a scout reaches do with memory, each told once. -/
import Derived.Test.YtghefmppjdneoaaChecked
import Derived.WalkKit
import Derived.ProofKit
import Derived.Lib.Hide
import Derived.Deep.MidRow
import Derived.Deep.Draws
import Derived.Maps.AppendAt
import Derived.Lib.ConvBytes
import Derived.Maps.Own
import Derived.Lib.SlKeysI
namespace Go.Proofs.Ytghefmppjdneoaa
open Go.RowKit

/-- Block b of the world holds just these cells, of element type t, none of them frozen. -/
def At (w : World) (b : Nat) (t : TypeId) (cs : List Value) : Prop := w.heap[b]? = some (.cells cs.toArray t (0, 0))

section
variable {w w' : World} {b : Nat} {t : TypeId} {cs : List Value}
theorem At.lt (h : At w b t cs) : b < w.heap.size := by
  by_cases hlt : b < w.heap.size
  · exact hlt
  · unfold At at h
    rw [Array.getElem?_eq_none (by omega)] at h
    cases h
theorem At.cell (h : At w b t cs) (i : Nat) : w.cell? ⟨b, i, none⟩ = cs[i]? := by
  unfold At at h
  simp [World.cell?, h]
theorem At.cell' (h : At w b t cs) {i : Nat} {v : Value} (hv : cs[i]? = some v) : w.cell? ⟨b, i, none⟩ = some v := (h.cell i).trans hv
theorem At.frozen (h : At w b t cs) (i : Nat) : w.frozen? ⟨b, i, none⟩ = false := by
  unfold At at h
  simp [World.frozen?, h]
theorem At.new (w : World) (t : TypeId) (cs : List Value) : At (w.alloc (.cells cs.toArray t (0, 0))) w.heap.size t cs := by
  show (w.heap.push _)[w.heap.size]? = _
  simp
theorem At.newA (w : World) (t : TypeId) {C : Array Value} {cs : List Value} (h : C = cs.toArray) : At (w.alloc (.cells C t (0, 0))) w.heap.size t cs := by
  subst h
  exact At.new w t cs
theorem At.drew (h : At w b t cs) : At w.drew b t cs := h
theorem At.alloc (h : At w b t cs) (o : Obj) : At (w.alloc o) b t cs := by
  have hl := h.lt
  show (w.heap.push o)[b]? = _
  rw [Array.getElem?_push, if_neg (by omega)]
  exact h
theorem At.set (h : At w b t cs) (i : Nat) (v : Value) : At (w.setCell ⟨b, i, none⟩ v) b t (cs.set i v) := by
  unfold At at h ⊢
  simp [World.setCell, Array.getElem?_modify, h]
theorem At.far (h : At w b t cs) {p : Addr} (hp : p.block ≠ b) (v : Value) : At (w.setCell p v) b t cs := by
  unfold At at h ⊢
  simp only [World.setCell, Array.getElem?_modify]
  rw [if_neg (by omega)]
  exact h
theorem At.below {B : Nat} (h : At w b t cs) (hb : Below B w w') (hlt : b < B) : At w' b t cs := (hb.block b hlt).trans h
theorem At.inj {t' : TypeId} {cs' : List Value} (h : At w b t cs) (h' : At w b t' cs') : cs = cs' := by
  unfold At at h h'
  rw [h] at h'
  simpa using (by injection h' with h'; injection h' : cs.toArray = cs'.toArray)
end
theorem cellOf_below {w w' : World} {B : Nat} (hb : Below B w w') {a : Addr} (ha : a.block < B) : w'.cell? a = w.cell? a := hb.cell ha

theorem stored_some {P : Program} {w : World} {a : Addr} {v : Value} {m : Mode} (hc : (w.cell? a).isSome = true) (hf : w.frozen? a = false) : stored P w a v m = .ok () (w.setCell a v) := by
  obtain ⟨u, hu⟩ := Option.isSome_iff_exists.1 hc
  simp [stored, hu, hf]
theorem cell_set_ne (w : World) (b i j : Nat) (v : Value) (h : j ≠ i) : (w.setCell ⟨b, j, none⟩ v).cell? ⟨b, i, none⟩ = w.cell? ⟨b, i, none⟩ :=
  World.cell?_setCell_other _ _ _ _ (by intro e; injection e; omega)
theorem heap_set (w : World) (a : Addr) (v : Value) (k : Nat) : (w.setCell a v).heap[k]? =
    (if a.block = k then (w.heap[k]?).map (fun
      | .cells c elem frozen => .cells (if a.spot.isSome then c else c.setIfInBounds a.off v) elem frozen
      | o => o) else w.heap[k]?) := by
  simp only [World.setCell, Array.getElem?_modify]
  rfl
theorem frozen_set (w : World) (a : Addr) (v : Value) (c : Addr) : (w.setCell a v).frozen? c = w.frozen? c := by
  unfold World.frozen?
  rw [heap_set]
  by_cases hk : a.block = c.block
  · rw [if_pos hk]
    cases w.heap[c.block]? with
    | none => rfl
    | some o => cases o <;> rfl
  · rw [if_neg hk]
theorem isSome_set (w : World) (a : Addr) (v : Value) (c : Addr) : ((w.setCell a v).cell? c).isSome = (w.cell? c).isSome := by
  unfold World.cell?
  rw [heap_set]
  by_cases hk : a.block = c.block
  · rw [if_pos hk]
    cases w.heap[c.block]? with
    | none => rfl
    | some o =>
      cases o <;> try rfl
      simp only [Option.map_some]
      cases c.spot.isSome
      · cases a.spot.isSome
        · simp only [Bool.false_eq_true, if_false, Array.getElem?_setIfInBounds]
          split
          · split
            · simp; omega
            · simp; omega
          · rfl
        · rfl
      · rfl
  · rw [if_neg hk]

/-- what lies in a cell, whatever it is: for a cell that is about to be written -/
def valAt (w : World) (b i : Nat) : Value := (w.cell? ⟨b, i, none⟩).getD undef
theorem valAt_some {w : World} {b i : Nat} (h : (w.cell? ⟨b, i, none⟩).isSome = true) : w.cell? ⟨b, i, none⟩ = some (valAt w b i) := by
  obtain ⟨v, hv⟩ := Option.isSome_iff_exists.1 h
  simp [valAt, hv]

theorem take_snoc {α : Type} (l : List α) (k : Nat) (h : k < l.length) : l.take (k + 1) = l.take k ++ [l[k]] := List.take_succ_eq_append_getElem h
theorem ret_int {k : IntKind} {a b : Int} (h : a = b) : Ending.returned (.int k a) = .returned (.int k b) := by rw [h]
theorem ret_val {a b : Value} (h : a = b) : Ending.returned a = .returned b := by rw [h]

theorem At.setCells {b : Nat} {t : TypeId} : ∀ (vs : List Value) (o : Nat) {w : World} {cs : List Value}, At w b t cs → o + vs.length ≤ cs.length →
    At (w.setCells b o vs) b t (cs.take o ++ vs ++ cs.drop (o + vs.length))
  | [], o, w, cs, h, _ => by simpa [World.setCells] using h
  | v :: r, o, w, cs, h, hl => by
    have hl' : o + 1 + r.length ≤ cs.length := by simp at hl; omega
    have := At.setCells r (o + 1) (h.set o v) (by simpa using hl')
    have e : (cs.set o v).take (o + 1) ++ r ++ (cs.set o v).drop (o + 1 + r.length) = cs.take o ++ (v :: r) ++ cs.drop (o + (v :: r).length) := by
      have ho : o < cs.length := by omega
      rw [List.take_succ_eq_append_getElem (by simpa using ho), List.take_set, List.drop_set, if_pos (by omega)]
      simp [show o + 1 + r.length = o + (r.length + 1) from by omega]
      exact List.set_eq_of_length_le (by simp; omega)
    rw [e] at this
    exact this
theorem At.setAll {w : World} {b : Nat} {t : TypeId} {cs vs : List Value} (h : At w b t cs) (hl : vs.length = cs.length) : At (w.setCells b 0 vs) b t vs := by
  have := At.setCells vs 0 h (by omega)
  simpa [hl] using this
theorem grown_setCells (b : Nat) : ∀ (vs : List Value) (o : Nat) (w0 w : World), w0.grownBy w (some b) → w0.grownBy (w.setCells b o vs) (some b)
  | [], _, _, _, h => h
  | v :: r, o, w0, w, h => grown_setCells b r (o + 1) w0 _ ⟨h.os, h.tape, h.output, by simpa [World.setCell] using h.size, fun i hi hne => by
      rw [heap_set, if_neg (by intro e; exact hne (by rw [← e]))]
      exact h.block i hi hne⟩
theorem At.there {w : World} {b : Nat} {t : TypeId} {cs : List Value} (h : At w b t cs) (o n : Nat) (hl : o + n ≤ cs.length) : w.there b o n := fun j hj => by
  constructor
  · rw [h.cell, List.getElem?_eq_getElem (by omega)]
    rfl
  · exact h.frozen _
theorem At.range {w : World} {b : Nat} {t : TypeId} {cs : List Value} (h : At w b t cs) (o n : Nat) : w.rangeAt b o ((cs.drop o).take n) := fun j v hv => by
  rw [h.cell, ← hv, List.getElem?_take]
  split
  · rw [List.getElem?_drop]
  · rename_i hj
    rw [List.getElem?_take, if_neg hj] at hv
    cases hv

section
variable {P : Program} {ops : Array Oper} {rest : List Oper} {o : Oper} {a : Act} {w : World} {Q : Exit → Act → World → Prop}
/-- a whole array or struct read out of a variable -/
theorem wpList_loadAll (hgd : o.guard = none) (ty : TypeId) (x : Operand) (ho : o.op = .load ty x) (g : Nat) (hx : a.eval x = .pointer (some ⟨g, 0, none⟩)) (t : TypeId) (cs : List Value) (d : TypeDesc)
    (hg : At w g t cs) (hu : P.underlying ty = some d) (hd : (match d with | .struct _ | .array _ _ => true | _ => false) = true) (hi : (P.info? ty).map (·.size) = some cs.length)
    (h : wpList P ops Q rest (a.put o.dst (.agg cs.toArray)) w) : wpList P ops Q (o :: rest) a w :=
  wpList_load_row hgd ty x ho g hx t cs.toArray (0, 0) d hg hu hd (by simpa using hi) h
/-- a whole array or struct written into a variable -/
theorem wpList_storeAll (hgd : o.guard = none) (ty : TypeId) (x y : Operand) (ho : o.op = .store ty x y) (g : Nat) (hx : a.eval x = .pointer (some ⟨g, 0, none⟩)) (t : TypeId) (cs new : List Value)
    (hg : At w g t cs) (hy : a.eval y = .agg new.toArray) (hl : new.length = cs.length) (hi : (P.info? ty).map (·.size) = some new.length) (h1 : ∀ v ∈ new, v.oneCell' = true)
    (h : ∀ w', At w' g t new → w.grownBy w' (some g) → w'.heap.size = w.heap.size → wpList P ops Q rest (a.put o.dst undef) w') : wpList P ops Q (o :: rest) a w := by
  refine wpList_store_mid hgd ty x y ho g 0 new.toArray hx hy (hg.there 0 _ (by simp; omega)) (by simpa using hi) (all_oneCell_toArray h1) ?_
  refine h _ ?_ ?_ ?_
  · have := hg.setAll hl
    simpa using this
  · exact grown_setCells g _ 0 w w (World.grownBy.refl w _)
  · have hs : ∀ (vs : List Value) (o : Nat) (w : World), (w.setCells g o vs).heap.size = w.heap.size := by
      intro vs
      induction vs with
      | nil => intro o w; rfl
      | cons v r ih => intro o w; rw [World.setCells, ih]; simp [World.setCell]
    exact hs _ _ _
end
theorem ret_cellAll {P : Program} {fn : Func} {R : Ending → World → Prop} {a : Act} {w : World} {p : Tmp} {ty : TypeId} (hr : fn.results = #[.cell p ty]) (hd : a.defers = []) (g : Nat) (t : TypeId) (cs : List Value) (d : TypeDesc)
    (hp : a.tmps.getD p undef = .pointer (some ⟨g, 0, none⟩)) (hg : At w g t cs) (hu : P.underlying ty = some d) (hdd : (match d with | .struct _ | .array _ _ => true | _ => false) = true)
    (hi : (P.info? ty).map (·.size) = some cs.length) (hR : R (.returned (.agg cs.toArray)) w) : bodyPost P fn R .ret a w :=
  bodyPost_ret (results_cell_row hr a.tmps w g t cs.toArray (0, 0) d hp hg hu hdd (by simpa using hi)) hd hR

theorem bytes_length (s : ByteArray) : s.data.toList.length = s.size := by cases s; rfl

theorem ofInt_u32 (a : Nat) (ha : a < 4294967296) : (BitVec.ofInt 32 (a : Int)).toNat = a := by
  rw [BitVec.ofInt_natCast, BitVec.toNat_ofNat]; exact Nat.mod_eq_of_lt (by omega)
theorem u32_xor_nat (a b : Nat) (ha : a < 4294967296) (hb : b < 4294967296) : bits .xor .u32 (a : Int) (b : Int) = ((a ^^^ b : Nat) : Int) := by
  have hx : a ^^^ b < 2 ^ 32 := Nat.xor_lt_two_pow (by omega) (by omega)
  show IntKind.u32.wrap ((BitVec.ofInt 32 (a : Int) ^^^ BitVec.ofInt 32 (b : Int)).toNat : Int) = _
  rw [BitVec.toNat_xor, ofInt_u32 a ha, ofInt_u32 b hb, IntKind.wrap_u32']
  omega
theorem u32_and_nat (a b : Nat) (ha : a < 4294967296) (hb : b < 4294967296) : bits .and .u32 (a : Int) (b : Int) = ((a &&& b : Nat) : Int) := by
  have hx : a &&& b < 2 ^ 32 := Nat.and_lt_two_pow _ (by omega)
  show IntKind.u32.wrap ((BitVec.ofInt 32 (a : Int) &&& BitVec.ofInt 32 (b : Int)).toNat : Int) = _
  rw [BitVec.toNat_and, ofInt_u32 a ha, ofInt_u32 b hb, IntKind.wrap_u32']
  omega
theorem u32_or_nat (a b : Nat) (ha : a < 4294967296) (hb : b < 4294967296) : bits .or .u32 (a : Int) (b : Int) = ((a ||| b : Nat) : Int) := by
  have hx : a ||| b < 2 ^ 32 := Nat.or_lt_two_pow (by omega) (by omega)
  show IntKind.u32.wrap ((BitVec.ofInt 32 (a : Int) ||| BitVec.ofInt 32 (b : Int)).toNat : Int) = _
  rw [BitVec.toNat_or, ofInt_u32 a ha, ofInt_u32 b hb, IntKind.wrap_u32']
  omega
end Go.Proofs.Ytghefmppjdneoaa

namespace Go.Proofs.Ytghefmppjdneoaa
open Go.RowKit

theorem At.grown {w w' : World} {b : Nat} {t : TypeId} {cs : List Value} {row : Option Nat} (h : At w b t cs) (hg : w.grownBy w' row) (hne : some b ≠ row) : At w' b t cs := (hg.block b h.lt hne).trans h
/-- a variable that reads as these cells, whatever its type and its marks -/
def Tab (w : World) (b : Nat) (cs : List Value) : Prop := ∃ t fr, w.heap[b]? = some (.cells cs.toArray t fr)
section
variable {w w' : World} {b : Nat} {cs : List Value}
theorem Tab.lt (h : Tab w b cs) : b < w.heap.size := by
  obtain ⟨t, fr, h⟩ := h
  by_cases hlt : b < w.heap.size
  · exact hlt
  · rw [Array.getElem?_eq_none (by omega)] at h
    cases h
theorem Tab.cell' (h : Tab w b cs) {i : Nat} {v : Value} (hv : cs[i]? = some v) : w.cell? ⟨b, i, none⟩ = some v := by
  obtain ⟨t, fr, h⟩ := h
  simp [World.cell?, h, hv]
theorem Tab.below {B : Nat} (h : Tab w b cs) (hb : Below B w w') (hlt : b < B) : Tab w' b cs := by
  obtain ⟨t, fr, h⟩ := h
  exact ⟨t, fr, (hb.block b hlt).trans h⟩
theorem Tab.grown {row : Option Nat} (h : Tab w b cs) (hg : w.grownBy w' row) (hne : some b ≠ row) : Tab w' b cs := by
  have hl := h.lt
  obtain ⟨t, fr, h⟩ := h
  exact ⟨t, fr, (hg.block b hl hne).trans h⟩
end
theorem Below.ofGrown {w0 w w' : World} {B : Nat} {row : Nat} (h : Below B w0 w) (hg : w.grownBy w' (some row)) (hB : B ≤ w.heap.size) (hr : B ≤ row) : Below B w0 w' :=
  h.grown hg hB (by intro k hk; injection hk; omega)
theorem grown_setCell {w0 w : World} {g : Nat} (h : w0.grownBy w (some g)) {q : Addr} (hq : q.block = g ∨ w0.heap.size ≤ q.block) (v : Value) : w0.grownBy (w.setCell q v) (some g) :=
  ⟨h.os, h.tape, h.output, by have := h.size; simpa [World.setCell] using this, fun i hi hne => by
    rw [heap_set, if_neg (by
      intro e
      rcases hq with hq | hq
      · exact hne (by rw [← e, hq])
      · omega)]
    exact h.block i hi hne⟩
theorem grown_alloc {w0 w : World} {row : Option Nat} (h : w0.grownBy w row) (o : Obj) : w0.grownBy (w.alloc o) row :=
  ⟨h.os, h.tape, h.output, Nat.le_trans h.size (by simp), fun i hi hne => (Below.heap_alloc w o i (Nat.lt_of_lt_of_le hi h.size)).trans (h.block i hi hne)⟩
theorem grown_drew {w0 w : World} {row : Option Nat} (h : w0.grownBy w row) : w0.grownBy w.drew row := ⟨h.os, h.tape, h.output, h.size, h.block⟩
theorem grown_trans {a b c : World} {g : Nat} (h : a.grownBy b (some g)) (k : b.grownBy c (some g)) : a.grownBy c (some g) :=
  ⟨k.os.trans h.os, k.tape.trans h.tape, k.output.trans h.output, Nat.le_trans h.size k.size, fun i hi hne => (k.block i (Nat.lt_of_lt_of_le hi h.size) hne).trans (h.block i hi hne)⟩
theorem grown_below {a b c : World} {row : Option Nat} (h : a.grownBy b row) (k : Below b.heap.size b c) : a.grownBy c row :=
  ⟨k.os.trans h.os, k.tape.trans h.tape, k.output.trans h.output, Nat.le_trans h.size k.size, fun i hi hne => (k.block i (Nat.lt_of_lt_of_le hi h.size)).trans (h.block i hi hne)⟩

/-- a[k] of an array by value, whose elements are of one cell each -/
theorem run_index_arr {P : Program} (w : World) (t e n : Nat) (k : IntKind) (i : Nat) (cs : Array Value) (v : Value) (ht : P.underlying t = some (.array n e)) (hs : (P.info? e).map (·.size) = some 1)
    {kk : IntKind} (hu : P.underlying e = some (.int kk)) (hi : i < n) (hv : cs[i]? = some v) :
    (Instr.index t (.agg cs) (.int k (i : Int))).run P w = .ok v w := by
  cases hq : P.info? e with
  | none => simp [hq] at hs
  | some j =>
    have hj : j.size = 1 := by simpa [hq] using hs
    have h0 : (0 : Int) ≤ i ∧ (i : Int) < n := ⟨by omega, by omega⟩
    simp only [Instr.index, asIntOf, Sem.run_bind, Sem.run_pure, Result.andThen_ok, run_underlying ht, h0, and_self, if_true]
    simp [sizeOf, typeInfo, hq, hj]
    simp [part, isAgg, run_underlying hu, hv]
end Go.Proofs.Ytghefmppjdneoaa

namespace Go.Proofs.Ytghefmppjdneoaa
open Go.RowKit

theorem heap_setCells {b : Nat} {t : TypeId} {fr : Nat × Nat} : ∀ (vs : List Value) (o : Nat) {w : World} {cur : List Value}, w.heap[b]? = some (.cells cur.toArray t fr) → o + vs.length ≤ cur.length →
    (w.setCells b o vs).heap[b]? = some (.cells (cur.take o ++ vs ++ cur.drop (o + vs.length)).toArray t fr)
  | [], o, w, cur, h, _ => by simpa [World.setCells] using h
  | v :: r, o, w, cur, h, hl => by
    have hl' : o + 1 + r.length ≤ (cur.set o v).length := by simp at hl ⊢; omega
    have h' : (w.setCell ⟨b, o, none⟩ v).heap[b]? = some (.cells (cur.set o v).toArray t fr) := by
      simp [World.setCell, Array.getElem?_modify, h]
    have := heap_setCells r (o + 1) h' hl'
    have e : (cur.set o v).take (o + 1) ++ r ++ (cur.set o v).drop (o + 1 + r.length) = cur.take o ++ (v :: r) ++ cur.drop (o + (v :: r).length) := by
      have ho : o < cur.length := by simp at hl; omega
      rw [List.take_succ_eq_append_getElem (by simpa using ho), List.take_set, List.drop_set, if_pos (by omega)]
      simp [show o + 1 + r.length = o + (r.length + 1) from by omega]
      exact List.set_eq_of_length_le (by simp; omega)
    rw [e] at this
    exact this

/-- the slice value owns these cells (n elements of 'size' cells each), in a row of the call's own, from block 'base' on -/
def Own (w : World) (base : Nat) (e : TypeId) (size : Nat) (v : Value) (n : Nat) (xs : List Value) : Prop :=
  xs.length = n * size ∧
  ((v = .slice none 0 0 ∧ n = 0) ∨
   ∃ g cap cur fr, v = .slice (some ⟨g, 0, none⟩) n cap ∧ base ≤ g ∧ w.heap[g]? = some (.cells (List.toArray cur) e fr) ∧ (∀ i, i < cur.length → (decide (fr.1 ≤ i) && decide (i < fr.2)) = false) ∧ n ≤ cap ∧ cap ≤ maxLen ∧ cur.length = cap * size ∧ cur.take (n * size) = xs)

section
variable {w w' : World} {base : Nat} {e : TypeId} {size : Nat} {v : Value} {n : Nat} {xs : List Value}
theorem Own.nil (w : World) (base : Nat) (e : TypeId) (size : Nat) : Own w base e size (.slice none 0 0) 0 [] := ⟨by simp, .inl ⟨rfl, rfl⟩⟩
theorem Own.lt (h : Own w base e size v n xs) : ∀ k, v.ownBlock = some k → base ≤ k ∧ k < w.heap.size := by
  intro k hk
  rcases h.2 with ⟨rfl, _⟩ | ⟨g, cap, cur, fr, rfl, hb, hg, _⟩
  · simp [Value.ownBlock] at hk
  · simp [Value.ownBlock] at hk
    subst hk
    exact ⟨hb, (Array.getElem?_eq_some_iff.1 hg).1⟩
theorem Own.keep (h : Own w base e size v n xs) (hk : ∀ g, v.ownBlock = some g → w'.heap[g]? = w.heap[g]?) : Own w' base e size v n xs := by
  refine ⟨h.1, ?_⟩
  rcases h.2 with hn | ⟨g, cap, cur, fr, rfl, hb, hgg, rest⟩
  · exact .inl hn
  · exact .inr ⟨g, cap, cur, fr, rfl, hb, (hk g rfl).trans hgg, rest⟩
theorem Own.grown {row : Option Nat} (h : Own w base e size v n xs) (hg : w.grownBy w' row) (hne : v.ownBlock = none ∨ v.ownBlock ≠ row) : Own w' base e size v n xs :=
  h.keep fun g hv => hg.block g (h.lt g hv).2 (by
    rcases hne with hn | hn
    · rw [hn] at hv; cases hv
    · rw [← hv]; exact hn)
theorem Own.below (h : Own w base e size v n xs) (hb : Below w.heap.size w w') : Own w' base e size v n xs :=
  h.keep fun g hv => hb.block g (h.lt g hv).2
theorem Own.alloc (h : Own w base e size v n xs) (o : Obj) : Own (w.alloc o) base e size v n xs :=
  h.keep fun g hv => Below.heap_alloc w o g (h.lt g hv).2
theorem Own.drew (h : Own w base e size v n xs) : Own w.drew base e size v n xs := h
theorem Own.cellAt (h : Own w base e size v n xs) {g : Nat} (hg : v.ownBlock = some g) (j : Nat) (hj : j < n * size) : w.cell? ⟨g, j, none⟩ = xs[j]? := by
  rcases h.2 with ⟨rfl, _⟩ | ⟨g', cap, cur, fr, rfl, _, hgg, _, _, _, _, htake⟩
  · simp [Value.ownBlock] at hg
  · simp [Value.ownBlock] at hg
    subst hg
    rw [← htake, List.getElem?_take, if_pos hj]
    simp [World.cell?, hgg]
theorem Own.form (h : Own w base e size v n xs) (hn : 0 < n) : ∃ g cap, v = .slice (some ⟨g, 0, none⟩) n cap ∧ base ≤ g ∧ g < w.heap.size ∧ n ≤ cap ∧ cap ≤ maxLen := by
  rcases h.2 with ⟨_, h0⟩ | ⟨g, cap, cur, fr, rfl, hb, hg, _, hc, hm, _⟩
  · omega
  · exact ⟨g, cap, rfl, hb, (Array.getElem?_eq_some_iff.1 hg).1, hc, hm⟩
/-- a new row, of so many elements -/
theorem Own.made (w : World) (e : TypeId) (size : Nat) (cur : List Value) (n cap : Nat) (hb : base ≤ w.heap.size) (hn : n ≤ cap) (hm : cap ≤ maxLen) (hs : cur.length = cap * size) :
    Own (w.alloc (.cells cur.toArray e)) base e size (.slice (some ⟨w.heap.size, 0, none⟩) n cap) n (cur.take (n * size)) := by
  refine ⟨?_, .inr ⟨w.heap.size, cap, cur, (0, 0), rfl, hb, heap_alloc_new w _, fun i _ => by simp, hn, hm, hs, rfl⟩⟩
  rw [List.length_take, hs, Nat.min_eq_left (Nat.mul_le_mul_right _ hn)]
end

section
variable {P : Program} (w : World)
theorem run_append_Own (base : Nat) (t ty e : TypeId) (i : TypeInfo) (z : Value) (size bytes : Nat) (ht : P.underlying t = some (.slice e)) (hi : P.info? e = some i) (hz : i.zero = some z)
    (hsize : i.size = size) (hby : i.bytes = bytes) (hzs : z.cells.size = size) (hsz : 0 < size)
    (v : Value) (n : Nat) (xs : List Value) (hown : Own w base e size v n xs)
    (a : Addr) (m c : Nat) (news : List Value) (hl : news.length = m * size) (hnews : ∀ j u, news[j]? = some u → w.cell? (a.add j) = some u) (h1 : ∀ u ∈ news, u.oneCell' = true)
    (h63 : n + m ≤ maxLen) (hbytes : (n + m) * bytes ≤ 140737488355328) (hbase : base ≤ w.heap.size) :
    ∃ v' w', (Builtin.append_ #[t, t] ty #[v, .slice (some a) m c]).run P w = .ok v' w' ∧ Own w' base e size v' (n + m) (xs ++ news) ∧ w.grownBy w' v.ownBlock ∧
      (v' = .slice none 0 0 ↔ v = .slice none 0 0 ∧ m = 0) ∧ (v'.ownBlock = v.ownBlock ∨ v'.ownBlock = some w.heap.size) := by
  subst hsize
  subst hby
  have hsmall : n + m ≤ 9223372036854775807 := by simp only [maxLen] at h63; omega
  have hlen : (xs ++ news).length = (n + m) * i.size := by rw [List.length_append, hown.1, hl, Nat.add_mul]
  have grown : ∀ (old : Nat), ∀ (row : Option Nat),
      Own (w.drew.alloc (.cells (xs.toArray ++ news.toArray ++ Builtin.zeroCells z.cells (grownCap w (n + m) old e - (n + m))) e)) base e i.size
        (.slice (some ⟨w.heap.size, 0, none⟩) (n + m) (grownCap w (n + m) old e)) (n + m) (xs ++ news) ∧
      w.grownBy (w.drew.alloc (.cells (xs.toArray ++ news.toArray ++ Builtin.zeroCells z.cells (grownCap w (n + m) old e - (n + m))) e)) row := by
    intro old row
    have hge := grownCap_ge w (n + m) old e
    have hcm : grownCap w (n + m) old e ≤ maxLen := grownCap_le_maxLen w (n + m) old e h63
    refine ⟨⟨hlen, .inr ⟨w.heap.size, _, (xs.toArray ++ news.toArray ++ Builtin.zeroCells z.cells (grownCap w (n + m) old e - (n + m))).toList, (0, 0), rfl, hbase, ?_, fun i _ => by simp, hge, hcm, ?_, ?_⟩⟩,
      ⟨rfl, rfl, rfl, by simp, fun k hk _ => Below.heap_alloc w.drew _ k hk⟩⟩
    · rw [Array.toArray_toList]
      exact heap_alloc_new w.drew _
    · simp only [Array.length_toList, Array.size_append, List.size_toArray, size_zeroCells, hzs, hown.1, hl, ← Nat.add_mul]
      congr 1
      omega
    · simp only [Array.toList_append, List.append_assoc]
      rw [← List.append_assoc, ← hlen]
      exact List.take_left
  rcases hown.2 with ⟨rfl, rfl⟩ | ⟨g, cap, cur, fr, rfl, hbg, hg, hfr, hnc, hcm, hcs, htake⟩
  · have hx : xs = [] := List.eq_nil_of_length_eq_zero (by simpa using hown.1)
    subst hx
    by_cases hm : m = 0
    · subst hm
      have hn : news = [] := List.eq_nil_of_length_eq_zero (by simpa using hl)
      subst hn
      refine ⟨.slice none 0 0, w, ?_, Own.nil w base e i.size, ⟨rfl, rfl, rfl, Nat.le_refl _, fun _ _ _ => rfl⟩, by simp, .inl rfl⟩
      simp [Builtin.append_, run_underlying ht, sizeOf, typeInfo, hi, Builtin.lenOf, Builtin.firstCells, loadCells, loadCellsFrom]
    · have hr := run_append_nil (P := P) w t ty e i z ht hi hz a m c news hl hnews (by omega) (by omega) (by have hb := hbytes; simp only [Nat.zero_add] at hb; omega)
      have hgr := grown 0 (Value.ownBlock (.slice none 0 0))
      simp only [Nat.zero_add, List.nil_append, Array.empty_append] at hgr ⊢
      exact ⟨_, _, hr, hgr.1, hgr.2, by simp [hm], .inr rfl⟩
  · by_cases hroom : n + m ≤ cap
    · have hfit : n * i.size + news.length ≤ cur.length := by rw [hl, hcs, ← Nat.add_mul]; exact Nat.mul_le_mul_right _ hroom
      have hcell : ∀ j, j < cur.length → (w.cell? ⟨g, j, none⟩).isSome = true := fun j hj => by simp [World.cell?, hg, hj]
      have hfz : ∀ j, j < cur.length → w.frozen? ⟨g, j, none⟩ = false := fun j hj => by
        have := hfr j hj
        simp only [World.frozen?, hg]
        exact this
      have hf := run_firstCells_some (P := P) w i.size m a m c news hl hnews
      have hst := run_storeCells_cells (P := P) g (n * i.size) news 0 w (fun j hj => by simpa using hcell _ (by omega)) (fun j hj => by simpa using hfz _ (by omega)) h1
      simp only [Nat.add_zero] at hst
      refine ⟨.slice (some ⟨g, 0, none⟩) (n + m) cap, w.setCells g (n * i.size) news, ?_, ⟨hlen, .inr ⟨g, cap, _, fr, rfl, hbg, heap_setCells news (n * i.size) hg hfit, ?_, hroom, hcm, ?_, ?_⟩⟩, grown_setCells g _ _ w w (World.grownBy.refl w _), by simp, .inl rfl⟩
      · simp [Builtin.append_, run_underlying ht, sizeOf, typeInfo, hi, Builtin.lenOf, hroom, hf, Addr.add_lit, hst]
      · intro j hj
        refine hfr j ?_
        simp at hj
        omega
      · simp
        omega
      · rw [htake, ← hlen]
        exact List.take_left
    · have holds : ∀ j u, xs[j]? = some u → w.cell? ((⟨g, 0, none⟩ : Addr).add j) = some u := by
        intro j u hu
        have hj : j < n * i.size := by
          have := (List.getElem?_eq_some_iff.1 hu).1
          have h0 := hown.1
          omega
        have hadd : (⟨g, 0, none⟩ : Addr).add j = ⟨g, j, none⟩ := by unfold Addr.add; split <;> simp_all
        rw [hadd, hown.cellAt rfl j hj]
        exact hu
      have hr := run_append_grow (P := P) w t ty e i z ht hi hz ⟨g, 0, none⟩ n cap xs hown.1 holds a m c news hl hnews (by omega) (by omega) (growslice_fits (by omega) hbytes)
      have hgr := grown cap (Value.ownBlock (.slice (some ⟨g, 0, none⟩) n cap))
      exact ⟨_, _, hr, hgr.1, hgr.2, by simp, .inr rfl⟩

theorem wp_append_Own {o : Oper} {a : Act} {K : Act → World → Prop} {Q : Exit → Act → World → Prop} (s x : Operand) (t : TypeId)
    (ho : o.op = .call { callee := .builtin .append, args := #[s, x], argTypes := #[t, t] })
    (base : Nat) (e : TypeId) (i : TypeInfo) (z : Value) (size bytes : Nat) (ht : P.underlying t = some (.slice e)) (hi : P.info? e = some i) (hz : i.zero = some z)
    (hsize : i.size = size) (hby : i.bytes = bytes) (hzs : z.cells.size = size) (hsz : 0 < size)
    (v : Value) (n : Nat) (xs : List Value) (hs : a.eval s = v) (hown : Own w base e size v n xs)
    (ad : Addr) (m c : Nat) (news : List Value) (hx : a.eval x = .slice (some ad) m c) (hl : news.length = m * size) (hnews : ∀ j u, news[j]? = some u → w.cell? (ad.add j) = some u) (h1 : ∀ u ∈ news, u.oneCell' = true)
    (h63 : n + m ≤ maxLen) (hbytes : (n + m) * bytes ≤ 140737488355328) (hbase : base ≤ w.heap.size)
    (h : ∀ v' w', Own w' base e size v' (n + m) (xs ++ news) → w.grownBy w' v.ownBlock → (v'.ownBlock = v.ownBlock ∨ v'.ownBlock = some w.heap.size) → K (a.put o.dst v') w') : o.wp P a w K Q := by
  obtain ⟨v', w', hr, h2, h3, _, h5⟩ := run_append_Own (P := P) w base t o.type e i z size bytes ht hi hz hsize hby hzs hsz v n xs hown ad m c news hl hnews h1 h63 hbytes hbase
  unfold Oper.wp execOp
  simp only [ho, resolve, invoke, builtin, Sem.run_bind, Sem.run_pure, Result.andThen_ok, List.map_toArray, List.map_cons, List.map_nil, hs, hx, hr]
  exact h v' w' h2 h3 h5

theorem wpList_append_Own {ops : Array Oper} {rest : List Oper} {o : Oper} {a : Act} {Q : Exit → Act → World → Prop} (hgd : o.guard = none) (s x : Operand) (t : TypeId)
    (ho : o.op = .call { callee := .builtin .append, args := #[s, x], argTypes := #[t, t] })
    (base : Nat) (e : TypeId) (i : TypeInfo) (z : Value) (size bytes : Nat) (ht : P.underlying t = some (.slice e)) (hi : P.info? e = some i) (hz : i.zero = some z)
    (hsize : i.size = size) (hby : i.bytes = bytes) (hzs : z.cells.size = size) (hsz : 0 < size)
    (v : Value) (n : Nat) (xs : List Value) (hs : a.eval s = v) (hown : Own w base e size v n xs)
    (ad : Addr) (m c : Nat) (news : List Value) (hx : a.eval x = .slice (some ad) m c) (hl : news.length = m * size) (hnews : ∀ j u, news[j]? = some u → w.cell? (ad.add j) = some u) (h1 : ∀ u ∈ news, u.oneCell' = true)
    (h63 : n + m ≤ maxLen) (hbytes : (n + m) * bytes ≤ 140737488355328) (hbase : base ≤ w.heap.size)
    (h : ∀ v' w', Own w' base e size v' (n + m) (xs ++ news) → w.grownBy w' v.ownBlock → (v'.ownBlock = v.ownBlock ∨ v'.ownBlock = some w.heap.size) → wpList P ops Q rest (a.put o.dst v') w') : wpList P ops Q (o :: rest) a w :=
  wpList_plain hgd fun _ hK => wp_append_Own w s x t ho base e i z size bytes ht hi hz hsize hby hzs hsz v n xs hs hown ad m c news hx hl hnews h1 h63 hbytes hbase fun v' w' h2 h3 h4 => hK _ _ (h v' w' h2 h3 h4)
theorem one_new (w : World) (x : Value) (t : TypeId) : ∀ j u, [x][j]? = some u → (w.alloc (.cells #[x] t)).cell? ((⟨w.heap.size, 0, none⟩ : Addr).add j) = some u := cell_one_new w x t
end
/-- the row of '[]byte(s)' -/
theorem Own.ofBytes {base : Nat} (w : World) (e : TypeId) (s : ByteArray) (hb : base ≤ w.heap.size) (hm : s.size ≤ maxLen) :
    Own (Lib.bytesWorld w e s) base e 1 (.slice (some ⟨w.heap.size, 0, none⟩) s.size (grownCap w s.size 0 e)) s.size (s.data.toList.map fun b => Value.int .u8 (b.toNat : Int)) := by
  have hge := grownCap_ge w s.size 0 e
  have hcs : (Lib.bytesCells w e s).toList.length = grownCap w s.size 0 e := by
    simp [Lib.bytesCells]
    omega
  refine ⟨by simp, .inr ⟨w.heap.size, _, (Lib.bytesCells w e s).toList, _, rfl, hb, by simpa using Lib.bytesWorld_at_new w e s, ?_, hge, grownCap_le_maxLen w s.size 0 e hm, by omega, ?_⟩⟩
  · intro i hi
    simp at hi ⊢
    omega
  · rw [Nat.mul_one]
    simp [Lib.bytesCells]
end Go.Proofs.Ytghefmppjdneoaa

namespace Go.Proofs.Ytghefmppjdneoaa
open Go.RowKit Go.Maps

/-- a member: its node, its number, its state -/
structure Mem where
  n : Int
  i : Int
  s : Int
deriving DecidableEq
namespace Mem
def zero : Mem := ⟨0, 0, 0⟩
def good (m : Mem) : Bool := decide (1 ≤ m.n) && decide (m.n ≤ 6) && (decide (0 ≤ m.i) && decide (m.i ≤ 1073741824)) && (decide (0 ≤ m.s) && decide (m.s ≤ 3))
def height (m : Mem) : Int := m.i * 4 + m.s
def above (a b : Mem) : Bool := good a && good b && decide (a.n = b.n) && decide (height b < height a)
theorem good_iff (m : Mem) : good m = true ↔ 1 ≤ m.n ∧ m.n ≤ 6 ∧ 0 ≤ m.i ∧ m.i ≤ 1073741824 ∧ 0 ≤ m.s ∧ m.s ≤ 3 := by
  simp only [good, Bool.and_eq_true, decide_eq_true_eq]
  omega
theorem above_iff (a b : Mem) : above a b = true ↔ good a = true ∧ good b = true ∧ a.n = b.n ∧ height b < height a := by
  simp only [above, Bool.and_eq_true, decide_eq_true_eq]
  constructor
  · rintro ⟨⟨⟨h1, h2⟩, h3⟩, h4⟩
    exact ⟨h1, h2, h3, h4⟩
  · rintro ⟨h1, h2, h3, h4⟩
    exact ⟨⟨⟨h1, h2⟩, h3⟩, h4⟩
theorem above_irrefl (a : Mem) : above a a = false := by
  rw [Bool.eq_false_iff]
  intro h
  have := (above_iff a a).1 h
  omega
theorem above_asymm {a b : Mem} (h : above a b = true) : above b a = false := by
  rw [Bool.eq_false_iff]
  intro h2
  have h3 := (above_iff a b).1 h
  have h4 := (above_iff b a).1 h2
  omega
theorem above_trans {a b c : Mem} (h1 : above a b = true) (h2 : above b c = true) : above a c = true := by
  have h3 := (above_iff a b).1 h1
  have h4 := (above_iff b c).1 h2
  exact (above_iff a c).2 ⟨h3.1, h4.2.1, by omega, by omega⟩
/-- two good words of one node: one stands above the other one, or they are one -/
theorem above_total {a b : Mem} (ha : good a = true) (hb : good b = true) (hn : a.n = b.n) : above a b = true ∨ above b a = true ∨ a = b := by
  have h1 := (good_iff a).1 ha
  have h2 := (good_iff b).1 hb
  by_cases h3 : height b < height a
  · exact .inl ((above_iff a b).2 ⟨ha, hb, hn, h3⟩)
  · by_cases h4 : height a < height b
    · exact .inr (.inl ((above_iff b a).2 ⟨hb, ha, hn.symm, h4⟩))
    · refine .inr (.inr ?_)
      unfold height at h3 h4
      have e1 : a.i = b.i := by omega
      have e2 : a.s = b.s := by omega
      cases a
      cases b
      simp_all
end Mem
def memV (m : Mem) : Value := .agg #[.int .i64 m.n, .int .i64 m.i, .int .i64 m.s]
def memD {H : Type} (m : Mem) : DataW H := .agg [.lit (.int .i64 m.n), .lit (.int .i64 m.i), .lit (.int .i64 m.s)]
theorem memD_inj {H : Type} {a b : Mem} (h : (memD a : DataW H) = memD b) : a = b := by
  cases a; cases b
  simp only [memD, DataW.agg.injEq, List.cons.injEq, DataW.lit.injEq, Lit.int.injEq, true_and, and_true] at h
  simp [h.1, h.2.1, h.2.2]
/-- how a member in a map reads -/
def readM {H : Type} (v : Value) : Option (DataW H × List MemPlace) :=
  match v with
  | .agg cs => match cs.toList with
    | [.int .i64 a, .int .i64 b, .int .i64 c] => some (memD ⟨a, b, c⟩, [])
    | _ => none
  | _ => none
theorem readM_mem {H : Type} (m : Mem) : readM (H := H) (memV m) = some (memD m, []) := rfl
theorem readM_inv {H : Type} {v : Value} {z : DataW H × List MemPlace} (h : readM v = some z) : ∃ m, v = memV m ∧ z = (memD m, []) := by
  unfold readM at h
  split at h
  · rename_i cs
    split at h
    · rename_i a b c hc
      cases h
      refine ⟨⟨a, b, c⟩, ?_, rfl⟩
      unfold memV
      congr 1
      exact Array.toList_inj.1 (by rw [hc])
    · cases h
  · cases h

/-- what is known, by nodes -/
abbrev Known := Int → Option Mem
def upd (f : Known) (m : Mem) : Known := fun k => if k = m.n then some m else f k
def ents (H : Type) (f : Known) (ks : List Int) : List (Lit × DataW H) := ks.filterMap fun k => (f k).map fun m => (.int .i64 k, memD m)
def nodes : List Int := [1, 2, 3, 4, 5, 6]
def mapD (H : Type) (f : Known) : DataW H := .map (ents H f nodes)

theorem ents_cons (H : Type) (f : Known) (x : Int) (r : List Int) : ents H f (x :: r) = (match f x with | some m => [(.int .i64 x, memD m)] | none => []) ++ ents H f r := by
  simp only [ents, List.filterMap_cons]
  cases f x <;> simp
theorem ents_congr {H : Type} {f g : Known} : ∀ {ks : List Int}, (∀ k ∈ ks, f k = g k) → ents H f ks = ents H g ks
  | [], _ => rfl
  | x :: r, h => by rw [ents_cons, ents_cons, h x (by simp), ents_congr (fun k hk => h k (by simp [hk]))]
theorem ents_mem {H : Type} {f : Known} {ks : List Int} {p : Lit × DataW H} (h : p ∈ ents H f ks) : ∃ k m, k ∈ ks ∧ f k = some m ∧ p = (.int .i64 k, memD m) := by
  obtain ⟨k, hk, hp⟩ := List.mem_filterMap.1 h
  cases hf : f k with
  | none => simp [hf] at hp
  | some m => exact ⟨k, m, hk, hf, by simpa [hf] using hp.symm⟩
/-- the nodes rise -/
def Rises (ks : List Int) : Prop := ks.Pairwise (· < ·)
theorem nodes_rise : Rises nodes := by unfold Rises nodes; decide
theorem find_ents {H : Type} {f : Known} (k : Int) (z : DataW H) : ∀ {ks : List Int}, Rises ks →
    (match (ents H f ks).find? (fun p => p.1.sameKey (.int .i64 k)) with | some p => p.2 | none => z) = (if k ∈ ks then (match f k with | some m => memD m | none => z) else z)
  | [], _ => rfl
  | x :: r, h => by
    have hr : Rises r := (List.pairwise_cons.1 h).2
    have ih := find_ents (H := H) (f := f) k z hr
    rw [ents_cons]
    by_cases hx : x = k
    · subst hx
      rw [if_pos List.mem_cons_self]
      cases hf : f x with
      | some m => simp [Lit.sameKey]
      | none =>
        simp only [List.nil_append]
        rw [ih]
        split
        · rw [hf]
        · rfl
    · have hm : (k ∈ x :: r) = (k ∈ r) := by simp [Ne.symm hx]
      cases hf : f x with
      | some m =>
        have hs : (Lit.int .i64 x).sameKey (.int .i64 k) = false := by simp [Lit.sameKey, hx]
        simp only [List.cons_append, List.nil_append, List.find?_cons, hs]
        rw [ih]
        simp only [hm]
      | none =>
        simp only [List.nil_append]
        rw [ih]
        simp only [hm]
theorem atKey_mapD {H : Type} (f : Known) (k : Int) (z : DataW H) (hk : ∀ m, f k = some m → k ∈ nodes) : (mapD H f).atKey (.int .i64 k) z = (match f k with | some m => memD m | none => z) := by
  have h := find_ents (H := H) (f := f) k z nodes_rise
  show (match (ents H f nodes).find? (fun p => p.1.sameKey (.int .i64 k)) with | some p => p.2 | none => z) = _
  rw [h]
  split
  · rfl
  · rename_i hn
    cases hf : f k with
    | none => rfl
    | some m => exact absurd (hk m hf) hn
theorem insert_head {H : Type} (x : Lit × DataW H) : ∀ (l : List (Lit × DataW H)), (∀ p ∈ l, x.1.before p.1 = true) → DataW.insert x l = x :: l
  | [], _ => rfl
  | y :: r, h => by
    unfold DataW.insert
    rw [if_pos (h y List.mem_cons_self)]
theorem filter_ents {H : Type} {f : Known} {k : Int} {ks : List Int} (h : k ∉ ks) : (ents H f ks).filter (fun p => !p.1.sameKey (.int .i64 k)) = ents H f ks := by
  refine List.filter_eq_self.2 fun p hp => ?_
  obtain ⟨j, m, hj, _, rfl⟩ := ents_mem hp
  have : j ≠ k := fun e => h (e ▸ hj)
  simp [Lit.sameKey, this]
theorem put_ents {H : Type} {f : Known} (m : Mem) : ∀ {ks : List Int}, Rises ks → m.n ∈ ks →
    DataW.insert (.int .i64 m.n, memD m) ((ents H f ks).filter fun p => !p.1.sameKey (.int .i64 m.n)) = ents H (upd f m) ks
  | [], _, h => by cases h
  | x :: r, h, hm => by
    obtain ⟨hlt, hr⟩ := List.pairwise_cons.1 h
    rw [ents_cons, ents_cons, List.filter_append]
    by_cases hx : x = m.n
    · have hnr : m.n ∉ r := fun hr => by have := hlt _ hr; omega
      have e1 : (match f x with | some m' => [((Lit.int .i64 x : Lit), (memD m' : DataW H))] | none => []).filter (fun (p : Lit × DataW H) => !p.1.sameKey (.int .i64 m.n)) = [] := by
        cases f x <;> simp [Lit.sameKey, hx]
      have e2 : upd f m x = some m := by simp [upd, hx]
      rw [e1, e2, filter_ents hnr, List.nil_append]
      have e3 : ents H f r = ents H (upd f m) r := ents_congr fun k hk => by
        have : k ≠ m.n := fun e => hnr (e ▸ hk)
        simp [upd, this]
      rw [← e3, insert_head _ _ (fun p hp => ?_), hx]
      · rfl
      · obtain ⟨j, m', hj, _, rfl⟩ := ents_mem hp
        have := hlt j hj
        simp only [Lit.before, decide_eq_true_eq]
        omega
    · have hmr : m.n ∈ r := by
        rcases List.mem_cons.1 hm with h1 | h1
        · exact absurd h1.symm hx
        · exact h1
      have hxm := hlt _ hmr
      have e2 : upd f m x = f x := by simp [upd, hx]
      rw [e2, ← put_ents m hr hmr]
      cases hf : f x with
      | none => simp
      | some m' =>
        have e1 : ([((Lit.int .i64 x : Lit), (memD m' : DataW H))]).filter (fun (p : Lit × DataW H) => !p.1.sameKey (.int .i64 m.n)) = [(.int .i64 x, memD m')] := by simp [Lit.sameKey, hx]
        simp only [e1, List.cons_append, List.nil_append]
        conv => lhs; unfold DataW.insert
        have hb : (Lit.int .i64 m.n).before (.int .i64 x) = false := by
          simp only [Lit.before, decide_eq_false_iff_not]
          omega
        simp only [hb, Bool.false_eq_true, if_false]
theorem put_mapD {H : Type} (f : Known) (m : Mem) (hm : m.n ∈ nodes) : (mapD H f).put (.int .i64 m.n) (memD m) = mapD H (upd f m) := by
  show DataW.map _ = DataW.map _
  rw [put_ents m nodes_rise hm]
theorem intKeys_ents {H : Type} (f : Known) : ∀ ks : List Int, (ents H f ks).map (fun p => intOf p.1) = ks.filter fun k => (f k).isSome
  | [] => rfl
  | x :: r => by
    rw [ents_cons, List.map_append, intKeys_ents f r, List.filter_cons]
    cases hf : f x <;> simp [intOf]
theorem intKeys_mapD {H : Type} (f : Known) : intKeys (mapD H f) = nodes.filter fun k => (f k).isSome := intKeys_ents f nodes
theorem mapD_none (H : Type) : mapD H (fun _ => none) = .map [] := rfl
theorem good_node {m : Mem} (h : m.good = true) : m.n ∈ nodes := by
  have := (Mem.good_iff m).1 h
  have h6 : m.n = 1 ∨ m.n = 2 ∨ m.n = 3 ∨ m.n = 4 ∨ m.n = 5 ∨ m.n = 6 := by omega
  simp only [nodes, List.mem_cons, List.not_mem_nil, or_false]
  exact h6

/-- whether a word is taken -/
def takes (f : Known) (m : Mem) : Bool := m.good && (match f m.n with | some was => m.above was | none => true)
/-- what is known behind a word -/
def hear (f : Known) (m : Mem) : Known := if takes f m then upd f m else f
/-- words come: what is known then, and those that were taken -/
def merge (f : Known) : List Mem → Known × List Mem
  | [] => (f, [])
  | m :: r => ((merge (hear f m) r).1, (if takes f m then [m] else []) ++ (merge (hear f m) r).2)
/-- only good words are known, each at its node -/
def Sane (f : Known) : Prop := ∀ k m, f k = some m → m.good = true ∧ m.n = k
theorem sane_none : Sane fun _ => none := fun _ _ h => by cases h
theorem sane_hear {f : Known} (h : Sane f) (m : Mem) : Sane (hear f m) := by
  unfold hear
  split
  · rename_i ht
    intro k m' hk
    unfold upd at hk
    split at hk
    · rename_i hkn
      cases hk
      unfold takes at ht
      rw [Bool.and_eq_true] at ht
      exact ⟨ht.1, hkn.symm⟩
    · exact h k m' hk
  · exact h
theorem sane_merge : ∀ (l : List Mem) {f : Known}, Sane f → Sane (merge f l).1
  | [], _, h => h
  | m :: r, _, h => sane_merge r (sane_hear h m)
/-- all that is known, by rising nodes -/
def all (f : Known) : List Mem := nodes.filterMap f
def present (f : Known) : List Int := ((all f).filter fun m => decide (m.s ≤ 1)).map Mem.n
theorem merge_append (l : List Mem) : ∀ (f : Known) (r : List Mem), merge f (l ++ r) = ((merge (merge f l).1 r).1, (merge f l).2 ++ (merge (merge f l).1 r).2) := by
  induction l with
  | nil => intro f r; rfl
  | cons m l ih => intro f r; simp only [List.cons_append, merge, ih, List.append_assoc]
end Go.Proofs.Ytghefmppjdneoaa

namespace Go.Proofs.Ytghefmppjdneoaa
open Go.RowKit Go.Maps

namespace Sk
/-- the nodes rise -/
def Rises (ks : List Int) : Prop := ks.Pairwise (· < ·)
def nodes : List Int := [1, 2, 3, 4, 5, 6]
theorem nodes_rise : Rises nodes := by unfold Rises nodes; decide
theorem node_mem {k : Int} (h1 : 1 ≤ k) (h6 : k ≤ 6) : k ∈ nodes := by
  have h : k = 1 ∨ k = 2 ∨ k = 3 ∨ k = 4 ∨ k = 5 ∨ k = 6 := by omega
  simp only [nodes, List.mem_cons, List.not_mem_nil, or_false]
  exact h
section
variable {H α : Type} (enc : α → DataW H)
def upd (f : Int → Option α) (k : Int) (v : α) : Int → Option α := fun i => if i = k then some v else f i
def del (f : Int → Option α) (k : Int) : Int → Option α := fun i => if i = k then none else f i
def ents (f : Int → Option α) (ks : List Int) : List (Lit × DataW H) := ks.filterMap fun k => (f k).map fun m => (.int .i64 k, enc m)
def mapD (f : Int → Option α) : DataW H := .map (ents enc f nodes)
/-- only nodes are known -/
def Sane (f : Int → Option α) : Prop := ∀ k m, f k = some m → k ∈ nodes
variable {enc}
theorem sane_none : Sane (fun _ => none : Int → Option α) := fun _ _ h => by cases h
theorem sane_upd {f : Int → Option α} (h : Sane f) {k : Int} (hk : k ∈ nodes) (v : α) : Sane (upd f k v) := fun i m hi => by
  unfold upd at hi
  split at hi
  · rename_i e; rw [e]; exact hk
  · exact h i m hi
theorem sane_del {f : Int → Option α} (h : Sane f) (k : Int) : Sane (del f k) := fun i m hi => by
  unfold del at hi
  split at hi
  · cases hi
  · exact h i m hi
theorem ents_cons (f : Int → Option α) (x : Int) (r : List Int) : ents enc f (x :: r) = (match f x with | some m => [(.int .i64 x, enc m)] | none => []) ++ ents enc f r := by
  simp only [ents, List.filterMap_cons]
  cases f x <;> simp
theorem ents_congr {f g : Int → Option α} : ∀ {ks : List Int}, (∀ k ∈ ks, f k = g k) → ents enc f ks = ents enc g ks
  | [], _ => rfl
  | x :: r, h => by rw [ents_cons, ents_cons, h x (by simp), ents_congr (fun k hk => h k (by simp [hk]))]
theorem ents_mem {f : Int → Option α} {ks : List Int} {p : Lit × DataW H} (h : p ∈ ents enc f ks) : ∃ k m, k ∈ ks ∧ f k = some m ∧ p = (.int .i64 k, enc m) := by
  obtain ⟨k, hk, hp⟩ := List.mem_filterMap.1 h
  cases hf : f k with
  | none => simp [hf] at hp
  | some m => exact ⟨k, m, hk, hf, by simpa [hf] using hp.symm⟩
theorem find_ents {f : Int → Option α} (k : Int) (z : DataW H) : ∀ {ks : List Int}, Rises ks →
    (match (ents enc f ks).find? (fun p => p.1.sameKey (.int .i64 k)) with | some p => p.2 | none => z) = (if k ∈ ks then (match f k with | some m => enc m | none => z) else z)
  | [], _ => rfl
  | x :: r, h => by
    have hr : Rises r := (List.pairwise_cons.1 h).2
    have ih := find_ents (f := f) k z hr
    rw [ents_cons]
    by_cases hx : x = k
    · subst hx
      rw [if_pos List.mem_cons_self]
      cases hf : f x with
      | some m => simp [Lit.sameKey]
      | none =>
        simp only [List.nil_append]
        rw [ih]
        split
        · rw [hf]
        · rfl
    · have hm : (k ∈ x :: r) = (k ∈ r) := by simp [Ne.symm hx]
      cases hf : f x with
      | some m =>
        have hs : (Lit.int .i64 x).sameKey (.int .i64 k) = false := by simp [Lit.sameKey, hx]
        simp only [List.cons_append, List.nil_append, List.find?_cons, hs]
        rw [ih]
        simp only [hm]
      | none =>
        simp only [List.nil_append]
        rw [ih]
        simp only [hm]
theorem atKey_mapD {f : Int → Option α} (hs : Sane f) (k : Int) (z : DataW H) : (mapD enc f).atKey (.int .i64 k) z = (match f k with | some m => enc m | none => z) := by
  have h := find_ents (enc := enc) (f := f) k z nodes_rise
  show (match (ents enc f nodes).find? (fun p => p.1.sameKey (.int .i64 k)) with | some p => p.2 | none => z) = _
  rw [h]
  split
  · rfl
  · rename_i hn
    cases hf : f k with
    | none => rfl
    | some m => exact absurd (hs k m hf) hn
theorem insert_head (x : Lit × DataW H) : ∀ (l : List (Lit × DataW H)), (∀ p ∈ l, x.1.before p.1 = true) → DataW.insert x l = x :: l
  | [], _ => rfl
  | y :: r, h => by
    unfold DataW.insert
    rw [if_pos (h y List.mem_cons_self)]
theorem filter_ents {f : Int → Option α} {k : Int} {ks : List Int} (h : k ∉ ks) : (ents enc f ks).filter (fun p => !p.1.sameKey (.int .i64 k)) = ents enc f ks := by
  refine List.filter_eq_self.2 fun p hp => ?_
  obtain ⟨j, m, hj, _, rfl⟩ := ents_mem hp
  have : j ≠ k := fun e => h (e ▸ hj)
  simp [Lit.sameKey, this]
theorem del_ents {f : Int → Option α} (k : Int) : ∀ {ks : List Int}, (ents enc f ks).filter (fun p => !p.1.sameKey (.int .i64 k)) = ents enc (del f k) ks
  | [] => rfl
  | x :: r => by
    rw [ents_cons, ents_cons, List.filter_append, del_ents k]
    congr 1
    by_cases hx : x = k
    · have e2 : del f k x = none := by simp [del, hx]
      rw [e2]
      cases f x <;> simp [Lit.sameKey, hx]
    · have e2 : del f k x = f x := by simp [del, hx]
      rw [e2]
      cases f x <;> simp [Lit.sameKey, hx]
theorem del_mapD (f : Int → Option α) (k : Int) : (mapD enc f).del (.int .i64 k) = mapD enc (del f k) := by
  show DataW.map _ = DataW.map _
  rw [del_ents]
theorem put_ents {f : Int → Option α} (k : Int) (v : α) : ∀ {ks : List Int}, Rises ks → k ∈ ks →
    DataW.insert (.int .i64 k, enc v) ((ents enc f ks).filter fun p => !p.1.sameKey (.int .i64 k)) = ents enc (upd f k v) ks
  | [], _, h => by cases h
  | x :: r, h, hm => by
    obtain ⟨hlt, hr⟩ := List.pairwise_cons.1 h
    rw [ents_cons, ents_cons, List.filter_append]
    by_cases hx : x = k
    · have hnr : k ∉ r := fun hr => by have := hlt _ hr; omega
      have e1 : (match f x with | some m' => [((Lit.int .i64 x : Lit), (enc m' : DataW H))] | none => []).filter (fun (p : Lit × DataW H) => !p.1.sameKey (.int .i64 k)) = [] := by
        cases f x <;> simp [Lit.sameKey, hx]
      have e2 : upd f k v x = some v := by simp [upd, hx]
      rw [e1, e2, filter_ents hnr, List.nil_append]
      have e3 : ents enc f r = ents enc (upd f k v) r := ents_congr fun i hi => by
        have : i ≠ k := fun e => hnr (e ▸ hi)
        simp [upd, this]
      rw [← e3, insert_head _ _ (fun p hp => ?_), hx]
      · rfl
      · obtain ⟨j, m', hj, _, rfl⟩ := ents_mem hp
        have := hlt j hj
        simp only [Lit.before, decide_eq_true_eq]
        omega
    · have hmr : k ∈ r := by
        rcases List.mem_cons.1 hm with h1 | h1
        · exact absurd h1.symm hx
        · exact h1
      have hxm := hlt _ hmr
      have e2 : upd f k v x = f x := by simp [upd, hx]
      rw [e2, ← put_ents k v hr hmr]
      cases hf : f x with
      | none => simp
      | some m' =>
        have e1 : ([((Lit.int .i64 x : Lit), (enc m' : DataW H))]).filter (fun (p : Lit × DataW H) => !p.1.sameKey (.int .i64 k)) = [(.int .i64 x, enc m')] := by simp [Lit.sameKey, hx]
        simp only [e1, List.cons_append, List.nil_append]
        conv => lhs; unfold DataW.insert
        have hb : (Lit.int .i64 k).before (.int .i64 x) = false := by
          simp only [Lit.before, decide_eq_false_iff_not]
          omega
        simp only [hb, Bool.false_eq_true, if_false]
theorem put_mapD (f : Int → Option α) {k : Int} (v : α) (hk : k ∈ nodes) : (mapD enc f).put (.int .i64 k) (enc v) = mapD enc (upd f k v) := by
  show DataW.map _ = DataW.map _
  rw [put_ents k v nodes_rise hk]
theorem intKeys_ents (f : Int → Option α) : ∀ ks : List Int, (ents enc f ks).map (fun p => intOf p.1) = ks.filter fun k => (f k).isSome
  | [] => rfl
  | x :: r => by
    rw [ents_cons, List.map_append, intKeys_ents f r, List.filter_cons]
    cases hf : f x <;> simp [intOf]
theorem intKeys_mapD (f : Int → Option α) : intKeys (mapD enc f) = nodes.filter fun k => (f k).isSome := intKeys_ents f nodes
theorem mapD_none : mapD enc (fun _ => none : Int → Option α) = .map [] := rfl
end
end Sk
end Go.Proofs.Ytghefmppjdneoaa
