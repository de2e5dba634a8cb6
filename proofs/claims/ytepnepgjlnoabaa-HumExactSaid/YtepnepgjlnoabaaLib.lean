/- General words on memory, and small facts on numbers and lists, for this seat's proofs. -/
import Derived.Test.YtepnepgjlnoabaaChecked
import Derived.WalkKit
import Derived.ProofKit
import Derived.Lib.Hide
import Derived.Deep.MidRow
import Derived.Deep.Draws
namespace Go.Proofs.Ytepnepgjlnoabaa
open Go.RowKit

/-- Block b of the world holds just these cells, of element type t, none of them frozen. -/
def At (w : World) (b : Nat) (t : TypeId) (cs : List Value) : Prop := w.heap[b]? = some (.cells cs.toArray t (0, 0))

section
variable {w w' : World} {b : Nat} {t : TypeId} {cs : List Value}
theorem At.lt (h : At w b t cs) : b < w.heap.size := by
  by_cases hlt : b < w.heap.size
  · exact hlt
  · unfold At at h
    rw [Array.getElem?_eq_none (by omega)] at h
    cases h
theorem At.cell (h : At w b t cs) (i : Nat) : w.cell? ⟨b, i, none⟩ = cs[i]? := by
  unfold At at h
  simp [World.cell?, h]
theorem At.cell' (h : At w b t cs) {i : Nat} {v : Value} (hv : cs[i]? = some v) : w.cell? ⟨b, i, none⟩ = some v := (h.cell i).trans hv
theorem At.frozen (h : At w b t cs) (i : Nat) : w.frozen? ⟨b, i, none⟩ = false := by
  unfold At at h
  simp [World.frozen?, h]
theorem At.new (w : World) (t : TypeId) (cs : List Value) : At (w.alloc (.cells cs.toArray t (0, 0))) w.heap.size t cs := by
  show (w.heap.push _)[w.heap.size]? = _
  simp
theorem At.newA (w : World) (t : TypeId) {C : Array Value} {cs : List Value} (h : C = cs.toArray) : At (w.alloc (.cells C t (0, 0))) w.heap.size t cs := by
  subst h
  exact At.new w t cs
theorem At.drew (h : At w b t cs) : At w.drew b t cs := h
theorem At.alloc (h : At w b t cs) (o : Obj) : At (w.alloc o) b t cs := by
  have hl := h.lt
  show (w.heap.push o)[b]? = _
  rw [Array.getElem?_push, if_neg (by omega)]
  exact h
theorem At.set (h : At w b t cs) (i : Nat) (v : Value) : At (w.setCell ⟨b, i, none⟩ v) b t (cs.set i v) := by
  unfold At at h ⊢
  simp [World.setCell, Array.getElem?_modify, h]
theorem At.far (h : At w b t cs) {p : Addr} (hp : p.block ≠ b) (v : Value) : At (w.setCell p v) b t cs := by
  unfold At at h ⊢
  simp only [World.setCell, Array.getElem?_modify]
  rw [if_neg (by omega)]
  exact h
theorem At.below {B : Nat} (h : At w b t cs) (hb : Below B w w') (hlt : b < B) : At w' b t cs := (hb.block b hlt).trans h
theorem At.inj {t' : TypeId} {cs' : List Value} (h : At w b t cs) (h' : At w b t' cs') : cs = cs' := by
  unfold At at h h'
  rw [h] at h'
  simpa using (by injection h' with h'; injection h' : cs.toArray = cs'.toArray)
end
theorem cellOf_below {w w' : World} {B : Nat} (hb : Below B w w') {a : Addr} (ha : a.block < B) : w'.cell? a = w.cell? a := hb.cell ha

theorem stored_some {P : Program} {w : World} {a : Addr} {v : Value} {m : Mode} (hc : (w.cell? a).isSome = true) (hf : w.frozen? a = false) : stored P w a v m = .ok () (w.setCell a v) := by
  obtain ⟨u, hu⟩ := Option.isSome_iff_exists.1 hc
  simp [stored, hu, hf]
theorem cell_set_ne (w : World) (b i j : Nat) (v : Value) (h : j ≠ i) : (w.setCell ⟨b, j, none⟩ v).cell? ⟨b, i, none⟩ = w.cell? ⟨b, i, none⟩ :=
  World.cell?_setCell_other _ _ _ _ (by intro e; injection e; omega)
theorem heap_set (w : World) (a : Addr) (v : Value) (k : Nat) : (w.setCell a v).heap[k]? =
    (if a.block = k then (w.heap[k]?).map (fun
      | .cells c elem frozen => .cells (if a.spot.isSome then c else c.setIfInBounds a.off v) elem frozen
      | o => o) else w.heap[k]?) := by
  simp only [World.setCell, Array.getElem?_modify]
  rfl
theorem frozen_set (w : World) (a : Addr) (v : Value) (c : Addr) : (w.setCell a v).frozen? c = w.frozen? c := by
  unfold World.frozen?
  rw [heap_set]
  by_cases hk : a.block = c.block
  · rw [if_pos hk]
    cases w.heap[c.block]? with
    | none => rfl
    | some o => cases o <;> rfl
  · rw [if_neg hk]
theorem isSome_set (w : World) (a : Addr) (v : Value) (c : Addr) : ((w.setCell a v).cell? c).isSome = (w.cell? c).isSome := by
  unfold World.cell?
  rw [heap_set]
  by_cases hk : a.block = c.block
  · rw [if_pos hk]
    cases w.heap[c.block]? with
    | none => rfl
    | some o =>
      cases o <;> try rfl
      simp only [Option.map_some]
      cases c.spot.isSome
      · cases a.spot.isSome
        · simp only [Bool.false_eq_true, if_false, Array.getElem?_setIfInBounds]
          split
          · split
            · simp; omega
            · simp; omega
          · rfl
        · rfl
      · rfl
  · rw [if_neg hk]

/-- what lies in a cell, whatever it is: for a cell that is about to be written -/
def valAt (w : World) (b i : Nat) : Value := (w.cell? ⟨b, i, none⟩).getD undef
theorem valAt_some {w : World} {b i : Nat} (h : (w.cell? ⟨b, i, none⟩).isSome = true) : w.cell? ⟨b, i, none⟩ = some (valAt w b i) := by
  obtain ⟨v, hv⟩ := Option.isSome_iff_exists.1 h
  simp [valAt, hv]

theorem take_snoc {α : Type} (l : List α) (k : Nat) (h : k < l.length) : l.take (k + 1) = l.take k ++ [l[k]] := List.take_succ_eq_append_getElem h
theorem ret_int {k : IntKind} {a b : Int} (h : a = b) : Ending.returned (.int k a) = .returned (.int k b) := by rw [h]
theorem ret_val {a b : Value} (h : a = b) : Ending.returned a = .returned b := by rw [h]

theorem At.setCells {b : Nat} {t : TypeId} : ∀ (vs : List Value) (o : Nat) {w : World} {cs : List Value}, At w b t cs → o + vs.length ≤ cs.length →
    At (w.setCells b o vs) b t (cs.take o ++ vs ++ cs.drop (o + vs.length))
  | [], o, w, cs, h, _ => by simpa [World.setCells] using h
  | v :: r, o, w, cs, h, hl => by
    have hl' : o + 1 + r.length ≤ cs.length := by simp at hl; omega
    have := At.setCells r (o + 1) (h.set o v) (by simpa using hl')
    have e : (cs.set o v).take (o + 1) ++ r ++ (cs.set o v).drop (o + 1 + r.length) = cs.take o ++ (v :: r) ++ cs.drop (o + (v :: r).length) := by
      have ho : o < cs.length := by omega
      rw [List.take_succ_eq_append_getElem (by simpa using ho), List.take_set, List.drop_set, if_pos (by omega)]
      simp [show o + 1 + r.length = o + (r.length + 1) from by omega]
      exact List.set_eq_of_length_le (by simp; omega)
    rw [e] at this
    exact this
theorem At.setAll {w : World} {b : Nat} {t : TypeId} {cs vs : List Value} (h : At w b t cs) (hl : vs.length = cs.length) : At (w.setCells b 0 vs) b t vs := by
  have := At.setCells vs 0 h (by omega)
  simpa [hl] using this
theorem grown_setCells (b : Nat) : ∀ (vs : List Value) (o : Nat) (w0 w : World), w0.grownBy w (some b) → w0.grownBy (w.setCells b o vs) (some b)
  | [], _, _, _, h => h
  | v :: r, o, w0, w, h => grown_setCells b r (o + 1) w0 _ ⟨h.os, h.tape, h.output, by simpa [World.setCell] using h.size, fun i hi hne => by
      rw [heap_set, if_neg (by intro e; exact hne (by rw [← e]))]
      exact h.block i hi hne⟩
theorem At.there {w : World} {b : Nat} {t : TypeId} {cs : List Value} (h : At w b t cs) (o n : Nat) (hl : o + n ≤ cs.length) : w.there b o n := fun j hj => by
  constructor
  · rw [h.cell, List.getElem?_eq_getElem (by omega)]
    rfl
  · exact h.frozen _
theorem At.range {w : World} {b : Nat} {t : TypeId} {cs : List Value} (h : At w b t cs) (o n : Nat) : w.rangeAt b o ((cs.drop o).take n) := fun j v hv => by
  rw [h.cell, ← hv, List.getElem?_take]
  split
  · rw [List.getElem?_drop]
  · rename_i hj
    rw [List.getElem?_take, if_neg hj] at hv
    cases hv

section
variable {P : Program} {ops : Array Oper} {rest : List Oper} {o : Oper} {a : Act} {w : World} {Q : Exit → Act → World → Prop}
/-- a whole array or struct read out of a variable -/
theorem wpList_loadAll (hgd : o.guard = none) (ty : TypeId) (x : Operand) (ho : o.op = .load ty x) (g : Nat) (hx : a.eval x = .pointer (some ⟨g, 0, none⟩)) (t : TypeId) (cs : List Value) (d : TypeDesc)
    (hg : At w g t cs) (hu : P.underlying ty = some d) (hd : (match d with | .struct _ | .array _ _ => true | _ => false) = true) (hi : (P.info? ty).map (·.size) = some cs.length)
    (h : wpList P ops Q rest (a.put o.dst (.agg cs.toArray)) w) : wpList P ops Q (o :: rest) a w :=
  wpList_load_row hgd ty x ho g hx t cs.toArray (0, 0) d hg hu hd (by simpa using hi) h
/-- a whole array or struct written into a variable -/
theorem wpList_storeAll (hgd : o.guard = none) (ty : TypeId) (x y : Operand) (ho : o.op = .store ty x y) (g : Nat) (hx : a.eval x = .pointer (some ⟨g, 0, none⟩)) (t : TypeId) (cs new : List Value)
    (hg : At w g t cs) (hy : a.eval y = .agg new.toArray) (hl : new.length = cs.length) (hi : (P.info? ty).map (·.size) = some new.length) (h1 : ∀ v ∈ new, v.oneCell' = true)
    (h : ∀ w', At w' g t new → w.grownBy w' (some g) → w'.heap.size = w.heap.size → wpList P ops Q rest (a.put o.dst undef) w') : wpList P ops Q (o :: rest) a w := by
  refine wpList_store_mid hgd ty x y ho g 0 new.toArray hx hy (hg.there 0 _ (by simp; omega)) (by simpa using hi) (all_oneCell_toArray h1) ?_
  refine h _ ?_ ?_ ?_
  · have := hg.setAll hl
    simpa using this
  · exact grown_setCells g _ 0 w w (World.grownBy.refl w _)
  · have hs : ∀ (vs : List Value) (o : Nat) (w : World), (w.setCells g o vs).heap.size = w.heap.size := by
      intro vs
      induction vs with
      | nil => intro o w; rfl
      | cons v r ih => intro o w; rw [World.setCells, ih]; simp [World.setCell]
    exact hs _ _ _
end
theorem ret_cellAll {P : Program} {fn : Func} {R : Ending → World → Prop} {a : Act} {w : World} {p : Tmp} {ty : TypeId} (hr : fn.results = #[.cell p ty]) (hd : a.defers = []) (g : Nat) (t : TypeId) (cs : List Value) (d : TypeDesc)
    (hp : a.tmps.getD p undef = .pointer (some ⟨g, 0, none⟩)) (hg : At w g t cs) (hu : P.underlying ty = some d) (hdd : (match d with | .struct _ | .array _ _ => true | _ => false) = true)
    (hi : (P.info? ty).map (·.size) = some cs.length) (hR : R (.returned (.agg cs.toArray)) w) : bodyPost P fn R .ret a w :=
  bodyPost_ret (results_cell_row hr a.tmps w g t cs.toArray (0, 0) d hp hg hu hdd (by simpa using hi)) hd hR

theorem bytes_length (s : ByteArray) : s.data.toList.length = s.size := by cases s; rfl

theorem ofInt_u32 (a : Nat) (ha : a < 4294967296) : (BitVec.ofInt 32 (a : Int)).toNat = a := by
  rw [BitVec.ofInt_natCast, BitVec.toNat_ofNat]; exact Nat.mod_eq_of_lt (by omega)
theorem u32_xor_nat (a b : Nat) (ha : a < 4294967296) (hb : b < 4294967296) : bits .xor .u32 (a : Int) (b : Int) = ((a ^^^ b : Nat) : Int) := by
  have hx : a ^^^ b < 2 ^ 32 := Nat.xor_lt_two_pow (by omega) (by omega)
  show IntKind.u32.wrap ((BitVec.ofInt 32 (a : Int) ^^^ BitVec.ofInt 32 (b : Int)).toNat : Int) = _
  rw [BitVec.toNat_xor, ofInt_u32 a ha, ofInt_u32 b hb, IntKind.wrap_u32']
  omega
theorem u32_and_nat (a b : Nat) (ha : a < 4294967296) (hb : b < 4294967296) : bits .and .u32 (a : Int) (b : Int) = ((a &&& b : Nat) : Int) := by
  have hx : a &&& b < 2 ^ 32 := Nat.and_lt_two_pow _ (by omega)
  show IntKind.u32.wrap ((BitVec.ofInt 32 (a : Int) &&& BitVec.ofInt 32 (b : Int)).toNat : Int) = _
  rw [BitVec.toNat_and, ofInt_u32 a ha, ofInt_u32 b hb, IntKind.wrap_u32']
  omega
theorem u32_or_nat (a b : Nat) (ha : a < 4294967296) (hb : b < 4294967296) : bits .or .u32 (a : Int) (b : Int) = ((a ||| b : Nat) : Int) := by
  have hx : a ||| b < 2 ^ 32 := Nat.or_lt_two_pow (by omega) (by omega)
  show IntKind.u32.wrap ((BitVec.ofInt 32 (a : Int) ||| BitVec.ofInt 32 (b : Int)).toNat : Int) = _
  rw [BitVec.toNat_or, ofInt_u32 a ha, ofInt_u32 b hb, IntKind.wrap_u32']
  omega
end Go.Proofs.Ytepnepgjlnoabaa
