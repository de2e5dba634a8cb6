/- Records in memory: their parts; laws of plain regions where an operation makes memory. -/
import Derived.Test.YtefbllhpibfojaaDoorGrpJ
import Derived.Test.YtefbllhpibfojaaDoorMixQM
import Derived.Test.YtefbllhpibfojaaDoorEncFM
namespace Go.Proofs.YtefbllhpibfojaaDoor
open Go.Proofs Stab Go.Shelf Go.RowKit Go.Lib Go.Sort

theorem rec_key {w : World} {b o : Nat} {x : Rec} (h : w.rangeAt b o (encR x)) : w.rangeAt b o (u8s x.key) := fun j v hv => h j v (by
  unfold encR
  rw [List.getElem?_append_left (List.getElem?_eq_some_iff.1 hv).1]
  exact hv)
theorem rec_out {w : World} {b o : Nat} {x : Rec} (h : w.rangeAt b o (encR x)) : w.rangeAt b (o + 33) (u8s x.out) := fun j v hv => by
  have h1 : ((encR x).drop 33)[j]? = some v := by
    have h2 := congrArg (fun l => l[j]?) (encR_out x)
    simp only [List.getElem?_take] at h2
    split at h2
    · rw [h2]; exact hv
    · rename_i hj
      have := (List.getElem?_eq_some_iff.1 hv).1
      rw [u8s_length, x.ho] at this
      omega
  rw [List.getElem?_drop] at h1
  have := h (33 + j) v h1
  rwa [← Nat.add_assoc] at this
theorem rec_code {w : World} {b o : Nat} {x : Rec} (h : w.rangeAt b o (encR x)) : w.cell? ⟨b, o + 32, none⟩ = some (.int .i64 x.code) := h 32 _ (encR_code x)
section
variable {P : Program} {ops : Array Oper} {Q : Exit → Act → World → Prop} {rest : List Oper} {o : Oper} {a : Act} {w : World}
theorem wpList_to (v : Value) (w' : World) (hw : Region.wanted o (yielded ops a.tmps) = true) (hv : (execOp a.eval o).run P w = .ok (.value v) w') (h : wpList P ops Q rest (a.put o.dst v) w') : wpList P ops Q (o :: rest) a w :=
  wpList_step fun K hK => by
    rw [if_pos hw]
    unfold Oper.wp
    rw [hv]
    exact hK _ _ h
end
theorem sizeStr : ∀ w, (Go.sizeOf 9).run Tryd.prog w = .ok 1 w := Tryd.sizeOf9
theorem own_none1 (w : World) (e : TypeId) {base : Nat} (hb : base ≤ w.heap.size) : Own (w.alloc (.cells #[] e)) base e 1 (.slice (some ⟨w.heap.size, 0, none⟩) 0 0) 0 [] := own_none (k := 1) (enc := fun v : Value => [v]) w e hb
/-- calls of Items, Sort: the slice value that comes back -/
theorem items_slice (r : Rng) (A : Option Addr) (c : Nat) (l : List Rec) (w : World) (n N : Nat) (hln : n = l.length) (hN : N = (itemsR r l).length) (hE : EncIn encR 65 w A l) (hn : n < 1099511627776) :
    Calls Tryd.prog 17 #[.agg (encG r).toArray, .slice A n c] w fun e w' => ∃ A' c', e = .returned (.slice A' N c') ∧ N ≤ c' ∧ EncIn encR 65 w' A' (itemsR r l) ∧ Below w.heap.size w w' := by
  subst hln hN
  refine (items_any r A c l w hE hn).mono ?_
  rintro e w' ⟨v, rfl, hO, hb⟩
  obtain ⟨A', c', rfl, hc, hE'⟩ := hO.rows rfl (fun x _ => encR_len x)
  exact ⟨A', c', rfl, hc, hE', hb⟩
theorem sort_slice (A : Option Addr) (c : Nat) (l : List Rec) (w : World) (n N : Nat) (hln : n = l.length) (hN : N = (sortR l).length) (hE : EncIn encR 65 w A l) (hn : n < 1099511627776) :
    Calls Tryd.prog 20 #[.slice A n c] w fun e w' => ∃ A' c', e = .returned (.slice A' N c') ∧ N ≤ c' ∧ EncIn encR 65 w' A' (sortR l) ∧ Below w.heap.size w w' := by
  subst hln hN
  refine (sort_any A c l w hE hn).mono ?_
  rintro e w' ⟨v, rfl, hO, hb⟩
  obtain ⟨A', c', rfl, hc, hE'⟩ := hO.rows rfl (fun x _ => encR_len x)
  exact ⟨A', c', rfl, hc, hE', hb⟩
theorem of_at (r : Rng) (hq : placeB r.depth r.pref = true) (A : Option Addr) (c n : Nat) (l : List Rec) (w : World) (hln : n = l.length) (hE : EncIn encR 65 w A l) (hn : n < 1073741824) (hwd : Tab w 0 (u32s Sha.words)) (z : Rng) (hz : z = ofR r l) :
    Calls Tryd.prog 15 #[.int .i64 r.depth, .int .i64 r.pref, .slice A n c] w fun e w' => e = .returned (.tuple #[.agg (encG z).toArray, .int .i64 0]) ∧ Below w.heap.size w w' := by
  subst hln hz
  exact of_good r hq A c l w hE hn hwd
theorem run_eql_str (w : World) (s t : List UInt8) : (binOp .eql 9 (.string ⟨s.toArray⟩) (.string ⟨t.toArray⟩)).run Tryd.prog w = .ok (.bool (decide (s = t))) w := by
  rw [binOp_string_eql, ByteArray.toList_eq, ByteArray.toList_eq]
  have : (s == t) = decide (s = t) := by rw [Bool.eq_iff_iff]; simp
  simp [this]
theorem run_neq_str (w : World) (s t : List UInt8) : (binOp .neq 9 (.string ⟨s.toArray⟩) (.string ⟨t.toArray⟩)).run Tryd.prog w = .ok (.bool (!decide (s = t))) w := by
  rw [binOp_string_neq, ByteArray.toList_eq, ByteArray.toList_eq]
  have : (s == t) = decide (s = t) := by rw [Bool.eq_iff_iff]; simp
  simp [this]
theorem run_eqGuard_str (w : World) (op : BinOp) (x y : Operand) (a b : ByteArray) : (eqGuard op 9 x y (.string a) (.string b)).run Tryd.prog w = .ok () w := by
  unfold eqGuard
  go_simp
theorem wpList_oneStr {ops : Array Oper} {Q : Exit → Act → World → Prop} {rest : List Oper} {o : Oper} {a : Act} {w : World} (hw : Region.wanted o (yielded ops a.tmps) = true) (y : Operand) (ho : o.op = .buildSlice 69 1 #[(0, y)]) (s : ByteArray) (hy : a.eval y = .string s)
    (h : ∀ g w', StrsAt w' (some ⟨g, 0, none⟩) [s] w'.heap.size → Below w.heap.size w w' → wpList Tryd.prog ops Q rest (a.put o.dst (.slice (some ⟨g, 0, none⟩) 1 1)) w') : wpList Tryd.prog ops Q (o :: rest) a w :=
  wpList_to _ _ hw (exec_one_str y ho hy w) (h _ _ (one_str w s _ (by simp)) ((Below.refl _ _).alloc (Nat.le_refl _) _))
theorem ofone_any (l : List UInt8) (A : Option Addr) (c : Nat) (w : World) (hs : StrsAt w A [⟨l.toArray⟩] w.heap.size) (hlen : l.length < 1099511627776) (hwd : Tab w 0 (u32s Sha.words)) :
    Calls Tryd.prog 19 #[.slice A 1 c] w fun e w' => e = .returned (.agg (u8s (Sha.sha l)).toArray) ∧ Below w.heap.size w w' := by
  have hf : flat [(⟨l.toArray⟩ : ByteArray)] = l := by simp [flat]
  have h := of_any A c [⟨l.toArray⟩] w hs (by rw [hf]; omega) (by simp) hwd
  rw [hf] at h
  exact h
theorem Behind.refl (w : World) : Behind w w := Below.refl _ _
theorem Behind.trans' {a b c : World} (h : Behind a b) (k : Below b.heap.size b c) : Behind a c := Below.trans h (Below.mono k (Below.size h))
end Go.Proofs.YtefbllhpibfojaaDoor
