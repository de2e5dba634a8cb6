/- Layer 13: rows of integers: whether two are the same; their first ones; Owns. -/
import Derived.Test.YtdfeiajdmmlllaaDoorRingW
import Derived.Test.YtdfeiajdmmlllaaDoorEncE
import Derived.Test.YtdfeiajdmmlllaaDoorEncF
namespace Go.Proofs.YtdfeiajdmmlllaaDoor
open Go.Proofs Stab Go.Shelf Go.RowKit Go.Lib Go.Sort

theorem encN_len (x : Int) : (encN x).length = 1 := rfl
theorem encN_one (x : Int) : ∀ v ∈ encN x, v.oneCell' = true := fun v hv => by rw [List.mem_singleton.1 hv]; rfl
theorem info3Int : (Tryd.prog.info? 3).map (fun i => (i.zero, i.size, i.bytes)) = some (some (.int .i64 0), 1, 8) := by kernel_rfl
theorem sizeInt : ∀ w, (Go.sizeOf 3).run Tryd.prog w = .ok 1 w := fun w => by kernel_rfl
theorem elem_ints : Tryd.prog.underlying 24 = some (.slice (Tryd.prog.elem 24)) := by kernel_rfl
theorem size_ints (w : World) : (Go.sizeOf (Tryd.prog.elem 24)).run Tryd.prog w = .ok 1 w := by kernel_rfl
theorem exec_slice_ints {a : Act} {o : Oper} (x y : Operand) (ho : o.op = .slice 24 x none (some y) none) (A : Option Addr) (len cap k : Nat) (hx : a.eval x = .slice A len cap) (hy : a.eval y = .int .i64 (k : Int)) (hk : k ≤ cap) (w : World) :
    (execOp a.eval o).run Tryd.prog w = .ok (.value (.slice (cutA A 0 cap 1) k cap)) w := by
  have h0 : (0 : Int) ≤ (k : Int) := by omega
  have h1 : (k : Int) ≤ (cap : Int) := by omega
  have hr : (Instr.slice 24 (.slice A len cap) none (some (.int .i64 (k : Int))) none).run Tryd.prog w = .ok (.slice (cutA A 0 cap 1) k cap) w := by
    have h2 := run_slice_h (P := Tryd.prog) (w := w) 24 A len cap elem_ints .i64 (k : Int) h0 h1
    rw [h2, size_ints]
    simp [Result.andThen, sliced, cutA]
  unfold execOp
  simp only [ho, Option.map_some, Option.map_none, hx, hy, Sem.run_bind, Sem.run_pure]
  rw [run_sliceAt_slice _ _ _ _ _ _ elem_ints, hr]
  rfl
theorem wpList_to13 {P : Program} {ops : Array Oper} {Q : Exit → Act → World → Prop} {rest : List Oper} {o : Oper} {a : Act} {w : World} (v : Value) (w' : World) (hw : Region.wanted o (yielded ops a.tmps) = true) (hv : (execOp a.eval o).run P w = .ok (.value v) w') (h : wpList P ops Q rest (a.put o.dst v) w') : wpList P ops Q (o :: rest) a w :=
  wpList_step fun K hK => by
    rw [if_pos hw]
    unfold Oper.wp
    rw [hv]
    exact hK _ _ h
theorem laid_ints (w : World) (l : List Int) : EncIn encN 1 (w.alloc (.cells (l.map (Value.int .i64)).toArray 3)) (some ⟨w.heap.size, 0, none⟩) l := fun _ => by
  refine ⟨w.heap.size, 0, rfl, by simp, fun i hi j v hv => ?_⟩
  have h := At.new w 3 (l.map (Value.int .i64))
  have hj : j = 0 := by
    have := (List.getElem?_eq_some_iff.1 hv).1
    rw [encN_len] at this
    omega
  subst hj
  rw [Nat.mul_one, Nat.zero_add, Nat.add_zero]
  refine h.cell' ?_
  injection hv with hv
  rw [← hv]
  simp [hi]
theorem exec_int1 {a : Act} {o : Oper} (y : Operand) (ho : o.op = .buildSlice 24 1 #[(0, y)]) {x : Int} (hy : a.eval y = .int .i64 x) (W : World) :
    (execOp a.eval o).run Tryd.prog W = .ok (.value (.slice (some ⟨W.heap.size, 0, none⟩) 1 1)) (W.alloc (.cells #[.int .i64 x] 3)) := by
  unfold execOp
  simp only [ho]
  have e : (#[(0, y)] : Array (Nat × Operand)).map (fun (i, x) => (i, a.eval x)) = #[(0, .int .i64 x)] := by simp [hy]
  rw [e]
  go_simp
theorem exec_int2 {a : Act} {o : Oper} (y z : Operand) (ho : o.op = .buildSlice 24 2 #[(0, y), (1, z)]) {x u : Int} (hy : a.eval y = .int .i64 x) (hz : a.eval z = .int .i64 u) (W : World) :
    (execOp a.eval o).run Tryd.prog W = .ok (.value (.slice (some ⟨W.heap.size, 0, none⟩) 2 2)) (W.alloc (.cells #[.int .i64 x, .int .i64 u] 3)) := by
  unfold execOp
  simp only [ho]
  have e : (#[(0, y), (1, z)] : Array (Nat × Operand)).map (fun (i, x) => (i, a.eval x)) = #[(0, .int .i64 x), (1, .int .i64 u)] := by simp [hy, hz]
  rw [e]
  go_simp
theorem wpList_int1 {ops : Array Oper} {Q : Exit → Act → World → Prop} {rest : List Oper} {o : Oper} {a : Act} {w : World} (hw : Region.wanted o (yielded ops a.tmps) = true) (y : Operand) (ho : o.op = .buildSlice 24 1 #[(0, y)]) (x : Int) (hy : a.eval y = .int .i64 x)
    (h : ∀ g w', g = w.heap.size → Below w.heap.size w w' → EncIn encN 1 w' (some ⟨g, 0, none⟩) [x] → wpList Tryd.prog ops Q rest (a.put o.dst (.slice (some ⟨g, 0, none⟩) 1 1)) w') : wpList Tryd.prog ops Q (o :: rest) a w :=
  wpList_to13 _ _ hw (exec_int1 y ho hy w) (h _ _ rfl ((Below.refl _ _).alloc (Nat.le_refl _) _) (laid_ints w [x]))
theorem wpList_none13 {P : Program} {ops : Array Oper} {Q : Exit → Act → World → Prop} {rest : List Oper} {o : Oper} {a : Act} {w : World} {t e : TypeId} (hw : Region.wanted o (yielded ops a.tmps) = true) (ho : o.op = .buildSlice t 0 #[]) (hu : P.underlying t = some (.slice e)) (hz : ∀ w, (Go.sizeOf e).run P w = .ok 1 w)
    (h : ∀ g w', g = w.heap.size → w'.heap.size = w.heap.size + 1 → Own w' g e 1 (.slice (some ⟨g, 0, none⟩) 0 0) 0 (([] : List Int).flatMap encN) → Below w.heap.size w w' → wpList P ops Q rest (a.put o.dst (.slice (some ⟨g, 0, none⟩) 0 0)) w') : wpList P ops Q (o :: rest) a w :=
  wpList_to13 _ _ hw (exec_none ho hu hz w) (h _ _ rfl (by simp) (own_none (k := 1) (enc := encN) w e (base := w.heap.size) (Nat.le_refl _)) ((Below.refl _ _).alloc (Nat.le_refl _) _))
theorem take_ne13 {α : Type} [DecidableEq α] {a b : List α} {i : Nat} (ha : i < a.length) (hb : i < b.length) (h : a[i] ≠ b[i]) : decide (a = b) = false := by
  rw [decide_eq_false_iff_not]
  intro e
  subst e
  exact h rfl
set_option maxRecDepth 100000 in
set_option maxHeartbeats 1000000 in
theorem ints_any (A B : Option Addr) (ca cb : Nat) (a b : List Int) (na nb : Nat) (w : World) (hna : na = a.length) (hnb : nb = b.length) (hA : EncIn encN 1 w A a) (hB : EncIn encN 1 w B b) (hla : na < 1099511627776) (hlb : nb < 1099511627776) :
    Calls Tryd.prog 12 #[.slice A na ca, .slice B nb cb] w fun e w' => e = .returned (.bool (decide (a = b))) ∧ Below w.heap.size w w' := by
  have HEA := Lib.hid hA
  have HEB := Lib.hid hB
  have HNA := Lib.hid hna
  have HNB := Lib.hid hnb
  clear hA hB hna hnb
  go_enter Tryd.func12, Tryd.ntmps12
  by_cases hl : na = nb
  case neg =>
    have hlz : ¬ (na : Int) = (nb : Int) := by omega
    have hd : decide (a = b) = false := by
      rw [decide_eq_false_iff_not]
      intro e
      rw [HNA.out, HNB.out, e] at hl
      exact hl rfl
    rw [hd]
    go_wp2_with fail
    go_ret
    exact ⟨rfl, Below.refl _ _⟩
  subst hl
  go_wp2_with fail
  go_loopg [5] na (fun gg s5 wr => ∃ i : Nat, s5 = .int .i64 i ∧ i ≤ na ∧ na - i ≤ gg ∧ a.take i = b.take i ∧ Hid (Below w.heap.size w wr))
  case atStart => exact ⟨0, rfl, Nat.zero_le _, by omega, by rw [List.take_zero, List.take_zero], Below.refl _ _⟩
  case round =>
    obtain ⟨i, rfl, hi, hgg, htk, HBW⟩ := hrel
    by_cases hlt : i < na
    · have hltz : (i : Int) < (na : Int) := by omega
      have i0 : (0 : Int) ≤ (i : Int) := by omega
      have hia : i < a.length := by have := HNA.out; omega
      have hib : i < b.length := by have := HNB.out; omega
      obtain ⟨gA, offA, hA, hglA, hrA⟩ := (HEA.out.up HBW.out).at hia
      obtain ⟨gB, offB, hB, hglB, hrB⟩ := (HEB.out.up HBW.out).at hib
      obtain ⟨x, hx⟩ : ∃ x, x = a[i] := ⟨_, rfl⟩
      obtain ⟨y, hy⟩ : ∃ y, y = b[i] := ⟨_, rfl⟩
      have HXY := Lib.hid (And.intro hx hy)
      have HAT := Lib.hid (show (∀ W, Behind wr W → W.cell? ⟨gA, offA + i, none⟩ = some (.int .i64 x)) ∧ (∀ W, Behind wr W → W.cell? ⟨gB, offB + i, none⟩ = some (.int .i64 y)) from ⟨fun W hW => by
        have h := hrA 0 _ rfl
        rw [Nat.mul_one, Nat.add_zero] at h
        rw [hx]
        exact (hW.cell (p := ⟨gA, offA + i, none⟩) hglA).trans h, fun W hW => by
        have h := hrB 0 _ rfl
        rw [Nat.mul_one, Nat.add_zero] at h
        rw [hy]
        exact (hW.cell (p := ⟨gB, offB + i, none⟩) hglB).trans h⟩)
      clear hx hy hrA hrB hglA hglB
      subst hA hB
      by_cases hq : x = y
      · have hs : a.take (i + 1) = b.take (i + 1) := by
          rw [List.take_succ_eq_append_getElem hia, List.take_succ_eq_append_getElem hib, htk, ← HXY.out.1, ← HXY.out.2, hq]
        have HS := Lib.hid hs
        have hqz : (x != y) = false := by simp [hq]
        clear hs htk
        go_wp2_with fail
        refine wp_region_class (Behind wr) (by kernel_rfl) (by kernel_rfl) (Below.refl _ _).drew ?_
        iterate 9 (first
          | go_big_quiet_skip
          | ((with_reducible refine wpQuiet_load1 (.int .i64 x) (by with_unfolding_all rfl) 3 _ (by with_unfolding_all rfl) .i64 Tryd.underlying3 gA (offA + i) (by with_unfolding_all rfl) (fun w h => HAT.out.1 w h) ?_); simp only [Act.put, List.setIfInBounds_toArray, List.set_cons_zero, List.set_cons_succ])
          | ((with_reducible refine wpQuiet_load1 (.int .i64 y) (by with_unfolding_all rfl) 3 _ (by with_unfolding_all rfl) .i64 Tryd.underlying3 gB (offB + i) (by with_unfolding_all rfl) (fun w h => HAT.out.2 w h) ?_); simp only [Act.put, List.setIfInBounds_toArray, List.set_cons_zero, List.set_cons_succ])
          | (go_big_quiet_step (exact fun _ => rfl)))
        with_reducible refine wpQuiet_nil ?_
        intro w3 hw3
        have HBw3 := Lib.hid (show Below wr.heap.size wr w3 from hw3)
        clear hw3
        go_wp2_with fail
        go_roundg (na - (i + 1))
        case measure => omega
        case rel => exact ⟨i + 1, by go_num, by omega, Nat.le_refl _, HS.out, HBW.out.trans (HBw3.out.mono HBW.out.size)⟩
      · have hd : decide (a = b) = false := take_ne13 hia hib (by rw [← HXY.out.1, ← HXY.out.2]; exact hq)
        have hqz : (x != y) = true := by simp [hq]
        clear htk
        go_wp2_with fail
        refine wp_region_class (Behind wr) (by kernel_rfl) (by kernel_rfl) (Below.refl _ _).drew ?_
        iterate 9 (first
          | go_big_quiet_skip
          | ((with_reducible refine wpQuiet_load1 (.int .i64 x) (by with_unfolding_all rfl) 3 _ (by with_unfolding_all rfl) .i64 Tryd.underlying3 gA (offA + i) (by with_unfolding_all rfl) (fun w h => HAT.out.1 w h) ?_); simp only [Act.put, List.setIfInBounds_toArray, List.set_cons_zero, List.set_cons_succ])
          | ((with_reducible refine wpQuiet_load1 (.int .i64 y) (by with_unfolding_all rfl) 3 _ (by with_unfolding_all rfl) .i64 Tryd.underlying3 gB (offB + i) (by with_unfolding_all rfl) (fun w h => HAT.out.2 w h) ?_); simp only [Act.put, List.setIfInBounds_toArray, List.set_cons_zero, List.set_cons_succ])
          | (go_big_quiet_step (exact fun _ => rfl)))
        with_reducible refine wpQuiet_nil ?_
        intro w3 hw3
        have HBw3 := Lib.hid (show Below wr.heap.size wr w3 from hw3)
        clear hw3
        go_wp2_with fail
        go_ret
        exact ⟨by first | rfl | (rw [hd]; rfl), HBW.out.trans (HBw3.out.mono HBW.out.size)⟩
    · have hltz : ¬ (i : Int) < (na : Int) := by omega
      have hd : decide (a = b) = true := by
        rw [decide_eq_true_eq, ← List.take_of_length_le (l := a) (i := i) (by have := HNA.out; omega), htk, List.take_of_length_le (by have := HNB.out; omega)]
      go_wp2_with fail
      go_ret
      exact ⟨by first | rfl | (rw [hd]; rfl), HBW.out⟩
def ownsK (key : List UInt8) (l : List Int) : List Int := (walkK key l).take 2
set_option maxRecDepth 100000 in
set_option maxHeartbeats 1000000 in
theorem owns_any (key : List UInt8) (hk : key.length = 32) (A : Option Addr) (c n : Nat) (l : List Int) (w : World) (hn : n = l.length) (hE : EncIn encN 1 w A l) (hs : n < 1000) (hwd : Tab w 0 (u32s Sha.words)) (M : Nat) (hM : M = (ownsK key l).length) :
    Calls Tryd.prog 15 #[.agg (u8s key).toArray, .slice A n c] w fun e w' => ∃ A' c', e = .returned (.slice A' M c') ∧ M ≤ c' ∧ EncIn encN 1 w' A' (ownsK key l) ∧ Below w.heap.size w w' := by
  obtain ⟨K, hK⟩ : ∃ K, K = (walkK key l).length := ⟨_, rfl⟩
  have h1 : At (w.alloc (.cells (u8s key).toArray 23)) w.heap.size 23 (u8s key) := At.new w _ _
  have hb : Behind w (w.alloc (.cells (u8s key).toArray 23)) := (Below.refl _ _).alloc (Nat.le_refl _) _
  have HB0 := Lib.hid hb
  have HWK := Lib.hid (walk_any key hk A c n l (w.alloc (.cells (u8s key).toArray 23)) hn (hE.up hb) hs (hwd.below hb hwd.lt) K hK)
  have HK1 := Lib.hid h1
  have HM := Lib.hid (show M = min 2 K by rw [hM, hK]; unfold ownsK; rw [List.length_take])
  have HKL := Lib.hid (show K = (walkK key l).length from hK)
  have HU := Lib.hid Tryd.underlying23
  have HI := Lib.hid (show (Tryd.prog.info? 23).map (·.size) = some (u8s key).length by
    have e : (Tryd.prog.info? 23).map (·.size) = some 32 := by kernel_rfl
    rw [e]
    simp [u8s, hk])
  clear h1 hb hE hn hs hM hwd hk hK
  go_enter Tryd.func15, Tryd.ntmps15
  go_upto_region 2 with (first
    | (with_reducible refine wpList_loadAll rfl 23 (.tmp 2) rfl w.heap.size rfl _ _ _ HK1.out HU.out rfl HI.out ?_)
    | (go_at_call 13; (with_reducible refine Calls.mono HWK.out ?_); rintro e w1 ⟨A1, c1, rfl, hc1, hE1, hb⟩; have HE1 := Lib.hid hE1; have HC1 := Lib.hid hc1; have HB1 := Lib.hid (show Behind w w1 from Behind.trans' HB0.out hb); clear hE1 hc1 hb))
  have hT := EncIn.take (m := 2) (c := c1) HE1.out (by have := HKL.out; have := HC1.out; omega)
  have HT := Lib.hid hT
  clear hT
  by_cases h2 : 2 ≤ K
  · obtain rfl : M = 2 := by have := HM.out; omega
    have hz : (2 : Int) ≤ (K : Int) := by omega
    have hz2 : min (2 : Int) (K : Int) = 2 := by omega
    have hc2 : 2 ≤ c1 := by have := HC1.out; omega
    have HC2 := Lib.hid hc2
    clear hc2
    go_wp2_with (first
      | (with_reducible refine wpList_to13 (.slice (cutA A1 0 c1 1) 2 c1) w1 rfl (exec_slice_ints (.tmp 9) (.tmp 12) rfl A1 K c1 2 (by with_unfolding_all rfl) (by with_unfolding_all rfl) HC2.out _) ?_))
    go_ret
    exact ⟨_, _, rfl, HC2.out, HT.out, HB1.out⟩
  · obtain rfl : M = K := by have := HM.out; omega
    have hz : ¬ (2 : Int) ≤ (M : Int) := by omega
    have hz2 : min (2 : Int) (M : Int) = (M : Int) := by omega
    go_wp2_with (first
      | (with_reducible refine wpList_to13 (.slice (cutA A1 0 c1 1) M c1) w1 rfl (exec_slice_ints (.tmp 9) (.tmp 12) rfl A1 M c1 M (by with_unfolding_all rfl) (by with_unfolding_all rfl) HC1.out _) ?_))
    go_ret
    exact ⟨_, _, rfl, HC1.out, HT.out, HB1.out⟩
end Go.Proofs.YtdfeiajdmmlllaaDoor
