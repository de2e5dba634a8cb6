/- Layer 16: first, small, Begin. -/
import Derived.Test.YtefbllhpibfojaaDoorPrtPM
import Derived.Test.YtefbllhpibfojaaDoorRecTM
import Derived.Test.YtefbllhpibfojaaDoorGrpJ
namespace Go.Proofs.YtefbllhpibfojaaDoor
open Go.Proofs Stab Go.Shelf Go.RowKit Go.Lib Go.Sort

theorem elem_rngs : Tryd.prog.underlying 45 = some (.slice (Tryd.prog.elem 45)) := by kernel_rfl
theorem size_rngs (w : World) : (Go.sizeOf (Tryd.prog.elem 45)).run Tryd.prog w = .ok 35 w := by kernel_rfl
theorem exec_slice_rngs {a : Act} {o : Oper} (x y : Operand) (ho : o.op = .slice 45 x none (some y) none) (A : Option Addr) (len cap k : Nat) (hx : a.eval x = .slice A len cap) (hy : a.eval y = .int .i64 (k : Int)) (hk : k ≤ cap) (w : World) :
    (execOp a.eval o).run Tryd.prog w = .ok (.value (.slice (cutA A 0 cap 35) k cap)) w := by
  have h0 : (0 : Int) ≤ (k : Int) := by omega
  have h1 : (k : Int) ≤ (cap : Int) := by omega
  have hr : (Instr.slice 45 (.slice A len cap) none (some (.int .i64 (k : Int))) none).run Tryd.prog w = .ok (.slice (cutA A 0 cap 35) k cap) w := by
    have h2 := run_slice_h (P := Tryd.prog) (w := w) 45 A len cap elem_rngs .i64 (k : Int) h0 h1
    rw [h2, size_rngs]
    simp [Result.andThen, sliced, cutA]
  unfold execOp
  simp only [ho, Option.map_some, Option.map_none, hx, hy, Sem.run_bind, Sem.run_pure]
  rw [run_sliceAt_slice _ _ _ _ _ _ elem_rngs, hr]
  rfl
set_option maxRecDepth 100000 in
set_option maxHeartbeats 1000000 in
/-- the first of a list -/
theorem first_rngs (A : Option Addr) (c n : Nat) (l : List Rng) (w : World) (hln : n = l.length) (hnc : n ≤ c) (hE : EncIn encG 35 w A l) (hn : n < 1099511627776) (M : Nat) (hM : M = (l.take 16).length) :
    Calls Tryd.prog 64 #[.slice A n c, .int .i64 16] w fun e w' => ∃ A', e = .returned (.slice A' M c) ∧ EncIn encG 35 w' A' (l.take 16) ∧ w = w' := by
  have HE := Lib.hid hE
  have hmn : M = min 16 n := by rw [hM, List.length_take, hln]
  have HT := Lib.hid (EncIn.take (m := 16) (c := c) hE (by omega))
  clear hE hln hM
  go_enter Tryd.func64, Tryd.ntmps64
  by_cases h : 16 ≤ n
  · obtain rfl : M = 16 := by omega
    have hz : (16 : Int) ≤ (n : Int) := by omega
    have hz2 : min (16 : Int) (n : Int) = 16 := by omega
    clear hmn
    go_wp2_with (first
      | (with_reducible refine wpList_val (.slice (cutA A 0 c 35) 16 c) rfl (exec_slice_rngs (.tmp 5) (.tmp 9) rfl A n c 16 (by with_unfolding_all rfl) (by with_unfolding_all rfl) (by omega) _) ?_))
    go_ret
    exact ⟨_, rfl, HT.out, rfl⟩
  · obtain rfl : M = n := by omega
    have hz : ¬ (16 : Int) ≤ (M : Int) := by omega
    have hz2 : min (16 : Int) (M : Int) = (M : Int) := by omega
    clear hmn
    go_wp2_with (first
      | (with_reducible refine wpList_val (.slice (cutA A 0 c 35) M c) rfl (exec_slice_rngs (.tmp 5) (.tmp 9) rfl A M c M (by with_unfolding_all rfl) (by with_unfolding_all rfl) hnc _) ?_))
    go_ret
    exact ⟨_, rfl, HT.out, rfl⟩
theorem elem_recs : Tryd.prog.underlying 22 = some (.slice (Tryd.prog.elem 22)) := by kernel_rfl
theorem size_recs (w : World) : (Go.sizeOf (Tryd.prog.elem 22)).run Tryd.prog w = .ok 65 w := by kernel_rfl
theorem exec_slice_recs {a : Act} {o : Oper} (x y : Operand) (ho : o.op = .slice 22 x none (some y) none) (A : Option Addr) (len cap k : Nat) (hx : a.eval x = .slice A len cap) (hy : a.eval y = .int .i64 (k : Int)) (hk : k ≤ cap) (w : World) :
    (execOp a.eval o).run Tryd.prog w = .ok (.value (.slice (cutA A 0 cap 65) k cap)) w := by
  have h0 : (0 : Int) ≤ (k : Int) := by omega
  have h1 : (k : Int) ≤ (cap : Int) := by omega
  have hr : (Instr.slice 22 (.slice A len cap) none (some (.int .i64 (k : Int))) none).run Tryd.prog w = .ok (.slice (cutA A 0 cap 65) k cap) w := by
    have h2 := run_slice_h (P := Tryd.prog) (w := w) 22 A len cap elem_recs .i64 (k : Int) h0 h1
    rw [h2, size_recs]
    simp [Result.andThen, sliced, cutA]
  unfold execOp
  simp only [ho, Option.map_some, Option.map_none, hx, hy, Sem.run_bind, Sem.run_pure]
  rw [run_sliceAt_slice _ _ _ _ _ _ elem_recs, hr]
  rfl
set_option maxRecDepth 100000 in
set_option maxHeartbeats 1000000 in
/-- the first of a list -/
theorem first_recs (A : Option Addr) (c n : Nat) (l : List Rec) (w : World) (hln : n = l.length) (hnc : n ≤ c) (hE : EncIn encR 65 w A l) (hn : n < 1099511627776) (M : Nat) (hM : M = (l.take 16).length) :
    Calls Tryd.prog 66 #[.slice A n c, .int .i64 16] w fun e w' => ∃ A', e = .returned (.slice A' M c) ∧ EncIn encR 65 w' A' (l.take 16) ∧ w = w' := by
  have HE := Lib.hid hE
  have hmn : M = min 16 n := by rw [hM, List.length_take, hln]
  have HT := Lib.hid (EncIn.take (m := 16) (c := c) hE (by omega))
  clear hE hln hM
  go_enter Tryd.func66, Tryd.ntmps66
  by_cases h : 16 ≤ n
  · obtain rfl : M = 16 := by omega
    have hz : (16 : Int) ≤ (n : Int) := by omega
    have hz2 : min (16 : Int) (n : Int) = 16 := by omega
    clear hmn
    go_wp2_with (first
      | (with_reducible refine wpList_val (.slice (cutA A 0 c 65) 16 c) rfl (exec_slice_recs (.tmp 5) (.tmp 9) rfl A n c 16 (by with_unfolding_all rfl) (by with_unfolding_all rfl) (by omega) _) ?_))
    go_ret
    exact ⟨_, rfl, HT.out, rfl⟩
  · obtain rfl : M = n := by omega
    have hz : ¬ (16 : Int) ≤ (M : Int) := by omega
    have hz2 : min (16 : Int) (M : Int) = (M : Int) := by omega
    clear hmn
    go_wp2_with (first
      | (with_reducible refine wpList_val (.slice (cutA A 0 c 65) M c) rfl (exec_slice_recs (.tmp 5) (.tmp 9) rfl A M c M (by with_unfolding_all rfl) (by with_unfolding_all rfl) hnc _) ?_))
    go_ret
    exact ⟨_, rfl, HT.out, rfl⟩
/-- whether two ranges are small enough -/
def smallB (x y : Rng) : Bool := decide (x.count + y.count ≤ 8) || decide (x.count = 0) || decide (y.count = 0) || decide (x.depth = 8)
set_option maxRecDepth 100000 in
set_option maxHeartbeats 2000000 in
theorem small_any (x y : Rng) (hx : 0 ≤ x.count ∧ x.count ≤ 1048576) (hy : 0 ≤ y.count ∧ y.count ≤ 1048576) (w : World) :
    Calls Tryd.prog 65 #[.agg (encG x).toArray, .agg (encG y).toArray] w fun e w' => e = .returned (.bool (smallB x y)) ∧ Below w.heap.size w w' := by
  have hx0 : At (w.alloc (.cells (encG x).toArray 26)) w.heap.size 26 (encG x) := At.new w _ _
  have hy0 : At ((w.alloc (.cells (encG x).toArray 26)).alloc (.cells (encG y).toArray 26)) (w.heap.size + 1) 26 (encG y) := by
    have := At.new (w.alloc (.cells (encG x).toArray 26)) 26 (encG y)
    simpa using this
  have hx1 := hx0.alloc (.cells (encG y).toArray 26)
  have hb0 : Below w.heap.size w ((w.alloc (.cells (encG x).toArray 26)).alloc (.cells (encG y).toArray 26)) := ((Below.refl _ _).alloc (Nat.le_refl _) _).alloc (by simp) _
  have HX := Lib.hid hx1
  have HY := Lib.hid hy0
  have HB := Lib.hid hb0
  clear hx0 hx1 hy0 hb0
  go_enter Tryd.func65, Tryd.ntmps65
  go_upto_region 1 with (fail)
  obtain ⟨g2, hg2⟩ : ∃ g, g = w.heap.size := ⟨_, rfl⟩
  obtain ⟨g3, hg3⟩ : ∃ g, g = w.heap.size + 1 := ⟨_, rfl⟩
  rw [← hg3] at HY ⊢
  rw [← hg2] at HX ⊢
  clear hg2 hg3
  generalize (w.alloc (.cells (encG x).toArray 26)).alloc (.cells (encG y).toArray 26) = w0 at HX HY HB ⊢
  have c1 := HX.out.count
  have c2 := HY.out.count
  have c3 := HX.out.depth
  have hs : smallB x y = (decide (x.count + y.count ≤ 8) || decide (x.count = 0) || decide (y.count = 0) || decide (x.depth = 8)) := rfl
  have HS := Lib.hid hs
  clear hs
  by_cases h1 : x.count + y.count ≤ 8
  · go_wp2_with fail
    go_ret
    exact ⟨by rw [HS.out, decide_eq_true h1]; rfl, HB.out⟩
  by_cases h2 : x.count = 0
  · have H2 := Lib.hid h2
    rw [h2] at c1 h1
    have hy8 : ¬ y.count ≤ 8 := by omega
    have h1' : ¬ (0 : Int) + y.count ≤ 8 := by omega
    clear h1 h2 hx
    go_wp2_with fail
    go_ret
    exact ⟨by rw [HS.out, decide_eq_true H2.out]; simp, HB.out⟩
  by_cases h3 : y.count = 0
  · have H3 := Lib.hid h3
    rw [h3] at c2 h1
    have hx8 : ¬ x.count ≤ 8 := by omega
    have h1' : ¬ x.count + 0 ≤ 8 := by omega
    clear h1 h3 hy
    go_wp2_with fail
    go_ret
    exact ⟨by rw [HS.out, decide_eq_true H3.out]; simp, HB.out⟩
  by_cases h4 : x.depth = 8
  · have H4 := Lib.hid h4
    rw [h4] at c3
    clear h4
    go_wp2_with fail
    go_ret
    exact ⟨by rw [HS.out, decide_eq_true H4.out]; simp, HB.out⟩
  · go_wp2_with fail
    go_ret
    refine ⟨?_, HB.out⟩
    rw [HS.out, decide_eq_false (by omega : ¬ x.count + y.count ≤ 8), decide_eq_false h2, decide_eq_false h3, decide_eq_false h4]
    show Ending.returned (.bool (x.count == 0 || y.count == 0 || x.depth == 8)) = _
    simp [h2, h3, h4]
set_option maxRecDepth 100000 in
set_option maxHeartbeats 2000000 in
theorem begin_any (A : Option Addr) (c n : Nat) (l : List Rec) (w : World) (hln : n = l.length) (hE : EncIn encR 65 w A l) (hn : n < 1073741824) (hwd : Tab w 0 (u32s Sha.words)) :
    Calls Tryd.prog 34 #[.slice A n c] w fun e w' => ∃ A', e = .returned (.slice A' 1 1) ∧ EncIn encG 35 w' A' [ofR r00 l] ∧ Below w.heap.size w w' := by
  obtain ⟨z, hz⟩ : ∃ z, z = ofR r00 l := ⟨_, rfl⟩
  have hof := of_at r00 place00 A c n l w hln hE hn hwd z hz
  have HOF := Lib.hid (show Calls Tryd.prog 15 #[.int .i64 0, .int .i64 0, .slice A n c] w fun e w' => e = .returned (.tuple #[.agg (encG z).toArray, .int .i64 0]) ∧ Below w.heap.size w w' from hof)
  have HLG := Lib.hid (show ∀ x, (Tryd.prog.info? 26).map (·.size) = some (encG x).length from fun x => by rw [encG_len]; exact infoRng)
  have HLL := Lib.hid (show ∀ x y, (encG x).length = (encG y).length from fun x y => by rw [encG_len, encG_len])
  have HBw := Lib.hid (show Below w.heap.size w w from Below.refl _ _)
  have HZ := Lib.hid hz
  clear hof hln hE hwd hz
  go_enter Tryd.func34, Tryd.ntmps34
  go_wp2_with (first
    | (go_at_call 15; (with_reducible refine Calls.mono (HOF.out) ?_); rintro e u1 ⟨rfl, hb⟩; have HBu1 := Lib.hid (HBw.out.trans (hb.mono HBw.out.size)); clear hb)
    | ((with_reducible refine wpList_allocZ (o := ⟨some 3, _, _, _, _, _⟩) 26 (encG default) rfl rfl zeroRng ?_); intro g3 u2 hg hat hb; have HAT3 := Lib.hid hat; have HBA3 := Lib.hid hb; have HGE3 := Lib.hid hg; clear hat hb hg)
    | ((with_reducible refine wpList_storeAll rfl 26 (.tmp 3) (.tmp 8) rfl g3 rfl _ _ (encG z) HAT3.out rfl (HLL.out _ _) (HLG.out _) (encG_one _) ?_); intro u3 hat hg hs; have hbb := Below.ofGrown HBA3.out hg HBA3.out.size (Nat.le_of_eq HGE3.out.symm); have HZ3u3 := Lib.hid hat; have HBu3 := Lib.hid (HBu1.out.trans (hbb.mono HBu1.out.size)); clear hat hg hs hbb)
    | (with_reducible refine wpList_loadAll rfl 26 (.tmp 3) rfl g3 rfl _ _ _ (HZ3u3.out) Tryd.underlying26 rfl (HLG.out _) ?_)
    | ((with_reducible refine wpList_one rfl 45 26 35 z (.tmp 10) rfl (by with_unfolding_all rfl) Tryd.underlying45 info2Rng (by decide) (by decide) (encG_len z) ?_); intro g11 u4 hg hb hE; have HEO := Lib.hid hE; have HBO := Lib.hid (HBu3.out.trans (hb.mono HBu3.out.size)); clear hg hb hE))
  go_ret
  exact ⟨_, rfl, by rw [← HZ.out]; exact HEO.out, HBO.out⟩
end Go.Proofs.YtefbllhpibfojaaDoor
