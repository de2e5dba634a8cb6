/- Layer 11: the reference's rumours: a block of 29 cells; New, Push, Left. -/
import Derived.Test.YtepnepgjlnoabaaHumX1
namespace Go.Proofs.Ytepnepgjlnoabaa
open Go.Proofs Stab Go.Shelf Go.RowKit Go.Lib Go.Sort Go.Maps

/-- the reference's table says what is known -/
structure RefIs (R : Nat → Rum) (f : Hm.St) : Prop where
  is : ∀ n : Nat, n < 7 → f (n : Int) = if 0 < (R n).k then some (R n) else none
  lo : ∀ n : Nat, n < 7 → 0 ≤ (R n).k ∧ (R n).k ≤ 100
def refT (R : Nat → Rum) (n : Nat) : List Value := rumC (R n)
def RefHum (w : World) (u : Nat) (t : Int) (f : Hm.St) : Prop := ∃ R, TblAt w u 54 [.int .i64 t] 4 (refT R) ∧ RefIs R f
theorem RefHum.below {w w' : World} {u : Nat} {t : Int} {f : Hm.St} (h : RefHum w u t f) (hb : Below w.heap.size w w') : RefHum w' u t f := by
  obtain ⟨R, h1, h2⟩ := h
  exact ⟨R, h1.below hb, h2⟩
theorem RefHum.keeps {A : Nat → Prop} {w w' : World} {u : Nat} {t : Int} {f : Hm.St} (h : RefHum w u t f) (hk : Keeps A w w') (hA : A u) : RefHum w' u t f := by
  obtain ⟨R, h1, h2⟩ := h
  exact ⟨R, h1.keeps hk hA, h2⟩
theorem RefHum.grown {w w' : World} {u : Nat} {t : Int} {f : Hm.St} {row : Option Nat} (h : RefHum w u t f) (hg : w.grownBy w' row) (hne : some u ≠ row) : RefHum w' u t f := by
  obtain ⟨R, h1, h2⟩ := h
  exact ⟨R, h1.grown hg hne, h2⟩
def refCells (t : Int) : List Value := [.int .i64 t] ++ zInts 28
theorem built_ref (t : Int) : Try.prog.built 54 [(0, .int .i64 t)] = some (refCells t).toArray := by kernel_rfl
theorem ref_new_at {w : World} {u : Nat} {t : Int} (h : At w u 54 (refCells t)) : RefHum w u t (fun _ => none) :=
  ⟨fun _ => ⟨Mem.zero, 0⟩, TblAt.made (z := .int .i64 0) h (fun n => rfl), fun n _ => by simp, fun n _ => by simp⟩
theorem refnew_any (n : Int) (w : World) : Calls Try.prog 8 #[.int .i64 n] w fun e w' => ∃ u, e = .returned (.pointer (some ⟨u, 0, none⟩)) ∧ RefHum w' u (min (max n 1) 100) (fun _ => none) ∧ Below w.heap.size w w' ∧ w.heap.size ≤ u := by
  have HA := Lib.hid (show ∀ t, At (w.alloc (.cells (refCells t).toArray 54)) w.heap.size 54 (refCells t) from fun t => At.newA _ _ rfl)
  have HB := Lib.hid (show ∀ t, Below w.heap.size w (w.alloc (.cells (refCells t).toArray 54)) from fun t => (Below.refl _ _).alloc (Nat.le_refl _) _)
  by_cases h1 : n < 1
  · have h3 : ¬ (100 : Int) < 1 := by omega
    have HE := Lib.hid (show min (max n 1) 100 = 1 by omega)
    go_enter Try.func8, Try.ntmps8
    go_wp2_with (first
      | (with_reducible refine wpList_build (refCells 1).toArray (by with_unfolding_all rfl) 54 #[(0, .tmp 7)] rfl (built_ref 1) ?_)
      | (with_reducible refine wpList_boxN rfl 54 (.tmp 8) rfl (refCells 1).toArray rfl ?_))
    go_ret
    exact ⟨_, rfl, by rw [HE.out]; exact ref_new_at (HA.out 1), HB.out 1, Nat.le_refl _⟩
  · by_cases h2 : 100 < n
    · have HE := Lib.hid (show min (max n 1) 100 = 100 by omega)
      go_enter Try.func8, Try.ntmps8
      go_wp2_with (first
        | (with_reducible refine wpList_build (refCells 100).toArray (by with_unfolding_all rfl) 54 #[(0, .tmp 7)] rfl (built_ref 100) ?_)
        | (with_reducible refine wpList_boxN rfl 54 (.tmp 8) rfl (refCells 100).toArray rfl ?_))
      go_ret
      exact ⟨_, rfl, by rw [HE.out]; exact ref_new_at (HA.out 100), HB.out 100, Nat.le_refl _⟩
    · have HE := Lib.hid (show min (max n 1) 100 = n by omega)
      go_enter Try.func8, Try.ntmps8
      go_wp2_with (first
        | (with_reducible refine wpList_build (refCells n).toArray (by with_unfolding_all rfl) 54 #[(0, .tmp 7)] rfl (built_ref n) ?_)
        | (with_reducible refine wpList_boxN rfl 54 (.tmp 8) rfl (refCells n).toArray rfl ?_))
      go_ret
      exact ⟨_, rfl, by rw [HE.out]; exact ref_new_at (HA.out n), HB.out n, Nat.le_refl _⟩
theorem RefIs.put {R : Nat → Rum} {f : Hm.St} (h : RefIs R f) {m : Mem} {nn : Nat} {T : Int} (hg : m.good = true) (hn : m.n = (nn : Int)) (hT : 1 ≤ T ∧ T ≤ 100) : RefIs (fun i => if i = nn then ⟨m, T⟩ else R i) (Hm.push1 T f m) := by
  refine ⟨fun i hi => ?_, fun i hi => ?_⟩
  · unfold Hm.push1
    rw [if_pos hg]
    by_cases e : i = nn
    · subst e
      simp only [hn, if_true]
      rw [if_pos (by omega)]
    · simp only [if_neg e]
      rw [if_neg (by omega)]
      exact h.is i hi
  · by_cases e : i = nn
    · subst e
      simp only [if_true]
      omega
    · simp only [if_neg e]
      exact h.lo i hi
theorem exec_fieldL {a : Act} {o : Oper} (x : Operand) (ho : o.op = .fieldAddr 54 x 1) (g : Nat) (hx : a.eval x = .pointer (some ⟨g, 0, none⟩)) (w : World) : (execOp a.eval o).run Try.prog w = .ok (.value (.pointer (some ⟨g, 1, none⟩))) w := by
  unfold execOp
  simp only [ho, hx]
  go_simp
set_option maxRecDepth 100000 in
set_option maxHeartbeats 4000000 in
theorem refpush_any {w : World} {u : Nat} {T : Int} {f : Hm.St} (h : RefHum w u T f) (hT : 1 ≤ T ∧ T ≤ 100) (A : Option Addr) (c : Nat) (l : List Mem) (hl : MemsIn w A l) (hA : ∀ g off, 0 < l.length → A = some ⟨g, off, none⟩ → g ≠ u) (hlen : l.length ≤ 1000) :
    Calls Try.prog 10 #[.pointer (some ⟨u, 0, none⟩), .slice A l.length c] w fun e w' => e = .returned (.tuple #[]) ∧ RefHum w' u T (Hm.push T f l) ∧ w.grownBy w' (some u) := by
  have HR := Lib.hid h
  have HL := Lib.hid hl
  have HA := Lib.hid hA
  have HT := Lib.hid hT
  clear h hl hA hT
  go_enter Try.func10, Try.ntmps10
  go_wp2_with fail
  go_loopw [4] (fun i wr => ∃ k : Nat, k ≤ l.length ∧ i = .int .i64 k ∧ RefHum wr u T (Hm.push T f (l.take k)) ∧ w.grownBy wr (some u)) (fun i _ => l.length - (RowKit.intOf i).toNat)
  case atStart => exact ⟨0, by omega, rfl, HR.out, World.grownBy.refl w _⟩
  case round =>
    obtain ⟨k, hk, rfl, hR, hg⟩ := hrel
    by_cases hlt : k < l.length
    · obtain ⟨g, off, rfl, hgl, c0, c1, c2⟩ := HL.out.cells (w' := wr) (fun g off e hlt' => hg.block g hlt' (by intro e2; injection e2 with e2; exact HA.out g off (by omega) e e2)) hlt
      obtain ⟨m, hm⟩ : ∃ m, m = l[k] := ⟨_, rfl⟩
      rw [← hm] at c0 c1 c2
      have HM := Lib.hid hm
      have HRr := Lib.hid hR
      have HG := Lib.hid hg
      have i1 : (0 : Int) ≤ (k : Int) := by omega
      have i2 : (k : Int) < (l.length : Int) := by omega
      have hgr : g < wr.heap.size := Nat.lt_of_lt_of_le hgl hg.size
      clear hm hR hg
      go_wp2_with fail
      obtain ⟨gd, hgd⟩ : ∃ gd, m.good = gd := ⟨_, rfl⟩
      have HGD := Lib.hid hgd
      refine (refgood_at m gd hgd wr).mono ?_
      rintro e w7 ⟨rfl, hb7⟩
      have d0 := (hb7.cell (p := ⟨g, off + k * 3, none⟩) hgr).trans c0
      have d1 := (hb7.cell (p := ⟨g, off + k * 3 + 1, none⟩) hgr).trans c1
      have d2 := (hb7.cell (p := ⟨g, off + k * 3 + 2, none⟩) hgr).trans c2
      have HB7 := Lib.hid hb7
      clear hgd hb7 c0 c1 c2
      cases gd
      · go_wp2_with fail
        go_roundw
        case rel =>
          refine ⟨k + 1, by omega, by go_num, ?_, grown_below HG.out HB7.out⟩
          have e : Hm.push T f (l.take (k + 1)) = Hm.push T f (l.take k) := by
            rw [push_snoc T f l k hlt, ← HM.out]
            unfold Hm.push1
            rw [HGD.out]; rfl
          rw [e]
          exact HRr.out.below HB7.out
        case measure => simp [RowKit.intOf]; omega
      · have hmg := (Mem.good_iff m).1 HGD.out
        obtain ⟨nn, hnn⟩ : ∃ nn : Nat, m.n = (nn : Int) := ⟨m.n.toNat, by omega⟩
        have hn7 : nn < 7 := by omega
        have hn7z : (nn : Int) < 7 := by omega
        have hn0z : (0 : Int) ≤ (nn : Int) := by omega
        have HNN := Lib.hid hnn
        obtain ⟨R, hTb, hIs⟩ := HRr.out.below HB7.out
        have HTb := Lib.hid hTb
        have HIs := Lib.hid hIs
        have r0 := hTb.head (j := 0) (v := .int .i64 T) rfl
        rw [hnn] at d0
        clear hmg hnn hTb hIs
        go_wp2_with fail
        refine wp_region_then (fun w' => ∃ n, w' = w7.drewN n) 18 (by kernel_rfl) (by kernel_rfl) (by kernel_rfl) (by kernel_rfl) (by decide) ⟨1, rfl⟩ ?_
        simp only [List.take_succ_cons, List.take_zero, List.drop_succ_cons, List.drop_zero]
        iterate 18 (first
          | ((with_reducible refine wpQuiet_val (.pointer (some ⟨u, 0, none⟩)) (by with_unfolding_all rfl) (fun w _ => exec_nil _ (by with_unfolding_all rfl) u 0 (by with_unfolding_all rfl) w) ?_); simp only [Act.put, List.setIfInBounds_toArray, List.set_cons_zero, List.set_cons_succ])
          | ((with_reducible refine wpQuiet_val (.pointer (some ⟨u, 1, none⟩)) (by with_unfolding_all rfl) (fun w _ => exec_fieldL _ (by with_unfolding_all rfl) u (by with_unfolding_all rfl) w) ?_); simp only [Act.put, List.setIfInBounds_toArray, List.set_cons_zero, List.set_cons_succ])
          | ((with_reducible refine wpQuiet_val (.agg #[.int .i64 nn, .int .i64 m.i, .int .i64 m.s, .int .i64 T]) (by with_unfolding_all rfl) (fun w' _ => exec_build 48 #[(0, .tmp 25), (1, .tmp 29)] _ (by with_unfolding_all rfl) (by simp only [List.map_toArray, List.map_cons, List.map_nil]; with_unfolding_all exact built_rum ⟨nn, m.i, m.s⟩ T) w') ?_); simp only [Act.put, List.setIfInBounds_toArray, List.set_cons_zero, List.set_cons_succ])
          | (go_big_quiet_step (fail)))
        refine wpQuiet_nil ?_
        intro _ hw'
        obtain ⟨nq, rfl⟩ := hw'
        have hB7 := below_drewN (Below.refl w7.heap.size w7) nq
        have hTb2 := HTb.out.below hB7
        have hG7 : w.grownBy (w7.drewN nq) (some u) := grown_below HG.out (HB7.out.trans (hB7.mono HB7.out.size))
        have hrm : rumC ⟨m, T⟩ = [.int .i64 nn, .int .i64 m.i, .int .i64 m.s, .int .i64 T] := by unfold rumC; rw [HNN.out]
        refine wpList_store_mid rfl 48 (.tmp 33) (.tmp 30) rfl u (1 + nn * 4) #[.int .i64 nn, .int .i64 m.i, .int .i64 m.s, .int .i64 T] rfl rfl (hTb2.there hn7) (by kernel_rfl) (by have h := all_oneCell_toArray (rumC_oneCell ⟨m, T⟩); rw [hrm] at h; exact h) ?_
        have hp : TblAt ((w7.drewN nq).setCells u (1 + nn * 4) #[.int .i64 nn, .int .i64 m.i, .int .i64 m.s, .int .i64 T].toList) u 54 [.int .i64 T] 4 (fun i => if i = nn then rumC ⟨m, T⟩ else refT R i) := by
          have h := hTb2.put hn7 (rumC ⟨m, T⟩) rfl
          rw [hrm] at h ⊢
          exact h
        have hg8 : w.grownBy ((w7.drewN nq).setCells u (1 + nn * 4) #[.int .i64 nn, .int .i64 m.i, .int .i64 m.s, .int .i64 T].toList) (some u) := grown_setCells u _ _ _ _ hG7
        generalize (w7.drewN nq).setCells u (1 + nn * 4) #[.int .i64 nn, .int .i64 m.i, .int .i64 m.s, .int .i64 T].toList = w8 at hp hg8 ⊢
        have HP := Lib.hid hp
        have HG8 := Lib.hid hg8
        clear hg8 hp hB7 hTb2 hG7 hrm d0 d1 d2 r0
        refine wpList_nil ?_
        simp only [Act.put]
        go_wp2_with fail
        go_roundw
        case rel =>
          refine ⟨k + 1, by omega, by go_num, ?_, HG8.out⟩
          rw [push_snoc T f l k hlt, ← HM.out]
          refine ⟨_, HP.out.congr (c' := refT fun i => if i = nn then ⟨m, T⟩ else R i) fun i => ?_, HIs.out.put HGD.out HNN.out HT.out⟩
          show (if i = nn then rumC ⟨m, T⟩ else rumC (R i)) = rumC (if i = nn then ⟨m, T⟩ else R i)
          by_cases e : i = nn
          · rw [if_pos e, if_pos e]
          · rw [if_neg e, if_neg e]
        case measure => simp [RowKit.intOf]; omega
    · have hkl : k = l.length := by omega
      rw [show l.take k = l by rw [hkl, List.take_length]] at hR
      have HR3 := Lib.hid hR
      have HG3 := Lib.hid hg
      clear hR hg hkl
      go_wp2_with fail
      go_end0
      exact ⟨rfl, HR3.out, HG3.out⟩
/-- what is known of the nodes below k -/
def allU (f : Hm.St) (k : Nat) : List Rum := (List.range k).filterMap fun n : Nat => f (n : Int)
theorem allU_succ (f : Hm.St) (k : Nat) : allU f (k + 1) = allU f k ++ (match f (k : Int) with | some r => [r] | none => []) := by
  unfold allU
  rw [List.range_succ, List.filterMap_append]
  congr 1
  rw [List.filterMap_cons]
  cases f (k : Int) <;> rfl
theorem allU_all {f : Hm.St} (h0 : f 0 = none) : allU f 7 = Hm.all f := by
  have e : List.range 7 = [0, 1, 2, 3, 4, 5, 6] := by decide
  unfold allU Hm.all nodes
  rw [e, List.filterMap_cons]
  simp only [show ((0 : Nat) : Int) = 0 from rfl, h0]
  rfl
theorem allU_len (f : Hm.St) (k : Nat) : (allU f k).length ≤ k := by
  have h := List.length_filterMap_le (fun n : Nat => f (n : Int)) (List.range k)
  rw [List.length_range] at h
  exact h
set_option maxRecDepth 100000 in
set_option maxHeartbeats 4000000 in
theorem refleft_any {w : World} {u : Nat} {T : Int} {f : Hm.St} (h : RefHum w u T f) (h0 : f 0 = none) :
    Calls Try.prog 16 #[.pointer (some ⟨u, 0, none⟩)] w fun e w' => ∃ v, e = .returned v ∧ Own w' w.heap.size 48 4 v (Hm.all f).length (rumsV (Hm.all f)) ∧ Below w.heap.size w w' := by
  have HR := Lib.hid h
  have H0 := Lib.hid h0
  obtain ⟨i0, hi, hz0, hz1, hz2⟩ := info_parts info_rum
  have HOn := Lib.hid (show Own (w.alloc (.cells #[] 48)) w.heap.size 48 4 (.slice (some ⟨w.heap.size, 0, none⟩) 0 0) 0 (rumsV (allU f 1)) from by
    have h1 : allU f 1 = [] := by rw [allU_succ, show ((0 : Nat) : Int) = 0 from rfl, h0]; rfl
    rw [h1]
    exact Own.made w 48 4 [] 0 0 (Nat.le_refl _) (Nat.le_refl _) (by unfold maxLen; omega) rfl)
  have hl1 : (allU f 1).length = 0 := by rw [allU_succ, show ((0 : Nat) : Int) = 0 from rfl, h0]; rfl
  have HL1 := Lib.hid hl1
  clear h h0 hl1
  go_enter Try.func16, Try.ntmps16
  go_wp2_with fail
  have HB0 := Lib.hid (show Below w.heap.size w (w.alloc (.cells #[] 48)) from (Below.refl _ _).alloc (Nat.le_refl _) _)
  go_loopw [3, 4] (fun v3 i wr => ∃ k : Nat, 1 ≤ k ∧ k ≤ 7 ∧ i = .int .i64 k ∧ Own wr w.heap.size 48 4 v3 (allU f k).length (rumsV (allU f k)) ∧ Below w.heap.size w wr) (fun _ i _ => 7 - (RowKit.intOf i).toNat)
  case atStart => exact ⟨1, by omega, by omega, rfl, by rw [HL1.out]; exact HOn.out, HB0.out⟩
  case round =>
    obtain ⟨k, hk1, hk7, rfl, hO, hB⟩ := hrel
    have HO := Lib.hid hO
    have HB := Lib.hid hB
    clear hO hB
    by_cases hlt : k < 7
    · obtain ⟨R, hTb, hIs⟩ := HR.out.below HB.out
      obtain ⟨r, hr⟩ : ∃ r, r = R k := ⟨_, rfl⟩
      have hfk := hIs.is k hlt
      rw [← hr] at hfk
      have hcell : ∀ j v, (rumC r)[j]? = some v → wr.cell? ⟨u, 1 + k * 4 + j, none⟩ = some v := fun j v hv => hTb.cell hlt (by show (rumC (R k))[j]? = some v; rw [← hr]; exact hv)
      have e0 := hcell 0 (.int .i64 r.m.n) rfl
      rw [Nat.add_zero] at e0
      have e1 := hcell 1 (.int .i64 r.m.i) rfl
      have e2 := hcell 2 (.int .i64 r.m.s) rfl
      have e3 := hcell 3 (.int .i64 r.k) rfl
      have hlo := hIs.lo k hlt
      rw [← hr] at hlo
      have i1 : (1 : Int) ≤ (k : Int) := by omega
      have i2 : (k : Int) < 7 := by omega
      have HFK := Lib.hid hfk
      have HBq := Lib.hid (show w.heap.size ≤ wr.heap.size from HB.out.size)
      have hU := allU_len f k
      obtain ⟨nu, hnu⟩ : ∃ nu, nu = (allU f k).length := ⟨_, rfl⟩
      have HNU := Lib.hid hnu
      have hnu7 : nu ≤ 7 := by omega
      clear hTb hIs hr hfk hcell hU hnu
      by_cases hpos : 0 < r.k
      · go_wp2_with (at_builtin; (refine wpList_append_Own _ rfl (.tmp 18) (.tmp 25) 36 rfl w.heap.size 48 i0 _ 4 32 Try.underlying36 hi hz0 hz1 hz2 rfl (by omega) _ _ _ rfl (HO.out.alloc _) ⟨_, 0, none⟩ 1 1 (rumC r) rfl rfl (four_new _ _) (rumC_oneCell _) ?_ ?_ ?_ ?_); (focus (rw [← HNU.out]; unfold maxLen; omega)); (focus (rw [← HNU.out]; omega)); (focus (have := HBq.out; simp; omega)); intro v9 w9 hO9 hg9 hat9)
        go_roundw
        case rel =>
          refine ⟨k + 1, by omega, by omega, by go_num, ?_, ?_⟩
          · have e : allU f (k + 1) = allU f k ++ [r] := by rw [allU_succ, HFK.out, if_pos hpos]
            have e2 : rumsV (allU f (k + 1)) = rumsV (allU f k) ++ rumC r := by rw [e]; simp [rumsV]
            rw [e2, e, List.length_append]
            exact hO9
          · exact own_below2 (HO.out.alloc _) (HB.out.alloc HB.out.size _) (Nat.le_refl _) (HB.out.alloc HB.out.size _).size hg9
        case measure => simp [RowKit.intOf]; omega
      · go_wp2_with fail
        go_roundw
        case rel =>
          have e : allU f (k + 1) = allU f k := by rw [allU_succ, HFK.out, if_neg hpos, List.append_nil]
          exact ⟨k + 1, by omega, by omega, by go_num, by rw [e]; exact HO.out, HB.out⟩
        case measure => simp [RowKit.intOf]; omega
    · have hk : k = 7 := by omega
      subst hk
      go_wp2_with fail
      go_ret
      exact ⟨u3, rfl, by rw [← allU_all H0.out]; exact HO.out, HB.out⟩
end Go.Proofs.Ytepnepgjlnoabaa
