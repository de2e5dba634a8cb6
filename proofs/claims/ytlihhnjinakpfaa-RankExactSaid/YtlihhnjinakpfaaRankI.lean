/- Layer 10: awake. -/
import Derived.Test.YtlihhnjinakpfaaRankH
namespace Go.Proofs.Ytlihhnjinakpfaa
open Go.RowKit Go.Maps Go.Sort

theorem mems_laid (w : World) (l : List Mem) (C : Array Value) (h : C = (memsV l).toArray) (g : Nat) (hg : g = w.heap.size) : MemsIn (w.alloc (.cells C 28)) (some ⟨g, 0, none⟩) l := fun _ => by
  subst h hg
  refine ⟨_, _, rfl, by simp, fun i hi j v hv => ?_⟩
  have hj : j < 3 := by
    have := (List.getElem?_eq_some_iff.1 hv).1
    simpa [cellsM] using this
  rw [Nat.zero_add]
  exact (At.new w 28 (memsV l)).cell' (memsV_at l i hi j v hv)
abbrev ViewU := ViewAt Unit
def mA : Mem := ⟨2, 0, 0⟩
def mB : Mem := ⟨2, 0, 1⟩
def mC : Mem := ⟨2, 1, 0⟩
theorem ints_own {w : World} {base : Nat} {v : Value} {l : List Int} (h : Own w base 3 1 v l.length (l.map (.int .i64 ·))) : ∃ A c, v = .slice A l.length c ∧ IntsIn w A l := by
  by_cases h0 : 0 < l.length
  · obtain ⟨g, cap, rfl, _, hg, _, _⟩ := h.form h0
    refine ⟨_, _, rfl, fun _ => ⟨g, 0, rfl, hg, fun i hi => ?_⟩⟩
    rw [h.cellAt rfl (0 + i) (by omega), Nat.zero_add]
    simp [hi]
  · rcases h.2 with ⟨rfl, h2⟩ | ⟨g, cap, cur, fr, h1, _⟩
    · exact ⟨none, 0, by rw [h2], fun h => absurd h h0⟩
    · exact ⟨_, cap, h1, fun h => absurd h h0⟩
theorem IntsIn.below {w w' : World} {A : Option Addr} {l : List Int} (h : IntsIn w A l) (hb : Below w.heap.size w w') : IntsIn w' A l := fun h0 => by
  obtain ⟨g, off, rfl, hlt, hc⟩ := h h0
  exact ⟨g, off, rfl, Nat.lt_of_lt_of_le hlt hb.size, fun i hi => (hb.cell (p := ⟨g, off + i, none⟩) hlt).trans (hc i hi)⟩
theorem ints_laid (w : World) (l : List Int) (C : Array Value) (h : C = (l.map (Value.int .i64)).toArray) (g : Nat) (hg : g = w.heap.size) : IntsIn (w.alloc (.cells C 3)) (some ⟨g, 0, none⟩) l := fun _ => by
  subst h hg
  refine ⟨_, _, rfl, by simp, fun i hi => ?_⟩
  rw [Nat.zero_add]
  refine (At.new w 3 (l.map (Value.int .i64))).cell' ?_
  simp [hi]
theorem view_of_eq {w : World} {p b N : Nat} {f g : Known} (h : ViewU w p b N f) (e : f = g) : ViewU w p b N g := e ▸ h
def onlyC : Known := fun k => if k = 2 then some mC else none
def onlyB : Known := fun k => if k = 2 then some mB else none
theorem hear_C : hear (fun _ => none) mC = onlyC := rfl
theorem hear_B : hear (fun _ => none) mB = onlyB := rfl
theorem takes_CA : takes onlyC mA = false := by decide
theorem takes_CB : takes onlyC mB = false := by decide
theorem takes_CC : takes onlyC mC = false := by decide
theorem takes_BA : takes onlyB mA = false := by decide
theorem takes_BC : takes onlyB mC = true := by decide
theorem upd_BC : upd onlyB mC = onlyC := by
  funext k
  unfold upd onlyB onlyC
  by_cases hk : k = 2 <;> simp [hk, mC]
theorem known_cab : (merge (fun _ => none) [mC, mA, mB]).1 = onlyC := by
  simp only [merge, hear_C]
  simp [hear, takes_CA, takes_CB]
theorem known_b : (merge (fun _ => none) [mB]).1 = onlyB := by
  simp only [merge, hear_B]
theorem known_acc : merge onlyB [mA, mC, mC] = (onlyC, [mC]) := by
  simp [merge, hear, takes_BA, takes_BC, upd_BC, takes_CC]
theorem all_C : all onlyC = [mC] := by decide
theorem present_C : present onlyC = [2] := by decide

set_option maxRecDepth 100000 in
set_option maxHeartbeats 4000000 in
theorem awake_any (w : World) :
    Calls Try.prog 8 #[] w fun e w' => e = .returned (.bool true) ∧ Below w.heap.size w w' := by
  go_enter Try.func8, Try.ntmps8
  go_wp2_with fail
  obtain ⟨w1, hw1⟩ : ∃ w1, w1 = ((w.alloc (.cells #[.int .i64 2, .int .i64 0, .int .i64 0] 28)).alloc (.cells #[.int .i64 2, .int .i64 0, .int .i64 1] 28)).alloc (.cells #[.int .i64 2, .int .i64 1, .int .i64 0] 28) := ⟨_, rfl⟩
  rw [← hw1]
  have hs1 : w1.heap.size = w.heap.size + 1 + 1 + 1 := by rw [hw1]; simp
  have hA : At w1 w.heap.size 28 (cellsM mA) := by rw [hw1]; exact ((memAt w mA).alloc _).alloc _
  have hB : At w1 (w.heap.size + 1) 28 (cellsM mB) := by
    have h := memAt (w.alloc (.cells #[.int .i64 2, .int .i64 0, .int .i64 0] 28)) mB
    rw [World.size_alloc] at h
    rw [hw1]; exact h.alloc _
  have hC : At w1 (w.heap.size + 1 + 1) 28 (cellsM mC) := by
    have h := memAt ((w.alloc (.cells #[.int .i64 2, .int .i64 0, .int .i64 0] 28)).alloc (.cells #[.int .i64 2, .int .i64 0, .int .i64 1] 28)) mC
    rw [World.size_alloc, World.size_alloc] at h
    rw [hw1]; exact h
  have hb1 : Below w.heap.size w w1 := by rw [hw1]; exact (((Below.refl _ _).alloc (Nat.le_refl _) _).alloc (by simp) _).alloc (by simp; omega) _
  have HT := Lib.hid (show ∀ w', Below w1.heap.size w1 w' → w'.cell? ⟨w.heap.size, 0, none⟩ = some (.int .i64 2) ∧ w'.cell? ⟨w.heap.size, 1, none⟩ = some (.int .i64 0) ∧ w'.cell? ⟨w.heap.size, 2, none⟩ = some (.int .i64 0) ∧
      w'.cell? ⟨w.heap.size + 1, 0, none⟩ = some (.int .i64 2) ∧ w'.cell? ⟨w.heap.size + 1, 1, none⟩ = some (.int .i64 0) ∧ w'.cell? ⟨w.heap.size + 1, 2, none⟩ = some (.int .i64 1) ∧
      w'.cell? ⟨w.heap.size + 1 + 1, 0, none⟩ = some (.int .i64 2) ∧ w'.cell? ⟨w.heap.size + 1 + 1, 1, none⟩ = some (.int .i64 1) ∧ w'.cell? ⟨w.heap.size + 1 + 1, 2, none⟩ = some (.int .i64 0) from fun w' hb => by
    have A := hA.below hb hA.lt
    have B := hB.below hb hB.lt
    have C := hC.below hb hC.lt
    exact ⟨A.cell' rfl, A.cell' rfl, A.cell' rfl, B.cell' rfl, B.cell' rfl, B.cell' rfl, C.cell' rfl, C.cell' rfl, C.cell' rfl⟩)
  have HB1 := Lib.hid hb1
  clear hA hB hC hb1 hw1
  refine (new_any (H := Unit) _ _ [mC, mA, mB] (mems_laid w1 [mC, mA, mB] _ rfl _ (by omega)) (by decide) (by decide)).mono ?_
  rintro e w2 ⟨p1, b1, rfl, hV1, hb2, hp1, hbb1⟩
  have hb12 : Below w1.heap.size w1 w2 := ((Below.refl _ _).alloc (Nat.le_refl _) _).trans (hb2.mono (by simp))
  rw [known_cab] at hV1
  obtain ⟨a0, a1, a2, b0', b1', b2', c0, c1, c2⟩ := HT.out _ hb12
  have HV1 := Lib.hid hV1
  have HB2 := Lib.hid hb12
  have hs2 : w1.heap.size ≤ w2.heap.size := hb12.size
  clear hV1 hb2 hb12
  go_wp2_with fail
  refine (new_any (H := Unit) _ _ [mB] (mems_laid w2 [mB] _ rfl _ (by omega)) (by decide) (by decide)).mono ?_
  rintro e w3 ⟨p2, b2, rfl, hV2, hb3, hp2, hbb2⟩
  have hb23 : Below w2.heap.size w2 w3 := ((Below.refl _ _).alloc (Nat.le_refl _) _).trans (hb3.mono (by simp))
  have hb13 : Below w1.heap.size w1 w3 := HB2.out.trans (hb23.mono hs2)
  rw [known_b] at hV2
  clear a0 a1 a2 b0' b1' b2' c0 c1 c2
  obtain ⟨a0, a1, a2, b0', b1', b2', c0, c1, c2⟩ := HT.out _ hb13
  have HV1' := Lib.hid (view_below HV1.out hb23)
  have HV2 := Lib.hid hV2
  have HB3 := Lib.hid hb13
  have hs3 : w1.heap.size ≤ w3.heap.size := hb13.size
  have hp1l := HV1.out.1.lt
  have hb1l := HV1.out.2.1.lt
  have hp2l := hV2.1.lt
  have hb2l := hV2.2.1.lt
  rw [World.size_alloc] at hp2 hbb2
  clear hV2 hb3 hb13 hb23 HV1 HB2
  go_wp2_with fail
  refine (merge_any (H := Unit) (view_below HV2.out ((Below.refl _ _).alloc (Nat.le_refl _) _)) _ _ [mA, mC, mC] (mems_laid w3 [mA, mC, mC] _ rfl _ rfl) (fun g off _ e => by injection e with e; injection e with e; omega) (by decide) (by decide)).mono ?_
  rintro e w4 ⟨v, rfl, hV3, hg4, hO4⟩
  rw [known_acc] at hV3 hO4
  have hg34 : w3.grownBy w4 (some b2) := grown_trans (grown_alloc (World.grownBy.refl _ _) _) hg4
  have hb14 : Below w1.heap.size w1 w4 := Below.ofGrown HB3.out hg34 hs3 (by omega)
  clear a0 a1 a2 b0' b1' b2' c0 c1 c2
  obtain ⟨a0, a1, a2, b0', b1', b2', c0, c1, c2⟩ := HT.out _ hb14
  have HV1 := Lib.hid (view_grown HV1'.out hg34 (by intro e; injection e with e; omega) (by intro e; injection e with e; omega))
  have HV2' := Lib.hid hV3
  have HB4 := Lib.hid hb14
  have hs4 : w1.heap.size ≤ w4.heap.size := hb14.size
  have hvf : ∃ A c, v = .slice A 1 c := by
    obtain ⟨A, c, h, _⟩ := Mems.own hO4
    exact ⟨A, c, h⟩
  obtain ⟨A, c, rfl⟩ := hvf
  clear hV3 hg4 hg34 hO4 hb14 HV1' HV2 HB3
  go_wp2_with fail
  refine (get_any HV1.out 2 (by omega) (by omega)).mono ?_
  rintro e w5 ⟨rfl, hb5⟩
  rw [show found onlyC 2 = .tuple #[memV mC, .bool true] from rfl]
  have hb15 : Below w1.heap.size w1 w5 := HB4.out.trans (hb5.mono hs4)
  clear a0 a1 a2 b0' b1' b2' c0 c1 c2
  obtain ⟨a0, a1, a2, b0', b1', b2', c0, c1, c2⟩ := HT.out _ hb15
  have HV1' := Lib.hid (view_below HV1.out hb5)
  have HV2 := Lib.hid (view_below HV2'.out hb5)
  have HB5 := Lib.hid hb15
  have hs5 : w1.heap.size ≤ w5.heap.size := hb15.size
  clear hb5 hb15 HV1 HV2' HB4
  unfold memV
  simp only [show mC.n = 2 from rfl, show mC.i = 1 from rfl, show mC.s = 0 from rfl]
  go_wp2_with fail
  have hM5 : At (w5.alloc (.cells #[.int .i64 2, .int .i64 1, .int .i64 0] 28)) w5.heap.size 28 (cellsM mC) := memAt w5 mC
  refine (get_any (view_below HV2.out ((Below.refl _ _).alloc (Nat.le_refl _) _)) 2 (by omega) (by omega)).mono ?_
  rintro e w6 ⟨rfl, hb6⟩
  rw [show found onlyC 2 = .tuple #[memV mC, .bool true] from rfl]
  have hM6 : At (w6.alloc (.cells #[.int .i64 2, .int .i64 1, .int .i64 0] 28)) w5.heap.size 28 (cellsM mC) := (hM5.below hb6 hM5.lt).alloc _
  have hN6 : At (w6.alloc (.cells #[.int .i64 2, .int .i64 1, .int .i64 0] 28)) w6.heap.size 28 (cellsM mC) := memAt w6 mC
  have hb56 : Below w5.heap.size w5 w6 := ((Below.refl _ _).alloc (Nat.le_refl _) _).trans (hb6.mono (by simp))
  have hb16 : Below w1.heap.size w1 (w6.alloc (.cells #[.int .i64 2, .int .i64 1, .int .i64 0] 28)) := (HB5.out.trans (hb56.mono hs5)).alloc (Nat.le_trans hs5 hb56.size) _
  have HV1 := Lib.hid (view_below HV1'.out (hb56.alloc hb56.size (.cells #[.int .i64 2, .int .i64 1, .int .i64 0] 28)))
  have HB6 := Lib.hid hb16
  have HM := Lib.hid hM6
  have HN := Lib.hid hN6
  have hs6 : w5.heap.size + 1 ≤ w6.heap.size := by have := hb6.size; rw [World.size_alloc] at this; exact this
  have hM56 := hM5.below hb6 hM5.lt
  have m0 := hM56.cell' (i := 0) (v := .int .i64 2) rfl
  have m1 := hM56.cell' (i := 1) (v := .int .i64 1) rfl
  have m2 := hM56.cell' (i := 2) (v := .int .i64 0) rfl
  clear a0 a1 a2 b0' b1' b2' c0 c1 c2
  obtain ⟨a0, a1, a2, b0', b1', b2', c0, c1, c2⟩ := HT.out _ (HB5.out.trans (hb56.mono hs5))
  have hs15 : w1.heap.size ≤ w5.heap.size := hs5
  have e1 : w.heap.size < w6.heap.size := by omega
  have e2 : w.heap.size + 1 < w6.heap.size := by omega
  have e3 : w.heap.size + 1 + 1 < w6.heap.size := by omega
  have e4 : w5.heap.size < w6.heap.size := by omega
  have hT7 : ∀ w', Below (w6.heap.size + 1) (w6.alloc (.cells #[.int .i64 2, .int .i64 1, .int .i64 0] 28)) w' → (Below w1.heap.size w1 w' ∧ ViewU w' p1 b1 [mC, mA, mB].length onlyC) ∧ (w'.cell? ⟨w5.heap.size, 0, none⟩ = some (.int .i64 2) ∧ w'.cell? ⟨w5.heap.size, 1, none⟩ = some (.int .i64 1) ∧ w'.cell? ⟨w5.heap.size, 2, none⟩ = some (.int .i64 0) ∧
      w'.cell? ⟨w6.heap.size, 0, none⟩ = some (.int .i64 2) ∧ w'.cell? ⟨w6.heap.size, 1, none⟩ = some (.int .i64 1) ∧ w'.cell? ⟨w6.heap.size, 2, none⟩ = some (.int .i64 0)) := fun w' hb => by
    have M := HM.out.below hb (by omega)
    have N := HN.out.below hb (by omega)
    refine ⟨⟨HB6.out.trans (hb.mono (by omega)), view_below HV1.out (by rw [World.size_alloc]; exact hb)⟩, M.cell' rfl, M.cell' rfl, M.cell' rfl, N.cell' rfl, N.cell' rfl, N.cell' rfl⟩
  have HT7 := Lib.hid hT7
  have HS7 := Lib.hid (show (w6.alloc (.cells #[.int .i64 2, .int .i64 1, .int .i64 0] 28)).heap.size = w6.heap.size + 1 by simp)
  clear hT7 hM56 hM5 hM6 hN6 hb6 hb56 hb16 HV1' HV2 HB5
  unfold memV
  simp only [show mC.n = 2 from rfl, show mC.i = 1 from rfl, show mC.s = 0 from rfl]
  go_wp2_with fail
  refine (above_at mB mA true (by decide) _).mono ?_
  rintro e w7 ⟨rfl, hb⟩
  clear a0 a1 a2 b0' b1' b2' c0 c1 c2 m0 m1 m2
  have hb7 : Below (w6.heap.size + 1) (w6.alloc (.cells #[.int .i64 2, .int .i64 1, .int .i64 0] 28)) w7 := by rw [← HS7.out]; exact hb
  clear hb
  obtain ⟨⟨hbw, hv⟩, m0, m1, m2, n0, n1, n2⟩ := HT7.out _ hb7
  obtain ⟨a0, a1, a2, b0', b1', b2', c0, c1, c2⟩ := HT.out _ hbw
  have HB7 := Lib.hid hb7
  have HBW := Lib.hid hbw
  have HV := Lib.hid hv
  clear hb7 hbw hv
  go_wp2_with fail
  refine (above_at mC mB true (by decide) _).mono ?_
  rintro e w8 ⟨rfl, hb⟩
  clear a0 a1 a2 b0' b1' b2' c0 c1 c2 m0 m1 m2 n0 n1 n2 HBW HV
  have hb8 : Below (w6.heap.size + 1) (w6.alloc (.cells #[.int .i64 2, .int .i64 1, .int .i64 0] 28)) w8 := HB7.out.trans (hb.mono (by have := HB7.out.size; rw [HS7.out] at this; exact this))
  clear hb
  obtain ⟨⟨hbw, hv⟩, m0, m1, m2, n0, n1, n2⟩ := HT7.out _ hb8
  obtain ⟨a0, a1, a2, b0', b1', b2', c0, c1, c2⟩ := HT.out _ hbw
  have HB8 := Lib.hid hb8
  have HBW := Lib.hid hbw
  have HV := Lib.hid hv
  clear hb8 hbw hv
  go_wp2_with fail
  refine (above_at mA mA false (by decide) _).mono ?_
  rintro e w9 ⟨rfl, hb⟩
  clear a0 a1 a2 b0' b1' b2' c0 c1 c2 m0 m1 m2 n0 n1 n2 HBW HV
  have hb9 : Below (w6.heap.size + 1) (w6.alloc (.cells #[.int .i64 2, .int .i64 1, .int .i64 0] 28)) w9 := HB8.out.trans (hb.mono (by have := HB8.out.size; rw [HS7.out] at this; exact this))
  clear hb
  obtain ⟨⟨hbw, hv⟩, m0, m1, m2, n0, n1, n2⟩ := HT7.out _ hb9
  obtain ⟨a0, a1, a2, b0', b1', b2', c0, c1, c2⟩ := HT.out _ hbw
  have HB9 := Lib.hid hb9
  have HBW := Lib.hid hbw
  have HV := Lib.hid hv
  clear hb9 hbw hv
  go_wp2_with fail
  refine (present_any HV.out).mono ?_
  rintro e w10 ⟨v, rfl, hO, hb⟩
  rw [present_C] at hO
  obtain ⟨A2, d2, rfl, hI⟩ := ints_own hO
  have HB10 := Lib.hid (HBW.out.trans (hb.mono HBW.out.size))
  have HI := Lib.hid hI
  clear hb hO hI a0 a1 a2 b0' b1' b2' c0 c1 c2 m0 m1 m2 n0 n1 n2 HB9
  go_wp2_with fail
  refine (refInts_any _ _ _ _ [2] [2] _ (by decide) (HI.out.below ((Below.refl _ _).alloc (Nat.le_refl _) _)) (ints_laid _ [2] _ rfl _ rfl)).mono ?_
  rintro e w11 ⟨rfl, hb⟩
  have HB11 := Lib.hid ((HB10.out.alloc HB10.out.size (.cells #[.int .i64 2] 3)).trans (hb.mono (HB10.out.alloc HB10.out.size (.cells #[.int .i64 2] 3)).size))
  clear hb
  simp only [decide_true]
  go_wp2_with fail
  refine (good_at Mem.zero false (by decide) _).mono ?_
  rintro e w12 ⟨rfl, hb⟩
  have HB12 := Lib.hid hb
  clear hb
  go_wp2_with fail
  go_ret
  refine ⟨rfl, ?_⟩
  exact HB1.out.trans ((HB11.out.trans (HB12.out.mono HB11.out.size)).mono (by omega))
end Go.Proofs.Ytlihhnjinakpfaa
