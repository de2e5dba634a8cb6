/- Layer 11: the references' Good and Same at members. -/
import Derived.Test.YtepnepgjlnoabaaHumT
namespace Go.Proofs.Ytepnepgjlnoabaa
open Go.RowKit Go.Maps Go.Sort

set_option maxRecDepth 100000 in
set_option maxHeartbeats 2000000 in
theorem refgood_any (m : Mem) (w : World) : Calls Try.prog 18 #[memV m] w fun e w' => e = .returned (.bool m.good) ∧ Below w.heap.size w w' := by
  unfold memV
  have hA := memAt w m
  have hB : Below w.heap.size w (w.alloc (.cells #[.int .i64 m.n, .int .i64 m.i, .int .i64 m.s] 41)) := (Below.refl _ _).alloc (Nat.le_refl _) _
  have c0 := hA.cell' (i := 0) (v := .int .i64 m.n) rfl
  have c1 := hA.cell' (i := 1) (v := .int .i64 m.i) rfl
  have c2 := hA.cell' (i := 2) (v := .int .i64 m.s) rfl
  have HB := Lib.hid hB
  clear hA hB
  go_enter Try.func18, Try.ntmps18
  by_cases h1 : 1 ≤ m.n
  · by_cases h2 : m.n ≤ 6
    · by_cases h3 : 0 ≤ m.i
      · by_cases h4 : m.i ≤ 1073741824
        · by_cases h5 : 0 ≤ m.s
          · by_cases h6 : m.s ≤ 3
            · have hg : m.good = true := by rw [Mem.good_iff]; omega
              rw [hg]
              go_wp2_with fail
              go_ret
              exact ⟨rfl, HB.out⟩
            · have hg : m.good = false := by rw [Bool.eq_false_iff]; intro h; rw [Mem.good_iff] at h; omega
              rw [hg]
              go_wp2_with fail
              go_ret
              exact ⟨rfl, HB.out⟩
          · have hg : m.good = false := by rw [Bool.eq_false_iff]; intro h; rw [Mem.good_iff] at h; omega
            rw [hg]
            go_wp2_with fail
            go_ret
            exact ⟨rfl, HB.out⟩
        · have hg : m.good = false := by rw [Bool.eq_false_iff]; intro h; rw [Mem.good_iff] at h; omega
          rw [hg]
          go_wp2_with fail
          go_ret
          exact ⟨rfl, HB.out⟩
      · have hg : m.good = false := by rw [Bool.eq_false_iff]; intro h; rw [Mem.good_iff] at h; omega
        rw [hg]
        go_wp2_with fail
        go_ret
        exact ⟨rfl, HB.out⟩
    · have hg : m.good = false := by rw [Bool.eq_false_iff]; intro h; rw [Mem.good_iff] at h; omega
      rw [hg]
      go_wp2_with fail
      go_ret
      exact ⟨rfl, HB.out⟩
  · have hg : m.good = false := by rw [Bool.eq_false_iff]; intro h; rw [Mem.good_iff] at h; omega
    rw [hg]
    go_wp2_with fail
    go_ret
    exact ⟨rfl, HB.out⟩
theorem refgood_at (m : Mem) (g : Bool) (hg : m.good = g) (w : World) : Calls Try.prog 18 #[.agg #[.int .i64 m.n, .int .i64 m.i, .int .i64 m.s]] w fun e w' => e = .returned (.bool g) ∧ Below w.heap.size w w' := by
  subst hg
  exact refgood_any m w
set_option maxRecDepth 100000 in
set_option maxHeartbeats 1000000 in
theorem refSame_any (A B : Option Addr) (c d : Nat) (a b : List Mem) (w : World) (hn : a.length < 1099511627776) (ha : MemsIn w A a) (hb : MemsIn w B b) :
    Calls Try.prog 11 #[.slice A a.length c, .slice B b.length d] w fun e w' => e = .returned (.bool (decide (a = b))) ∧ Below w.heap.size w w' := by
  have HA := Lib.hid ha
  have HB := Lib.hid hb
  clear ha hb
  go_enter Try.func11, Try.ntmps11
  by_cases hl : a.length = b.length
  · rw [← hl]
    have HLL := Lib.hid hl
    clear hl
    go_wp2_with fail
    go_loopw [5] (fun i wr => ∃ k : Nat, k ≤ a.length ∧ i = .int .i64 k ∧ Below w.heap.size w wr ∧ a.take k = b.take k) (fun i _ => a.length - (RowKit.intOf i).toNat)
    case atStart => exact ⟨0, by omega, rfl, Below.refl _ _, by simp⟩
    case round =>
      obtain ⟨k, hk, rfl, hb, he⟩ := hrel
      have HBW := Lib.hid hb
      by_cases hlt : k < a.length
      · have hlt2 : k < b.length := by have := HLL.out; omega
        have i1 : (0 : Int) ≤ (k : Int) := by omega
        have i2 : (k : Int) < (a.length : Int) := by omega
        have HE := Lib.hid he
        clear he
        obtain ⟨ga, oa, rfl, _, a0, a1, a2⟩ := HA.out.cells (w' := wr) (fun g off e hlt' => hb.block g hlt') hlt
        obtain ⟨gb, ob, rfl, _, b0, b1, b2⟩ := HB.out.cells (w' := wr) (fun g off e hlt' => hb.block g hlt') hlt2
        obtain ⟨x, hx⟩ : ∃ x, x = a[k] := ⟨_, rfl⟩
        obtain ⟨y, hy⟩ : ∃ y, y = b[k] := ⟨_, rfl⟩
        rw [← hx] at a0 a1 a2
        rw [← hy] at b0 b1 b2
        have hne := fun w => run_neq_mem w x y
        unfold memV at hne
        by_cases hxy : x = y
        · have hq : decide (x = y) = true := by simp [hxy]
          have HXY := Lib.hid hxy
          have HX := Lib.hid (And.intro hx hy)
          clear hxy hx hy
          simp only [hq] at hne
          clear hq
          clear hb
          go_wp2_with fail
          go_quiet (fail)
          go_wp2_with fail
          go_roundw
          case rel =>
            refine ⟨k + 1, by omega, by go_num, below_drewN HBW.out nq, ?_⟩
            rw [take_snoc a k hlt, take_snoc b k hlt2, HE.out, ← HX.out.1, ← HX.out.2, HXY.out]
          case measure => simp [RowKit.intOf]; omega
        · have hq : decide (x = y) = false := by simp [hxy]
          have HXY := Lib.hid hxy
          have HX := Lib.hid (And.intro hx hy)
          skip
          clear hxy hx hy
          simp only [hq] at hne
          clear hq
          clear hb
          go_wp2_with fail
          go_quiet (fail)
          go_wp2_with fail
          go_ret
          refine ⟨?_, below_drewN HBW.out nq⟩
          have hab : a ≠ b := fun e => HXY.out (by rw [HX.out.1, HX.out.2]; subst e; rfl)
          simp [hab]
      · have hkl : k = a.length := by omega
        have HKL := Lib.hid hkl
        have HE := Lib.hid he
        clear hkl he hb
        go_wp2_with fail
        go_ret
        refine ⟨?_, HBW.out⟩
        have h := HE.out
        rw [HKL.out, List.take_length, HLL.out, List.take_length] at h
        simp [h]
  · have hab : a ≠ b := fun e => hl (by rw [e])
    have HAB := Lib.hid hab
    clear hab
    go_wp2_with fail
    go_ret
    exact ⟨by simp [HAB.out], Below.refl _ _⟩
end Go.Proofs.Ytepnepgjlnoabaa
