/- The reference's Good and Above: what they compute is what the program's do. -/
import Derived.Test.YtlihhnjinakpfaaRankI
namespace Go.Proofs.Ytlihhnjinakpfaa
open Go.RowKit

set_option maxRecDepth 100000 in
set_option maxHeartbeats 2000000 in
theorem refgood_any (m : Mem) (w : World) : Calls Try.prog 19 #[memV m] w fun e w' => e = .returned (.bool m.good) ∧ Below w.heap.size w w' := by
  unfold memV
  have hA := memAt w m
  have hB : Below w.heap.size w (w.alloc (.cells #[.int .i64 m.n, .int .i64 m.i, .int .i64 m.s] 28)) := (Below.refl _ _).alloc (Nat.le_refl _) _
  have c0 := hA.cell' (i := 0) (v := .int .i64 m.n) rfl
  have c1 := hA.cell' (i := 1) (v := .int .i64 m.i) rfl
  have c2 := hA.cell' (i := 2) (v := .int .i64 m.s) rfl
  have HB := Lib.hid hB
  clear hA hB
  go_enter Try.func19, Try.ntmps19
  by_cases h1 : 1 ≤ m.n
  · by_cases h2 : m.n ≤ 6
    · by_cases h3 : 0 ≤ m.i
      · by_cases h4 : m.i ≤ 1073741824
        · by_cases h5 : 0 ≤ m.s
          · by_cases h6 : m.s ≤ 3
            · have hg : m.good = true := by rw [Mem.good_iff]; omega
              rw [hg]
              go_wp2_with fail
              go_ret
              exact ⟨rfl, HB.out⟩
            · have hg : m.good = false := by rw [Bool.eq_false_iff]; intro h; rw [Mem.good_iff] at h; omega
              rw [hg]
              go_wp2_with fail
              go_ret
              exact ⟨rfl, HB.out⟩
          · have hg : m.good = false := by rw [Bool.eq_false_iff]; intro h; rw [Mem.good_iff] at h; omega
            rw [hg]
            go_wp2_with fail
            go_ret
            exact ⟨rfl, HB.out⟩
        · have hg : m.good = false := by rw [Bool.eq_false_iff]; intro h; rw [Mem.good_iff] at h; omega
          rw [hg]
          go_wp2_with fail
          go_ret
          exact ⟨rfl, HB.out⟩
      · have hg : m.good = false := by rw [Bool.eq_false_iff]; intro h; rw [Mem.good_iff] at h; omega
        rw [hg]
        go_wp2_with fail
        go_ret
        exact ⟨rfl, HB.out⟩
    · have hg : m.good = false := by rw [Bool.eq_false_iff]; intro h; rw [Mem.good_iff] at h; omega
      rw [hg]
      go_wp2_with fail
      go_ret
      exact ⟨rfl, HB.out⟩
  · have hg : m.good = false := by rw [Bool.eq_false_iff]; intro h; rw [Mem.good_iff] at h; omega
    rw [hg]
    go_wp2_with fail
    go_ret
    exact ⟨rfl, HB.out⟩
theorem refgood_at (m : Mem) (g : Bool) (hg : m.good = g) (w : World) : Calls Try.prog 19 #[.agg #[.int .i64 m.n, .int .i64 m.i, .int .i64 m.s]] w fun e w' => e = .returned (.bool g) ∧ Below w.heap.size w w' := by
  subst hg
  exact refgood_any m w
structure Duo (x y : Mem) (w w' : World) : Prop where
  below : Below w.heap.size w w'
  x0 : w'.cell? ⟨w.heap.size, 0, none⟩ = some (.int .i64 x.n)
  x1 : w'.cell? ⟨w.heap.size, 1, none⟩ = some (.int .i64 x.i)
  x2 : w'.cell? ⟨w.heap.size, 2, none⟩ = some (.int .i64 x.s)
  y0 : w'.cell? ⟨w.heap.size + 1, 0, none⟩ = some (.int .i64 y.n)
  y1 : w'.cell? ⟨w.heap.size + 1, 1, none⟩ = some (.int .i64 y.i)
  y2 : w'.cell? ⟨w.heap.size + 1, 2, none⟩ = some (.int .i64 y.s)
theorem HeldM.duo {x y : Mem} {w w' : World} (h : HeldM x y w w') : Duo x y w w' :=
  ⟨h.2.2.2, by have := h.1 0 _ rfl; exact this, by have := h.1 1 _ rfl; exact this, by have := h.1 2 _ rfl; exact this, by have := h.2.1 0 _ rfl; exact this, by have := h.2.1 1 _ rfl; exact this, by have := h.2.1 2 _ rfl; exact this⟩
set_option maxRecDepth 100000 in
set_option maxHeartbeats 4000000 in
theorem refabove_any (x y : Mem) (w : World) : Calls Try.prog 21 #[memV x, memV y] w fun e w' => e = .returned (.bool (x.above y)) ∧ Below w.heap.size w w' := by
  have hh := HeldM.laid x y w
  obtain ⟨w3, hw3⟩ : ∃ w3, w3 = (w.alloc (.cells #[.int .i64 x.n, .int .i64 x.i, .int .i64 x.s] 28)).alloc (.cells #[.int .i64 y.n, .int .i64 y.i, .int .i64 y.s] 28) := ⟨_, rfl⟩
  rw [← hw3] at hh
  have HH := Lib.hid hh
  have HW := Lib.hid hw3
  clear hh hw3
  unfold memV
  go_enter Try.func21, Try.ntmps21
  obtain ⟨hb3, x0, x1, x2, y0, y1, y2⟩ := HH.out.duo
  cases hx : x.good with
  | false =>
    have hab : x.above y = false := by rw [Bool.eq_false_iff]; intro h; rw [Mem.above_iff, hx] at h; exact absurd h.1 (by simp)
    rw [hab]
    have HX := Lib.hid hx
    clear hx hab
    go_wp2_with fail
    rw [← HW.out]
    refine (refgood_at x false HX.out _).mono ?_
    rintro e w4 ⟨rfl, hb⟩
    have HB := Lib.hid (HH.out.below hb)
    clear hb x0 x1 x2 y0 y1 y2
    go_wp2_with fail
    go_ret
    exact ⟨rfl, HB.out.2.2.2⟩
  | true =>
    cases hy : y.good with
    | false =>
      have hab : x.above y = false := by rw [Bool.eq_false_iff]; intro h; rw [Mem.above_iff, hy] at h; exact absurd h.2.1 (by simp)
      rw [hab]
      have HX := Lib.hid hx
      have HY := Lib.hid hy
      clear hx hy hab
      go_wp2_with fail
      rw [← HW.out]
      refine (refgood_at x true HX.out _).mono ?_
      rintro e w4 ⟨rfl, hb⟩
      have HB := Lib.hid (HH.out.below hb)
      clear hb x0 x1 x2 y0 y1 y2
      obtain ⟨hb3, x0, x1, x2, y0, y1, y2⟩ := HB.out.duo
      go_wp2_with fail
      refine (refgood_at y false HY.out _).mono ?_
      rintro e w5 ⟨rfl, hb⟩
      have HB5 := Lib.hid (HB.out.below hb)
      clear hb x0 x1 x2 y0 y1 y2
      go_wp2_with fail
      go_ret
      exact ⟨rfl, HB5.out.2.2.2⟩
    | true =>
      have hgx := (Mem.good_iff x).1 hx
      have hgy := (Mem.good_iff y).1 hy
      have hab : x.above y = (decide (x.n = y.n) && (decide (y.i < x.i) || (decide (y.i = x.i) && decide (y.s < x.s)))) := by
        rw [Bool.eq_iff_iff, Mem.above_iff]
        simp only [Bool.and_eq_true, Bool.or_eq_true, decide_eq_true_eq, Mem.height]
        rw [hx, hy]
        constructor
        · rintro ⟨_, _, h3, h4⟩
          exact ⟨h3, by omega⟩
        · rintro ⟨h3, h4⟩
          exact ⟨rfl, rfl, h3, by omega⟩
      rw [hab]
      have HX := Lib.hid hx
      have HY := Lib.hid hy
      clear hx hy hab
      go_wp2_with fail
      rw [← HW.out]
      refine (refgood_at x true HX.out _).mono ?_
      rintro e w4 ⟨rfl, hb⟩
      have HB := Lib.hid (HH.out.below hb)
      clear hb x0 x1 x2 y0 y1 y2
      obtain ⟨hb3, x0, x1, x2, y0, y1, y2⟩ := HB.out.duo
      go_wp2_with fail
      refine (refgood_at y true HY.out _).mono ?_
      rintro e w5 ⟨rfl, hb⟩
      have HB5 := Lib.hid (HB.out.below hb)
      clear hb x0 x1 x2 y0 y1 y2
      obtain ⟨hb3, x0, x1, x2, y0, y1, y2⟩ := HB5.out.duo
      by_cases hn : x.n = y.n
      · have en : (x.n == y.n) = true := by simp [hn]
        by_cases hi : y.i < x.i
        · have HR := Lib.hid (show (decide (x.n = y.n) && (decide (y.i < x.i) || (decide (y.i = x.i) && decide (y.s < x.s)))) = true by simp [hn, hi])
          clear hn
          go_wp2_with fail
          go_ret
          exact ⟨by rw [HR.out]; rfl, HB5.out.2.2.2⟩
        · by_cases he : y.i = x.i
          · have ei : (x.i == y.i) = true := by simp [he]
            by_cases hs : y.s < x.s
            · have HR := Lib.hid (show (decide (x.n = y.n) && (decide (y.i < x.i) || (decide (y.i = x.i) && decide (y.s < x.s)))) = true by simp [hn, he, hs])
              clear hn he
              go_wp2_with fail
              go_ret
              exact ⟨by rw [HR.out]; rfl, HB5.out.2.2.2⟩
            · have HR := Lib.hid (show (decide (x.n = y.n) && (decide (y.i < x.i) || (decide (y.i = x.i) && decide (y.s < x.s)))) = false by simp [he, hs])
              clear hn he
              go_wp2_with fail
              go_ret
              exact ⟨by rw [HR.out]; show Ending.returned (.bool (decide (y.i < x.i) || decide (y.s < x.s))) = _; rw [decide_eq_false (by omega), decide_eq_false (by omega)]; rfl, HB5.out.2.2.2⟩
          · have ei : (x.i == y.i) = false := by simp; omega
            have HR := Lib.hid (show (decide (x.n = y.n) && (decide (y.i < x.i) || (decide (y.i = x.i) && decide (y.s < x.s)))) = false by simp [hi, he])
            clear hn he
            go_wp2_with fail
            go_ret
            exact ⟨by rw [HR.out]; show Ending.returned (.bool (decide (y.i < x.i))) = _; rw [decide_eq_false (by omega)], HB5.out.2.2.2⟩
      · have en : (x.n == y.n) = false := by simp [hn]
        have HR := Lib.hid (show (decide (x.n = y.n) && (decide (y.i < x.i) || (decide (y.i = x.i) && decide (y.s < x.s)))) = false by simp [hn])
        clear hn
        go_wp2_with fail
        go_ret
        exact ⟨by rw [HR.out]; rfl, HB5.out.2.2.2⟩
end Go.Proofs.Ytlihhnjinakpfaa
