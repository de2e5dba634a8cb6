/- Layer 10: within, Good, height, Above: what they compute. -/
import Derived.Test.YtepnepgjlnoabaaRankP
import Derived.Test.YtepnepgjlnoabaaRegC
namespace Go.Proofs.Ytepnepgjlnoabaa
open Go.RowKit

theorem within_any (n lo hi : Int) (w : World) : Calls Try.prog 23 #[.int .i64 n, .int .i64 lo, .int .i64 hi] w fun e w' => e = .returned (.bool (decide (lo ≤ n) && decide (n ≤ hi))) ∧ w' = w := by
  go_enter Try.func23, Try.ntmps23
  by_cases h : lo ≤ n
  · go_wp2_with fail
    go_ret
    exact ⟨by simp [h], rfl⟩
  · go_wp2_with fail
    go_ret
    exact ⟨by simp; omega, rfl⟩
theorem memAt (w : World) (m : Mem) : At (w.alloc (.cells #[.int .i64 m.n, .int .i64 m.i, .int .i64 m.s] 41)) w.heap.size 41 [.int .i64 m.n, .int .i64 m.i, .int .i64 m.s] := At.newA _ _ rfl
theorem good_any (m : Mem) (w : World) : Calls Try.prog 17 #[memV m] w fun e w' => e = .returned (.bool m.good) ∧ Below w.heap.size w w' := by
  unfold memV
  have hA := memAt w m
  have hB : Below w.heap.size w (w.alloc (.cells #[.int .i64 m.n, .int .i64 m.i, .int .i64 m.s] 41)) := (Below.refl _ _).alloc (Nat.le_refl _) _
  have c0 := hA.cell' (i := 0) (v := .int .i64 m.n) rfl
  have c1 := hA.cell' (i := 1) (v := .int .i64 m.i) rfl
  have c2 := hA.cell' (i := 2) (v := .int .i64 m.s) rfl
  have HB := Lib.hid hB
  clear hA hB
  obtain ⟨g1, hg1⟩ : ∃ g, g = (decide (1 ≤ m.n) && decide (m.n ≤ 6)) := ⟨_, rfl⟩
  obtain ⟨g2, hg2⟩ : ∃ g, g = (decide (0 ≤ m.i) && decide (m.i ≤ 1073741824)) := ⟨_, rfl⟩
  obtain ⟨g3, hg3⟩ : ∃ g, g = (decide (0 ≤ m.s) && decide (m.s ≤ 3)) := ⟨_, rfl⟩
  have hgood : m.good = (g1 && g2 && g3) := by rw [hg1, hg2, hg3]; rfl
  rw [hgood]
  have HG := Lib.hid (And.intro hg1 (And.intro hg2 hg3))
  clear hg1 hg2 hg3 hgood
  go_enter Try.func17, Try.ntmps17
  go_wp2_with fail
  refine (within_any _ _ _ _).mono ?_
  rintro e w1 ⟨rfl, rfl⟩
  rw [← HG.out.1]
  cases g1
  · go_wp2_with fail
    go_ret
    exact ⟨rfl, HB.out⟩
  · go_wp2_with fail
    refine (within_any _ _ _ _).mono ?_
    rintro e w1 ⟨rfl, rfl⟩
    rw [← HG.out.2.1]
    cases g2
    · go_wp2_with fail
      go_ret
      exact ⟨rfl, HB.out⟩
    · go_wp2_with fail
      refine (within_any _ _ _ _).mono ?_
      rintro e w1 ⟨rfl, rfl⟩
      rw [← HG.out.2.2]
      cases g3
      · go_wp2_with fail
        go_ret
        exact ⟨rfl, HB.out⟩
      · go_wp2_with fail
        go_ret
        exact ⟨rfl, HB.out⟩
theorem range_below' {w w' : World} {b o : Nat} {cs : List Value} {B : Nat} (h : w.rangeAt b o cs) (hb : Below B w w') (hlt : b < B) : w'.rangeAt b o cs := fun j v hv => (hb.cell (p := ⟨b, o + j, none⟩) hlt).trans (h j v hv)
theorem good_at (m : Mem) (g : Bool) (hg : m.good = g) (w : World) : Calls Try.prog 17 #[memV m] w fun e w' => e = .returned (.bool g) ∧ Below w.heap.size w w' := by
  subst hg
  exact good_any m w
end Go.Proofs.Ytepnepgjlnoabaa
