/- Layer 10: within, Good, height, Above: what they compute. -/
import Derived.Test.YtlihhnjinakpfaaRankP
import Derived.Test.YtlihhnjinakpfaaRegC
namespace Go.Proofs.Ytlihhnjinakpfaa
open Go.RowKit

theorem within_any (n lo hi : Int) (w : World) : Calls Try.prog 25 #[.int .i64 n, .int .i64 lo, .int .i64 hi] w fun e w' => e = .returned (.bool (decide (lo ≤ n) && decide (n ≤ hi))) ∧ w' = w := by
  go_enter Try.func25, Try.ntmps25
  by_cases h : lo ≤ n
  · go_wp2_with fail
    go_ret
    exact ⟨by simp [h], rfl⟩
  · go_wp2_with fail
    go_ret
    exact ⟨by simp; omega, rfl⟩

theorem memAt (w : World) (m : Mem) : At (w.alloc (.cells #[.int .i64 m.n, .int .i64 m.i, .int .i64 m.s] 28)) w.heap.size 28 [.int .i64 m.n, .int .i64 m.i, .int .i64 m.s] := At.newA _ _ rfl

theorem good_any (m : Mem) (w : World) : Calls Try.prog 18 #[memV m] w fun e w' => e = .returned (.bool m.good) ∧ Below w.heap.size w w' := by
  unfold memV
  have hA := memAt w m
  have hB : Below w.heap.size w (w.alloc (.cells #[.int .i64 m.n, .int .i64 m.i, .int .i64 m.s] 28)) := (Below.refl _ _).alloc (Nat.le_refl _) _
  have c0 := hA.cell' (i := 0) (v := .int .i64 m.n) rfl
  have c1 := hA.cell' (i := 1) (v := .int .i64 m.i) rfl
  have c2 := hA.cell' (i := 2) (v := .int .i64 m.s) rfl
  have HB := Lib.hid hB
  clear hA hB
  obtain ⟨g1, hg1⟩ : ∃ g, g = (decide (1 ≤ m.n) && decide (m.n ≤ 6)) := ⟨_, rfl⟩
  obtain ⟨g2, hg2⟩ : ∃ g, g = (decide (0 ≤ m.i) && decide (m.i ≤ 1073741824)) := ⟨_, rfl⟩
  obtain ⟨g3, hg3⟩ : ∃ g, g = (decide (0 ≤ m.s) && decide (m.s ≤ 3)) := ⟨_, rfl⟩
  have hgood : m.good = (g1 && g2 && g3) := by rw [hg1, hg2, hg3]; rfl
  rw [hgood]
  have HG := Lib.hid (And.intro hg1 (And.intro hg2 hg3))
  clear hg1 hg2 hg3 hgood
  go_enter Try.func18, Try.ntmps18
  go_wp2_with fail
  refine (within_any _ _ _ _).mono ?_
  rintro e w1 ⟨rfl, rfl⟩
  rw [← HG.out.1]
  cases g1
  · go_wp2_with fail
    go_ret
    exact ⟨rfl, HB.out⟩
  · go_wp2_with fail
    refine (within_any _ _ _ _).mono ?_
    rintro e w1 ⟨rfl, rfl⟩
    rw [← HG.out.2.1]
    cases g2
    · go_wp2_with fail
      go_ret
      exact ⟨rfl, HB.out⟩
    · go_wp2_with fail
      refine (within_any _ _ _ _).mono ?_
      rintro e w1 ⟨rfl, rfl⟩
      rw [← HG.out.2.2]
      cases g3
      · go_wp2_with fail
        go_ret
        exact ⟨rfl, HB.out⟩
      · go_wp2_with fail
        go_ret
        exact ⟨rfl, HB.out⟩

theorem height_any (m : Mem) (hm : m.good = true) (w : World) : Calls Try.prog 26 #[memV m] w fun e w' => e = .returned (.int .i64 m.height) ∧ Below w.heap.size w w' := by
  have hg := (Mem.good_iff m).1 hm
  have hB : Below w.heap.size w (w.alloc (.cells #[.int .i64 m.n, .int .i64 m.i, .int .i64 m.s] 28)) := (Below.refl _ _).alloc (Nat.le_refl _) _
  have h1 : IntKind.i64.wrap (m.i * 4) = m.i * 4 := IntWalk.i64_in _ (by omega)
  have h2 : IntKind.i64.wrap (m.i * 4 + m.s) = m.i * 4 + m.s := IntWalk.i64_in _ (by omega)
  unfold memV Mem.height
  obtain ⟨i1, i2, i3, i4, i5, i6⟩ := hg
  clear hm
  go_enter Try.func26, Try.ntmps26
  go_wp2_with fail
  go_ret
  exact ⟨rfl, hB⟩

/-- both members lie where they were laid, and nothing older has turned -/
def HeldM (x y : Mem) (w w' : World) : Prop :=
  w'.rangeAt w.heap.size 0 [.int .i64 x.n, .int .i64 x.i, .int .i64 x.s] ∧ w'.rangeAt (w.heap.size + 1) 0 [.int .i64 y.n, .int .i64 y.i, .int .i64 y.s] ∧ w.heap.size + 1 < w'.heap.size ∧ Below w.heap.size w w'
theorem range_below' {w w' : World} {b o : Nat} {cs : List Value} {B : Nat} (h : w.rangeAt b o cs) (hb : Below B w w') (hlt : b < B) : w'.rangeAt b o cs := fun j v hv => (hb.cell (p := ⟨b, o + j, none⟩) hlt).trans (h j v hv)
theorem HeldM.below {x y : Mem} {w w' w'' : World} (h : HeldM x y w w') (hb : Below w'.heap.size w' w'') : HeldM x y w w'' :=
  ⟨range_below' h.1 hb (by have := h.2.2.1; omega), range_below' h.2.1 hb h.2.2.1, Nat.lt_of_lt_of_le h.2.2.1 hb.size, h.2.2.2.trans (hb.mono h.2.2.2.size)⟩
theorem HeldM.drew {x y : Mem} {w w' : World} (h : HeldM x y w w') : HeldM x y w w'.drew := h.below (Below.refl _ _).drew
theorem HeldM.laid (x y : Mem) (w : World) : HeldM x y w ((w.alloc (.cells #[.int .i64 x.n, .int .i64 x.i, .int .i64 x.s] 28)).alloc (.cells #[.int .i64 y.n, .int .i64 y.i, .int .i64 y.s] 28)) := by
  have h1 := (memAt w x).alloc (.cells #[.int .i64 y.n, .int .i64 y.i, .int .i64 y.s] 28)
  have h2 := memAt (w.alloc (.cells #[.int .i64 x.n, .int .i64 x.i, .int .i64 x.s] 28)) y
  rw [World.size_alloc] at h2
  exact ⟨fun j v hv => by rw [Nat.zero_add]; exact h1.cell' hv, fun j v hv => by rw [Nat.zero_add]; exact h2.cell' hv, h2.lt, ((Below.refl _ _).alloc (Nat.le_refl _) _).alloc (by simp) _⟩
theorem good_at (m : Mem) (g : Bool) (hg : m.good = g) (w : World) : Calls Try.prog 18 #[memV m] w fun e w' => e = .returned (.bool g) ∧ Below w.heap.size w w' := by
  subst hg
  exact good_any m w

set_option maxRecDepth 100000 in
set_option maxHeartbeats 2000000 in
theorem above_case (x y : Mem) (gx gy q1 q2 : Bool) (h1 : x.good = gx) (h2 : y.good = gy) (h3 : decide (x.n = y.n) = q1) (h4 : decide (y.height < x.height) = q2) (w : World) :
    Calls Try.prog 20 #[memV x, memV y] w fun e w' => e = .returned (.bool (gx && gy && q1 && q2)) ∧ Below w.heap.size w w' := by
  have HE := Lib.hid (And.intro h1 (And.intro h2 (And.intro h3 h4)))
  have HH := Lib.hid (HeldM.laid x y w)
  have HU := Lib.hid Try.underlying28
  have HI := Lib.hid (show (Try.prog.info? 28).map (·.size) = some 3 by kernel_rfl)
  have HQ1 := Lib.hid (show ∀ w, (binOp .eql 3 (.int .i64 x.n) (.int .i64 y.n)).run Try.prog w = .ok (.bool q1) w by
    intro w
    have h5 : (x.n == y.n) = q1 := by rw [← h3, Bool.eq_iff_iff, beq_iff_eq, decide_eq_true_eq]
    rw [← h5]
    go_simp)
  have HQ2 := Lib.hid (show ∀ w, (binOp .gtr 3 (.int .i64 x.height) (.int .i64 y.height)).run Try.prog w = .ok (.bool q2) w by
    intro w
    rw [← h4]
    go_simp)
  clear h1 h2 h3 h4
  go_enter Try.func20, Try.ntmps20
  unfold memV
  go_wp2_with fail
  generalize (w.alloc (.cells #[.int .i64 x.n, .int .i64 x.i, .int .i64 x.s] 28)).alloc (.cells #[.int .i64 y.n, .int .i64 y.i, .int .i64 y.s] 28) = w3 at HH ⊢
  cases gx <;> cases gy <;> cases q1 <;> cases q2
  all_goals
    refine wp_region_class (HeldM x y w) (by kernel_rfl) (by kernel_rfl) HH.out.drew ?_
    iterate 21 (first
      | (refine wpQuiet_not rfl ?_; simp only [Act.put, List.setIfInBounds_toArray, List.set_cons_zero, List.set_cons_succ])
      | (refine wpQuiet_loadAll rfl 28 _ rfl w.heap.size 0 rfl [.int .i64 x.n, .int .i64 x.i, .int .i64 x.s] _ (fun w h => h.1) HU.out rfl HI.out ?_; simp only [Act.put, List.setIfInBounds_toArray, List.set_cons_zero, List.set_cons_succ])
      | (refine wpQuiet_loadAll rfl 28 _ rfl (w.heap.size + 1) 0 rfl [.int .i64 y.n, .int .i64 y.i, .int .i64 y.s] _ (fun w h => h.2.1) HU.out rfl HI.out ?_; simp only [Act.put, List.setIfInBounds_toArray, List.set_cons_zero, List.set_cons_succ])
      | (refine wpQuiet_load1 (.int .i64 x.n) rfl 3 _ rfl _ Try.underlying3 w.heap.size 0 rfl (fun w h => h.1 0 _ rfl) ?_; simp only [Act.put, List.setIfInBounds_toArray, List.set_cons_zero, List.set_cons_succ])
      | (refine wpQuiet_load1 (.int .i64 y.n) rfl 3 _ rfl _ Try.underlying3 (w.heap.size + 1) 0 rfl (fun w h => h.2.1 0 _ rfl) ?_; simp only [Act.put, List.setIfInBounds_toArray, List.set_cons_zero, List.set_cons_succ])
      | (refine wpQuiet_call 18 [memV x] (.bool _) rfl _ _ rfl rfl (fun _ => by kernel_rfl) (fun w' h => (good_at x _ HE.out.1 _).mono fun e w'' ⟨he, hbx⟩ => ⟨he, h.below hbx⟩) ?_; simp only [Act.put, List.setIfInBounds_toArray, List.set_cons_zero, List.set_cons_succ])
      | (refine wpQuiet_call 18 [memV y] (.bool _) rfl _ _ rfl rfl (fun _ => by kernel_rfl) (fun w' h => (good_at y _ HE.out.2.1 _).mono fun e w'' ⟨he, hbx⟩ => ⟨he, h.below hbx⟩) ?_; simp only [Act.put, List.setIfInBounds_toArray, List.set_cons_zero, List.set_cons_succ])
      | (refine wpQuiet_call 26 [memV x] (.int .i64 x.height) rfl _ _ rfl rfl (fun _ => by kernel_rfl) (fun w' h => (height_any x HE.out.1 _).mono fun e w'' ⟨he, hbx⟩ => ⟨he, h.below hbx⟩) ?_; simp only [Act.put, List.setIfInBounds_toArray, List.set_cons_zero, List.set_cons_succ])
      | (refine wpQuiet_call 26 [memV y] (.int .i64 y.height) rfl _ _ rfl rfl (fun _ => by kernel_rfl) (fun w' h => (height_any y HE.out.2.1 _).mono fun e w'' ⟨he, hbx⟩ => ⟨he, h.below hbx⟩) ?_; simp only [Act.put, List.setIfInBounds_toArray, List.set_cons_zero, List.set_cons_succ])
      | (refine wpQuiet_bin rfl .eql 3 _ _ _ rfl (.int .i64 x.n) (.int .i64 y.n) (.bool _) rfl rfl (fun w => rfl) HQ1.out ?_; simp only [Act.put, List.setIfInBounds_toArray, List.set_cons_zero, List.set_cons_succ])
      | (refine wpQuiet_bin rfl .gtr 3 _ _ _ rfl (.int .i64 x.height) (.int .i64 y.height) (.bool _) rfl rfl (fun w => rfl) HQ2.out ?_; simp only [Act.put, List.setIfInBounds_toArray, List.set_cons_zero, List.set_cons_succ])
      | (refine wpQuiet_val (.pointer (some ⟨w.heap.size, 0, none⟩)) rfl (fun w' _ => ?_) ?_; (focus (go_simp; done)); simp only [Act.put, List.setIfInBounds_toArray, List.set_cons_zero, List.set_cons_succ])
      | (refine wpQuiet_val (.pointer (some ⟨w.heap.size + 1, 0, none⟩)) rfl (fun w' _ => ?_) ?_; (focus (go_simp; done)); simp only [Act.put, List.setIfInBounds_toArray, List.set_cons_zero, List.set_cons_succ])
      | (refine wpQuiet_val (.bool true) rfl (fun w' _ => rfl) ?_; simp only [Act.put, List.setIfInBounds_toArray, List.set_cons_zero, List.set_cons_succ])
      | (refine wpQuiet_val (.bool false) rfl (fun w' _ => rfl) ?_; simp only [Act.put, List.setIfInBounds_toArray, List.set_cons_zero, List.set_cons_succ]))
    refine wpQuiet_nil ?_
    intro w7 hH7
    go_wp2_with fail
    go_ret
    exact ⟨rfl, hH7.2.2.2⟩
theorem above_any (x y : Mem) (w : World) : Calls Try.prog 20 #[memV x, memV y] w fun e w' => e = .returned (.bool (x.above y)) ∧ Below w.heap.size w w' :=
  above_case x y _ _ _ _ rfl rfl rfl rfl w
end Go.Proofs.Ytlihhnjinakpfaa
