/- Layer 10: members compared; Same, Ints of the references. -/
import Derived.Test.YtlihhnjinakpfaaRankG
namespace Go.Proofs.Ytlihhnjinakpfaa
open Go.RowKit Go.Maps Go.Sort

theorem mem_beq (x y : Mem) : (x.n == y.n && (x.i == y.i && x.s == y.s)) = decide (x = y) := by
  rw [Bool.eq_iff_iff]
  cases x; cases y
  simp
theorem run_eql_mem (w : World) (x y : Mem) : (binOp .eql 28 (memV x) (memV y)).run Try.prog w = .ok (.bool (decide (x = y))) w := by
  rw [← mem_beq]
  unfold memV
  go_simp
  by_cases h1 : x.n = y.n <;> by_cases h2 : x.i = y.i <;> by_cases h3 : x.s = y.s <;> simp [h1, h2, h3]
theorem run_neq_mem (w : World) (x y : Mem) : (binOp .neq 28 (memV x) (memV y)).run Try.prog w = .ok (.bool (!decide (x = y))) w := by
  rw [← mem_beq]
  unfold memV
  go_simp
  by_cases h1 : x.n = y.n <;> by_cases h2 : x.i = y.i <;> by_cases h3 : x.s = y.s <;> simp [h1, h2, h3]

theorem below_drewN {B : Nat} {w0 w : World} (h : Below B w0 w) (n : Nat) : Below B w0 (w.drewN n) := by
  induction n with
  | zero => exact h
  | succ n ih => exact ih.drew
/-- the slice value holds these numbers -/
def IntsIn (w : World) (A : Option Addr) (l : List Int) : Prop :=
  0 < l.length → ∃ g off, A = some ⟨g, off, none⟩ ∧ g < w.heap.size ∧ ∀ i (h : i < l.length), w.cell? ⟨g, off + i, none⟩ = some (.int .i64 l[i])

set_option maxRecDepth 100000 in
set_option maxHeartbeats 1000000 in
theorem refInts_any (A B : Option Addr) (c d : Nat) (a b : List Int) (w : World) (hn : a.length < 1099511627776) (ha : IntsIn w A a) (hb : IntsIn w B b) :
    Calls Try.prog 15 #[.slice A a.length c, .slice B b.length d] w fun e w' => e = .returned (.bool (decide (a = b))) ∧ Below w.heap.size w w' := by
  have HA := Lib.hid ha
  have HB := Lib.hid hb
  clear ha hb
  go_enter Try.func15, Try.ntmps15
  by_cases hl : a.length = b.length
  · rw [← hl]
    have HLL := Lib.hid hl
    clear hl
    go_wp2_with fail
    go_loopw [5] (fun i wr => ∃ k : Nat, k ≤ a.length ∧ i = .int .i64 k ∧ Below w.heap.size w wr ∧ a.take k = b.take k) (fun i _ => a.length - (RowKit.intOf i).toNat)
    case atStart => exact ⟨0, by omega, rfl, Below.refl _ _, by simp⟩
    case round =>
      obtain ⟨k, hk, rfl, hb, he⟩ := hrel
      have HBW := Lib.hid hb
      by_cases hlt : k < a.length
      · have hlt2 : k < b.length := by have := HLL.out; omega
        have i1 : (0 : Int) ≤ (k : Int) := by omega
        have i2 : (k : Int) < (a.length : Int) := by omega
        have HE := Lib.hid he
        clear he
        obtain ⟨ga, oa, rfl, la, ca⟩ := HA.out (by omega)
        obtain ⟨gb, ob, rfl, lb, cb⟩ := HB.out (by omega)
        obtain ⟨x, hx⟩ : ∃ x, x = a[k] := ⟨_, rfl⟩
        obtain ⟨y, hy⟩ : ∃ y, y = b[k] := ⟨_, rfl⟩
        have c1 := (hb.cell (p := ⟨ga, oa + k, none⟩) la).trans (ca k hlt)
        have c2 := (hb.cell (p := ⟨gb, ob + k, none⟩) lb).trans (cb k hlt2)
        rw [← hx] at c1
        rw [← hy] at c2
        clear ca cb
        by_cases hxy : x = y
        · have hq : decide (x = y) = true := by simp [hxy]
          have HXY := Lib.hid hxy
          have HX := Lib.hid (And.intro hx hy)
          clear hx hy
          clear hq
          clear hb
          subst hxy
          go_wp2_with fail
          go_quiet (fail)
          go_wp2_with fail
          go_roundw
          case rel =>
            refine ⟨k + 1, by omega, by go_num, below_drewN HBW.out nq, ?_⟩
            rw [take_snoc a k hlt, take_snoc b k hlt2, HE.out, ← HX.out.1, ← HX.out.2]
          case measure => simp [RowKit.intOf]; omega
        · have hq : decide (x = y) = false := by simp [hxy]
          have HXY := Lib.hid hxy
          have HX := Lib.hid (And.intro hx hy)
          have hxy2 : ¬ x = y := hxy
          clear hxy hx hy
          clear hq
          clear hb
          go_wp2_with fail
          go_quiet (fail)
          go_wp2_with fail
          go_ret
          refine ⟨?_, below_drewN HBW.out nq⟩
          have hab : a ≠ b := fun e => HXY.out (by rw [HX.out.1, HX.out.2]; subst e; rfl)
          simp [hab]
      · have hkl : k = a.length := by omega
        have HKL := Lib.hid hkl
        have HE := Lib.hid he
        clear hkl he hb
        go_wp2_with fail
        go_ret
        refine ⟨?_, HBW.out⟩
        have h := HE.out
        rw [HKL.out, List.take_length, HLL.out, List.take_length] at h
        simp [h]
  · have hab : a ≠ b := fun e => hl (by rw [e])
    have HAB := Lib.hid hab
    clear hab
    go_wp2_with fail
    go_ret
    exact ⟨by simp [HAB.out], Below.refl _ _⟩

set_option maxRecDepth 100000 in
set_option maxHeartbeats 1000000 in
theorem refSame_any (A B : Option Addr) (c d : Nat) (a b : List Mem) (w : World) (hn : a.length < 1099511627776) (ha : MemsIn w A a) (hb : MemsIn w B b) :
    Calls Try.prog 10 #[.slice A a.length c, .slice B b.length d] w fun e w' => e = .returned (.bool (decide (a = b))) ∧ Below w.heap.size w w' := by
  have HA := Lib.hid ha
  have HB := Lib.hid hb
  clear ha hb
  go_enter Try.func10, Try.ntmps10
  by_cases hl : a.length = b.length
  · rw [← hl]
    have HLL := Lib.hid hl
    clear hl
    go_wp2_with fail
    go_loopw [5] (fun i wr => ∃ k : Nat, k ≤ a.length ∧ i = .int .i64 k ∧ Below w.heap.size w wr ∧ a.take k = b.take k) (fun i _ => a.length - (RowKit.intOf i).toNat)
    case atStart => exact ⟨0, by omega, rfl, Below.refl _ _, by simp⟩
    case round =>
      obtain ⟨k, hk, rfl, hb, he⟩ := hrel
      have HBW := Lib.hid hb
      by_cases hlt : k < a.length
      · have hlt2 : k < b.length := by have := HLL.out; omega
        have i1 : (0 : Int) ≤ (k : Int) := by omega
        have i2 : (k : Int) < (a.length : Int) := by omega
        have HE := Lib.hid he
        clear he
        obtain ⟨ga, oa, rfl, a0, a1, a2⟩ := HA.out.cells (w' := wr) (N := 0) (fun g off e hlt' => hb.block g hlt') hlt rfl
        obtain ⟨gb, ob, rfl, b0, b1, b2⟩ := HB.out.cells (w' := wr) (N := 0) (fun g off e hlt' => hb.block g hlt') hlt2 rfl
        obtain ⟨x, hx⟩ : ∃ x, x = a[k] := ⟨_, rfl⟩
        obtain ⟨y, hy⟩ : ∃ y, y = b[k] := ⟨_, rfl⟩
        rw [← hx] at a0 a1 a2
        rw [← hy] at b0 b1 b2
        have hne := fun w => run_neq_mem w x y
        unfold memV at hne
        by_cases hxy : x = y
        · have hq : decide (x = y) = true := by simp [hxy]
          have HXY := Lib.hid hxy
          have HX := Lib.hid (And.intro hx hy)
          clear hxy hx hy
          simp only [hq] at hne
          clear hq
          clear hb
          go_wp2_with fail
          go_quiet (fail)
          go_wp2_with fail
          go_roundw
          case rel =>
            refine ⟨k + 1, by omega, by go_num, below_drewN HBW.out nq, ?_⟩
            rw [take_snoc a k hlt, take_snoc b k hlt2, HE.out, ← HX.out.1, ← HX.out.2, HXY.out]
          case measure => simp [RowKit.intOf]; omega
        · have hq : decide (x = y) = false := by simp [hxy]
          have HXY := Lib.hid hxy
          have HX := Lib.hid (And.intro hx hy)
          skip
          clear hxy hx hy
          simp only [hq] at hne
          clear hq
          clear hb
          go_wp2_with fail
          go_quiet (fail)
          go_wp2_with fail
          go_ret
          refine ⟨?_, below_drewN HBW.out nq⟩
          have hab : a ≠ b := fun e => HXY.out (by rw [HX.out.1, HX.out.2]; subst e; rfl)
          simp [hab]
      · have hkl : k = a.length := by omega
        have HKL := Lib.hid hkl
        have HE := Lib.hid he
        clear hkl he hb
        go_wp2_with fail
        go_ret
        refine ⟨?_, HBW.out⟩
        have h := HE.out
        rw [HKL.out, List.take_length, HLL.out, List.take_length] at h
        simp [h]
  · have hab : a ≠ b := fun e => hl (by rw [e])
    have HAB := Lib.hid hab
    clear hab
    go_wp2_with fail
    go_ret
    exact ⟨by simp [HAB.out], Below.refl _ _⟩
end Go.Proofs.Ytlihhnjinakpfaa
