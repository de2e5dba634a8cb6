/- Layer 14: two lists of numbers compared (the reference's Ints). -/
import Derived.Test.YtcpnlojcmlldpaaSkyH
namespace Go.Proofs.Ytcpnlojcmlldpaa
open Go.RowKit Go.Maps Go.Sort

/-- the slice value holds these numbers -/
def IntsIn (w : World) (A : Option Addr) (l : List Int) : Prop :=
  0 < l.length → ∃ g off, A = some ⟨g, off, none⟩ ∧ g < w.heap.size ∧ ∀ i (h : i < l.length), w.cell? ⟨g, off + i, none⟩ = some (.int .i64 l[i])

set_option maxRecDepth 100000 in
set_option maxHeartbeats 1000000 in
theorem refInts_any (A B : Option Addr) (c d : Nat) (a b : List Int) (w : World) (hn : a.length < 1099511627776) (ha : IntsIn w A a) (hb : IntsIn w B b) :
    Calls Try.prog 18 #[.slice A a.length c, .slice B b.length d] w fun e w' => e = .returned (.bool (decide (a = b))) ∧ Below w.heap.size w w' := by
  have HA := Lib.hid ha
  have HB := Lib.hid hb
  clear ha hb
  go_enter Try.func18, Try.ntmps18
  by_cases hl : a.length = b.length
  · rw [← hl]
    have HLL := Lib.hid hl
    clear hl
    go_wp2_with fail
    go_loopw [5] (fun i wr => ∃ k : Nat, k ≤ a.length ∧ i = .int .i64 k ∧ Below w.heap.size w wr ∧ a.take k = b.take k) (fun i _ => a.length - (RowKit.intOf i).toNat)
    case atStart => exact ⟨0, by omega, rfl, Below.refl _ _, by simp⟩
    case round =>
      obtain ⟨k, hk, rfl, hb, he⟩ := hrel
      have HBW := Lib.hid hb
      by_cases hlt : k < a.length
      · have hlt2 : k < b.length := by have := HLL.out; omega
        have i1 : (0 : Int) ≤ (k : Int) := by omega
        have i2 : (k : Int) < (a.length : Int) := by omega
        have HE := Lib.hid he
        clear he
        obtain ⟨ga, oa, rfl, la, ca⟩ := HA.out (by omega)
        obtain ⟨gb, ob, rfl, lb, cb⟩ := HB.out (by omega)
        obtain ⟨x, hx⟩ : ∃ x, x = a[k] := ⟨_, rfl⟩
        obtain ⟨y, hy⟩ : ∃ y, y = b[k] := ⟨_, rfl⟩
        have c1 := (hb.cell (p := ⟨ga, oa + k, none⟩) la).trans (ca k hlt)
        have c2 := (hb.cell (p := ⟨gb, ob + k, none⟩) lb).trans (cb k hlt2)
        rw [← hx] at c1
        rw [← hy] at c2
        clear ca cb
        by_cases hxy : x = y
        · have hq : decide (x = y) = true := by simp [hxy]
          have HXY := Lib.hid hxy
          have HX := Lib.hid (And.intro hx hy)
          clear hx hy
          clear hq
          clear hb
          subst hxy
          go_wp2_with fail
          go_quiet (fail)
          go_wp2_with fail
          go_roundw
          case rel =>
            refine ⟨k + 1, by omega, by go_num, below_drewN HBW.out nq, ?_⟩
            rw [take_snoc a k hlt, take_snoc b k hlt2, HE.out, ← HX.out.1, ← HX.out.2]
          case measure => simp [RowKit.intOf]; omega
        · have hq : decide (x = y) = false := by simp [hxy]
          have HXY := Lib.hid hxy
          have HX := Lib.hid (And.intro hx hy)
          have hxy2 : ¬ x = y := hxy
          clear hxy hx hy
          clear hq
          clear hb
          go_wp2_with fail
          go_quiet (fail)
          go_wp2_with fail
          go_ret
          refine ⟨?_, below_drewN HBW.out nq⟩
          have hab : a ≠ b := fun e => HXY.out (by rw [HX.out.1, HX.out.2]; subst e; rfl)
          simp [hab]
      · have hkl : k = a.length := by omega
        have HKL := Lib.hid hkl
        have HE := Lib.hid he
        clear hkl he hb
        go_wp2_with fail
        go_ret
        refine ⟨?_, HBW.out⟩
        have h := HE.out
        rw [HKL.out, List.take_length, HLL.out, List.take_length] at h
        simp [h]
  · have hab : a ≠ b := fun e => hl (by rw [e])
    have HAB := Lib.hid hab
    clear hab
    go_wp2_with fail
    go_ret
    exact ⟨by simp [HAB.out], Below.refl _ _⟩

theorem ints_own {w : World} {base : Nat} {v : Value} {l : List Int} (h : Own w base 3 1 v l.length (l.map (.int .i64 ·))) : ∃ A c, v = .slice A l.length c ∧ IntsIn w A l := by
  by_cases h0 : 0 < l.length
  · obtain ⟨g, cap, rfl, _, hg, _, _⟩ := h.form h0
    refine ⟨_, _, rfl, fun _ => ⟨g, 0, rfl, hg, fun i hi => ?_⟩⟩
    rw [h.cellAt rfl (0 + i) (by omega), Nat.zero_add]
    simp [hi]
  · rcases h.2 with ⟨rfl, h2⟩ | ⟨g, cap, cur, fr, h1, _⟩
    · exact ⟨none, 0, by rw [h2], fun h => absurd h h0⟩
    · exact ⟨_, cap, h1, fun h => absurd h h0⟩
theorem IntsIn.below {w w' : World} {A : Option Addr} {l : List Int} (h : IntsIn w A l) (hb : Below w.heap.size w w') : IntsIn w' A l := fun h0 => by
  obtain ⟨g, off, rfl, hlt, hc⟩ := h h0
  exact ⟨g, off, rfl, Nat.lt_of_lt_of_le hlt hb.size, fun i hi => (hb.cell (p := ⟨g, off + i, none⟩) hlt).trans (hc i hi)⟩
theorem ints_laid (w : World) (l : List Int) (C : Array Value) (h : C = (l.map (Value.int .i64)).toArray) (g : Nat) (hg : g = w.heap.size) : IntsIn (w.alloc (.cells C 3)) (some ⟨g, 0, none⟩) l := fun _ => by
  subst h hg
  refine ⟨_, _, rfl, by simp, fun i hi => ?_⟩
  rw [Nat.zero_add]
  refine (At.new w 3 (l.map (Value.int .i64))).cell' ?_
  simp [hi]
end Go.Proofs.Ytcpnlojcmlldpaa
