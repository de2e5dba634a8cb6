/- Layer 11: the reference's Same at rumours. -/
import Derived.Test.YtepnepgjlnoabaaHumX2
namespace Go.Proofs.Ytepnepgjlnoabaa
open Go.RowKit Go.Maps Go.Sort

def rumV (r : Rum) : Value := .agg #[.int .i64 r.m.n, .int .i64 r.m.i, .int .i64 r.m.s, .int .i64 r.k]
theorem rum_beq (x y : Rum) : (x.m.n == y.m.n && (x.m.i == y.m.i && x.m.s == y.m.s) && x.k == y.k) = decide (x = y) := by
  rw [Bool.eq_iff_iff]
  obtain ⟨⟨a, b, c⟩, d⟩ := x
  obtain ⟨⟨a', b', c'⟩, d'⟩ := y
  simp
theorem run_neq_rum (w : World) (x y : Rum) : (binOp .neq 48 (rumV x) (rumV y)).run Try.prog w = .ok (.bool (!decide (x = y))) w := by
  rw [← rum_beq]
  unfold rumV
  go_simp
  by_cases h1 : x.m.n = y.m.n <;> by_cases h2 : x.m.i = y.m.i <;> by_cases h3 : x.m.s = y.m.s <;> by_cases h4 : x.k = y.k <;> simp [h1, h2, h3, h4]
/-- the slice value holds these rumours -/
def RumsIn (w : World) (A : Option Addr) (l : List Rum) : Prop :=
  0 < l.length → ∃ g off, A = some ⟨g, off, none⟩ ∧ g < w.heap.size ∧ ∀ i (h : i < l.length), w.rangeAt g (off + i * 4) (rumC l[i])
theorem RumsIn.cells {w w' : World} {A : Option Addr} {l : List Rum} (h : RumsIn w A l) (hg : ∀ g off, A = some ⟨g, off, none⟩ → g < w.heap.size → w'.heap[g]? = w.heap[g]?) {k : Nat} (hk : k < l.length) :
    ∃ g off, A = some ⟨g, off, none⟩ ∧ w'.cell? ⟨g, off + k * 4, none⟩ = some (.int .i64 l[k].m.n) ∧ w'.cell? ⟨g, off + k * 4 + 1, none⟩ = some (.int .i64 l[k].m.i) ∧ w'.cell? ⟨g, off + k * 4 + 2, none⟩ = some (.int .i64 l[k].m.s) ∧ w'.cell? ⟨g, off + k * 4 + 3, none⟩ = some (.int .i64 l[k].k) := by
  obtain ⟨g, off, rfl, hlt, hc⟩ := h (by omega)
  have hb := hg g off rfl hlt
  have key : ∀ j v, (rumC l[k])[j]? = some v → w'.cell? ⟨g, off + k * 4 + j, none⟩ = some v := fun j v hv => by
    rw [World.cell?_of_block (w := w) hb]
    exact hc k hk j v hv
  exact ⟨g, off, rfl, key 0 _ rfl, key 1 _ rfl, key 2 _ rfl, key 3 _ rfl⟩
set_option maxRecDepth 100000 in
set_option maxHeartbeats 1000000 in
theorem refSameR_any (A B : Option Addr) (c d : Nat) (a b : List Rum) (w : World) (hn : a.length < 1099511627776) (ha : RumsIn w A a) (hb : RumsIn w B b) :
    Calls Try.prog 14 #[.slice A a.length c, .slice B b.length d] w fun e w' => e = .returned (.bool (decide (a = b))) ∧ Below w.heap.size w w' := by
  have HA := Lib.hid ha
  have HB := Lib.hid hb
  clear ha hb
  go_enter Try.func14, Try.ntmps14
  by_cases hl : a.length = b.length
  · rw [← hl]
    have HLL := Lib.hid hl
    clear hl
    go_wp2_with fail
    go_loopw [5] (fun i wr => ∃ k : Nat, k ≤ a.length ∧ i = .int .i64 k ∧ Below w.heap.size w wr ∧ a.take k = b.take k) (fun i _ => a.length - (RowKit.intOf i).toNat)
    case atStart => exact ⟨0, by omega, rfl, Below.refl _ _, by simp⟩
    case round =>
      obtain ⟨k, hk, rfl, hb, he⟩ := hrel
      have HBW := Lib.hid hb
      by_cases hlt : k < a.length
      · have hlt2 : k < b.length := by have := HLL.out; omega
        have i1 : (0 : Int) ≤ (k : Int) := by omega
        have i2 : (k : Int) < (a.length : Int) := by omega
        have HE := Lib.hid he
        clear he
        obtain ⟨ga, oa, rfl, a0, a1, a2, a3⟩ := HA.out.cells (w' := wr) (fun g off e hlt' => hb.block g hlt') hlt
        obtain ⟨gb, ob, rfl, b0, b1, b2, b3⟩ := HB.out.cells (w' := wr) (fun g off e hlt' => hb.block g hlt') hlt2
        obtain ⟨x, hx⟩ : ∃ x, x = a[k] := ⟨_, rfl⟩
        obtain ⟨y, hy⟩ : ∃ y, y = b[k] := ⟨_, rfl⟩
        rw [← hx] at a0 a1 a2 a3
        rw [← hy] at b0 b1 b2 b3
        have hne := fun w => run_neq_rum w x y
        unfold rumV at hne
        by_cases hxy : x = y
        · have hq : decide (x = y) = true := by simp [hxy]
          have HXY := Lib.hid hxy
          have HX := Lib.hid (And.intro hx hy)
          clear hxy hx hy
          simp only [hq] at hne
          clear hq
          clear hb
          go_wp2_with fail
          go_quiet (fail)
          go_wp2_with fail
          go_roundw
          case rel =>
            refine ⟨k + 1, by omega, by go_num, below_drewN HBW.out nq, ?_⟩
            rw [take_snoc a k hlt, take_snoc b k hlt2, HE.out, ← HX.out.1, ← HX.out.2, HXY.out]
          case measure => simp [RowKit.intOf]; omega
        · have hq : decide (x = y) = false := by simp [hxy]
          have HXY := Lib.hid hxy
          have HX := Lib.hid (And.intro hx hy)
          skip
          clear hxy hx hy
          simp only [hq] at hne
          clear hq
          clear hb
          go_wp2_with fail
          go_quiet (fail)
          go_wp2_with fail
          go_ret
          refine ⟨?_, below_drewN HBW.out nq⟩
          have hab : a ≠ b := fun e => HXY.out (by rw [HX.out.1, HX.out.2]; subst e; rfl)
          simp [hab]
      · have hkl : k = a.length := by omega
        have HKL := Lib.hid hkl
        have HE := Lib.hid he
        clear hkl he hb
        go_wp2_with fail
        go_ret
        refine ⟨?_, HBW.out⟩
        have h := HE.out
        rw [HKL.out, List.take_length, HLL.out, List.take_length] at h
        simp [h]
  · have hab : a ≠ b := fun e => hl (by rw [e])
    have HAB := Lib.hid hab
    clear hab
    go_wp2_with fail
    go_ret
    exact ⟨by simp [HAB.out], Below.refl _ _⟩
theorem rumsV_at4 (l : List Rum) (i : Nat) (hi : i < l.length) (j : Nat) (v : Value) (hv : (rumC l[i])[j]? = some v) : (rumsV l)[i * 4 + j]? = some v := by
  induction l generalizing i with
  | nil => simp at hi
  | cons m l ih =>
    cases i with
    | zero =>
      have hj : j < 4 := by
        have := (List.getElem?_eq_some_iff.1 hv).1
        simpa [rumC] using this
      unfold rumsV
      rw [List.flatMap_cons, Nat.zero_mul, Nat.zero_add, List.getElem?_append_left (by simpa [rumC] using hj)]
      exact hv
    | succ i =>
      unfold rumsV
      rw [List.flatMap_cons, List.getElem?_append_right (by simp [rumC]; omega)]
      have e : (i + 1) * 4 + j - (rumC m).length = i * 4 + j := by simp [rumC]; omega
      rw [e]
      exact ih i (by simpa using hi) hv
/-- rows that a call has made hold their things -/
theorem own_rums {w : World} {B n : Nat} {v : Value} {l : List Rum} (h : Own w B 48 4 v n (rumsV l)) (hn : n = l.length) : ∃ A c, v = .slice A l.length c ∧ RumsIn w A l := by
  subst hn
  rcases h.2 with ⟨h1, h2⟩ | ⟨g, cap, cur, fr, h1, _⟩
  · exact ⟨none, 0, by rw [h1, h2], fun h => by omega⟩
  · refine ⟨_, cap, h1, fun _ => ⟨g, 0, rfl, (h.lt g (by rw [h1]; rfl)).2, fun i hi j v hv => ?_⟩⟩
    have hj : j < 4 := (List.getElem?_eq_some_iff.1 hv).1
    rw [Nat.zero_add, h.cellAt (by rw [h1]; rfl) (i * 4 + j) (by omega)]
    exact rumsV_at4 l i hi j v hv
theorem own_mems {w : World} {B n : Nat} {v : Value} {l : List Mem} (h : Own w B 41 3 v n (memsV l)) (hn : n = l.length) : ∃ A c, v = .slice A l.length c ∧ MemsIn w A l := by
  subst hn
  rcases h.2 with ⟨h1, h2⟩ | ⟨g, cap, cur, fr, h1, _⟩
  · exact ⟨none, 0, by rw [h1, h2], fun h => by omega⟩
  · refine ⟨_, cap, h1, fun _ => ⟨g, 0, rfl, (h.lt g (by rw [h1]; rfl)).2, fun i hi j v hv => ?_⟩⟩
    have hj : j < 3 := (List.getElem?_eq_some_iff.1 hv).1
    rw [Nat.zero_add, h.cellAt (by rw [h1]; rfl) (i * 3 + j) (by omega)]
    exact memsV_at l i hi j v hv
end Go.Proofs.Ytepnepgjlnoabaa
