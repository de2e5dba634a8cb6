/- The reference's Less and Hex. -/
import Derived.Test.YtefbllhpibfojaaDoorGrpC
import Derived.Test.YtefbllhpibfojaaDoorGrpD
import Derived.Test.YtefbllhpibfojaaDoorGrpH
namespace Go.Proofs.YtefbllhpibfojaaDoor
open Go.RowKit

theorem cmp_split (a : List UInt8) : ∀ (b : List UInt8) (k : Nat) (ha : k < a.length) (hb : k < b.length), a.take k = b.take k → a[k] ≠ b[k] → lessB a b = decide (a[k].toNat < b[k].toNat) := by
  induction a with
  | nil => intro b k ha; simp at ha
  | cons x a ih =>
    intro b k ha hb he hne
    cases b with
    | nil => simp at hb
    | cons y b =>
      cases k with
      | zero =>
        simp only [List.getElem_cons_zero] at hne ⊢
        simp only [lessB, Lib.compareBytes, UInt8.lt_iff_toNat_lt]
        by_cases h1 : x.toNat < y.toNat
        · simp [h1]
        · have h2 : y.toNat < x.toNat := by
            have : x.toNat ≠ y.toNat := fun e => hne (UInt8.toNat_inj.1 e)
            omega
          simp [h1, h2]
      | succ k =>
        simp only [List.take_succ_cons, List.cons.injEq] at he
        obtain ⟨rfl, he⟩ := he
        simp only [List.getElem_cons_succ] at hne ⊢
        have h1 := ih b k (by simpa using ha) (by simpa using hb) he hne
        rw [← h1]
        simp [lessB, Lib.compareBytes]
set_option maxRecDepth 100000 in
set_option maxHeartbeats 1000000 in
theorem refless_any (a b : List UInt8) (ha : a.length = 32) (hb : b.length = 32) (w : World) :
    Calls Tryd.prog 62 #[.agg (u8s a).toArray, .agg (u8s b).toArray] w fun e w' => e = .returned (.bool (lessB a b)) ∧ Below w.heap.size w w' := by
  obtain ⟨w3, hw3⟩ : ∃ w3, w3 = (w.alloc (.cells (u8s a).toArray 24)).alloc (.cells (u8s b).toArray 24) := ⟨_, rfl⟩
  have A1 : At w3 w.heap.size 24 (u8s a) := by
    rw [hw3]
    exact (At.new w _ _).alloc _
  have A2 : At w3 (w.heap.size + 1) 24 (u8s b) := by
    rw [hw3]
    have := At.new (w.alloc (.cells (u8s a).toArray 24)) 24 (u8s b)
    simpa using this
  have hB : Below w.heap.size w w3 := by
    rw [hw3]
    exact ((Below.refl _ _).alloc (Nat.le_refl _) _).alloc (by simp) _
  have HW3 := Lib.hid hw3
  have HA1 := Lib.hid A1
  have HA2 := Lib.hid A2
  have HB := Lib.hid hB
  have HL := Lib.hid (And.intro ha hb)
  clear ha hb hw3 A1 A2 hB
  go_enter Tryd.func62, Tryd.ntmps62
  go_wp2_with fail
  rw [← HW3.out]
  clear HW3
  go_loopw [5] (fun i wr => ∃ k : Nat, k ≤ 32 ∧ i = .int .i64 k ∧ a.take k = b.take k ∧ At wr w.heap.size 24 (u8s a) ∧ At wr (w.heap.size + 1) 24 (u8s b) ∧ Below w.heap.size w wr) (fun i _ => 32 - (intOf i).toNat)
  case atStart => exact ⟨0, by omega, rfl, by simp, HA1.out, HA2.out, HB.out⟩
  case round =>
    obtain ⟨k, hk, rfl, he, h1, h2, hb⟩ := hrel
    clear HA1 HA2 HB
    by_cases hlt : k < 32
    · have hka : k < a.length := by have := HL.out.1; omega
      have hkb : k < b.length := by have := HL.out.2; omega
      obtain ⟨x, hx⟩ : ∃ x : Nat, x = a[k].toNat := ⟨_, rfl⟩
      obtain ⟨y, hy⟩ : ∃ y : Nat, y = b[k].toNat := ⟨_, rfl⟩
      have c1 := h1.cell' (i := k) (v := .int .u8 (x : Int)) (by rw [hx]; simp [u8s, hka])
      have c2 := h2.cell' (i := k) (v := .int .u8 (y : Int)) (by rw [hy]; simp [u8s, hkb])
      have i1 : (0 : Int) ≤ (k : Int) := by omega
      have i2 : (k : Int) < 32 := by omega
      have HX := Lib.hid (And.intro hx (And.intro hy he))
      have H1 := Lib.hid h1
      have H2 := Lib.hid h2
      have HB := Lib.hid hb
      clear hx hy he h1 h2 hb
      by_cases hxy : (x : Int) = (y : Int)
      · go_wp2_with fail
        go_quiet (fail)
        go_wp2_with fail
        go_roundw
        case rel =>
          refine ⟨k + 1, by omega, by go_num, ?_, H1.out, H2.out, below_drewN HB.out nq⟩
          rw [take_snoc a k hka, take_snoc b k hkb, HX.out.2.2]
          have : a[k] = b[k] := UInt8.toNat_inj.1 (by have h1 := HX.out.1; have h2 := HX.out.2.1; omega)
          rw [this]
        case measure => simp [intOf]; omega
      · go_wp2_with fail
        go_quiet (fail)
        go_wp2_with fail
        have d1 : (wr.drewN nq).cell? ⟨w.heap.size, k, none⟩ = some (.int .u8 (x : Int)) := c1
        have d2 : (wr.drewN nq).cell? ⟨w.heap.size + 1, k, none⟩ = some (.int .u8 (y : Int)) := c2
        have hb2 := below_drewN HB.out nq
        generalize wr.drewN nq = w4 at d1 d2 hb2 ⊢
        clear c1 c2
        go_quiet (fail)
        go_wp2_with fail
        go_ret
        refine ⟨?_, below_drewN hb2 _⟩
        have hne : a[k] ≠ b[k] := by
          intro e
          refine hxy ?_
          rw [HX.out.1, HX.out.2.1, e]
        rw [cmp_split a b k hka hkb HX.out.2.2 hne, ← HX.out.1, ← HX.out.2.1]
        rfl
    · have hab : a = b := by
        have h1 := HL.out.1
        have h2 := HL.out.2
        rw [List.take_of_length_le (by omega), List.take_of_length_le (by omega)] at he
        exact he
      have HB := Lib.hid hb
      have HE := Lib.hid hab
      clear he h1 h2 hb hab
      go_wp2_with fail
      go_ret
      refine ⟨?_, HB.out⟩
      rw [HE.out, less_irrefl]
      rfl
end Go.Proofs.YtefbllhpibfojaaDoor
