/- The reference's Less and Hex. -/
import Derived.Test.YthfkbdhfnoilgaaDoorStampK
namespace Go.Proofs.YthfkbdhfnoilgaaDoor
open Go.RowKit

theorem cmp_split (a : List UInt8) : ∀ (b : List UInt8) (k : Nat) (ha : k < a.length) (hb : k < b.length), a.take k = b.take k → a[k] ≠ b[k] → lessB a b = decide (a[k].toNat < b[k].toNat) := by
  induction a with
  | nil => intro b k ha; simp at ha
  | cons x a ih =>
    intro b k ha hb he hne
    cases b with
    | nil => simp at hb
    | cons y b =>
      cases k with
      | zero =>
        simp only [List.getElem_cons_zero] at hne ⊢
        simp only [lessB, Lib.compareBytes, UInt8.lt_iff_toNat_lt]
        by_cases h1 : x.toNat < y.toNat
        · simp [h1]
        · have h2 : y.toNat < x.toNat := by
            have : x.toNat ≠ y.toNat := fun e => hne (UInt8.toNat_inj.1 e)
            omega
          simp [h1, h2]
      | succ k =>
        simp only [List.take_succ_cons, List.cons.injEq] at he
        obtain ⟨rfl, he⟩ := he
        simp only [List.getElem_cons_succ] at hne ⊢
        have h1 := ih b k (by simpa using ha) (by simpa using hb) he hne
        rw [← h1]
        simp [lessB, Lib.compareBytes]

theorem below_drewN {B : Nat} {w w' : World} (h : Below B w w') (n : Nat) : Below B w (w'.drewN n) := ⟨h.os, h.tape, h.output, h.size, h.block⟩

set_option maxRecDepth 100000 in
set_option maxHeartbeats 1000000 in
theorem refless_any (a b : List UInt8) (ha : a.length = 32) (hb : b.length = 32) (w : World) :
    Calls Tryd.prog 18 #[.agg (u8s a).toArray, .agg (u8s b).toArray] w fun e w' => e = .returned (.bool (lessB a b)) ∧ Below w.heap.size w w' := by
  obtain ⟨w3, hw3⟩ : ∃ w3, w3 = (w.alloc (.cells (u8s a).toArray 27)).alloc (.cells (u8s b).toArray 27) := ⟨_, rfl⟩
  have A1 : At w3 w.heap.size 27 (u8s a) := by
    rw [hw3]
    exact (At.new w _ _).alloc _
  have A2 : At w3 (w.heap.size + 1) 27 (u8s b) := by
    rw [hw3]
    have := At.new (w.alloc (.cells (u8s a).toArray 27)) 27 (u8s b)
    simpa using this
  have hB : Below w.heap.size w w3 := by
    rw [hw3]
    exact ((Below.refl _ _).alloc (Nat.le_refl _) _).alloc (by simp) _
  have HW3 := Lib.hid hw3
  have HA1 := Lib.hid A1
  have HA2 := Lib.hid A2
  have HB := Lib.hid hB
  have HL := Lib.hid (And.intro ha hb)
  clear ha hb hw3 A1 A2 hB
  go_enter Tryd.func18, Tryd.ntmps18
  go_wp2_with fail
  rw [← HW3.out]
  clear HW3
  go_loopw [5] (fun i wr => ∃ k : Nat, k ≤ 32 ∧ i = .int .i64 k ∧ a.take k = b.take k ∧ At wr w.heap.size 27 (u8s a) ∧ At wr (w.heap.size + 1) 27 (u8s b) ∧ Below w.heap.size w wr) (fun i _ => 32 - (intOf i).toNat)
  case atStart => exact ⟨0, by omega, rfl, by simp, HA1.out, HA2.out, HB.out⟩
  case round =>
    obtain ⟨k, hk, rfl, he, h1, h2, hb⟩ := hrel
    clear HA1 HA2 HB
    by_cases hlt : k < 32
    · have hka : k < a.length := by have := HL.out.1; omega
      have hkb : k < b.length := by have := HL.out.2; omega
      obtain ⟨x, hx⟩ : ∃ x : Nat, x = a[k].toNat := ⟨_, rfl⟩
      obtain ⟨y, hy⟩ : ∃ y : Nat, y = b[k].toNat := ⟨_, rfl⟩
      have c1 := h1.cell' (i := k) (v := .int .u8 (x : Int)) (by rw [hx]; simp [u8s, hka])
      have c2 := h2.cell' (i := k) (v := .int .u8 (y : Int)) (by rw [hy]; simp [u8s, hkb])
      have i1 : (0 : Int) ≤ (k : Int) := by omega
      have i2 : (k : Int) < 32 := by omega
      have HX := Lib.hid (And.intro hx (And.intro hy he))
      have H1 := Lib.hid h1
      have H2 := Lib.hid h2
      have HB := Lib.hid hb
      clear hx hy he h1 h2 hb
      by_cases hxy : (x : Int) = (y : Int)
      · go_wp2_with fail
        go_quiet (fail)
        go_wp2_with fail
        go_roundw
        case rel =>
          refine ⟨k + 1, by omega, by go_num, ?_, H1.out, H2.out, below_drewN HB.out nq⟩
          rw [take_snoc a k hka, take_snoc b k hkb, HX.out.2.2]
          have : a[k] = b[k] := UInt8.toNat_inj.1 (by have h1 := HX.out.1; have h2 := HX.out.2.1; omega)
          rw [this]
        case measure => simp [intOf]; omega
      · go_wp2_with fail
        go_quiet (fail)
        go_wp2_with fail
        have d1 : (wr.drewN nq).cell? ⟨w.heap.size, k, none⟩ = some (.int .u8 (x : Int)) := c1
        have d2 : (wr.drewN nq).cell? ⟨w.heap.size + 1, k, none⟩ = some (.int .u8 (y : Int)) := c2
        have hb2 := below_drewN HB.out nq
        generalize wr.drewN nq = w4 at d1 d2 hb2 ⊢
        clear c1 c2
        go_quiet (fail)
        go_wp2_with fail
        go_ret
        refine ⟨?_, below_drewN hb2 _⟩
        have hne : a[k] ≠ b[k] := by
          intro e
          refine hxy ?_
          rw [HX.out.1, HX.out.2.1, e]
        rw [cmp_split a b k hka hkb HX.out.2.2 hne, ← HX.out.1, ← HX.out.2.1]
        rfl
    · have hab : a = b := by
        have h1 := HL.out.1
        have h2 := HL.out.2
        rw [List.take_of_length_le (by omega), List.take_of_length_le (by omega)] at he
        exact he
      have HB := Lib.hid hb
      have HE := Lib.hid hab
      clear he h1 h2 hb hab
      go_wp2_with fail
      go_ret
      refine ⟨?_, HB.out⟩
      rw [HE.out, less_irrefl]
      rfl

set_option maxRecDepth 100000 in
set_option maxHeartbeats 1000000 in
theorem refhex_any (d : List UInt8) (hd : d.length = 32) (w : World) :
    Calls Tryd.prog 16 #[.agg (u8s d).toArray] w fun e w' => e = .returned (.string ⟨(hexL d).toArray⟩) ∧ Below w.heap.size w w' := by
  have h1 : At (w.alloc (.cells (u8s d).toArray 27)) w.heap.size 27 (u8s d) := At.new w _ _
  have hB : Below w.heap.size w (w.alloc (.cells (u8s d).toArray 27)) := (Below.refl _ _).alloc (Nat.le_refl _) _
  have HD := Lib.hid hd
  obtain ⟨i0, hi, hz0, hz1, hz2⟩ := info_parts info_u8
  clear hd
  go_enter Tryd.func16, Tryd.ntmps16
  go_wp2_with fail
  have hs1 : (w.alloc (.cells (u8s d).toArray 27)).heap.size = w.heap.size + 1 := by simp
  generalize w.alloc (.cells (u8s d).toArray 27) = w1 at h1 hB hs1 ⊢
  have hBa := hB.alloc hB.size (.cells #[] 5)
  have h2 := h1.alloc (.cells #[] 5)
  have hl1 := h1.lt
  have hO1 : Own (w1.alloc (.cells #[] 5)) (w.heap.size + 1) 5 1 (.slice (some ⟨w1.heap.size, 0, none⟩) 0 0) (2 * 0) (u8s (hexL (d.take 0))) := Own.made (base := w.heap.size + 1) w1 5 1 [] 0 0 hl1 (Nat.le_refl _) (by simp [maxLen]) rfl
  rw [hs1] at hO1
  have HB := Lib.hid hBa
  have H1 := Lib.hid h2
  have HO1 := Lib.hid hO1
  clear hB hBa h1 h2 hO1 hs1
  go_loopw [3, 4] (fun v i wr => ∃ k : Nat, k ≤ 32 ∧ i = .int .i64 k ∧ Own wr (w.heap.size + 1) 5 1 v (2 * k) (u8s (hexL (d.take k))) ∧ Below w.heap.size w wr ∧ At wr w.heap.size 27 (u8s d)) (fun _ i _ => 32 - (intOf i).toNat)
  case atStart => exact ⟨0, by omega, rfl, HO1.out, HB.out, H1.out⟩
  case round =>
    rename_i v _
    obtain ⟨k, hk, rfl, hO, hb, hA⟩ := hrel
    clear HB H1 HO1
    by_cases hlt : k < 32
    · have hkd : k < d.length := by have := HD.out; omega
      obtain ⟨b, hbe⟩ : ∃ b, b = d[k] := ⟨_, rfl⟩
      obtain ⟨x, hx⟩ : ∃ x, x = b.toNat := ⟨_, rfl⟩
      have hx256 : x < 256 := by rw [hx]; exact b.toNat_lt
      have hcv : (u8s d)[k]? = some (.int .u8 (x : Int)) := by rw [hx, hbe]; simp [u8s, hkd]
      have c1 := hA.cell' hcv
      have HCV := Lib.hid hcv
      clear hcv
      obtain ⟨q, hq⟩ : ∃ q, q = x / 16 := ⟨_, rfl⟩
      obtain ⟨r, hr⟩ : ∃ r, r = x % 16 := ⟨_, rfl⟩
      have hq1 : (x : Int) / 16 = (q : Int) := by omega
      have hr1 : (x : Int) % 16 = (r : Int) := by omega
      have hq2 : (x : Int).tdiv 16 = (q : Int) := by rw [Int.tdiv_eq_ediv_of_nonneg (by omega)]; omega
      have hr2 : (x : Int).tmod 16 = (r : Int) := by rw [Int.tmod_eq_emod_of_nonneg (by omega)]; omega
      have hqw : IntKind.u8.wrap (q : Int) = (q : Int) := by rw [IntKind.wrap_u8]; omega
      have hrw : IntKind.u8.wrap (r : Int) = (r : Int) := by rw [IntKind.wrap_u8]; omega
      have hx1 := fun w => run_hex w q (by omega)
      have hx2 := fun w => run_hex w r (by omega)
      have i1 : (0 : Int) ≤ (k : Int) := by omega
      have i2 : (k : Int) < 32 := by omega
      have HX := Lib.hid (And.intro hbe (And.intro hx (And.intro hq hr)))
      have HB2 := Lib.hid hb
      have HO := Lib.hid hO
      have HA := Lib.hid hA
      clear hbe hx hq hr hb hO hA
      go_wp2_with fail
      go_region_held3 (fun w' => w'.cell? ⟨w.heap.size, k, none⟩ = some (.int .u8 (x : Int)))
        (first | exact c1 | exact ((HA.out.alloc _).drew).cell' HCV.out | exact ((HA.out.alloc _).drew.grown hg2 (fun e => by have := (HO.out.lt _ e.symm).1; omega)).cell' HCV.out)
        ((refine step_append_Own _ rfl (.tmp 10) (.tmp 21) 43 rfl (w.heap.size + 1) 5 i0 _ 1 1 Tryd.underlying43 hi hz0 hz1 hz2 rfl (by omega) _ _ _ rfl (HO.out.alloc _).drew ⟨_, 0, none⟩ 2 2 [.int .u8 ((hexd q).toNat : Int), .int .u8 ((hexd r).toNat : Int)] rfl rfl ?_ ?_ ?_ ?_ ?_ ?_; (focus (exact two_new _ _ _ _)); (focus (exact oneCell_two _ _ _)); (focus (unfold maxLen; omega)); (focus omega); (focus (have := HB2.out.size; simp; omega)); intro v2 w2 hO2 hg2 hat2))
      all_goals
        go_wp2_with fail
        go_roundw
        case rel =>
          refine ⟨k + 1, by omega, by go_num, ?_, ?_, ?_⟩
          · rw [take_snoc d k hkd, hexL_snoc, u8s_append, show 2 * (k + 1) = 2 * k + 2 from by omega]
            have e : u8s (hexOf d[k]) = [.int .u8 ((hexd q).toNat : Int), .int .u8 ((hexd r).toNat : Int)] := by
              rw [HX.out.2.2.1, HX.out.2.2.2, HX.out.2.1, HX.out.1]
              rfl
            rw [e]
            exact hO2
          · exact ((HB2.out.alloc HB2.out.size _).drew).grown hg2 (by simp; have := HB2.out.size; omega) (fun g hg => by have := (HO.out.lt g hg).1; omega)
          · exact (HA.out.alloc _).drew.grown hg2 (fun e => by have := (HO.out.lt _ e.symm).1; omega)
        case measure => simp [intOf]; omega
    · have hk32 : k = 32 := by omega
      subst hk32
      have hdl := HD.out
      rw [List.take_of_length_le (by omega)] at hO
      obtain ⟨g, cap, rfl, _, _, _, _⟩ := hO.form (by omega)
      have hc := run_convert_bytes_back (P := Tryd.prog) wr 43 9 5 ⟨g, 0, none⟩ cap (hexL d) Tryd.underlying43 Tryd.underlying5 Tryd.underlying9 (by
        intro j hj
        have e : (⟨g, 0, none⟩ : Addr).add j = ⟨g, j, none⟩ := by unfold Addr.add; split <;> simp_all
        rw [hexL_length] at hj
        rw [e, hO.cellAt rfl j (by omega)]
        simp [u8s, hexL_length, hj])
      rw [hexL_length, hdl] at hc
      have HB2 := Lib.hid hb
      clear hb hdl hO hA
      go_wp2_with fail
      go_ret
      exact ⟨rfl, HB2.out⟩
end Go.Proofs.YthfkbdhfnoilgaaDoor
