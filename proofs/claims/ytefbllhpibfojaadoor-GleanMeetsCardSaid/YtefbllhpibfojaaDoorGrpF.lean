/- slices.symMergeCmpFunc where both runs are long. -/
import Derived.Test.YtefbllhpibfojaaDoorGrpE
namespace Go.Proofs.YtefbllhpibfojaaDoor
open Go.Proofs Stab Go.Shelf Go.RowKit Go.Lib Go.Sort
variable {α : Type} [Inhabited α]

set_option maxRecDepth 1000000 in
set_option maxHeartbeats 4000000 in
theorem sym_rest1 (k : Nat) (aE : ∀ w, (isAgg 38).run Tryd.prog w = .ok true w) (zE : ∀ w, (Go.sizeOf 38).run Tryd.prog w = .ok k w) (enc : α → List Value) (cf : α → α → Int) (g : Nat) (cb : Array Value) (blk off cap : Nat) (d0 d : Array α) (w0 w : World)
    (eg : ∀ args w, (callFunc g args).run Tryd.prog w = .ok (.enter g args) w) (hcmp : CmpLays Tryd.prog g cb enc k cf blk off d0.size w0)
    (ht : ∀ a b c, leC cf a b = true → leC cf b c = true → leC cf a c = true) (ho : ∀ a, leC cf a a = true)
    (R : RowK enc k w0 blk off d0) (hs : d0.size = d.size) (S : SWK enc k w0 blk off d w) (hsz : d.size < 2305843009213693952) (A X Y Q : List α) (hX : SortC cf X) (hY : SortC cf Y) (hd : d.toList = A ++ X ++ Y ++ Q)
    (IH : SymOk k enc cf g cb blk off cap d0 w0 (X.length + Y.length - 1))
    (a m b : Nat) (ha : A.length = a) (hm : X.length = m - a) (hb : Y.length = b - m) (ham : a + 1 < m) (hmb : m + 1 < b) (hbd : b ≤ d.size) (mid : Nat) (hmid : ((a : Int) + (b : Int)) / 2 = (mid : Int)) (hmm : (mid : Int) < (m : Int)) :
    Calls Tryd.prog 95 #[.slice (some ⟨blk, off, none⟩) d.size cap, .int .i64 (a : Nat), .int .i64 (m : Nat), .int .i64 (b : Nat), .func (.func g) #[] cb] w fun e w' => e = .returned (.tuple #[]) ∧ ∃ d' : Array α, d'.size = d.size ∧ d'.toList = A ++ List.merge X Y (leC cf) ++ Q ∧ SWK enc k w0 blk off d' w' := by
  have S0 : Aside (SWK enc k w0 blk off d w) := S
  have HC : Aside _ := hcmp
  have mixed : Tryd.prog.follows .mixedOrders = true := by kernel_rfl
  clear S hcmp
  obtain ⟨n, hn⟩ : ∃ n : Nat, n = mid + m := ⟨_, rfl⟩
  have hmid1 : a < mid := by omega
  have hmid2 : mid < b := by omega
  have hmidb : 2 * mid ≤ a + b ∧ a + b ≤ 2 * mid + 1 := by omega
  have w1 : IntKind.i64.wrap ((m : Int) - (a : Int)) = (m : Int) - (a : Int) := by rw [IntKind.wrap_i64]; omega
  have w1' : ((m : Int) - (a : Int) == 1) = false := by rw [beq_eq_false_iff_ne]; omega
  have w2 : IntKind.i64.wrap ((b : Int) - (m : Int)) = (b : Int) - (m : Int) := by rw [IntKind.wrap_i64]; omega
  have w2' : ((b : Int) - (m : Int) == 1) = false := by rw [beq_eq_false_iff_ne]; omega
  have r1 : IntKind.i64.wrap ((a : Int) + (b : Int)) = (a : Int) + (b : Int) := by rw [IntKind.wrap_i64]; omega
  have r2 : IntKind.u64.wrap ((a : Int) + (b : Int)) = (a : Int) + (b : Int) := by rw [IntKind.wrap_u64]; omega
  have w5 : IntKind.i64.wrap ((mid : Int) + (m : Int)) = (n : Int) := by rw [IntKind.wrap_i64]; omega
  have w6 : IntKind.i64.wrap ((n : Int) - 1) = (n : Int) - 1 := by rw [IntKind.wrap_i64]; omega
  obtain ⟨s0, hs0e⟩ : ∃ s0 : Nat, s0 + b = n := ⟨n - b, by omega⟩
  have w7 : IntKind.i64.wrap ((n : Int) - (b : Int)) = (s0 : Int) := by rw [IntKind.wrap_i64]; omega
  have HG0 : Hid (a + 1 < m ∧ m + 1 < b ∧ b ≤ d.size ∧ d.size < 2305843009213693952 ∧ a < mid ∧ mid < b ∧ n = mid + m ∧ 2 * mid ≤ a + b ∧ a + b ≤ 2 * mid + 1 ∧ d0.size = d.size ∧ s0 + b = n) := hid' (by omega)
  have HE : Hid (A.length = a ∧ X.length = m - a ∧ Y.length = b - m) := hid' ⟨ha, hm, hb⟩
  have HD := hid' hd
  have HIH := hid' IH
  have HX := hid' hX
  have HY := hid' hY
  have HT := hid' ht
  have HO := hid' ho
  clear ht ho hX hY hd IH ha hm hb hn hs0e
  go_enter Tryd.func95, Tryd.ntmps95
  go_wp2_with fail
  clear w1 w1' w2 w2' r1 r2 w5 w6 w7
  go_loopg [20, 21] (mid - s0) (fun kx s20 s21 wr => ∃ (s r : Nat), s20 = .int .i64 s ∧ s21 = .int .i64 r ∧ s0 ≤ s ∧ s ≤ r ∧ r ≤ mid ∧ r - s ≤ kx ∧ Hid ((s0 < s → ltOf cf d[n - s]! d[s - 1]! = false) ∧ (r < mid → ltOf cf d[n - 1 - r]! d[r]! = true)) ∧ Aside (SWK enc k w0 blk off d wr))
  case atStart => exact ⟨s0, mid, rfl, rfl, Nat.le_refl _, by have := HG0.out; omega, Nat.le_refl _, Nat.le_refl _, ⟨fun h => by omega, fun h => by omega⟩, S0⟩
  case round =>
    clear S0
    obtain ⟨s, r, rfl, rfl, hs0, hsr, hr0, hkx, HB, S1⟩ := hrel
    by_cases hlt : (s : Int) < (r : Int)
    · have r3 : IntKind.i64.wrap ((s : Int) + (r : Int)) = (s : Int) + (r : Int) := by have := HG0.out; rw [IntKind.wrap_i64]; omega
      have r4 : IntKind.u64.wrap ((s : Int) + (r : Int)) = (s : Int) + (r : Int) := by have := HG0.out; rw [IntKind.wrap_u64]; omega
      go_wp2_with fail
      obtain ⟨c, hcc⟩ : ∃ h : Nat, ((s : Int) + (r : Int)) / 2 = (h : Int) := ⟨(s + r) / 2, by omega⟩
      rw [hcc]
      have hsc : s ≤ c := by omega
      have hcr : c < r := by omega
      have w9 : IntKind.i64.wrap ((c : Int) + 1) = (c : Int) + 1 := by have := HG0.out; rw [IntKind.wrap_i64]; omega
      clear r3 r4 hcc
      have HG : Hid (n < d.size + c + 1 ∧ c + 1 ≤ n ∧ n < 4611686018427387904 ∧ c < d.size ∧ d0.size = d.size ∧ d.size < 2305843009213693952) := hid' (by have := HG0.out; omega)
      cases hL : ltOf cf d[n - 1 - c]! d[c]! with
      | false =>
        obtain ⟨u, hu⟩ : ∃ u : Nat, u = n - 1 - c := ⟨_, rfl⟩
        have ea : ((u : Int)).toNat = u := by omega
        have pa : (0 : Int) ≤ (u : Int) := by omega
        have ba : (u : Int) < (d.size : Int) := by have := HG.out; omega
        have ra : IntKind.i64.wrap ((n : Int) - 1 - (c : Int)) = (u : Int) := by have := HG.out; rw [IntKind.wrap_i64]; omega
        have ec : ((c : Int)).toNat = c := by omega
        have pc : (0 : Int) ≤ (c : Int) := by omega
        have bc : (c : Int) < (d.size : Int) := by have := HG.out; omega
        obtain ⟨x, hx⟩ : ∃ x, x = d[u]! := ⟨_, rfl⟩
        obtain ⟨y, hy⟩ : ∃ x, x = d[c]! := ⟨_, rfl⟩
        have l1 := S1.out.ld R (by have := HG.out; omega) Tryd.prog u (by have := HG.out; omega)
        have l2 := S1.out.ld R (by have := HG.out; omega) Tryd.prog c (by have := HG.out; omega)
        rw [← hx] at l1
        rw [← hy] at l2
        have hc := S1.out.cmp HC.out (by have := HG.out; omega) x y
        have hv : ¬ cf x y < 0 := by rw [hx, hy, hu]; exact of_decide_eq_false hL
        have hd : decide (cf x y < 0) = false := decide_eq_false hv
        have HL := hid' hL
        clear hx hy hL hu
        go_quiet_grown (first | (go_at_fn g; refine Calls.grown_of (hc _ _)))
        have S2 : Aside (SWK enc k w0 blk off d (grow (wr.drewN nq) osq)) := S1.out.grown nq osq
        clear l1 l2 hc S1
        generalize grow (wr.drewN nq) osq = w2 at S2 ⊢
        clear nq osq
        go_wp2_with fail
        go_roundg (r - (c + 1))
        case measure => omega
        case rel => exact ⟨c + 1, r, by go_num, rfl, by omega, by omega, hr0, Nat.le_refl _, ⟨fun _ => by
          have e1 : n - (c + 1) = n - 1 - c := by have := HG.out; omega
          rw [e1, Nat.add_sub_cancel]
          exact HL.out, HB.out.2⟩, S2⟩
      | true =>
        obtain ⟨u, hu⟩ : ∃ u : Nat, u = n - 1 - c := ⟨_, rfl⟩
        have ea : ((u : Int)).toNat = u := by omega
        have pa : (0 : Int) ≤ (u : Int) := by omega
        have ba : (u : Int) < (d.size : Int) := by have := HG.out; omega
        have ra : IntKind.i64.wrap ((n : Int) - 1 - (c : Int)) = (u : Int) := by have := HG.out; rw [IntKind.wrap_i64]; omega
        have ec : ((c : Int)).toNat = c := by omega
        have pc : (0 : Int) ≤ (c : Int) := by omega
        have bc : (c : Int) < (d.size : Int) := by have := HG.out; omega
        obtain ⟨x, hx⟩ : ∃ x, x = d[u]! := ⟨_, rfl⟩
        obtain ⟨y, hy⟩ : ∃ x, x = d[c]! := ⟨_, rfl⟩
        have l1 := S1.out.ld R (by have := HG.out; omega) Tryd.prog u (by have := HG.out; omega)
        have l2 := S1.out.ld R (by have := HG.out; omega) Tryd.prog c (by have := HG.out; omega)
        rw [← hx] at l1
        rw [← hy] at l2
        have hc := S1.out.cmp HC.out (by have := HG.out; omega) x y
        have hv : cf x y < 0 := by rw [hx, hy, hu]; exact of_decide_eq_true hL
        have hd : decide (cf x y < 0) = true := decide_eq_true hv
        have HL := hid' hL
        clear hx hy hL hu
        go_quiet_grown (first | (go_at_fn g; refine Calls.grown_of (hc _ _)))
        have S2 : Aside (SWK enc k w0 blk off d (grow (wr.drewN nq) osq)) := S1.out.grown nq osq
        clear l1 l2 hc S1
        generalize grow (wr.drewN nq) osq = w2 at S2 ⊢
        clear nq osq
        go_wp2_with fail
        go_roundg (c - s)
        case measure => omega
        case rel => exact ⟨s, c, rfl, rfl, hs0, by omega, by omega, Nat.le_refl _, ⟨HB.out.1, fun _ => HL.out⟩, S2⟩
    · have hsre : s = r := by omega
      subst hsre
      clear hlt
      obtain ⟨e, he⟩ : ∃ e, e = n - s := ⟨_, rfl⟩
      have hg := HG0.out
      have hE := HE.out
      have HG : Hid (a + 1 < m ∧ m + 1 < b ∧ b ≤ d.size ∧ d.size < 2305843009213693952 ∧ a < mid ∧ mid < b ∧ d0.size = d.size ∧ a ≤ s ∧ s ≤ m ∧ m ≤ e ∧ e ≤ b ∧ e + s = mid + m ∧ s ≤ mid ∧ mid < m) := hid' (by omega)
      have hkey : (a < s ∧ s < m ∧ m < e ∧ e < b) ∨ (a < s ∧ s < m ∧ m < e ∧ e = b) ∨ (a < s ∧ s < m ∧ e = m ∧ e < b) ∨ (s = a ∧ s < m ∧ m < e ∧ e < b) ∨ (s = a ∧ s < m ∧ m < e ∧ e = b) := by have := HG.out; omega
      have hSP : ∃ X1 X2 Y1 Y2, SymSplit cf d A Q X Y s e a m b X1 X2 Y1 Y2 := by
        have hG := HG.out
        have hB := HB.out
        refine sym_split cf HT.out HO.out HX.out HY.out HD.out hE.1 hE.2.1 hE.2.2 (by omega) (by omega) (by omega) (by omega) (fun h1 h2 => ?_) (fun h1 h2 => ?_)
        · have := hB.1 (by omega)
          rwa [← he] at this
        · have := hB.2 (by omega)
          have e1 : n - 1 - s = e - 1 := by omega
          rwa [e1] at this
      have we : IntKind.i64.wrap ((n : Int) - (s : Int)) = (e : Int) := by rw [IntKind.wrap_i64]; omega
      have HSP := hid' hSP
      have hlt : ¬ (s : Int) < (s : Int) := by omega
      clear hSP hg hE he HB hs0 hr0 hkx hsr HD HX HY HT HO
      rcases hkey with h | h | h | h | h
      · have HI := hid' h
        clear h
        have q0 : ((s : Int) < (m : Int)) := by have := HG.out; have := HI.out; omega
        have q1 : ((m : Int) < (e : Int)) := by have := HG.out; have := HI.out; omega
        have q2 : ((a : Int) < (s : Int)) := by have := HG.out; have := HI.out; omega
        have q3 : ((s : Int) < (mid : Int)) := by have := HG.out; have := HI.out; omega
        have q4 : ((mid : Int) < (e : Int)) := by have := HG.out; have := HI.out; omega
        have q5 : ((e : Int) < (b : Int)) := by have := HG.out; have := HI.out; omega
        obtain ⟨X1, X2, Y1, Y2, hSP⟩ := HSP.out
        have HSQ := hid' hSP
        clear hSP
        go_wp2_with fail
        have hq := HSQ.out
        have n1 := hq.lX1
        have n2 := hq.lX2
        have n3 := hq.lY1
        have n4 := hq.lY2
        have hE := HE.out
        have hG := HG.out
        have hI := HI.out
        refine (rotate_at k aE zE enc g cb blk off cap d0 d w0 _ R (by omega) S1.out (by omega) (A ++ X1) X2 Y1 (Y2 ++ Q) (by rw [hq.hd]; simp) (by omega) (by omega) _ _ _ _ rfl (by rw [List.length_append]; omega) (by rw [List.length_append]; omega) (by rw [List.length_append]; omega)).mono ?_
        rintro e1 w1 ⟨rfl, d1, hz1, hl1, hS1⟩
        have HL1 : Hid (d1.toList = A ++ X1 ++ Y1 ++ (X2 ++ Y2 ++ Q)) := hid' (by rw [hl1]; simp)
        have HS1 : Aside _ := hS1
        have HZ1 := hid' hz1
        clear hl1 hS1 hz1 n1 n2 n3 n4 hq hE hG hI S1
        go_wp2_with fail
        have hq := HSQ.out
        have n1 := hq.lX1
        have n2 := hq.lX2
        have n3 := hq.lY1
        have n4 := hq.lY2
        have hE := HE.out
        have hG := HG.out
        have hI := HI.out
        have hz1 := HZ1.out
        refine (HIH.out A X1 Y1 (X2 ++ Y2 ++ Q) d1 _ _ _ _ _ (by omega) (by omega) (by omega) hq.sX1 hq.sY1 HL1.out (by omega) HS1.out hz1.symm (by omega) (by omega) (by omega)).mono ?_
        rintro e2 w2 ⟨rfl, d2, hz2, hl2, hS2⟩
        have HL2 : Hid (d2.toList = (A ++ List.merge X1 Y1 (leC cf)) ++ X2 ++ Y2 ++ Q) := hid' (by rw [hl2]; simp)
        have HS2 : Aside _ := hS2
        have HZ2 : Hid (d2.size = d.size) := hid' (by omega)
        clear hl2 hS2 hz2 hz1 n1 n2 n3 n4 hq hE hG hI HL1 HS1 HZ1
        go_wp2_with fail
        have hq := HSQ.out
        have n1 := hq.lX1
        have n2 := hq.lX2
        have n3 := hq.lY1
        have n4 := hq.lY2
        have hE := HE.out
        have hG := HG.out
        have hI := HI.out
        have hz2 := HZ2.out
        have hml : (List.merge X1 Y1 (leC cf)).length = X1.length + Y1.length := List.length_merge ..
        refine (HIH.out (A ++ List.merge X1 Y1 (leC cf)) X2 Y2 Q d2 _ _ _ _ _ (by omega) (by omega) (by omega) hq.sX2 hq.sY2 HL2.out (by omega) HS2.out hz2.symm (by rw [List.length_append]; omega) (by rw [List.length_append]; omega) (by rw [List.length_append]; omega)).mono ?_
        rintro e3 w3 ⟨rfl, d3, hz3, hl3, hS3⟩
        have HL3 : Hid (d3.toList = A ++ List.merge X Y (leC cf) ++ Q) := hid' (by rw [hl3, hq.mg]; simp)
        have HS3 : Aside _ := hS3
        have HZ3 : Hid (d3.size = d.size) := hid' (by omega)
        clear hl3 hS3 hz3 hz2 hml n1 n2 n3 n4 hq hE hG hI HL2 HS2 HZ2
        go_wp2_with fail
        go_end0
        exact ⟨rfl, d3, HZ3.out, by simpa only [List.append_assoc] using HL3.out, HS3.out⟩
      · have HI := hid' h
        clear h
        have q0 : ((s : Int) < (m : Int)) := by have := HG.out; have := HI.out; omega
        have q1 : ((m : Int) < (e : Int)) := by have := HG.out; have := HI.out; omega
        have q2 : ((a : Int) < (s : Int)) := by have := HG.out; have := HI.out; omega
        have q3 : ((s : Int) < (mid : Int)) := by have := HG.out; have := HI.out; omega
        have q4 : ((mid : Int) < (e : Int)) := by have := HG.out; have := HI.out; omega
        have q5 : ¬ ((e : Int) < (b : Int)) := by have := HG.out; have := HI.out; omega
        obtain ⟨X1, X2, Y1, Y2, hSP⟩ := HSP.out
        have HSQ := hid' hSP
        clear hSP
        go_wp2_with fail
        have hq := HSQ.out
        have n1 := hq.lX1
        have n2 := hq.lX2
        have n3 := hq.lY1
        have n4 := hq.lY2
        have hE := HE.out
        have hG := HG.out
        have hI := HI.out
        refine (rotate_at k aE zE enc g cb blk off cap d0 d w0 _ R (by omega) S1.out (by omega) (A ++ X1) X2 Y1 (Y2 ++ Q) (by rw [hq.hd]; simp) (by omega) (by omega) _ _ _ _ rfl (by rw [List.length_append]; omega) (by rw [List.length_append]; omega) (by rw [List.length_append]; omega)).mono ?_
        rintro e1 w1 ⟨rfl, d1, hz1, hl1, hS1⟩
        have HL1 : Hid (d1.toList = A ++ X1 ++ Y1 ++ (X2 ++ Y2 ++ Q)) := hid' (by rw [hl1]; simp)
        have HS1 : Aside _ := hS1
        have HZ1 := hid' hz1
        clear hl1 hS1 hz1 n1 n2 n3 n4 hq hE hG hI S1
        go_wp2_with fail
        have hq := HSQ.out
        have n1 := hq.lX1
        have n2 := hq.lX2
        have n3 := hq.lY1
        have n4 := hq.lY2
        have hE := HE.out
        have hG := HG.out
        have hI := HI.out
        have hz1 := HZ1.out
        refine (HIH.out A X1 Y1 (X2 ++ Y2 ++ Q) d1 _ _ _ _ _ (by omega) (by omega) (by omega) hq.sX1 hq.sY1 HL1.out (by omega) HS1.out hz1.symm (by omega) (by omega) (by omega)).mono ?_
        rintro e2 w2 ⟨rfl, d2, hz2, hl2, hS2⟩
        have HL2 : Hid (d2.toList = (A ++ List.merge X1 Y1 (leC cf)) ++ X2 ++ Y2 ++ Q) := hid' (by rw [hl2]; simp)
        have HS2 : Aside _ := hS2
        have HZ2 : Hid (d2.size = d.size) := hid' (by omega)
        clear hl2 hS2 hz2 hz1 n1 n2 n3 n4 hq hE hG hI HL1 HS1 HZ1
        go_wp2_with fail
        obtain ⟨d3, hd3⟩ : ∃ d3, d3 = d2 := ⟨_, rfl⟩
        have HL3 : Hid (d3.toList = A ++ List.merge X Y (leC cf) ++ Q) := hid' (by
          have hq := HSQ.out
          have n1 := hq.lX1
          have n2 := hq.lX2
          have n3 := hq.lY1
          have n4 := hq.lY2
          have hE := HE.out
          have hG := HG.out
          have hI := HI.out
          rw [hd3, HL2.out, hq.mg]
          first
          | (have : X2 = [] := List.eq_nil_of_length_eq_zero (by omega)
             rw [this]
             simp; done)
          | (have : Y2 = [] := List.eq_nil_of_length_eq_zero (by omega)
             rw [this]
             simp))
        have HS3 : Aside (SWK enc k w0 blk off d3 w2) := by rw [hd3]; exact HS2.out
        have HZ3 : Hid (d3.size = d.size) := hid' (by rw [hd3]; exact HZ2.out)
        clear hd3 HL2 HS2 HZ2
        go_end0
        exact ⟨rfl, d3, HZ3.out, by simpa only [List.append_assoc] using HL3.out, HS3.out⟩
      · have HI := hid' h
        clear h
        have q0 : ((s : Int) < (m : Int)) := by have := HG.out; have := HI.out; omega
        have q1 : ¬ ((m : Int) < (e : Int)) := by have := HG.out; have := HI.out; omega
        have q2 : ((a : Int) < (s : Int)) := by have := HG.out; have := HI.out; omega
        have q3 : ¬ ((s : Int) < (mid : Int)) := by have := HG.out; have := HI.out; omega
        have q4 : ((mid : Int) < (e : Int)) := by have := HG.out; have := HI.out; omega
        have q5 : ((e : Int) < (b : Int)) := by have := HG.out; have := HI.out; omega
        obtain ⟨X1, X2, Y1, Y2, hSP⟩ := HSP.out
        have HSQ := hid' hSP
        clear hSP
        go_wp2_with fail
        obtain ⟨d1, hd1⟩ : ∃ d1, d1 = d := ⟨_, rfl⟩
        have HL1 : Hid (d1.toList = A ++ X1 ++ Y1 ++ (X2 ++ Y2 ++ Q)) := hid' (by
          have hq := HSQ.out
          have n1 := hq.lX1
          have n2 := hq.lX2
          have n3 := hq.lY1
          have n4 := hq.lY2
          have hE := HE.out
          have hG := HG.out
          have hI := HI.out
          rw [hd1, hq.hd]
          first
          | (have : X2 = [] := List.eq_nil_of_length_eq_zero (by omega)
             rw [this]
             simp; done)
          | (have : Y1 = [] := List.eq_nil_of_length_eq_zero (by omega)
             rw [this]
             simp))
        have HS1 : Aside (SWK enc k w0 blk off d1 wr) := by rw [hd1]; exact S1.out
        have HZ1 : Hid (d1.size = d.size) := hid' (by rw [hd1])
        clear hd1 S1
        obtain ⟨d2, hd2⟩ : ∃ d2, d2 = d1 := ⟨_, rfl⟩
        have HL2 : Hid (d2.toList = (A ++ List.merge X1 Y1 (leC cf)) ++ X2 ++ Y2 ++ Q) := hid' (by
          have hq := HSQ.out
          have n1 := hq.lX1
          have n2 := hq.lX2
          have n3 := hq.lY1
          have n4 := hq.lY2
          have hE := HE.out
          have hG := HG.out
          have hI := HI.out
          rw [hd2, HL1.out]
          first
          | (have : X1 = [] := List.eq_nil_of_length_eq_zero (by omega)
             rw [this]
             simp; done)
          | (have : Y1 = [] := List.eq_nil_of_length_eq_zero (by omega)
             rw [this]
             simp))
        have HS2 : Aside (SWK enc k w0 blk off d2 wr) := by rw [hd2]; exact HS1.out
        have HZ2 : Hid (d2.size = d.size) := hid' (by rw [hd2]; exact HZ1.out)
        clear hd2 HL1 HS1 HZ1
        have hq := HSQ.out
        have n1 := hq.lX1
        have n2 := hq.lX2
        have n3 := hq.lY1
        have n4 := hq.lY2
        have hE := HE.out
        have hG := HG.out
        have hI := HI.out
        have hz2 := HZ2.out
        have hml : (List.merge X1 Y1 (leC cf)).length = X1.length + Y1.length := List.length_merge ..
        refine (HIH.out (A ++ List.merge X1 Y1 (leC cf)) X2 Y2 Q d2 _ _ _ _ _ (by omega) (by omega) (by omega) hq.sX2 hq.sY2 HL2.out (by omega) HS2.out hz2.symm (by rw [List.length_append]; omega) (by rw [List.length_append]; omega) (by rw [List.length_append]; omega)).mono ?_
        rintro e3 w3 ⟨rfl, d3, hz3, hl3, hS3⟩
        have HL3 : Hid (d3.toList = A ++ List.merge X Y (leC cf) ++ Q) := hid' (by rw [hl3, hq.mg]; simp)
        have HS3 : Aside _ := hS3
        have HZ3 : Hid (d3.size = d.size) := hid' (by omega)
        clear hl3 hS3 hz3 hz2 hml n1 n2 n3 n4 hq hE hG hI HL2 HS2 HZ2
        go_wp2_with fail
        go_end0
        exact ⟨rfl, d3, HZ3.out, by simpa only [List.append_assoc] using HL3.out, HS3.out⟩
      · have HI := hid' h
        clear h
        have q0 : ((s : Int) < (m : Int)) := by have := HG.out; have := HI.out; omega
        have q1 : ((m : Int) < (e : Int)) := by have := HG.out; have := HI.out; omega
        have q2 : ¬ ((a : Int) < (s : Int)) := by have := HG.out; have := HI.out; omega
        have q3 : ((mid : Int) < (e : Int)) := by have := HG.out; have := HI.out; omega
        have q4 : ((e : Int) < (b : Int)) := by have := HG.out; have := HI.out; omega
        obtain ⟨X1, X2, Y1, Y2, hSP⟩ := HSP.out
        have HSQ := hid' hSP
        clear hSP
        go_wp2_with fail
        have hq := HSQ.out
        have n1 := hq.lX1
        have n2 := hq.lX2
        have n3 := hq.lY1
        have n4 := hq.lY2
        have hE := HE.out
        have hG := HG.out
        have hI := HI.out
        refine (rotate_at k aE zE enc g cb blk off cap d0 d w0 _ R (by omega) S1.out (by omega) (A ++ X1) X2 Y1 (Y2 ++ Q) (by rw [hq.hd]; simp) (by omega) (by omega) _ _ _ _ rfl (by rw [List.length_append]; omega) (by rw [List.length_append]; omega) (by rw [List.length_append]; omega)).mono ?_
        rintro e1 w1 ⟨rfl, d1, hz1, hl1, hS1⟩
        have HL1 : Hid (d1.toList = A ++ X1 ++ Y1 ++ (X2 ++ Y2 ++ Q)) := hid' (by rw [hl1]; simp)
        have HS1 : Aside _ := hS1
        have HZ1 := hid' hz1
        clear hl1 hS1 hz1 n1 n2 n3 n4 hq hE hG hI S1
        go_wp2_with fail
        obtain ⟨d2, hd2⟩ : ∃ d2, d2 = d1 := ⟨_, rfl⟩
        have HL2 : Hid (d2.toList = (A ++ List.merge X1 Y1 (leC cf)) ++ X2 ++ Y2 ++ Q) := hid' (by
          have hq := HSQ.out
          have n1 := hq.lX1
          have n2 := hq.lX2
          have n3 := hq.lY1
          have n4 := hq.lY2
          have hE := HE.out
          have hG := HG.out
          have hI := HI.out
          rw [hd2, HL1.out]
          first
          | (have : X1 = [] := List.eq_nil_of_length_eq_zero (by omega)
             rw [this]
             simp; done)
          | (have : Y1 = [] := List.eq_nil_of_length_eq_zero (by omega)
             rw [this]
             simp))
        have HS2 : Aside (SWK enc k w0 blk off d2 w1) := by rw [hd2]; exact HS1.out
        have HZ2 : Hid (d2.size = d.size) := hid' (by rw [hd2]; exact HZ1.out)
        clear hd2 HL1 HS1 HZ1
        have hq := HSQ.out
        have n1 := hq.lX1
        have n2 := hq.lX2
        have n3 := hq.lY1
        have n4 := hq.lY2
        have hE := HE.out
        have hG := HG.out
        have hI := HI.out
        have hz2 := HZ2.out
        have hml : (List.merge X1 Y1 (leC cf)).length = X1.length + Y1.length := List.length_merge ..
        refine (HIH.out (A ++ List.merge X1 Y1 (leC cf)) X2 Y2 Q d2 _ _ _ _ _ (by omega) (by omega) (by omega) hq.sX2 hq.sY2 HL2.out (by omega) HS2.out hz2.symm (by rw [List.length_append]; omega) (by rw [List.length_append]; omega) (by rw [List.length_append]; omega)).mono ?_
        rintro e3 w3 ⟨rfl, d3, hz3, hl3, hS3⟩
        have HL3 : Hid (d3.toList = A ++ List.merge X Y (leC cf) ++ Q) := hid' (by rw [hl3, hq.mg]; simp)
        have HS3 : Aside _ := hS3
        have HZ3 : Hid (d3.size = d.size) := hid' (by omega)
        clear hl3 hS3 hz3 hz2 hml n1 n2 n3 n4 hq hE hG hI HL2 HS2 HZ2
        go_wp2_with fail
        go_end0
        exact ⟨rfl, d3, HZ3.out, by simpa only [List.append_assoc] using HL3.out, HS3.out⟩
      · have HI := hid' h
        clear h
        have q0 : ((s : Int) < (m : Int)) := by have := HG.out; have := HI.out; omega
        have q1 : ((m : Int) < (e : Int)) := by have := HG.out; have := HI.out; omega
        have q2 : ¬ ((a : Int) < (s : Int)) := by have := HG.out; have := HI.out; omega
        have q3 : ((mid : Int) < (e : Int)) := by have := HG.out; have := HI.out; omega
        have q4 : ¬ ((e : Int) < (b : Int)) := by have := HG.out; have := HI.out; omega
        obtain ⟨X1, X2, Y1, Y2, hSP⟩ := HSP.out
        have HSQ := hid' hSP
        clear hSP
        go_wp2_with fail
        have hq := HSQ.out
        have n1 := hq.lX1
        have n2 := hq.lX2
        have n3 := hq.lY1
        have n4 := hq.lY2
        have hE := HE.out
        have hG := HG.out
        have hI := HI.out
        refine (rotate_at k aE zE enc g cb blk off cap d0 d w0 _ R (by omega) S1.out (by omega) (A ++ X1) X2 Y1 (Y2 ++ Q) (by rw [hq.hd]; simp) (by omega) (by omega) _ _ _ _ rfl (by rw [List.length_append]; omega) (by rw [List.length_append]; omega) (by rw [List.length_append]; omega)).mono ?_
        rintro e1 w1 ⟨rfl, d1, hz1, hl1, hS1⟩
        have HL1 : Hid (d1.toList = A ++ X1 ++ Y1 ++ (X2 ++ Y2 ++ Q)) := hid' (by rw [hl1]; simp)
        have HS1 : Aside _ := hS1
        have HZ1 := hid' hz1
        clear hl1 hS1 hz1 n1 n2 n3 n4 hq hE hG hI S1
        go_wp2_with fail
        obtain ⟨d2, hd2⟩ : ∃ d2, d2 = d1 := ⟨_, rfl⟩
        have HL2 : Hid (d2.toList = (A ++ List.merge X1 Y1 (leC cf)) ++ X2 ++ Y2 ++ Q) := hid' (by
          have hq := HSQ.out
          have n1 := hq.lX1
          have n2 := hq.lX2
          have n3 := hq.lY1
          have n4 := hq.lY2
          have hE := HE.out
          have hG := HG.out
          have hI := HI.out
          rw [hd2, HL1.out]
          first
          | (have : X1 = [] := List.eq_nil_of_length_eq_zero (by omega)
             rw [this]
             simp; done)
          | (have : Y1 = [] := List.eq_nil_of_length_eq_zero (by omega)
             rw [this]
             simp))
        have HS2 : Aside (SWK enc k w0 blk off d2 w1) := by rw [hd2]; exact HS1.out
        have HZ2 : Hid (d2.size = d.size) := hid' (by rw [hd2]; exact HZ1.out)
        clear hd2 HL1 HS1 HZ1
        obtain ⟨d3, hd3⟩ : ∃ d3, d3 = d2 := ⟨_, rfl⟩
        have HL3 : Hid (d3.toList = A ++ List.merge X Y (leC cf) ++ Q) := hid' (by
          have hq := HSQ.out
          have n1 := hq.lX1
          have n2 := hq.lX2
          have n3 := hq.lY1
          have n4 := hq.lY2
          have hE := HE.out
          have hG := HG.out
          have hI := HI.out
          rw [hd3, HL2.out, hq.mg]
          first
          | (have : X2 = [] := List.eq_nil_of_length_eq_zero (by omega)
             rw [this]
             simp; done)
          | (have : Y2 = [] := List.eq_nil_of_length_eq_zero (by omega)
             rw [this]
             simp))
        have HS3 : Aside (SWK enc k w0 blk off d3 w1) := by rw [hd3]; exact HS2.out
        have HZ3 : Hid (d3.size = d.size) := hid' (by rw [hd3]; exact HZ2.out)
        clear hd3 HL2 HS2 HZ2
        go_end0
        exact ⟨rfl, d3, HZ3.out, by simpa only [List.append_assoc] using HL3.out, HS3.out⟩

end Go.Proofs.YtefbllhpibfojaaDoor

namespace Go.Proofs.YtefbllhpibfojaaDoor
open Go.Proofs Stab Go.Shelf Go.RowKit Go.Lib Go.Sort
variable {α : Type} [Inhabited α]

set_option maxRecDepth 1000000 in
set_option maxHeartbeats 4000000 in
theorem sym_rest2 (k : Nat) (aE : ∀ w, (isAgg 38).run Tryd.prog w = .ok true w) (zE : ∀ w, (Go.sizeOf 38).run Tryd.prog w = .ok k w) (enc : α → List Value) (cf : α → α → Int) (g : Nat) (cb : Array Value) (blk off cap : Nat) (d0 d : Array α) (w0 w : World)
    (eg : ∀ args w, (callFunc g args).run Tryd.prog w = .ok (.enter g args) w) (hcmp : CmpLays Tryd.prog g cb enc k cf blk off d0.size w0)
    (ht : ∀ a b c, leC cf a b = true → leC cf b c = true → leC cf a c = true) (ho : ∀ a, leC cf a a = true)
    (R : RowK enc k w0 blk off d0) (hs : d0.size = d.size) (S : SWK enc k w0 blk off d w) (hsz : d.size < 2305843009213693952) (A X Y Q : List α) (hX : SortC cf X) (hY : SortC cf Y) (hd : d.toList = A ++ X ++ Y ++ Q)
    (IH : SymOk k enc cf g cb blk off cap d0 w0 (X.length + Y.length - 1))
    (a m b : Nat) (ha : A.length = a) (hm : X.length = m - a) (hb : Y.length = b - m) (ham : a + 1 < m) (hmb : m + 1 < b) (hbd : b ≤ d.size) (mid : Nat) (hmid : ((a : Int) + (b : Int)) / 2 = (mid : Int)) (hmm : ¬ (mid : Int) < (m : Int)) :
    Calls Tryd.prog 95 #[.slice (some ⟨blk, off, none⟩) d.size cap, .int .i64 (a : Nat), .int .i64 (m : Nat), .int .i64 (b : Nat), .func (.func g) #[] cb] w fun e w' => e = .returned (.tuple #[]) ∧ ∃ d' : Array α, d'.size = d.size ∧ d'.toList = A ++ List.merge X Y (leC cf) ++ Q ∧ SWK enc k w0 blk off d' w' := by
  have S0 : Aside (SWK enc k w0 blk off d w) := S
  have HC : Aside _ := hcmp
  have mixed : Tryd.prog.follows .mixedOrders = true := by kernel_rfl
  clear S hcmp
  obtain ⟨n, hn⟩ : ∃ n : Nat, n = mid + m := ⟨_, rfl⟩
  have hmid1 : a < mid := by omega
  have hmid2 : mid < b := by omega
  have hmidb : 2 * mid ≤ a + b ∧ a + b ≤ 2 * mid + 1 := by omega
  have w1 : IntKind.i64.wrap ((m : Int) - (a : Int)) = (m : Int) - (a : Int) := by rw [IntKind.wrap_i64]; omega
  have w1' : ((m : Int) - (a : Int) == 1) = false := by rw [beq_eq_false_iff_ne]; omega
  have w2 : IntKind.i64.wrap ((b : Int) - (m : Int)) = (b : Int) - (m : Int) := by rw [IntKind.wrap_i64]; omega
  have w2' : ((b : Int) - (m : Int) == 1) = false := by rw [beq_eq_false_iff_ne]; omega
  have r1 : IntKind.i64.wrap ((a : Int) + (b : Int)) = (a : Int) + (b : Int) := by rw [IntKind.wrap_i64]; omega
  have r2 : IntKind.u64.wrap ((a : Int) + (b : Int)) = (a : Int) + (b : Int) := by rw [IntKind.wrap_u64]; omega
  have w5 : IntKind.i64.wrap ((mid : Int) + (m : Int)) = (n : Int) := by rw [IntKind.wrap_i64]; omega
  have w6 : IntKind.i64.wrap ((n : Int) - 1) = (n : Int) - 1 := by rw [IntKind.wrap_i64]; omega

  have HG0 : Hid (a + 1 < m ∧ m + 1 < b ∧ b ≤ d.size ∧ d.size < 2305843009213693952 ∧ a < mid ∧ mid < b ∧ n = mid + m ∧ 2 * mid ≤ a + b ∧ a + b ≤ 2 * mid + 1 ∧ d0.size = d.size ∧ m ≤ mid) := hid' (by omega)
  have HE : Hid (A.length = a ∧ X.length = m - a ∧ Y.length = b - m) := hid' ⟨ha, hm, hb⟩
  have HD := hid' hd
  have HIH := hid' IH
  have HX := hid' hX
  have HY := hid' hY
  have HT := hid' ht
  have HO := hid' ho
  clear ht ho hX hY hd IH ha hm hb hn 
  go_enter Tryd.func95, Tryd.ntmps95
  go_wp2_with fail
  clear w1 w1' w2 w2' r1 r2 w5 w6
  go_loopg [20, 21] (m - a) (fun kx s20 s21 wr => ∃ (s r : Nat), s20 = .int .i64 s ∧ s21 = .int .i64 r ∧ a ≤ s ∧ s ≤ r ∧ r ≤ m ∧ r - s ≤ kx ∧ Hid ((a < s → ltOf cf d[n - s]! d[s - 1]! = false) ∧ (r < m → ltOf cf d[n - 1 - r]! d[r]! = true)) ∧ Aside (SWK enc k w0 blk off d wr))
  case atStart => exact ⟨a, m, rfl, rfl, Nat.le_refl _, by have := HG0.out; omega, Nat.le_refl _, Nat.le_refl _, ⟨fun h => by omega, fun h => by omega⟩, S0⟩
  case round =>
    clear S0
    obtain ⟨s, r, rfl, rfl, hs0, hsr, hr0, hkx, HB, S1⟩ := hrel
    by_cases hlt : (s : Int) < (r : Int)
    · have r3 : IntKind.i64.wrap ((s : Int) + (r : Int)) = (s : Int) + (r : Int) := by have := HG0.out; rw [IntKind.wrap_i64]; omega
      have r4 : IntKind.u64.wrap ((s : Int) + (r : Int)) = (s : Int) + (r : Int) := by have := HG0.out; rw [IntKind.wrap_u64]; omega
      go_wp2_with fail
      obtain ⟨c, hcc⟩ : ∃ h : Nat, ((s : Int) + (r : Int)) / 2 = (h : Int) := ⟨(s + r) / 2, by omega⟩
      rw [hcc]
      have hsc : s ≤ c := by omega
      have hcr : c < r := by omega
      have w9 : IntKind.i64.wrap ((c : Int) + 1) = (c : Int) + 1 := by have := HG0.out; rw [IntKind.wrap_i64]; omega
      clear r3 r4 hcc
      have HG : Hid (n < d.size + c + 1 ∧ c + 1 ≤ n ∧ n < 4611686018427387904 ∧ c < d.size ∧ d0.size = d.size ∧ d.size < 2305843009213693952) := hid' (by have := HG0.out; omega)
      cases hL : ltOf cf d[n - 1 - c]! d[c]! with
      | false =>
        obtain ⟨u, hu⟩ : ∃ u : Nat, u = n - 1 - c := ⟨_, rfl⟩
        have ea : ((u : Int)).toNat = u := by omega
        have pa : (0 : Int) ≤ (u : Int) := by omega
        have ba : (u : Int) < (d.size : Int) := by have := HG.out; omega
        have ra : IntKind.i64.wrap ((n : Int) - 1 - (c : Int)) = (u : Int) := by have := HG.out; rw [IntKind.wrap_i64]; omega
        have ec : ((c : Int)).toNat = c := by omega
        have pc : (0 : Int) ≤ (c : Int) := by omega
        have bc : (c : Int) < (d.size : Int) := by have := HG.out; omega
        obtain ⟨x, hx⟩ : ∃ x, x = d[u]! := ⟨_, rfl⟩
        obtain ⟨y, hy⟩ : ∃ x, x = d[c]! := ⟨_, rfl⟩
        have l1 := S1.out.ld R (by have := HG.out; omega) Tryd.prog u (by have := HG.out; omega)
        have l2 := S1.out.ld R (by have := HG.out; omega) Tryd.prog c (by have := HG.out; omega)
        rw [← hx] at l1
        rw [← hy] at l2
        have hc := S1.out.cmp HC.out (by have := HG.out; omega) x y
        have hv : ¬ cf x y < 0 := by rw [hx, hy, hu]; exact of_decide_eq_false hL
        have hd : decide (cf x y < 0) = false := decide_eq_false hv
        have HL := hid' hL
        clear hx hy hL hu
        go_quiet_grown (first | (go_at_fn g; refine Calls.grown_of (hc _ _)))
        have S2 : Aside (SWK enc k w0 blk off d (grow (wr.drewN nq) osq)) := S1.out.grown nq osq
        clear l1 l2 hc S1
        generalize grow (wr.drewN nq) osq = w2 at S2 ⊢
        clear nq osq
        go_wp2_with fail
        go_roundg (r - (c + 1))
        case measure => omega
        case rel => exact ⟨c + 1, r, by go_num, rfl, by omega, by omega, hr0, Nat.le_refl _, ⟨fun _ => by
          have e1 : n - (c + 1) = n - 1 - c := by have := HG.out; omega
          rw [e1, Nat.add_sub_cancel]
          exact HL.out, HB.out.2⟩, S2⟩
      | true =>
        obtain ⟨u, hu⟩ : ∃ u : Nat, u = n - 1 - c := ⟨_, rfl⟩
        have ea : ((u : Int)).toNat = u := by omega
        have pa : (0 : Int) ≤ (u : Int) := by omega
        have ba : (u : Int) < (d.size : Int) := by have := HG.out; omega
        have ra : IntKind.i64.wrap ((n : Int) - 1 - (c : Int)) = (u : Int) := by have := HG.out; rw [IntKind.wrap_i64]; omega
        have ec : ((c : Int)).toNat = c := by omega
        have pc : (0 : Int) ≤ (c : Int) := by omega
        have bc : (c : Int) < (d.size : Int) := by have := HG.out; omega
        obtain ⟨x, hx⟩ : ∃ x, x = d[u]! := ⟨_, rfl⟩
        obtain ⟨y, hy⟩ : ∃ x, x = d[c]! := ⟨_, rfl⟩
        have l1 := S1.out.ld R (by have := HG.out; omega) Tryd.prog u (by have := HG.out; omega)
        have l2 := S1.out.ld R (by have := HG.out; omega) Tryd.prog c (by have := HG.out; omega)
        rw [← hx] at l1
        rw [← hy] at l2
        have hc := S1.out.cmp HC.out (by have := HG.out; omega) x y
        have hv : cf x y < 0 := by rw [hx, hy, hu]; exact of_decide_eq_true hL
        have hd : decide (cf x y < 0) = true := decide_eq_true hv
        have HL := hid' hL
        clear hx hy hL hu
        go_quiet_grown (first | (go_at_fn g; refine Calls.grown_of (hc _ _)))
        have S2 : Aside (SWK enc k w0 blk off d (grow (wr.drewN nq) osq)) := S1.out.grown nq osq
        clear l1 l2 hc S1
        generalize grow (wr.drewN nq) osq = w2 at S2 ⊢
        clear nq osq
        go_wp2_with fail
        go_roundg (c - s)
        case measure => omega
        case rel => exact ⟨s, c, rfl, rfl, hs0, by omega, by omega, Nat.le_refl _, ⟨HB.out.1, fun _ => HL.out⟩, S2⟩
    · have hsre : s = r := by omega
      subst hsre
      clear hlt
      obtain ⟨e, he⟩ : ∃ e, e = n - s := ⟨_, rfl⟩
      have hg := HG0.out
      have hE := HE.out
      have HG : Hid (a + 1 < m ∧ m + 1 < b ∧ b ≤ d.size ∧ d.size < 2305843009213693952 ∧ a < mid ∧ mid < b ∧ d0.size = d.size ∧ a ≤ s ∧ s ≤ m ∧ m ≤ e ∧ e ≤ b ∧ e + s = mid + m ∧ m ≤ mid) := hid' (by omega)
      have hkey : (a < s ∧ s < m ∧ m < e ∧ e < b) ∨ (a < s ∧ s < m ∧ m < e ∧ e = b) ∨ (a < s ∧ s = m ∧ m < e ∧ e < b) ∨ (a < s ∧ s = m ∧ e = m ∧ e < b) ∨ (s = a ∧ s < m ∧ m < e ∧ e < b) ∨ (s = a ∧ s < m ∧ m < e ∧ e = b) := by have := HG.out; omega
      have hSP : ∃ X1 X2 Y1 Y2, SymSplit cf d A Q X Y s e a m b X1 X2 Y1 Y2 := by
        have hG := HG.out
        have hB := HB.out
        refine sym_split cf HT.out HO.out HX.out HY.out HD.out hE.1 hE.2.1 hE.2.2 (by omega) (by omega) (by omega) (by omega) (fun h1 h2 => ?_) (fun h1 h2 => ?_)
        · have := hB.1 (by omega)
          rwa [← he] at this
        · have := hB.2 (by omega)
          have e1 : n - 1 - s = e - 1 := by omega
          rwa [e1] at this
      have we : IntKind.i64.wrap ((n : Int) - (s : Int)) = (e : Int) := by rw [IntKind.wrap_i64]; omega
      have HSP := hid' hSP
      have hlt : ¬ (s : Int) < (s : Int) := by omega
      clear hSP hg hE he HB hs0 hr0 hkx hsr HD HX HY HT HO
      rcases hkey with h | h | h | h | h | h
      · have HI := hid' h
        clear h
        have q0 : ((s : Int) < (m : Int)) := by have := HG.out; have := HI.out; omega
        have q1 : ((m : Int) < (e : Int)) := by have := HG.out; have := HI.out; omega
        have q2 : ((a : Int) < (s : Int)) := by have := HG.out; have := HI.out; omega
        have q3 : ((s : Int) < (mid : Int)) := by have := HG.out; have := HI.out; omega
        have q4 : ((mid : Int) < (e : Int)) := by have := HG.out; have := HI.out; omega
        have q5 : ((e : Int) < (b : Int)) := by have := HG.out; have := HI.out; omega
        obtain ⟨X1, X2, Y1, Y2, hSP⟩ := HSP.out
        have HSQ := hid' hSP
        clear hSP
        go_wp2_with fail
        have hq := HSQ.out
        have n1 := hq.lX1
        have n2 := hq.lX2
        have n3 := hq.lY1
        have n4 := hq.lY2
        have hE := HE.out
        have hG := HG.out
        have hI := HI.out
        refine (rotate_at k aE zE enc g cb blk off cap d0 d w0 _ R (by omega) S1.out (by omega) (A ++ X1) X2 Y1 (Y2 ++ Q) (by rw [hq.hd]; simp) (by omega) (by omega) _ _ _ _ rfl (by rw [List.length_append]; omega) (by rw [List.length_append]; omega) (by rw [List.length_append]; omega)).mono ?_
        rintro e1 w1 ⟨rfl, d1, hz1, hl1, hS1⟩
        have HL1 : Hid (d1.toList = A ++ X1 ++ Y1 ++ (X2 ++ Y2 ++ Q)) := hid' (by rw [hl1]; simp)
        have HS1 : Aside _ := hS1
        have HZ1 := hid' hz1
        clear hl1 hS1 hz1 n1 n2 n3 n4 hq hE hG hI S1
        go_wp2_with fail
        have hq := HSQ.out
        have n1 := hq.lX1
        have n2 := hq.lX2
        have n3 := hq.lY1
        have n4 := hq.lY2
        have hE := HE.out
        have hG := HG.out
        have hI := HI.out
        have hz1 := HZ1.out
        refine (HIH.out A X1 Y1 (X2 ++ Y2 ++ Q) d1 _ _ _ _ _ (by omega) (by omega) (by omega) hq.sX1 hq.sY1 HL1.out (by omega) HS1.out hz1.symm (by omega) (by omega) (by omega)).mono ?_
        rintro e2 w2 ⟨rfl, d2, hz2, hl2, hS2⟩
        have HL2 : Hid (d2.toList = (A ++ List.merge X1 Y1 (leC cf)) ++ X2 ++ Y2 ++ Q) := hid' (by rw [hl2]; simp)
        have HS2 : Aside _ := hS2
        have HZ2 : Hid (d2.size = d.size) := hid' (by omega)
        clear hl2 hS2 hz2 hz1 n1 n2 n3 n4 hq hE hG hI HL1 HS1 HZ1
        go_wp2_with fail
        have hq := HSQ.out
        have n1 := hq.lX1
        have n2 := hq.lX2
        have n3 := hq.lY1
        have n4 := hq.lY2
        have hE := HE.out
        have hG := HG.out
        have hI := HI.out
        have hz2 := HZ2.out
        have hml : (List.merge X1 Y1 (leC cf)).length = X1.length + Y1.length := List.length_merge ..
        refine (HIH.out (A ++ List.merge X1 Y1 (leC cf)) X2 Y2 Q d2 _ _ _ _ _ (by omega) (by omega) (by omega) hq.sX2 hq.sY2 HL2.out (by omega) HS2.out hz2.symm (by rw [List.length_append]; omega) (by rw [List.length_append]; omega) (by rw [List.length_append]; omega)).mono ?_
        rintro e3 w3 ⟨rfl, d3, hz3, hl3, hS3⟩
        have HL3 : Hid (d3.toList = A ++ List.merge X Y (leC cf) ++ Q) := hid' (by rw [hl3, hq.mg]; simp)
        have HS3 : Aside _ := hS3
        have HZ3 : Hid (d3.size = d.size) := hid' (by omega)
        clear hl3 hS3 hz3 hz2 hml n1 n2 n3 n4 hq hE hG hI HL2 HS2 HZ2
        go_wp2_with fail
        go_end0
        exact ⟨rfl, d3, HZ3.out, by simpa only [List.append_assoc] using HL3.out, HS3.out⟩
      · have HI := hid' h
        clear h
        have q0 : ((s : Int) < (m : Int)) := by have := HG.out; have := HI.out; omega
        have q1 : ((m : Int) < (e : Int)) := by have := HG.out; have := HI.out; omega
        have q2 : ((a : Int) < (s : Int)) := by have := HG.out; have := HI.out; omega
        have q3 : ((s : Int) < (mid : Int)) := by have := HG.out; have := HI.out; omega
        have q4 : ((mid : Int) < (e : Int)) := by have := HG.out; have := HI.out; omega
        have q5 : ¬ ((e : Int) < (b : Int)) := by have := HG.out; have := HI.out; omega
        obtain ⟨X1, X2, Y1, Y2, hSP⟩ := HSP.out
        have HSQ := hid' hSP
        clear hSP
        go_wp2_with fail
        have hq := HSQ.out
        have n1 := hq.lX1
        have n2 := hq.lX2
        have n3 := hq.lY1
        have n4 := hq.lY2
        have hE := HE.out
        have hG := HG.out
        have hI := HI.out
        refine (rotate_at k aE zE enc g cb blk off cap d0 d w0 _ R (by omega) S1.out (by omega) (A ++ X1) X2 Y1 (Y2 ++ Q) (by rw [hq.hd]; simp) (by omega) (by omega) _ _ _ _ rfl (by rw [List.length_append]; omega) (by rw [List.length_append]; omega) (by rw [List.length_append]; omega)).mono ?_
        rintro e1 w1 ⟨rfl, d1, hz1, hl1, hS1⟩
        have HL1 : Hid (d1.toList = A ++ X1 ++ Y1 ++ (X2 ++ Y2 ++ Q)) := hid' (by rw [hl1]; simp)
        have HS1 : Aside _ := hS1
        have HZ1 := hid' hz1
        clear hl1 hS1 hz1 n1 n2 n3 n4 hq hE hG hI S1
        go_wp2_with fail
        have hq := HSQ.out
        have n1 := hq.lX1
        have n2 := hq.lX2
        have n3 := hq.lY1
        have n4 := hq.lY2
        have hE := HE.out
        have hG := HG.out
        have hI := HI.out
        have hz1 := HZ1.out
        refine (HIH.out A X1 Y1 (X2 ++ Y2 ++ Q) d1 _ _ _ _ _ (by omega) (by omega) (by omega) hq.sX1 hq.sY1 HL1.out (by omega) HS1.out hz1.symm (by omega) (by omega) (by omega)).mono ?_
        rintro e2 w2 ⟨rfl, d2, hz2, hl2, hS2⟩
        have HL2 : Hid (d2.toList = (A ++ List.merge X1 Y1 (leC cf)) ++ X2 ++ Y2 ++ Q) := hid' (by rw [hl2]; simp)
        have HS2 : Aside _ := hS2
        have HZ2 : Hid (d2.size = d.size) := hid' (by omega)
        clear hl2 hS2 hz2 hz1 n1 n2 n3 n4 hq hE hG hI HL1 HS1 HZ1
        go_wp2_with fail
        obtain ⟨d3, hd3⟩ : ∃ d3, d3 = d2 := ⟨_, rfl⟩
        have HL3 : Hid (d3.toList = A ++ List.merge X Y (leC cf) ++ Q) := hid' (by
          have hq := HSQ.out
          have n1 := hq.lX1
          have n2 := hq.lX2
          have n3 := hq.lY1
          have n4 := hq.lY2
          have hE := HE.out
          have hG := HG.out
          have hI := HI.out
          rw [hd3, HL2.out, hq.mg]
          first
          | (have : X2 = [] := List.eq_nil_of_length_eq_zero (by omega)
             rw [this]
             simp; done)
          | (have : Y2 = [] := List.eq_nil_of_length_eq_zero (by omega)
             rw [this]
             simp))
        have HS3 : Aside (SWK enc k w0 blk off d3 w2) := by rw [hd3]; exact HS2.out
        have HZ3 : Hid (d3.size = d.size) := hid' (by rw [hd3]; exact HZ2.out)
        clear hd3 HL2 HS2 HZ2
        go_end0
        exact ⟨rfl, d3, HZ3.out, by simpa only [List.append_assoc] using HL3.out, HS3.out⟩
      · have HI := hid' h
        clear h
        have q0 : ¬ ((s : Int) < (m : Int)) := by have := HG.out; have := HI.out; omega
        have q1 : ((a : Int) < (s : Int)) := by have := HG.out; have := HI.out; omega
        have q2 : ((s : Int) < (mid : Int)) := by have := HG.out; have := HI.out; omega
        have q3 : ¬ ((mid : Int) < (e : Int)) := by have := HG.out; have := HI.out; omega
        obtain ⟨X1, X2, Y1, Y2, hSP⟩ := HSP.out
        have HSQ := hid' hSP
        clear hSP
        go_wp2_with fail
        obtain ⟨d1, hd1⟩ : ∃ d1, d1 = d := ⟨_, rfl⟩
        have HL1 : Hid (d1.toList = A ++ X1 ++ Y1 ++ (X2 ++ Y2 ++ Q)) := hid' (by
          have hq := HSQ.out
          have n1 := hq.lX1
          have n2 := hq.lX2
          have n3 := hq.lY1
          have n4 := hq.lY2
          have hE := HE.out
          have hG := HG.out
          have hI := HI.out
          rw [hd1, hq.hd]
          first
          | (have : X2 = [] := List.eq_nil_of_length_eq_zero (by omega)
             rw [this]
             simp; done)
          | (have : Y1 = [] := List.eq_nil_of_length_eq_zero (by omega)
             rw [this]
             simp))
        have HS1 : Aside (SWK enc k w0 blk off d1 wr) := by rw [hd1]; exact S1.out
        have HZ1 : Hid (d1.size = d.size) := hid' (by rw [hd1])
        clear hd1 S1
        have hq := HSQ.out
        have n1 := hq.lX1
        have n2 := hq.lX2
        have n3 := hq.lY1
        have n4 := hq.lY2
        have hE := HE.out
        have hG := HG.out
        have hI := HI.out
        have hz1 := HZ1.out
        refine (HIH.out A X1 Y1 (X2 ++ Y2 ++ Q) d1 _ _ _ _ _ (by omega) (by omega) (by omega) hq.sX1 hq.sY1 HL1.out (by omega) HS1.out hz1.symm (by omega) (by omega) (by omega)).mono ?_
        rintro e2 w2 ⟨rfl, d2, hz2, hl2, hS2⟩
        have HL2 : Hid (d2.toList = (A ++ List.merge X1 Y1 (leC cf)) ++ X2 ++ Y2 ++ Q) := hid' (by rw [hl2]; simp)
        have HS2 : Aside _ := hS2
        have HZ2 : Hid (d2.size = d.size) := hid' (by omega)
        clear hl2 hS2 hz2 hz1 n1 n2 n3 n4 hq hE hG hI HL1 HS1 HZ1
        go_wp2_with fail
        obtain ⟨d3, hd3⟩ : ∃ d3, d3 = d2 := ⟨_, rfl⟩
        have HL3 : Hid (d3.toList = A ++ List.merge X Y (leC cf) ++ Q) := hid' (by
          have hq := HSQ.out
          have n1 := hq.lX1
          have n2 := hq.lX2
          have n3 := hq.lY1
          have n4 := hq.lY2
          have hE := HE.out
          have hG := HG.out
          have hI := HI.out
          rw [hd3, HL2.out, hq.mg]
          first
          | (have : X2 = [] := List.eq_nil_of_length_eq_zero (by omega)
             rw [this]
             simp; done)
          | (have : Y2 = [] := List.eq_nil_of_length_eq_zero (by omega)
             rw [this]
             simp))
        have HS3 : Aside (SWK enc k w0 blk off d3 w2) := by rw [hd3]; exact HS2.out
        have HZ3 : Hid (d3.size = d.size) := hid' (by rw [hd3]; exact HZ2.out)
        clear hd3 HL2 HS2 HZ2
        go_end0
        exact ⟨rfl, d3, HZ3.out, by simpa only [List.append_assoc] using HL3.out, HS3.out⟩
      · have HI := hid' h
        clear h
        have q0 : ¬ ((s : Int) < (m : Int)) := by have := HG.out; have := HI.out; omega
        have q1 : ((a : Int) < (s : Int)) := by have := HG.out; have := HI.out; omega
        have q2 : ¬ ((s : Int) < (mid : Int)) := by have := HG.out; have := HI.out; omega
        have q3 : ¬ ((mid : Int) < (e : Int)) := by have := HG.out; have := HI.out; omega
        obtain ⟨X1, X2, Y1, Y2, hSP⟩ := HSP.out
        have HSQ := hid' hSP
        clear hSP
        go_wp2_with fail
        obtain ⟨d1, hd1⟩ : ∃ d1, d1 = d := ⟨_, rfl⟩
        have HL1 : Hid (d1.toList = A ++ X1 ++ Y1 ++ (X2 ++ Y2 ++ Q)) := hid' (by
          have hq := HSQ.out
          have n1 := hq.lX1
          have n2 := hq.lX2
          have n3 := hq.lY1
          have n4 := hq.lY2
          have hE := HE.out
          have hG := HG.out
          have hI := HI.out
          rw [hd1, hq.hd]
          first
          | (have : X2 = [] := List.eq_nil_of_length_eq_zero (by omega)
             rw [this]
             simp; done)
          | (have : Y1 = [] := List.eq_nil_of_length_eq_zero (by omega)
             rw [this]
             simp))
        have HS1 : Aside (SWK enc k w0 blk off d1 wr) := by rw [hd1]; exact S1.out
        have HZ1 : Hid (d1.size = d.size) := hid' (by rw [hd1])
        clear hd1 S1
        obtain ⟨d2, hd2⟩ : ∃ d2, d2 = d1 := ⟨_, rfl⟩
        have HL2 : Hid (d2.toList = (A ++ List.merge X1 Y1 (leC cf)) ++ X2 ++ Y2 ++ Q) := hid' (by
          have hq := HSQ.out
          have n1 := hq.lX1
          have n2 := hq.lX2
          have n3 := hq.lY1
          have n4 := hq.lY2
          have hE := HE.out
          have hG := HG.out
          have hI := HI.out
          rw [hd2, HL1.out]
          first
          | (have : X1 = [] := List.eq_nil_of_length_eq_zero (by omega)
             rw [this]
             simp; done)
          | (have : Y1 = [] := List.eq_nil_of_length_eq_zero (by omega)
             rw [this]
             simp))
        have HS2 : Aside (SWK enc k w0 blk off d2 wr) := by rw [hd2]; exact HS1.out
        have HZ2 : Hid (d2.size = d.size) := hid' (by rw [hd2]; exact HZ1.out)
        clear hd2 HL1 HS1 HZ1
        obtain ⟨d3, hd3⟩ : ∃ d3, d3 = d2 := ⟨_, rfl⟩
        have HL3 : Hid (d3.toList = A ++ List.merge X Y (leC cf) ++ Q) := hid' (by
          have hq := HSQ.out
          have n1 := hq.lX1
          have n2 := hq.lX2
          have n3 := hq.lY1
          have n4 := hq.lY2
          have hE := HE.out
          have hG := HG.out
          have hI := HI.out
          rw [hd3, HL2.out, hq.mg]
          first
          | (have : X2 = [] := List.eq_nil_of_length_eq_zero (by omega)
             rw [this]
             simp; done)
          | (have : Y2 = [] := List.eq_nil_of_length_eq_zero (by omega)
             rw [this]
             simp))
        have HS3 : Aside (SWK enc k w0 blk off d3 wr) := by rw [hd3]; exact HS2.out
        have HZ3 : Hid (d3.size = d.size) := hid' (by rw [hd3]; exact HZ2.out)
        clear hd3 HL2 HS2 HZ2
        go_end0
        exact ⟨rfl, d3, HZ3.out, by simpa only [List.append_assoc] using HL3.out, HS3.out⟩
      · have HI := hid' h
        clear h
        have q0 : ((s : Int) < (m : Int)) := by have := HG.out; have := HI.out; omega
        have q1 : ((m : Int) < (e : Int)) := by have := HG.out; have := HI.out; omega
        have q2 : ¬ ((a : Int) < (s : Int)) := by have := HG.out; have := HI.out; omega
        have q3 : ((mid : Int) < (e : Int)) := by have := HG.out; have := HI.out; omega
        have q4 : ((e : Int) < (b : Int)) := by have := HG.out; have := HI.out; omega
        obtain ⟨X1, X2, Y1, Y2, hSP⟩ := HSP.out
        have HSQ := hid' hSP
        clear hSP
        go_wp2_with fail
        have hq := HSQ.out
        have n1 := hq.lX1
        have n2 := hq.lX2
        have n3 := hq.lY1
        have n4 := hq.lY2
        have hE := HE.out
        have hG := HG.out
        have hI := HI.out
        refine (rotate_at k aE zE enc g cb blk off cap d0 d w0 _ R (by omega) S1.out (by omega) (A ++ X1) X2 Y1 (Y2 ++ Q) (by rw [hq.hd]; simp) (by omega) (by omega) _ _ _ _ rfl (by rw [List.length_append]; omega) (by rw [List.length_append]; omega) (by rw [List.length_append]; omega)).mono ?_
        rintro e1 w1 ⟨rfl, d1, hz1, hl1, hS1⟩
        have HL1 : Hid (d1.toList = A ++ X1 ++ Y1 ++ (X2 ++ Y2 ++ Q)) := hid' (by rw [hl1]; simp)
        have HS1 : Aside _ := hS1
        have HZ1 := hid' hz1
        clear hl1 hS1 hz1 n1 n2 n3 n4 hq hE hG hI S1
        go_wp2_with fail
        obtain ⟨d2, hd2⟩ : ∃ d2, d2 = d1 := ⟨_, rfl⟩
        have HL2 : Hid (d2.toList = (A ++ List.merge X1 Y1 (leC cf)) ++ X2 ++ Y2 ++ Q) := hid' (by
          have hq := HSQ.out
          have n1 := hq.lX1
          have n2 := hq.lX2
          have n3 := hq.lY1
          have n4 := hq.lY2
          have hE := HE.out
          have hG := HG.out
          have hI := HI.out
          rw [hd2, HL1.out]
          first
          | (have : X1 = [] := List.eq_nil_of_length_eq_zero (by omega)
             rw [this]
             simp; done)
          | (have : Y1 = [] := List.eq_nil_of_length_eq_zero (by omega)
             rw [this]
             simp))
        have HS2 : Aside (SWK enc k w0 blk off d2 w1) := by rw [hd2]; exact HS1.out
        have HZ2 : Hid (d2.size = d.size) := hid' (by rw [hd2]; exact HZ1.out)
        clear hd2 HL1 HS1 HZ1
        have hq := HSQ.out
        have n1 := hq.lX1
        have n2 := hq.lX2
        have n3 := hq.lY1
        have n4 := hq.lY2
        have hE := HE.out
        have hG := HG.out
        have hI := HI.out
        have hz2 := HZ2.out
        have hml : (List.merge X1 Y1 (leC cf)).length = X1.length + Y1.length := List.length_merge ..
        refine (HIH.out (A ++ List.merge X1 Y1 (leC cf)) X2 Y2 Q d2 _ _ _ _ _ (by omega) (by omega) (by omega) hq.sX2 hq.sY2 HL2.out (by omega) HS2.out hz2.symm (by rw [List.length_append]; omega) (by rw [List.length_append]; omega) (by rw [List.length_append]; omega)).mono ?_
        rintro e3 w3 ⟨rfl, d3, hz3, hl3, hS3⟩
        have HL3 : Hid (d3.toList = A ++ List.merge X Y (leC cf) ++ Q) := hid' (by rw [hl3, hq.mg]; simp)
        have HS3 : Aside _ := hS3
        have HZ3 : Hid (d3.size = d.size) := hid' (by omega)
        clear hl3 hS3 hz3 hz2 hml n1 n2 n3 n4 hq hE hG hI HL2 HS2 HZ2
        go_wp2_with fail
        go_end0
        exact ⟨rfl, d3, HZ3.out, by simpa only [List.append_assoc] using HL3.out, HS3.out⟩
      · have HI := hid' h
        clear h
        have q0 : ((s : Int) < (m : Int)) := by have := HG.out; have := HI.out; omega
        have q1 : ((m : Int) < (e : Int)) := by have := HG.out; have := HI.out; omega
        have q2 : ¬ ((a : Int) < (s : Int)) := by have := HG.out; have := HI.out; omega
        have q3 : ((mid : Int) < (e : Int)) := by have := HG.out; have := HI.out; omega
        have q4 : ¬ ((e : Int) < (b : Int)) := by have := HG.out; have := HI.out; omega
        obtain ⟨X1, X2, Y1, Y2, hSP⟩ := HSP.out
        have HSQ := hid' hSP
        clear hSP
        go_wp2_with fail
        have hq := HSQ.out
        have n1 := hq.lX1
        have n2 := hq.lX2
        have n3 := hq.lY1
        have n4 := hq.lY2
        have hE := HE.out
        have hG := HG.out
        have hI := HI.out
        refine (rotate_at k aE zE enc g cb blk off cap d0 d w0 _ R (by omega) S1.out (by omega) (A ++ X1) X2 Y1 (Y2 ++ Q) (by rw [hq.hd]; simp) (by omega) (by omega) _ _ _ _ rfl (by rw [List.length_append]; omega) (by rw [List.length_append]; omega) (by rw [List.length_append]; omega)).mono ?_
        rintro e1 w1 ⟨rfl, d1, hz1, hl1, hS1⟩
        have HL1 : Hid (d1.toList = A ++ X1 ++ Y1 ++ (X2 ++ Y2 ++ Q)) := hid' (by rw [hl1]; simp)
        have HS1 : Aside _ := hS1
        have HZ1 := hid' hz1
        clear hl1 hS1 hz1 n1 n2 n3 n4 hq hE hG hI S1
        go_wp2_with fail
        obtain ⟨d2, hd2⟩ : ∃ d2, d2 = d1 := ⟨_, rfl⟩
        have HL2 : Hid (d2.toList = (A ++ List.merge X1 Y1 (leC cf)) ++ X2 ++ Y2 ++ Q) := hid' (by
          have hq := HSQ.out
          have n1 := hq.lX1
          have n2 := hq.lX2
          have n3 := hq.lY1
          have n4 := hq.lY2
          have hE := HE.out
          have hG := HG.out
          have hI := HI.out
          rw [hd2, HL1.out]
          first
          | (have : X1 = [] := List.eq_nil_of_length_eq_zero (by omega)
             rw [this]
             simp; done)
          | (have : Y1 = [] := List.eq_nil_of_length_eq_zero (by omega)
             rw [this]
             simp))
        have HS2 : Aside (SWK enc k w0 blk off d2 w1) := by rw [hd2]; exact HS1.out
        have HZ2 : Hid (d2.size = d.size) := hid' (by rw [hd2]; exact HZ1.out)
        clear hd2 HL1 HS1 HZ1
        obtain ⟨d3, hd3⟩ : ∃ d3, d3 = d2 := ⟨_, rfl⟩
        have HL3 : Hid (d3.toList = A ++ List.merge X Y (leC cf) ++ Q) := hid' (by
          have hq := HSQ.out
          have n1 := hq.lX1
          have n2 := hq.lX2
          have n3 := hq.lY1
          have n4 := hq.lY2
          have hE := HE.out
          have hG := HG.out
          have hI := HI.out
          rw [hd3, HL2.out, hq.mg]
          first
          | (have : X2 = [] := List.eq_nil_of_length_eq_zero (by omega)
             rw [this]
             simp; done)
          | (have : Y2 = [] := List.eq_nil_of_length_eq_zero (by omega)
             rw [this]
             simp))
        have HS3 : Aside (SWK enc k w0 blk off d3 w1) := by rw [hd3]; exact HS2.out
        have HZ3 : Hid (d3.size = d.size) := hid' (by rw [hd3]; exact HZ2.out)
        clear hd3 HL2 HS2 HZ2
        go_end0
        exact ⟨rfl, d3, HZ3.out, by simpa only [List.append_assoc] using HL3.out, HS3.out⟩

end Go.Proofs.YtefbllhpibfojaaDoor
