/- RankRises, the walk: it answers true for every row of members. -/
import Derived.Test.YtlihhnjinakpfaaRankM1
namespace Go.Proofs.Ytlihhnjinakpfaa
open Go.RowKit Go.Maps Go.Sort

set_option maxRecDepth 100000 in
set_option maxHeartbeats 8000000 in
theorem rises_walk (A : Option Addr) (c : Nat) (l : List Mem) (w : World) (hl : MemsIn w A l) (hn : l.length ≤ maxLen) (hi64 : ∀ m ∈ l, m.Wf) :
    Calls Try.prog 5 #[.slice A l.length c] w fun e w' => e = .returned (.bool true) ∧ Below w.heap.size w w' := by
  have HL := Lib.hid hl
  have HW := Lib.hid hi64
  clear hl hi64
  have hn' : l.length ≤ 9223372036854775807 := hn
  go_enter Try.func5, Try.ntmps5
  by_cases h100 : 100 < l.length
  · go_wp2_with fail
    refine (awake_any _).mono ?_
    rintro e w1 ⟨rfl, hb⟩
    have HB1 := Lib.hid hb
    clear hb
    go_wp2_with fail
    go_ret
    exact ⟨rfl, HB1.out⟩
  go_wp2_with fail
  refine (awake_any _).mono ?_
  rintro e w1 ⟨rfl, hb⟩
  have HB1 := Lib.hid hb
  clear hb
  go_wp2_with fail
  refine (new6 (H := Unit) none 0 [] (fun h => absurd h (by simp)) (by simp) (fun m hm => by simp at hm)).mono ?_
  rintro e w2 ⟨p, b, rfl, hV, hb, hp, hb'⟩
  have HV := Lib.hid hV
  have HB2 := Lib.hid (HB1.out.trans (hb.mono HB1.out.size))
  have hbl := hV.2.1.lt
  have hlw : w.heap.size ≤ b := Nat.le_trans HB1.out.size hb'
  have HL2 := Lib.hid (HL.out.below HB2.out)
  have HAb := Lib.hid (show ∀ g off, 0 < l.length → A = some ⟨g, off, none⟩ → g ≠ b from fun g off h0 e => by
    obtain ⟨g', off', e', hlt, _⟩ := HL.out h0
    rw [e] at e'
    injection e' with e'
    injection e' with e'
    omega)
  clear hV hb hp hb'
  go_wp2_with fail
  go_loopw [4] (fun i wr => ∃ (k : Nat) (f : Known), k ≤ l.length ∧ i = .int .i64 k ∧ Sane f ∧ ViewAt Unit wr p b 6 f ∧ w2.grownBy wr (some b)) (fun i _ => l.length - (RowKit.intOf i).toNat)
  case atStart => exact ⟨0, _, by omega, rfl, sane_none, HV.out, World.grownBy.refl _ _⟩
  case round =>
    obtain ⟨k, f, hk, rfl, hs, hv, hg⟩ := hrel
    by_cases hlt : k < l.length
    · obtain ⟨m, hm⟩ : ∃ m, m = l[k] := ⟨_, rfl⟩
      obtain ⟨g, off, rfl, c0, c1, c2⟩ := HL2.out.cells (w' := wr) (N := 0) (fun g off e hlt' => hg.block g hlt' (by intro e2; injection e2 with e2; exact HAb.out g off (by omega) e e2)) hlt rfl
      rw [← hm] at c0 c1 c2
      have hw : m.Wf := by rw [hm]; exact HW.out _ (List.getElem_mem hlt)
      have HX := Lib.hid hm
      have HS := Lib.hid hs
      have HVr := Lib.hid hv
      have HG := Lib.hid hg
      have HWm := Lib.hid hw
      clear hm hs hv hg hw
      obtain ⟨was, now, kn, is, nl, hf1, hf2, hnl, hag, hcase⟩ := rise_facts f m
      have HF1 := Lib.hid hf1
      have HF2 := Lib.hid hf2
      have HNL := Lib.hid hnl
      have HAG := Lib.hid hag
      have HC := Lib.hid hcase
      clear hf1 hf2 hnl hag hcase
      go_wp2_with fail
      have hM : At (wr.alloc (.cells #[.int .i64 m.n, .int .i64 m.i, .int .i64 m.s] 28)) wr.heap.size 28 (cellsM m) := memAt wr m
      have hb1 : Below wr.heap.size wr (wr.alloc (.cells #[.int .i64 m.n, .int .i64 m.i, .int .i64 m.s] 28)) := (Below.refl _ _).alloc (Nat.le_refl _) _
      refine (get_any (view_below HVr.out hb1) m.n (by have := HWm.out.1; omega) (by have := HWm.out.1; omega)).mono ?_
      rintro e w3 ⟨rfl, hb⟩
      rw [HF1.out]
      have hM3 := hM.below hb hM.lt
      have hb3 : Below wr.heap.size wr w3 := hb1.trans (hb.mono hb1.size)
      have HM := Lib.hid hM3
      have HB3 := Lib.hid hb3
      have HV3 := Lib.hid (view_below HVr.out hb3)
      have hs3 : wr.heap.size + 1 ≤ w3.heap.size := by have := hb.size; rw [World.size_alloc] at this; exact this
      have m0 := hM3.cell' (i := 0) (v := .int .i64 m.n) rfl
      have m1 := hM3.cell' (i := 1) (v := .int .i64 m.i) rfl
      have m2 := hM3.cell' (i := 2) (v := .int .i64 m.s) rfl
      have e1 : wr.heap.size < w3.heap.size := by omega
      clear hM hb hb1 hM3 hb3 c0 c1 c2
      unfold memV
      go_wp2_with fail
      have hM4 : At (w3.alloc (.cells #[.int .i64 was.n, .int .i64 was.i, .int .i64 was.s] 28)) w3.heap.size 28 (cellsM was) := memAt w3 was
      have hm4 := HM.out.alloc (.cells #[.int .i64 was.n, .int .i64 was.i, .int .i64 was.s] 28)
      have hb4 : Below w3.heap.size w3 ((w3.alloc (.cells #[.int .i64 was.n, .int .i64 was.i, .int .i64 was.s] 28)).alloc (.cells #[.int .i64 m.n, .int .i64 m.i, .int .i64 m.s] 28)) := ((Below.refl _ _).alloc (Nat.le_refl _) _).alloc (by simp) _
      have hbl4 : b < wr.heap.size := HVr.out.2.1.lt
      refine (merge6 (H := Unit) (view_below HV3.out hb4) _ _ [m] (mems_laid _ [m] _ rfl _ (by simp)) (fun g off _ e => by injection e with e; injection e with e; omega) (by simp) (fun x hx => by rw [List.mem_singleton.1 hx]; exact HWm.out)).mono ?_
      rintro e w5 ⟨A5, c5, rfl, hA5, hlo5, hV5, hg5⟩
      rw [HNL.out]
      have hf5 : (merge f [m]).1 = hear f m := by rw [sane_one]
      rw [hf5] at hV5
      have hm5 := (hm4.alloc (.cells #[.int .i64 m.n, .int .i64 m.i, .int .i64 m.s] 28)).grown hg5 (by intro e; injection e with e; omega)
      have hM5 := (hM4.alloc (.cells #[.int .i64 m.n, .int .i64 m.i, .int .i64 m.s] 28)).grown hg5 (by intro e; injection e with e; omega)
      have hs5 : w3.heap.size + 1 + 1 ≤ w5.heap.size := by have := hg5.size; simpa using this
      have HV5 := Lib.hid hV5
      have Hm5 := Lib.hid hm5
      have HM5 := Lib.hid hM5
      have HG5 := Lib.hid (show wr.grownBy w5 (some b) from by
        have h1 : wr.grownBy ((w3.alloc (.cells #[.int .i64 was.n, .int .i64 was.i, .int .i64 was.s] 28)).alloc (.cells #[.int .i64 m.n, .int .i64 m.i, .int .i64 m.s] 28)) (some b) := by
          have h := HB3.out.trans (hb4.mono HB3.out.size)
          exact ⟨h.os, h.tape, h.output, h.size, fun i hi _ => h.block i hi⟩
        exact grown_trans h1 hg5)
      have m0 := hm5.cell' (i := 0) (v := .int .i64 m.n) rfl
      have m1 := hm5.cell' (i := 1) (v := .int .i64 m.i) rfl
      have m2 := hm5.cell' (i := 2) (v := .int .i64 m.s) rfl
      clear hA5 hlo5 hV5 hg5 hm5 hM5 hm4 hM4 hb4 hf5 HV3 HM
      go_wp2_with fail
      refine (get_any HV5.out m.n (by have := HWm.out.1; omega) (by have := HWm.out.1; omega)).mono ?_
      rintro e w6 ⟨rfl, hb⟩
      rw [HF2.out]
      have hm6 := Hm5.out.below hb Hm5.out.lt
      have hM6 := HM5.out.below hb HM5.out.lt
      have HV6 := Lib.hid (view_below HV5.out hb)
      have Hm6 := Lib.hid hm6
      have HM6 := Lib.hid hM6
      have HG6 := Lib.hid (grown_below HG5.out hb)
      have hs6 : w5.heap.size ≤ w6.heap.size := hb.size
      have e2 : wr.heap.size < w6.heap.size := by omega
      have e3 : w3.heap.size < w6.heap.size := by omega
      clear m0 m1 m2
      have m0 := hm6.cell' (i := 0) (v := .int .i64 m.n) rfl
      have m1 := hm6.cell' (i := 1) (v := .int .i64 m.i) rfl
      have m2 := hm6.cell' (i := 2) (v := .int .i64 m.s) rfl
      have a0 := hM6.cell' (i := 0) (v := .int .i64 was.n) rfl
      have a1 := hM6.cell' (i := 1) (v := .int .i64 was.i) rfl
      have a2 := hM6.cell' (i := 2) (v := .int .i64 was.s) rfl
      clear hb hm6 hM6 HV5 Hm5 HM5 HG5
      unfold memV
      go_wp2_with fail
      obtain ⟨w7, hw7⟩ : ∃ w7, w7 = w6.alloc (.cells #[.int .i64 now.n, .int .i64 now.i, .int .i64 now.s] 28) := ⟨_, rfl⟩
      rw [← hw7]
      have hb7 : Below w6.heap.size w6 w7 := by rw [hw7]; exact (Below.refl _ _).alloc (Nat.le_refl _) _
      have hC7 : RiseC wr w7 p b (hear f m) wr.heap.size w3.heap.size w6.heap.size m was now :=
        ⟨view_below HV6.out hb7, grown_below HG6.out hb7, Hm6.out.below hb7 Hm6.out.lt, HM6.out.below hb7 HM6.out.lt, by rw [hw7]; exact memAt w6 now⟩
      have HC7 := Lib.hid hC7
      have hs7 : w7.heap.size = w6.heap.size + 1 := by rw [hw7]; simp
      clear hw7 hb7 hC7 HV6 HG6 Hm6 HM6 m0 m1 m2 a0 a1 a2
      rcases HC.out with ⟨hgd, rfl, rfl, rfl⟩ | ⟨hgd, rfl, rfl, rfl, rfl⟩ | ⟨hgd, rfl, rfl, rfl, hab, rfl⟩ | ⟨hgd, rfl, rfl, rfl, hab, rfl⟩
      · refine (good_at m false hgd _).mono ?_
        rintro e w8 ⟨rfl, hb⟩
        have hC8 := HC7.out.below hb
        have HC8 := Lib.hid hC8
        have a0 := hC8.aw.cell' (i := 0) (v := .int .i64 was.n) rfl
        have a1 := hC8.aw.cell' (i := 1) (v := .int .i64 was.i) rfl
        have a2 := hC8.aw.cell' (i := 2) (v := .int .i64 was.s) rfl
        have n0 := hC8.an.cell' (i := 0) (v := .int .i64 was.n) rfl
        have n1 := hC8.an.cell' (i := 1) (v := .int .i64 was.i) rfl
        have n2 := hC8.an.cell' (i := 2) (v := .int .i64 was.s) rfl
        clear hb hC8 hgd HC HC7
        go_wp2_with fail
        refine ⟨⟨k + 1, hear f m, by omega, by go_num, sane_hear HS.out m, HC8.out.view, grown_trans HG.out HC8.out.grown⟩, by simp [RowKit.intOf]; omega⟩
      · refine (good_at m true hgd _).mono ?_
        rintro e w8 ⟨rfl, hb⟩
        have hC8 := HC7.out.below hb
        have HC8 := Lib.hid hC8
        have m0 := hC8.am.cell' (i := 0) (v := .int .i64 m.n) rfl
        have m1 := hC8.am.cell' (i := 1) (v := .int .i64 m.i) rfl
        have m2 := hC8.am.cell' (i := 2) (v := .int .i64 m.s) rfl
        have a0 := hC8.aw.cell' (i := 0) (v := .int .i64 was.n) rfl
        have a1 := hC8.aw.cell' (i := 1) (v := .int .i64 was.i) rfl
        have a2 := hC8.aw.cell' (i := 2) (v := .int .i64 was.s) rfl
        have n0 := hC8.an.cell' (i := 0) (v := .int .i64 m.n) rfl
        have n1 := hC8.an.cell' (i := 1) (v := .int .i64 m.i) rfl
        have n2 := hC8.an.cell' (i := 2) (v := .int .i64 m.s) rfl
        clear hb hC8 hgd HC HC7
        go_wp2_with fail
        have hCa := HC8.out.alloc (.cells #[.int .i64 m.n, .int .i64 m.i, .int .i64 m.s] 28)
        have hbl4 : b < wr.heap.size := HVr.out.2.1.lt
        refine (merge6 (H := Unit) hCa.view _ _ [m] (mems_laid _ [m] _ rfl _ rfl) (fun g off _ e => by injection e with e; injection e with e; have := HC8.out.grown.size; omega) (by simp) (fun x hx => by rw [List.mem_singleton.1 hx]; exact HWm.out)).mono ?_
        rintro e w10 ⟨A10, c10, rfl, hA10, hlo10, hV10, hg10⟩
        rw [HAG.out] at hV10 hA10
        rw [HAG.out]
        have HCe := Lib.hid (hCa.grow hg10 hV10 (by omega) (by omega) (by omega))
        clear hA10 hlo10 hV10 hg10 hCa HC8 m0 m1 m2 a0 a1 a2 n0 n1 n2
        go_wp2_with fail
        go_roundw
        case rel => exact ⟨k + 1, hear f m, by omega, by go_num, sane_hear HS.out m, HCe.out.view, grown_trans HG.out HCe.out.grown⟩
        case measure => simp [RowKit.intOf]; omega
      · refine (good_at m true hgd _).mono ?_
        rintro e w8 ⟨rfl, hb⟩
        have hC8 := HC7.out.below hb
        have HC8 := Lib.hid hC8
        have m0 := hC8.am.cell' (i := 0) (v := .int .i64 m.n) rfl
        have m1 := hC8.am.cell' (i := 1) (v := .int .i64 m.i) rfl
        have m2 := hC8.am.cell' (i := 2) (v := .int .i64 m.s) rfl
        have a0 := hC8.aw.cell' (i := 0) (v := .int .i64 was.n) rfl
        have a1 := hC8.aw.cell' (i := 1) (v := .int .i64 was.i) rfl
        have a2 := hC8.aw.cell' (i := 2) (v := .int .i64 was.s) rfl
        have n0 := hC8.an.cell' (i := 0) (v := .int .i64 m.n) rfl
        have n1 := hC8.an.cell' (i := 1) (v := .int .i64 m.i) rfl
        have n2 := hC8.an.cell' (i := 2) (v := .int .i64 m.s) rfl
        have HAB := Lib.hid hab
        clear hb hC8 hgd hab HC HC7
        go_wp2_with fail
        refine (above_at m was true HAB.out _).mono ?_
        rintro e w9 ⟨rfl, hb⟩
        have hC9 := HC8.out.below hb
        have HC9 := Lib.hid hC9
        clear m0 m1 m2 a0 a1 a2 n0 n1 n2
        have m0 := hC9.am.cell' (i := 0) (v := .int .i64 m.n) rfl
        have m1 := hC9.am.cell' (i := 1) (v := .int .i64 m.i) rfl
        have m2 := hC9.am.cell' (i := 2) (v := .int .i64 m.s) rfl
        have a0 := hC9.aw.cell' (i := 0) (v := .int .i64 was.n) rfl
        have a1 := hC9.aw.cell' (i := 1) (v := .int .i64 was.i) rfl
        have a2 := hC9.aw.cell' (i := 2) (v := .int .i64 was.s) rfl
        have n0 := hC9.an.cell' (i := 0) (v := .int .i64 m.n) rfl
        have n1 := hC9.an.cell' (i := 1) (v := .int .i64 m.i) rfl
        have n2 := hC9.an.cell' (i := 2) (v := .int .i64 m.s) rfl
        clear hb hC9 HC8
        go_wp2_with fail
        have hCa := HC9.out.alloc (.cells #[.int .i64 m.n, .int .i64 m.i, .int .i64 m.s] 28)
        have hbl4 : b < wr.heap.size := HVr.out.2.1.lt
        refine (merge6 (H := Unit) hCa.view _ _ [m] (mems_laid _ [m] _ rfl _ rfl) (fun g off _ e => by injection e with e; injection e with e; have := HC9.out.grown.size; omega) (by simp) (fun x hx => by rw [List.mem_singleton.1 hx]; exact HWm.out)).mono ?_
        rintro e w10 ⟨A10, c10, rfl, hA10, hlo10, hV10, hg10⟩
        rw [HAG.out] at hV10 hA10
        rw [HAG.out]
        have HCe := Lib.hid (hCa.grow hg10 hV10 (by omega) (by omega) (by omega))
        clear hA10 hlo10 hV10 hg10 hCa HC9 m0 m1 m2 a0 a1 a2 n0 n1 n2
        go_wp2_with fail
        go_roundw
        case rel => exact ⟨k + 1, hear f m, by omega, by go_num, sane_hear HS.out m, HCe.out.view, grown_trans HG.out HCe.out.grown⟩
        case measure => simp [RowKit.intOf]; omega
      · refine (good_at m true hgd _).mono ?_
        rintro e w8 ⟨rfl, hb⟩
        have hC8 := HC7.out.below hb
        have HC8 := Lib.hid hC8
        have m0 := hC8.am.cell' (i := 0) (v := .int .i64 m.n) rfl
        have m1 := hC8.am.cell' (i := 1) (v := .int .i64 m.i) rfl
        have m2 := hC8.am.cell' (i := 2) (v := .int .i64 m.s) rfl
        have a0 := hC8.aw.cell' (i := 0) (v := .int .i64 was.n) rfl
        have a1 := hC8.aw.cell' (i := 1) (v := .int .i64 was.i) rfl
        have a2 := hC8.aw.cell' (i := 2) (v := .int .i64 was.s) rfl
        have n0 := hC8.an.cell' (i := 0) (v := .int .i64 was.n) rfl
        have n1 := hC8.an.cell' (i := 1) (v := .int .i64 was.i) rfl
        have n2 := hC8.an.cell' (i := 2) (v := .int .i64 was.s) rfl
        have HAB := Lib.hid hab
        clear hb hC8 hgd hab HC HC7
        go_wp2_with fail
        refine (above_at m was false HAB.out _).mono ?_
        rintro e w9 ⟨rfl, hb⟩
        have hC9 := HC8.out.below hb
        have HC9 := Lib.hid hC9
        clear m0 m1 m2 a0 a1 a2 n0 n1 n2
        have m0 := hC9.am.cell' (i := 0) (v := .int .i64 m.n) rfl
        have m1 := hC9.am.cell' (i := 1) (v := .int .i64 m.i) rfl
        have m2 := hC9.am.cell' (i := 2) (v := .int .i64 m.s) rfl
        have a0 := hC9.aw.cell' (i := 0) (v := .int .i64 was.n) rfl
        have a1 := hC9.aw.cell' (i := 1) (v := .int .i64 was.i) rfl
        have a2 := hC9.aw.cell' (i := 2) (v := .int .i64 was.s) rfl
        have n0 := hC9.an.cell' (i := 0) (v := .int .i64 was.n) rfl
        have n1 := hC9.an.cell' (i := 1) (v := .int .i64 was.i) rfl
        have n2 := hC9.an.cell' (i := 2) (v := .int .i64 was.s) rfl
        clear hb hC9 HC8
        go_wp2_with fail
        have hCa := HC9.out.alloc (.cells #[.int .i64 m.n, .int .i64 m.i, .int .i64 m.s] 28)
        have hbl4 : b < wr.heap.size := HVr.out.2.1.lt
        refine (merge6 (H := Unit) hCa.view _ _ [m] (mems_laid _ [m] _ rfl _ rfl) (fun g off _ e => by injection e with e; injection e with e; have := HC9.out.grown.size; omega) (by simp) (fun x hx => by rw [List.mem_singleton.1 hx]; exact HWm.out)).mono ?_
        rintro e w10 ⟨A10, c10, rfl, hA10, hlo10, hV10, hg10⟩
        rw [HAG.out] at hV10 hA10
        rw [HAG.out]
        have HCe := Lib.hid (hCa.grow hg10 hV10 (by omega) (by omega) (by omega))
        clear hA10 hlo10 hV10 hg10 hCa HC9 m0 m1 m2 a0 a1 a2 n0 n1 n2
        go_wp2_with fail
        go_roundw
        case rel => exact ⟨k + 1, hear f m, by omega, by go_num, sane_hear HS.out m, HCe.out.view, grown_trans HG.out HCe.out.grown⟩
        case measure => simp [RowKit.intOf]; omega
    · have hkl : k = l.length := by omega
      have HVr := Lib.hid hv
      have HG := Lib.hid hg
      clear hkl hs hv hg
      go_wp2_with fail
      refine (nil_get 1 _).mono ?_
      rintro e w3 ⟨rfl, hb⟩
      rw [show found (fun _ => none) 1 = .tuple #[memV Mem.zero, .bool false] from rfl]
      have HG3 := Lib.hid (grown_below HG.out hb)
      clear hb
      unfold memV
      go_wp2_with fail
      have hga := grown_alloc HG3.out (.cells #[.int .i64 Mem.zero.n, .int .i64 Mem.zero.i, .int .i64 Mem.zero.s] 28)
      refine (nil_merge _ _).mono ?_
      rintro e w4 ⟨rfl, hb⟩
      have HG4 := Lib.hid (grown_below hga hb)
      clear hb hga HG3
      go_wp2_with fail
      refine (nil_all _).mono ?_
      rintro e w5 ⟨rfl, hb⟩
      have HG5 := Lib.hid (grown_below HG4.out hb)
      clear hb HG4
      go_wp2_with fail
      refine (nil_present _).mono ?_
      rintro e w6 ⟨rfl, hb⟩
      have HG6 := Lib.hid (grown_below HG5.out hb)
      clear hb HG5
      go_wp2_with fail
      go_ret
      exact ⟨rfl, Below.ofGrown HB2.out HG6.out HB2.out.size hlw⟩
theorem rises_any (A : Option Addr) (c : Nat) (l : List Mem) (w : World) (hl : MemsIn w A l) (hi64 : ∀ m ∈ l, m.Wf) (h1 : l.length ≤ c) (h2 : c ≤ maxLen) (_h3 : A = none → c = 0) :
    Calls Try.prog 5 #[.slice A l.length c] w fun e w' => e = .returned (.bool true) ∧ Below w.heap.size w w' :=
  rises_walk A c l w hl (Nat.le_trans h1 h2) hi64
end Go.Proofs.Ytlihhnjinakpfaa
