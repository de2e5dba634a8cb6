/- RankMeets, the walk: it answers true for every row of members and every int. -/
import Derived.Test.YtlihhnjinakpfaaRankN1
namespace Go.Proofs.Ytlihhnjinakpfaa
open Go.RowKit Go.Maps Go.Sort

theorem meets_k (at' : Int) (n : Nat) (hn : n ≤ 100) : ∃ K : Nat, wrap64 ((IntKind.u64.wrap at').tmod ((n : Int) + 1)) = (K : Int) ∧ K ≤ n := by
  have h0 : 0 ≤ IntKind.u64.wrap at' := by rw [IntKind.wrap_u64]; omega
  have e : (IntKind.u64.wrap at').tmod ((n : Int) + 1) = IntKind.u64.wrap at' % ((n : Int) + 1) := Int.tmod_eq_emod_of_nonneg h0
  have h1 : 0 ≤ IntKind.u64.wrap at' % ((n : Int) + 1) := Int.emod_nonneg _ (by omega)
  have h2 : IntKind.u64.wrap at' % ((n : Int) + 1) < (n : Int) + 1 := Int.emod_lt_of_pos _ (by omega)
  refine ⟨(IntKind.u64.wrap at' % ((n : Int) + 1)).toNat, ?_, by omega⟩
  rw [e, IntWalk.wrap64_in _ (by omega)]
  omega

set_option maxRecDepth 100000 in
set_option maxHeartbeats 4000000 in
theorem meets_walk (A : Option Addr) (c : Nat) (l : List Mem) (at' : Int) (w : World) (hl : MemsIn w A l) (hi64 : ∀ m ∈ l, m.Wf) (h1 : l.length ≤ c) (h2 : c ≤ maxLen) (h3 : A = none → c = 0) :
    Calls Try.prog 4 #[.slice A l.length c, .int .i64 at'] w fun e w' => e = .returned (.bool true) ∧ Below w.heap.size w w' := by
  have HL := Lib.hid hl
  have HW := Lib.hid hi64
  have H3 := Lib.hid h3
  clear hl hi64 h3
  have h2' : c ≤ 9223372036854775807 := h2
  go_enter Try.func4, Try.ntmps4
  by_cases h100 : 100 < l.length
  · go_wp2_with fail
    refine (awake_any _).mono ?_
    rintro e w1 ⟨rfl, hb⟩
    have HB1 := Lib.hid hb
    clear hb
    go_wp2_with fail
    go_ret
    exact ⟨rfl, HB1.out⟩
  go_wp2_with fail
  refine (awake_any _).mono ?_
  rintro e w1 ⟨rfl, hb⟩
  have HB1 := Lib.hid hb
  clear hb
  go_wp2_with fail
  refine (new6 (H := Unit) A c l (HL.out.below HB1.out) (by omega) HW.out).mono ?_
  rintro e w2 ⟨pa, ba, rfl, hVa, hb, hpa, hba⟩
  obtain ⟨f, hf⟩ : ∃ f, f = (merge (fun _ => none) l).1 := ⟨_, rfl⟩
  rw [← hf] at hVa
  have HF := Lib.hid hf
  have HVa := Lib.hid hVa
  have HB2 := Lib.hid (HB1.out.trans (hb.mono HB1.out.size))
  have hbla := hVa.2.1.lt
  have hpla := hVa.1.lt
  have hs1 : w.heap.size ≤ w1.heap.size := HB1.out.size
  clear hf hVa hb
  go_wp2_with fail
  refine (new6 (H := Unit) none 0 [] (fun h => absurd h (by simp)) (by simp) (fun m hm => by simp at hm)).mono ?_
  rintro e w3 ⟨pb, bb, rfl, hVb, hb, hpb, hbb⟩
  have HVb := Lib.hid hVb
  have HVa3 := Lib.hid (view_below HVa.out hb)
  have HB3 := Lib.hid (HB2.out.trans (hb.mono HB2.out.size))
  have hblb := hVb.2.1.lt
  have hplb := hVb.1.lt
  have hs2 : w.heap.size ≤ w2.heap.size := HB2.out.size
  have HL3 := Lib.hid (HL.out.below HB3.out)
  have HAb := Lib.hid (show ∀ g off, 0 < l.length → A = some ⟨g, off, none⟩ → g < w.heap.size from fun g off h0 e => by
    obtain ⟨g', off', e', hlt, _⟩ := HL.out h0
    rw [e] at e'
    injection e' with e'
    injection e' with e'
    omega)
  clear hVb hb HVa HB1 HB2
  go_wp2_with fail
  go_loopw [7] (fun i wr => ∃ (j : Nat) (g : Known), j ≤ l.length ∧ i = .int .i64 ((j : Int) - 1) ∧ Tops (fun x => x ∈ l.drop j) g ∧ ViewAt Unit wr pb bb 6 g ∧ w3.grownBy wr (some bb)) (fun i _ => (RowKit.intOf i + 1).toNat)
  case atStart => 
    refine ⟨l.length, _, by omega, by go_num, ?_, HVb.out, World.grownBy.refl _ _⟩
    rw [List.drop_length]
    exact tops_none.congr fun x => by simp
  case round =>
    obtain ⟨j, q, hj, rfl, ht, hv, hg⟩ := hrel
    cases j with
    | succ j =>
      have hjl : j < l.length := by omega
      have ej : ((j + 1 : Nat) : Int) - 1 = (j : Int) := by omega
      rw [ej]
      obtain ⟨m, hm⟩ : ∃ m, m = l[j] := ⟨_, rfl⟩
      obtain ⟨g, off, rfl, c0, c1, c2⟩ := HL3.out.cells (w' := wr) (N := 0) (fun g off e hlt' => hg.block g hlt' (by intro e2; injection e2 with e2; have := HAb.out g off (by omega) e; omega)) hjl rfl
      rw [← hm] at c0 c1 c2
      have hw : m.Wf := by rw [hm]; exact HW.out _ (List.getElem_mem hjl)
      have hgl := HAb.out g off (by omega) rfl
      have hs3 : w3.heap.size ≤ wr.heap.size := hg.size
      have i0 : (0 : Int) ≤ (j : Int) := by omega
      have i1 : (j : Int) < (l.length : Int) := by omega
      have HX := Lib.hid hm
      have HT := Lib.hid ht
      have HVr := Lib.hid hv
      have HG := Lib.hid hg
      have HWm := Lib.hid hw
      clear hm ht hv hg hw ej
      go_wp2_with fail
      have hb4 : Below wr.heap.size wr (wr.alloc (.cells #[.int .i64 m.n, .int .i64 m.i, .int .i64 m.s] 28)) := (Below.refl _ _).alloc (Nat.le_refl _) _
      refine (merge6 (H := Unit) (view_below HVr.out hb4) _ _ [m] (mems_laid _ [m] _ rfl _ rfl) (fun g off _ e => by injection e with e; injection e with e; omega) (by simp) (fun x hx => by rw [List.mem_singleton.1 hx]; exact HWm.out)).mono ?_
      rintro e w5 ⟨A5, c5, rfl, _, _, hV5, hg5⟩
      have hG5 := grown_trans (grown_alloc HG.out (.cells #[.int .i64 m.n, .int .i64 m.i, .int .i64 m.s] 28)) hg5
      have hT5 := tops_merge [m] HT.out
      clear c0 c1 c2
      obtain ⟨g', off', e', c0, c1, c2⟩ := HL3.out.cells (w' := w5) (N := 0) (fun g off e hlt' => hG5.block g hlt' (by intro e2; injection e2 with e2; have := HAb.out g off (by omega) e; omega)) hjl rfl
      injection e' with e'
      injection e' with e1 e2
      subst e1 e2
      rw [← HX.out] at c0 c1 c2
      have hM5 : MeetR w3 w5 pb bb (merge q [m]).1 g (off + j * 3) m := ⟨c0, c1, c2, hV5, hG5, Nat.lt_of_lt_of_le hgl (Nat.le_trans HB3.out.size hG5.size), by omega⟩
      have hblw := hV5.2.1.lt
      have HT5 := Lib.hid hT5
      have HM5 := Lib.hid hM5
      clear hb4 hV5 hg5 hG5 hT5 HG HT HVr
      go_wp2_with fail
      have hM5 : MeetR w3 w5 pb bb (merge q [m]).1 g (off + j * 3) m := HM5.out
      go_region_held3 (fun w' => w'.cell? ⟨g, off + j * 3, none⟩ = some (.int .i64 m.n) ∧ w'.cell? ⟨g, off + j * 3 + 1, none⟩ = some (.int .i64 m.i) ∧ w'.cell? ⟨g, off + j * 3 + 2, none⟩ = some (.int .i64 m.s) ∧ MeetR w3 w' pb bb (merge q [m]).1 g (off + j * 3) m)
        (first
          | assumption
          | exact MeetR.conj (by assumption)
          | exact MeetR.conj (MeetR.drew (by assumption))
          | exact MeetR.conj (MeetR.alloc (by assumption) _)
          | exact MeetR.conj (MeetR.alloc (MeetR.drew (by assumption)) _))
        (first
          | (go_at_call 11; (with_reducible refine (MeetR.merge (by first | assumption | exact MeetR.alloc (by assumption) _ | exact MeetR.drew (MeetR.alloc (by assumption) _) | exact MeetR.alloc (MeetR.drew (by assumption)) _) HT5.out (.inr (List.mem_singleton.2 rfl)) HWm.out _ (by first | exact two_drew _ _ | exact two_new _ _) (by omega)).mono ?_); rintro e w' ⟨v, rfl, hx⟩))
      all_goals
        have HX2 := Lib.hid (‹MeetR w3 _ pb bb (merge q [m]).1 g (off + j * 3) m›)
        have ej : IntKind.i64.wrap ((j : Int) - 1) = (j : Int) - 1 := IntWalk.i64_in _ (by omega)
        clear HM5 hM5 hx c0 c1 c2
        go_wp2_with fail
        go_roundw
        case rel =>
          refine ⟨j, (merge q [m]).1, by omega, by go_num, HT5.out.congr fun x => ?_, HX2.out.view, HX2.out.grown⟩
          rw [drop_mem hjl, ← HX.out, List.mem_singleton]
          exact or_comm
        case measure => simp [RowKit.intOf]
    | zero =>
      have hqf : q = f := by
        rw [HF.out]
        exact ht.unique (tops_new l) fun x => by simp
      rw [hqf] at hv
      obtain ⟨K, hK, hKn⟩ := meets_k at' l.length (by omega)
      have HTf := Lib.hid (show Tops (fun x => x ∈ l) f by rw [HF.out]; exact tops_new l)
      have HVb4 := Lib.hid hv
      have hg3 : Below w3.heap.size w3 w3 := Below.refl _ _
      have HVa4 := Lib.hid (view_grown HVa3.out hg (by intro e; injection e with e; omega) (by intro e; injection e with e; omega))
      have HB4 := Lib.hid (Below.ofGrown HB3.out hg HB3.out.size (by omega))
      have hg4 := hg.size
      clear ht hv hqf hg3 hg HVb HVa3
      have hsz4 : w3.heap.size ≤ wr.heap.size := hg4
      go_wp2_with fail
      all_goals
        rw [show l.length - K = (l.drop K).length from List.length_drop.symm]
        refine (new6 (H := Unit) _ _ (l.drop K) (by first | exact (HL.out.below HB4.out).part K | exact MemsIn.none_left (by rw [List.length_drop]; omega)) (by rw [List.length_drop]; omega) (fun m hm => HW.out m (List.mem_of_mem_drop hm))).mono ?_
        rintro e w5 ⟨pc, bc, rfl, hVc, hb, hpc, hbc⟩
        have HVa5 := Lib.hid (view_below HVa4.out hb)
        have HVb5 := Lib.hid (view_below HVb4.out hb)
        have HVc5 := Lib.hid hVc
        have HB5 := Lib.hid (HB4.out.trans (hb.mono HB4.out.size))
        have hblc := hVc.2.1.lt
        have hplc := hVc.1.lt
        have hs5 := hb.size
        have hw4 := HB4.out.size
        have hTk := (HL.out.below HB5.out).take K
        have HTk := Lib.hid hTk
        have hkl : (l.take K).length = K := by rw [List.length_take]; omega
        have HKL := Lib.hid hkl
        have hAk : ∀ g off, 0 < l.length → A = some ⟨g, off, none⟩ → g < w.heap.size := HAb.out
        have HAk := Lib.hid hAk
        clear hVc hb HVa4 HVb4 hTk hkl hAk
        go_wp2_with fail
        have hm := fun cc => merge6 (H := Unit) HVc5.out A cc (l.take K) HTk.out (fun g off h0 e => by have := HAk.out g off (by rw [HKL.out] at h0; omega) e; omega) (by rw [HKL.out]; omega) (fun m hm => HW.out m (List.mem_of_mem_take hm))
        simp only [HKL.out] at hm
        refine (hm _).mono ?_
        rintro e w6 ⟨A6, c6, rfl, _, _, hVc, hg⟩
        have hcf : (merge (merge (fun _ => none) (l.drop K)).1 (l.take K)).1 = f := (tops_merge (l.take K) (tops_new (l.drop K))).unique HTf.out fun x => turned_mem K x
        rw [hcf] at hVc
        have HVa6 := Lib.hid (view_grown HVa5.out hg (by intro e; injection e with e; omega) (by intro e; injection e with e; omega))
        have HVb6 := Lib.hid (view_grown HVb5.out hg (by intro e; injection e with e; omega) (by intro e; injection e with e; omega))
        have HVc6 := Lib.hid hVc
        have HB6 := Lib.hid (Below.ofGrown HB5.out hg HB5.out.size (by omega))
        have hs6 := hg.size
        clear hm hcf hVc hg HVa5 HVb5 HVc5 HTk
        go_wp2_with fail
        refine (all6 HVc6.out).mono ?_
        rintro e w7 ⟨A7, c7, rfl, hM7, hlo7, hb⟩
        have HVa7 := Lib.hid (view_below HVa6.out hb)
        have HVb7 := Lib.hid (view_below HVb6.out hb)
        have HVc7 := Lib.hid (view_below HVc6.out hb)
        have HM7 := Lib.hid hM7
        have HB7 := Lib.hid (HB6.out.trans (hb.mono HB6.out.size))
        have hs7 := hb.size
        clear hM7 hlo7 hb HVa6 HVb6 HVc6 HB6
        go_wp2_with fail
        refine (new6 (H := Unit) _ _ (all f) HM7.out (Nat.le_trans (all_short f) (by omega)) (all_wf HTf.out)).mono ?_
        rintro e w8 ⟨pd, bd, rfl, hVd, hb, hpd, hbd⟩
        rw [merge_all_same HTf.out] at hVd
        have HVa8 := Lib.hid (view_below HVa7.out hb)
        have HVb8 := Lib.hid (view_below HVb7.out hb)
        have HVc8 := Lib.hid (view_below HVc7.out hb)
        have HVd8 := Lib.hid hVd
        have HB8 := Lib.hid (HB7.out.trans (hb.mono HB7.out.size))
        have hbld := hVd.2.1.lt
        have hpld := hVd.1.lt
        have hs8 := hb.size
        have HTk := Lib.hid ((HL.out.below HB8.out).take K)
        clear hVd hb HVa7 HVb7 HVc7 HB7 HM7
        go_wp2_with fail
        have hn := fun cc => new6 (H := Unit) A cc (l.take K) HTk.out (by rw [HKL.out]; omega) (fun m hm => HW.out m (List.mem_of_mem_take hm))
        simp only [HKL.out] at hn
        refine (hn _).mono ?_
        rintro e w9 ⟨pe, be, rfl, hVe, hb, hpe, hbe⟩
        have HVa9 := Lib.hid (view_below HVa8.out hb)
        have HVb9 := Lib.hid (view_below HVb8.out hb)
        have HVc9 := Lib.hid (view_below HVc8.out hb)
        have HVd9 := Lib.hid (view_below HVd8.out hb)
        have HVe9 := Lib.hid hVe
        have HB9 := Lib.hid (HB8.out.trans (hb.mono HB8.out.size))
        have hble := hVe.2.1.lt
        have hple := hVe.1.lt
        have hs9 := hb.size
        clear hn hVe hb HVa8 HVb8 HVc8 HVd8 HB8 HTk
        go_wp2_with fail
        refine (all6 HVc9.out).mono ?_
        rintro e w10 ⟨A10, c10, rfl, hM10, hlo10, hb⟩
        have HVa10 := Lib.hid (view_below HVa9.out hb)
        have HVb10 := Lib.hid (view_below HVb9.out hb)
        have HVc10 := Lib.hid (view_below HVc9.out hb)
        have HVd10 := Lib.hid (view_below HVd9.out hb)
        have HVe10 := Lib.hid (view_below HVe9.out hb)
        have HM10 := Lib.hid hM10
        have HLo10 := Lib.hid hlo10
        have HB10 := Lib.hid (HB9.out.trans (hb.mono HB9.out.size))
        have hs10 := hb.size
        clear hM10 hlo10 hb HVa9 HVb9 HVc9 HVd9 HVe9 HB9
        go_wp2_with fail
        refine (merge6 (H := Unit) HVe10.out _ _ (all f) HM10.out (fun g off _ e => by have := HLo10.out g off e; omega) (Nat.le_trans (all_short f) (by omega)) (all_wf HTf.out)).mono ?_
        rintro e w11 ⟨A11, c11, rfl, _, _, hVe, hg⟩
        rw [tops_all HTf.out (tops_new (l.take K)) (fun x hx => List.mem_of_mem_take hx)] at hVe
        have H5 := Lib.hid (show Five w11 f pa ba pb bb pc bc pd bd pe be from
          ⟨view_grown HVa10.out hg (by intro e; injection e with e; omega) (by intro e; injection e with e; omega),
           view_grown HVb10.out hg (by intro e; injection e with e; omega) (by intro e; injection e with e; omega),
           view_grown HVc10.out hg (by intro e; injection e with e; omega) (by intro e; injection e with e; omega),
           view_grown HVd10.out hg (by intro e; injection e with e; omega) (by intro e; injection e with e; omega), hVe⟩)
        have HB11 := Lib.hid (Below.ofGrown HB10.out hg HB10.out.size (by omega))
        clear hVe hg HVa10 HVb10 HVc10 HVd10 HVe10 HB10 HM10 HLo10
        go_wp2_with fail
        refine (all6 H5.out.a).mono ?_
        rintro e w12 ⟨A12, c12, rfl, hM, _, hb⟩
        have HM := Lib.hid hM
        have H5' := Lib.hid (H5.out.below hb)
        have HBn := Lib.hid (HB11.out.trans (hb.mono HB11.out.size))
        clear hM hb H5 HB11
        go_wp2_with fail
        refine (all6 H5'.out.b).mono ?_
        rintro e w13 ⟨A13, c13, rfl, hM2, _, hb⟩
        have HM' := Lib.hid (HM.out.below hb)
        have HM2 := Lib.hid hM2
        have H5 := Lib.hid (H5'.out.below hb)
        have HB11 := Lib.hid (HBn.out.trans (hb.mono HBn.out.size))
        clear hM2 hb H5' HBn HM
        go_wp2_with fail
        refine (refSame_any _ _ _ _ (all f) (all f) _ (by have := all_short f; omega) HM'.out HM2.out).mono ?_
        rintro e w14 ⟨rfl, hb⟩
        rw [decide_eq_true rfl]
        have H5' := Lib.hid (H5.out.below hb)
        have HBn := Lib.hid (HB11.out.trans (hb.mono HB11.out.size))
        clear hb H5 HB11 HM' HM2
        have H5 := H5'
        have HB11 := HBn
        clear H5' HBn
        go_wp2_with fail
        refine (all6 H5.out.a).mono ?_
        rintro e w15 ⟨A15, c15, rfl, hM, _, hb⟩
        have HM := Lib.hid hM
        have H5' := Lib.hid (H5.out.below hb)
        have HBn := Lib.hid (HB11.out.trans (hb.mono HB11.out.size))
        clear hM hb H5 HB11
        go_wp2_with fail
        refine (all6 H5'.out.c).mono ?_
        rintro e w16 ⟨A16, c16, rfl, hM2, _, hb⟩
        have HM' := Lib.hid (HM.out.below hb)
        have HM2 := Lib.hid hM2
        have H5 := Lib.hid (H5'.out.below hb)
        have HB11 := Lib.hid (HBn.out.trans (hb.mono HBn.out.size))
        clear hM2 hb H5' HBn HM
        go_wp2_with fail
        refine (refSame_any _ _ _ _ (all f) (all f) _ (by have := all_short f; omega) HM'.out HM2.out).mono ?_
        rintro e w17 ⟨rfl, hb⟩
        rw [decide_eq_true rfl]
        have H5' := Lib.hid (H5.out.below hb)
        have HBn := Lib.hid (HB11.out.trans (hb.mono HB11.out.size))
        clear hb H5 HB11 HM' HM2
        have H5 := H5'
        have HB11 := HBn
        clear H5' HBn
        go_wp2_with fail
        refine (all6 H5.out.a).mono ?_
        rintro e w18 ⟨A18, c18, rfl, hM, _, hb⟩
        have HM := Lib.hid hM
        have H5' := Lib.hid (H5.out.below hb)
        have HBn := Lib.hid (HB11.out.trans (hb.mono HB11.out.size))
        clear hM hb H5 HB11
        go_wp2_with fail
        refine (all6 H5'.out.d).mono ?_
        rintro e w19 ⟨A19, c19, rfl, hM2, _, hb⟩
        have HM' := Lib.hid (HM.out.below hb)
        have HM2 := Lib.hid hM2
        have H5 := Lib.hid (H5'.out.below hb)
        have HB11 := Lib.hid (HBn.out.trans (hb.mono HBn.out.size))
        clear hM2 hb H5' HBn HM
        go_wp2_with fail
        refine (refSame_any _ _ _ _ (all f) (all f) _ (by have := all_short f; omega) HM'.out HM2.out).mono ?_
        rintro e w20 ⟨rfl, hb⟩
        rw [decide_eq_true rfl]
        have H5' := Lib.hid (H5.out.below hb)
        have HBn := Lib.hid (HB11.out.trans (hb.mono HB11.out.size))
        clear hb H5 HB11 HM' HM2
        have H5 := H5'
        have HB11 := HBn
        clear H5' HBn
        go_wp2_with fail
        refine (all6 H5.out.a).mono ?_
        rintro e w21 ⟨A21, c21, rfl, hM, _, hb⟩
        have HM := Lib.hid hM
        have H5' := Lib.hid (H5.out.below hb)
        have HBn := Lib.hid (HB11.out.trans (hb.mono HB11.out.size))
        clear hM hb H5 HB11
        go_wp2_with fail
        refine (all6 H5'.out.e).mono ?_
        rintro e w22 ⟨A22, c22, rfl, hM2, _, hb⟩
        have HM' := Lib.hid (HM.out.below hb)
        have HM2 := Lib.hid hM2
        have H5 := Lib.hid (H5'.out.below hb)
        have HB11 := Lib.hid (HBn.out.trans (hb.mono HBn.out.size))
        clear hM2 hb H5' HBn HM
        go_wp2_with fail
        refine (refSame_any _ _ _ _ (all f) (all f) _ (by have := all_short f; omega) HM'.out HM2.out).mono ?_
        rintro e w23 ⟨rfl, hb⟩
        rw [decide_eq_true rfl]
        have H5' := Lib.hid (H5.out.below hb)
        have HBn := Lib.hid (HB11.out.trans (hb.mono HB11.out.size))
        clear hb H5 HB11 HM' HM2
        have H5 := H5'
        have HB11 := HBn
        clear H5' HBn
        go_wp2_with fail
        go_ret
        exact ⟨rfl, HB11.out⟩
theorem meets_any (A : Option Addr) (c : Nat) (l : List Mem) (at' : Int) (w : World) (hl : MemsIn w A l) (hi64 : ∀ m ∈ l, m.Wf) (h1 : l.length ≤ c) (h2 : c ≤ maxLen) (h3 : A = none → c = 0) (_h : -9223372036854775808 ≤ at' ∧ at' ≤ 9223372036854775807) :
    Calls Try.prog 4 #[.slice A l.length c, .int .i64 at'] w fun e w' => e = .returned (.bool true) ∧ Below w.heap.size w w' :=
  meets_walk A c l at' w hl hi64 h1 h2 h3
end Go.Proofs.Ytlihhnjinakpfaa
