/- Layer 12: ScoutReturns, its walk. -/
import Derived.Test.YtghefmppjdneoaaCampEM
namespace Go.Proofs.Ytghefmppjdneoaa
open Go.Proofs Stab Go.Shelf Go.RowKit Go.Lib Go.Sort Go.Maps

/-- a pointer is stored -/
theorem wpMix_storeP {P : Program} {ops : Array Oper} {Q : Exit → Act → World → Prop} {S : World → Prop} {i : Nat} {a : Act} {w : World} {o : Oper} {r : List (Nat × Bool)} (A : Option Addr) (ho : ops.toList[i]? = some o) (hw : Region.wanted o (yielded ops a.tmps) = true) (ty : TypeId) (x y : Operand) (hop : o.op = .store ty x y) (g off : Nat) (hx : a.eval x = .pointer (some ⟨g, off, none⟩)) (hy : a.eval y = .pointer A) (hi : (P.info? ty).map (·.size) = some 1) (hc : (w.cell? ⟨g, off, none⟩).isSome = true ∧ w.frozen? ⟨g, off, none⟩ = false) (hS : S (w.setCell ⟨g, off, none⟩ (.pointer A))) (h : wpMix P ops S Q r (a.put o.dst undef) (w.setCell ⟨g, off, none⟩ (.pointer A))) : wpMix P ops S Q ((i, false) :: r) a w :=
  wpMix_step ho hw fun K hK => by
    have hr : (Instr.storeAt ty (.pointer (some ⟨g, off, none⟩)) (.pointer A)).run P w = .ok () (w.setCell ⟨g, off, none⟩ (.pointer A)) := by
      cases hq : P.info? ty with
      | none => simp [hq] at hi
      | some i =>
        have hs : i.size = 1 := by simpa [hq] using hi
        obtain ⟨v0, hv0⟩ := Option.isSome_iff_exists.1 hc.1
        simp [Instr.storeAt, Instr.sureAddr, storeVar, sizeOf, typeInfo, hq, hs, hv0, hc.2, Value.cells, storeCells, go_sem]
    unfold Oper.wp execOp
    simp only [hop, hx, hy, Sem.run_bind, Sem.run_pure, hr, Result.andThen_ok]
    exact hK _ _ hS h
/-- what the region in which it begins anew reads -/
structure RetS (p gS n cS B : Nat) (w : World) : Prop where
  row : w.cell? ⟨p, 0, none⟩ = some (.slice (some ⟨gS, 0, none⟩) (n + 1) cS)
  size : B ≤ w.heap.size
set_option maxRecDepth 100000 in
set_option maxHeartbeats 4000000 in
theorem returns_walk (n who : Int) (A : Option Addr) (c : Nat) (l : List Int) (w : World) (hl : DRow w A l) :
    Calls Try.prog 4 #[.int .i64 n, .int .i64 who, .slice A l.length c] w fun e w' => e = .returned (.bool true) ∧ Below w.heap.size w w' := by
  have HL := Lib.hid hl
  have hlen : l.length ≤ 9223372036854775807 := hl.2.1
  clear hl
  go_enter Try.func4, Try.ntmps4
  go_wp2_with fail
  refine (awake_any (H := Unit) _).mono ?_
  rintro e w1 ⟨rfl, hb1⟩
  have HBB := Lib.hid hb1
  clear hb1
  have hN := wrap_rem2 n 2 5 (by omega) (by omega) (by omega) (by omega)
  have hU := u64_small (n := wrap64 (2 + wrap64 ((IntKind.u64.wrap n).tmod 5))) (by omega) (by omega)
  have hU0 : ¬ IntKind.u64.wrap (wrap64 (2 + wrap64 ((IntKind.u64.wrap n).tmod 5))) = 0 := by omega
  go_wp2_with fail
  clear hU hU0
  generalize wrap64 (2 + wrap64 ((IntKind.u64.wrap n).tmod 5)) = N at hN ⊢
  have hM := wrap_rem2 who 1 N (by omega) (by omega) (by omega) (by omega)
  generalize wrap64 (1 + wrap64 ((IntKind.u64.wrap who).tmod N)) = ME at hM ⊢
  generalize wrap64 ((IntKind.u64.wrap n).tmod 5) = N1
  generalize wrap64 ((IntKind.u64.wrap who).tmod N) = M1
  generalize (IntKind.u64.wrap n).tmod 5 = N2
  generalize (IntKind.u64.wrap who).tmod N = M2
  generalize IntKind.u64.wrap n = N3
  generalize IntKind.u64.wrap who = M3
  obtain ⟨nn, rfl⟩ : ∃ nn : Nat, N = nn := ⟨N.toNat, by omega⟩
  obtain ⟨j, rfl⟩ : ∃ j : Nat, ME = j := ⟨ME.toNat, by omega⟩
  have hn : 1 ≤ nn ∧ nn ≤ 6 := by omega
  have hn2 : 2 ≤ nn := by omega
  have hj : 1 ≤ j ∧ j ≤ nn := by omega
  clear hN hM
  refine (pitched_any hn _).mono ?_
  rintro e w2 ⟨p, v, sp, OS, rfl, hP⟩
  obtain ⟨w3, hw3⟩ : ∃ w3, w3 = w2.alloc (.cells #[.bool false, .bool false, .bool false, .bool false, .bool false, .bool false, .bool false] 4) := ⟨_, rfl⟩
  obtain ⟨gS, cS, _, hF⟩ := hP.camp hw3 hn
  have hQ := hF.toQ
  obtain ⟨e1, e2⟩ := hQ.cell (i := j) (by omega)
  have hQ1 := hQ.silence (i := j) (by omega) true
  have HW3 := Lib.hid hw3
  obtain ⟨S, hS⟩ : ∃ S : Int → Bool, S = fun x => decide (x = (j : Int)) := ⟨_, rfl⟩
  have hS2 : ∀ i, S i = true ↔ i = (j : Int) := fun i => by rw [hS]; exact decide_eq_true_iff
  have hF1 := hQ1.silent (S' := S) fun i _ => by
    rw [hS]
    by_cases e : (i : Int) = (j : Int)
    · rw [if_pos e]; exact (decide_eq_true e).symm
    · rw [if_neg e]; exact (decide_eq_false e).symm
  have HF := Lib.hid hF1
  have HS := Lib.hid hS2
  have hj0 : (0 : Int) ≤ (j : Int) := by omega
  have hj7 : (j : Int) < 7 := by omega
  have hj1 : (j : Int) < (nn : Int) + 1 := by omega
  clear hP hF hw3 hQ hQ1 hF1 hS hS2
  go_wp2_with (first
    | (with_reducible refine wpList_to (.slice (some ⟨w2.heap.size, 0, none⟩) 7 7) w3 (by with_unfolding_all rfl) (by rw [HW3.out]; exact exec_make7 _ _ (by with_unfolding_all rfl) (by with_unfolding_all rfl) (by with_unfolding_all rfl) _) ?_))
  obtain ⟨gq, hgq⟩ : ∃ gq, gq = w2.heap.size := ⟨_, rfl⟩
  rw [← hgq] at HF ⊢
  generalize w3.setCell ⟨gq, j, none⟩ (Value.bool true) = w4 at HF ⊢
  clear e1 e2 HW3 hgq
  go_loopw [10] (fun i wr => ∃ m : Nat, m ≤ 120 ∧ i = .int .i64 m ∧ FinAt w1 wr p gS cS gq sp nn (2000 * m) S (fun i t => Sok t i nn S (0 + m) (72 - m))) (fun i _ => 120 - (RowKit.intOf i).toNat)
  case atStart => exact ⟨0, by omega, rfl, HF.out⟩
  case round =>
    clear HF
    obtain ⟨m, hm, rfl, hF⟩ := hrel
    have HF := Lib.hid hF
    clear hF
    by_cases hltm : m < 120
    · have hmz : (m : Int) < 120 := by omega
      go_wp2_with fail
      refine (HF.out.round hn (by omega) (m : Int) 7).mono ?_
      rintro e w5 ⟨rfl, hF5⟩
      have HF5 := Lib.hid hF5
      clear hF5 HF
      go_wp2_with fail
      go_roundw
      case rel =>
        refine ⟨m + 1, by omega, by go_num, ?_⟩
        have h := HF5.out.mono (M' := 2000 * (m + 1)) (by omega)
        rw [show 72 - m - 1 = 72 - (m + 1) by omega, show 0 + m + 1 = 0 + (m + 1) by omega] at h
        exact h
      case measure => simp [RowKit.intOf]; omega
    · have hme : m = 120 := by omega
      subst hme
      rw [show ((120 : Nat) : Int) = 120 from rfl]
      have HG := Lib.hid (show FinAt w1 wr p gS cS gq sp nn 240000 S (fun i t => Sok t i nn S 120 0) from HF.out)
      clear HF
      go_wp2_with fail
      have hGd := HG.out.up (Below.refl _ _).drew
      have hSd : RetS p gS nn cS wr.drew.heap.size wr.drew := ⟨hGd.row0, Nat.le_refl _⟩
      have HGD := Lib.hid hGd
      refine wp_region_mix [(0, true), (4, true), (5, true), (6, true), (1, true), (2, true), (3, true), (7, false), (8, true), (9, false)] (RetS p gS nn cS wr.drew.heap.size) (by kernel_rfl) (by kernel_rfl) (fun _ _ d _ _ h => by cases d <;> exact h) (by kernel_rfl) (by decide) hSd ?_
      clear hSd hGd
      iterate 7 (
        first
          | (refine wpMix_val (.pointer (some ⟨p, 0, none⟩)) (by with_unfolding_all rfl) (by with_unfolding_all rfl) (fun w _ => exec_nil _ (by with_unfolding_all rfl) p 0 (by with_unfolding_all rfl) w) ?_; simp only [Act.put, List.setIfInBounds_toArray, List.set_cons_zero, List.set_cons_succ])
          | (refine wpMix_q (by with_unfolding_all rfl) (by kernel_rfl) ?_
             first
              | go_big_quiet_skip
              | ((with_reducible refine wpQuiet_loadS (.slice (some ⟨gS, 0, none⟩) (nn + 1) cS) (by with_unfolding_all rfl) 32 _ _ (by with_unfolding_all rfl) Try.underlying32 p 0 (by with_unfolding_all rfl) (fun w h => h.row) ?_); simp only [Act.put, List.setIfInBounds_toArray, List.set_cons_zero, List.set_cons_succ])
              | (go_big_quiet_step (exact fun _ => rfl))
             refine wpMix_qnil ?_))
      refine wpMix_call 11 [.int .i64 (j : Int), .int .i64 (nn : Int)] (fun v w5 => ∃ s O, v = .pointer (some ⟨s, 0, none⟩) ∧ OwnS Unit w5 O 0 s (Sct.fresh (j : Int) nn) ∧ Below wr.drew.heap.size wr.drew w5 ∧ ∀ i, O i → wr.drew.heap.size ≤ i) (by with_unfolding_all rfl) (by with_unfolding_all rfl) (by with_unfolding_all rfl) ((own_new (H := Unit) (w := wr.drew) (me := (j : Int)) (nodes := (nn : Int)) ⟨by omega, by omega, by omega⟩).mono fun e w5 ⟨s, O, he, hO, hb, hi⟩ => ⟨_, he, ⟨(HGD.out.up hb).row0, hb.size⟩, s, O, rfl, hO, hb, hi⟩) ?_
      rintro v5 w5 hS5 ⟨s5, O5, rfl, hO5, hb5, hi5⟩
      have hG5 := HGD.out.up hb5
      obtain ⟨a1, a2, a3, a4, a5⟩ := hG5.cellS (i := j) hj.1 hj.2
      have hR5 := HGD.out.anew hj hn.2 HS.out hb5 (hO5.mono (Nat.zero_le _)) hi5
      have HA5 := Lib.hid (And.intro a1 a2)
      have HR5 := Lib.hid hR5
      have HS5 := Lib.hid (show RetS p gS nn cS wr.drew.heap.size (w5.setCell ⟨gS, j, none⟩ (.pointer (some ⟨s5, 0, none⟩))) from ⟨by
        have hgr : w5.grownBy (w5.setCell ⟨gS, j, none⟩ (.pointer (some ⟨s5, 0, none⟩))) (some gS) := grown_setCell (World.grownBy.refl _ _) (.inl rfl) _
        exact (World.cell?_of_block (w := w5) (hgr.block p a3 (by intro e; injection e with e; exact a5 e))).trans hG5.row0, Nat.le_trans hb5.size (by
        have hgr : w5.grownBy (w5.setCell ⟨gS, j, none⟩ (.pointer (some ⟨s5, 0, none⟩))) (some gS) := grown_setCell (World.grownBy.refl _ _) (.inl rfl) _
        exact hgr.size)⟩)
      clear hS5 hO5 hb5 hi5 hG5 a1 a2 a3 a4 a5 hR5 HGD HG
      simp only [Act.put, List.setIfInBounds_toArray, List.set_cons_zero, List.set_cons_succ]
      refine wpMix_q (by with_unfolding_all rfl) (by kernel_rfl) ?_
      go_big_quiet_step (exact fun _ => rfl)
      refine wpMix_qnil ?_
      refine wpMix_storeP (some ⟨s5, 0, none⟩) (by with_unfolding_all rfl) (by with_unfolding_all rfl) 31 _ _ (by with_unfolding_all rfl) gS j (by with_unfolding_all rfl) (by with_unfolding_all rfl) (by kernel_rfl) HA5.out HS5.out ?_
      simp only [Act.put]
      refine wpMix_nil ?_
      clear HA5 HS5
      generalize w5.setCell ⟨gS, j, none⟩ (Value.pointer (some ⟨s5, 0, none⟩)) = w6 at HR5 ⊢
      obtain ⟨f1, f2⟩ := HR5.out.cell (i := j) (by omega)
      have hR7 := HR5.out.silence (i := j) (by omega) false
      have eS : (fun x : Int => if x = ((j : Nat) : Int) then false else S x) = fun _ => false := by
        funext x
        by_cases e : x = (j : Int)
        · rw [if_pos e]
        · rw [if_neg e]
          cases hq : S x with
          | false => rfl
          | true => exact absurd ((HS.out x).1 hq) e
      rw [eS] at hR7
      have HR7 := Lib.hid hR7
      clear hR7 eS HR5 HS
      go_wp2_with fail
      generalize w6.setCell ⟨gq, j, none⟩ (Value.bool false) = w7 at HR7 ⊢
      clear f1 f2
      go_loopw [11] (fun i wr => ∃ r : Nat, r ≤ 160 ∧ i = .int .i64 r ∧ RetAt w1 wr p gS cS gq nn (240000 + 2000 * r) (fun _ => false) (RokD (j : Int) nn (decide (5 ≤ r)) (ticksR (j : Int) r))) (fun i _ => 160 - (RowKit.intOf i).toNat)
      case atStart => exact ⟨0, by omega, rfl, HR7.out⟩
      case round =>
        clear HR7
        obtain ⟨r, hr, rfl, hR⟩ := hrel
        have HR := Lib.hid hR
        clear hR
        by_cases hltr : r < 160
        · have hrz : (r : Int) < 160 := by omega
          by_cases hl0 : 0 < l.length
          · have hl0z : (0 : Int) < (l.length : Int) := by omega
            have hdr : (r : Int) % (l.length : Int) = ((r % l.length : Nat) : Int) := (Int.natCast_emod r l.length).symm
            obtain ⟨g0, off, rfl, hg0, hcl⟩ := HL.out.2.2 hl0
            have hml := Nat.mod_lt r hl0
            have c0 := hcl (r % l.length) hml wr ((HR.out.below.block g0 (Nat.lt_of_lt_of_le hg0 HBB.out.size)).trans (HBB.out.block g0 hg0))
            obtain ⟨d, hd⟩ : ∃ d, d = l[r % l.length] := ⟨_, rfl⟩
            rw [← hd] at c0
            generalize r % l.length = r2 at hdr hml c0
            have hmr : (r2 : Int) < (l.length : Int) := by omega
            clear hcl hd
            go_wp2_with fail
            clear hdr hml hmr c0
            refine (HR.out.round hn hj (by omega) d 7).mono ?_
            rintro e w8 ⟨rfl, hR8⟩
            have HR8 := Lib.hid (hR8.mono (M' := 240000 + 2000 * (r + 1)) (by omega))
            clear hR8 HR
            go_wp2_with fail
            go_roundw
            case rel => exact ⟨r + 1, by omega, by go_num, HR8.out⟩
            case measure => simp [RowKit.intOf]; omega
          · have hl0z : ¬ (0 : Int) < (l.length : Int) := by omega
            go_wp2_with fail
            refine (HR.out.round hn hj (by omega) (r : Int) 7).mono ?_
            rintro e w8 ⟨rfl, hR8⟩
            have HR8 := Lib.hid (hR8.mono (M' := 240000 + 2000 * (r + 1)) (by omega))
            clear hR8 HR
            go_wp2_with fail
            go_roundw
            case rel => exact ⟨r + 1, by omega, by go_num, HR8.out⟩
            case measure => simp [RowKit.intOf]; omega
        · have hre : r = 160 := by omega
          subst hre
          rw [show ((160 : Nat) : Int) = 160 from rfl]
          have HG := Lib.hid (show RetAt w1 wr p gS cS gq nn 560000 (fun _ => false) (RokD (j : Int) nn true (ticksR (j : Int) 160)) from HR.out)
          clear HR
          go_wp2_with fail
          go_loopw [13] (fun i wr => ∃ y : Nat, y ≤ nn ∧ i = .int .i64 ((y + 1 : Nat) : Int) ∧ RetAt w1 wr p gS cS gq nn 560000 (fun _ => false) (RokD (j : Int) nn true (ticksR (j : Int) 160))) (fun i _ => nn + 1 - (RowKit.intOf i).toNat)
          case atStart => exact ⟨0, by omega, rfl, HG.out⟩
          case round =>
            clear HG
            obtain ⟨y, hyn, rfl, hG⟩ := hrel
            have HG := Lib.hid hG
            clear hG
            have hy0 : (0 : Int) ≤ (y : Int) := by omega
            by_cases hly : y < nn
            · have hlyz : (y : Int) + 1 ≤ (nn : Int) := by omega
              obtain ⟨s, L, hE, hL6, a0, a1, hall⟩ := HG.out.all hj hn2 (i := y + 1) (by omega) (by omega)
              have HE := Lib.hid hE
              have HALL := Lib.hid hall
              have hjn1 : (y : Int) + 1 < (nn : Int) + 1 := by omega
              clear hall hE
              go_wp2_with fail
              refine HALL.out.mono ?_
              rintro e w6 ⟨A6, c6, rfl, hM6, hb6⟩
              have HM6 := Lib.hid hM6
              have HG6 := Lib.hid (HG.out.up hb6)
              clear hM6 hb6 HALL HG a0 a1
              go_wp2_with fail
              go_loopw [15] (fun i wr => ∃ k : Nat, k ≤ L.length ∧ i = .int .i64 k ∧ Below w6.heap.size w6 wr) (fun i _ => L.length - (RowKit.intOf i).toNat)
              case atStart => exact ⟨0, by omega, rfl, Below.refl _ _⟩
              case round =>
                obtain ⟨k, hk, rfl, hB⟩ := hrel
                have HB := Lib.hid hB
                clear hB
                by_cases hlk : k < L.length
                · obtain ⟨x, hx⟩ : ∃ x, x = L[k] := ⟨_, rfl⟩
                  have hxe := HE.out x (by rw [hx]; exact List.getElem_mem _)
                  obtain ⟨g, off, rfl, hgl, c0, c1, c2⟩ := HM6.out.cells (w' := wr) (fun g off e hlt' => HB.out.block g hlt') hlk
                  rw [← hx] at c0 c1 c2
                  rw [hxe.1] at c2
                  have i1 : (0 : Int) ≤ (k : Int) := by omega
                  have i2 : (k : Int) < (L.length : Int) := by omega
                  obtain ⟨a, ha⟩ : ∃ a, a = x.n := ⟨_, rfl⟩
                  obtain ⟨b, hb⟩ : ∃ b, b = x.i := ⟨_, rfl⟩
                  rw [← ha] at c0
                  rw [← hb] at c1
                  have hab : a = (j : Int) → b = 1 := by rw [ha, hb]; exact hxe.2
                  clear hx hxe ha hb hgl
                  by_cases haj : a = (j : Int)
                  · have hb1 := hab haj
                    rw [haj] at c0
                    rw [hb1] at c1
                    clear hab haj hb1
                    go_wp2_with fail
                    go_roundw
                    case rel => exact ⟨k + 1, by omega, by go_num, HB.out⟩
                    case measure => simp [RowKit.intOf]; omega
                  · clear hab
                    go_wp2_with fail
                    go_roundw
                    case rel => exact ⟨k + 1, by omega, by go_num, HB.out⟩
                    case measure => simp [RowKit.intOf]; omega
                · have hnk : ¬ (k : Int) < (L.length : Int) := by omega
                  go_wp2_with fail
                  go_roundw
                  case rel => exact ⟨y + 1, by omega, by go_num, HG6.out.up HB.out⟩
                  case measure => simp [RowKit.intOf]; omega
            · have hnly : ¬ (y : Int) + 1 ≤ (nn : Int) := by omega
              go_wp2_with fail
              go_ret
              exact ⟨rfl, HBB.out.trans (HG.out.below.mono HBB.out.size)⟩
end Go.Proofs.Ytghefmppjdneoaa
