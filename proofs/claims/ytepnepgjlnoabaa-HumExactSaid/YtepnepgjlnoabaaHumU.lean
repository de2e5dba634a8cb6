/- Layer 11: HumTells: each node's last word is told so many times. -/
import Derived.Test.YtepnepgjlnoabaaHumT
import Derived.Test.YtepnepgjlnoabaaHumTP
namespace Go.Proofs.Ytepnepgjlnoabaa
open Go.Proofs Stab Go.Shelf Go.RowKit Go.Lib Go.Sort Go.Maps

theorem wrap_rem (n k : Int) (h1 : 1 ≤ k) (h2 : k ≤ 1000) : 1 ≤ wrap64 (1 + wrap64 ((IntKind.u64.wrap n).tmod k)) ∧ wrap64 (1 + wrap64 ((IntKind.u64.wrap n).tmod k)) ≤ k := by
  have h0 : 0 ≤ IntKind.u64.wrap n := by
    simp only [IntKind.wrap, IntKind.bits, IntKind.signed]
    simp
    omega
  have h3 := Int.tmod_nonneg k h0
  have h4 := Int.tmod_lt_of_pos (IntKind.u64.wrap n) (show 0 < k by omega)
  have e1 : wrap64 ((IntKind.u64.wrap n).tmod k) = (IntKind.u64.wrap n).tmod k := by unfold wrap64; omega
  rw [e1]
  have e2 : wrap64 (1 + (IntKind.u64.wrap n).tmod k) = 1 + (IntKind.u64.wrap n).tmod k := by unfold wrap64; omega
  rw [e2]
  omega
theorem builtM7 : Try.prog.built 42 [] = some (zInts 21).toArray := by kernel_rfl
theorem zeroM7 (w : World) : (zeroValue 42).run Try.prog w = .ok (.agg (zInts 21).toArray) w := by kernel_rfl
theorem infoM7 : (Try.prog.info? 42).map (·.size) = some (zInts 21).length := by kernel_rfl
theorem builtB7 : Try.prog.built 43 [] = some (zBools 7).toArray := by kernel_rfl
theorem zeroB7 (w : World) : (zeroValue 43).run Try.prog w = .ok (.agg (zBools 7).toArray) w := by kernel_rfl
theorem infoB7 : (Try.prog.info? 43).map (·.size) = some (zBools 7).length := by kernel_rfl
theorem builtI7 : Try.prog.built 45 [] = some (zInts 7).toArray := by kernel_rfl
theorem zeroI7 (w : World) : (zeroValue 45).run Try.prog w = .ok (.agg (zInts 7).toArray) w := by kernel_rfl
theorem infoI7 : (Try.prog.info? 45).map (·.size) = some (zInts 7).length := by kernel_rfl
def Mem.Wf (m : Mem) : Prop := (-9223372036854775808 ≤ m.n ∧ m.n ≤ 9223372036854775807) ∧ (-9223372036854775808 ≤ m.i ∧ m.i ≤ 9223372036854775807) ∧ (-9223372036854775808 ≤ m.s ∧ m.s ≤ 9223372036854775807)
/-- the tables of HumTells -/
def lastM (f : Hm.St) (n : Nat) : Mem := match f (n : Int) with | some r => r.m | none => Mem.zero
def lastT (f : Hm.St) (n : Nat) : List Value := cellsM (lastM f n)
def isT (f : Hm.St) (n : Nat) : List Value := [.bool (f (n : Int)).isSome]
def toldT (g : Int → Int) (n : Nat) : List Value := [.int .i64 (g (n : Int))]
theorem lastT_put (T : Int) (f : Hm.St) {m : Mem} {nn : Nat} (hg : m.good = true) (hn : m.n = (nn : Int)) (i : Nat) : (if i = nn then cellsM m else lastT f i) = lastT (Hm.push1 T f m) i := by
  unfold lastT lastM Hm.push1
  rw [if_pos hg]
  by_cases hi : i = nn
  · subst hi; simp [hn]
  · rw [if_neg hi, if_neg (by omega)]
theorem isT_put (T : Int) (f : Hm.St) {m : Mem} {nn : Nat} (hg : m.good = true) (hn : m.n = (nn : Int)) (i : Nat) : (if i = nn then [Value.bool true] else isT f i) = isT (Hm.push1 T f m) i := by
  unfold isT Hm.push1
  rw [if_pos hg]
  by_cases hi : i = nn
  · subst hi; simp [hn]
  · rw [if_neg hi, if_neg (by omega)]
theorem push1_bad (T : Int) (f : Hm.St) {m : Mem} (hg : m.good = false) : Hm.push1 T f m = f := by
  unfold Hm.push1
  rw [hg]; rfl
/-- what holds before each asking -/
structure TellS (w wr : World) (A1 : Nat → Prop) (p b N g8 g9 g11 : Nat) (T : Int) (f1 f : Hm.St) (g : Int → Int) : Prop where
  st : HumSt Unit wr A1 p b N T f
  inv : Hm.Inv T f1 f g
  last : TblAt wr g8 42 [] 3 (lastT f1)
  is : TblAt wr g9 43 [] 1 (isT f1)
  told : TblAt wr g11 45 [] 1 (toldT g)
  below : Below w.heap.size w wr
/-- what holds while what was told is looked through -/
structure TellS8 (w wr : World) (A1 : Nat → Prop) (p b N g8 g9 g11 : Nat) (T : Int) (f1 f : Hm.St) (g : Int → Int) : Prop where
  st : HumSt Unit wr A1 p b N T f
  last : TblAt wr g8 42 [] 3 (lastT f1)
  is : TblAt wr g9 43 [] 1 (isT f1)
  told : TblAt wr g11 45 [] 1 (toldT g)
  below : Below w.heap.size w wr
theorem TellS8.up {w wr w' : World} {A1 : Nat → Prop} {p b N g8 g9 g11 : Nat} {T : Int} {f1 f : Hm.St} {g : Int → Int} (h : TellS8 w wr A1 p b N g8 g9 g11 T f1 f g) (hb : Below wr.heap.size wr w') : TellS8 w w' A1 p b N g8 g9 g11 T f1 f g :=
  ⟨h.st.below hb, h.last.below hb, h.is.below hb, h.told.below hb, h.below.trans (hb.mono h.below.size)⟩
set_option maxRecDepth 100000 in
set_option maxHeartbeats 4000000 in
theorem tells_walk (n : Int) (A : Option Addr) (c : Nat) (l : List Mem) (q : Int) (w : World) (hl : MemsIn w A l) (hlen : l.length ≤ maxLen) :
    Calls Try.prog 4 #[.int .i64 n, .slice A l.length c, .int .i64 q] w fun e w' => e = .returned (.bool true) ∧ Below w.heap.size w w' := by
  have HL := Lib.hid hl
  have hlen' : l.length ≤ 9223372036854775807 := hlen
  clear hl hlen
  go_enter Try.func4, Try.ntmps4
  go_wp2_with fail
  refine (awake_any _).mono ?_
  rintro e w1 ⟨rfl, hb1⟩
  have HB1 := Lib.hid hb1
  clear hb1
  by_cases h40 : l.length ≤ 40
  · have h40z : ¬ (40 : Int) < (l.length : Int) := by omega
    go_wp2_with fail
    have hT := wrap_rem n 100 (by omega) (by omega)
    have hQ := wrap_rem q 6 (by omega) (by omega)
    generalize wrap64 (1 + wrap64 ((IntKind.u64.wrap n).tmod 100)) = T at hT ⊢
    generalize wrap64 (1 + wrap64 ((IntKind.u64.wrap q).tmod 6)) = Q at hQ ⊢
    generalize wrap64 ((IntKind.u64.wrap n).tmod 100) = T1
    generalize wrap64 ((IntKind.u64.wrap q).tmod 6) = Q1
    generalize (IntKind.u64.wrap n).tmod 100 = T2
    generalize (IntKind.u64.wrap q).tmod 6 = Q2
    generalize IntKind.u64.wrap n = T3
    generalize IntKind.u64.wrap q = Q3
    refine (hum_new (H := Unit) T _).mono ?_
    rintro e w2 ⟨p, b, rfl, hV, hb2, hp, hbb⟩
    rw [show min (max T 1) 100 = T by omega] at hV
    have hs1 := HB1.out.size
    have hS2 : HumSt Unit w2 (fun i => i < w.heap.size) p b 0 T (fun _ => none) := ⟨⟨_, hV, rfl, fun x g r h => nomatch h⟩, by show ¬ p < _; omega, by show ¬ b < _; omega, fun i (hi : i < w.heap.size) => by have := hb2.size; omega⟩
    have HB2 := Lib.hid (HB1.out.trans (hb2.mono hs1))
    have hL2 := HL.out.below HB2.out
    have HS2 := Lib.hid hS2
    have hbl := hV.blt
    clear hV hb2 hS2
    go_wp2_with fail
    refine (push_any HS2.out hT.1 A c l hL2 (fun g off h0 e => by obtain ⟨g', off', e', hlt, _⟩ := HL.out h0; rw [e] at e'; injection e' with e'; injection e'; omega) (by omega)).mono ?_
    rintro e w3 ⟨rfl, hS3, hg3⟩
    have HB3 := Lib.hid (Below.ofGrown HB2.out hg3 HB2.out.size (by omega))
    have HS3 := Lib.hid hS3
    have HT := Lib.hid (And.intro hT hQ)
    clear hS3 hg3 HS2 hL2 hT hQ hbb hp hbl hs1
    go_wp2_with (first
      | (with_reducible refine wpList_build (zInts 21).toArray (by with_unfolding_all rfl) 42 #[] rfl builtM7 ?_)
      | ((with_reducible refine wpList_allocZ (o := ⟨some 8, _, _, _, _, _⟩) 42 (zInts 21) rfl rfl zeroM7 ?_); intro g8 wa hg hat hb; have HA8 := Lib.hid hat; have HBa := Lib.hid (HB3.out.trans (hb.mono HB3.out.size)); have HSa := Lib.hid (HS3.out.below hb); have HG8 := Lib.hid hg; have HBx := Lib.hid hb; clear hat hb hg)
      | ((with_reducible refine wpList_storeAll rfl 42 (.tmp 8) (.tmp 37) rfl g8 rfl _ _ (zInts 21) HA8.out rfl rfl infoM7 (zInts_one _) ?_); intro wb hat hg hs; have HA8b := Lib.hid hat; have HBy := Lib.hid (Below.ofGrown HBx.out hg HBx.out.size (Nat.le_of_eq HG8.out.symm)); clear hat hg hs)
      | (with_reducible refine wpList_build (zBools 7).toArray (by with_unfolding_all rfl) 43 #[] rfl builtB7 ?_)
      | ((with_reducible refine wpList_allocZ (o := ⟨some 9, _, _, _, _, _⟩) 43 (zBools 7) rfl rfl zeroB7 ?_); intro g9 wc hg hat hb; have HA9 := Lib.hid hat; have HA8c := Lib.hid (HA8b.out.below hb HA8b.out.lt); have HG9 := Lib.hid (show g8 < g9 by have := HA8b.out.lt; omega); have HBz := Lib.hid (HBy.out.trans (hb.mono HBy.out.size)); clear hat hb hg)
      | ((with_reducible refine wpList_storeAll rfl 43 (.tmp 9) (.tmp 38) rfl g9 rfl _ _ (zBools 7) HA9.out rfl rfl infoB7 (zBools_one _) ?_); intro wd hat hg hs; have HA9d := Lib.hid hat; have HA8d := Lib.hid (HA8c.out.grown hg (by intro e; injection e with e; have := HG9.out; omega)); have HB4 := Lib.hid (Below.ofGrown HBz.out hg HBz.out.size (by have := HG8.out; have := HG9.out; omega)); clear hat hg hs))
    obtain ⟨f0, hf0⟩ : ∃ f0 : Hm.St, f0 = fun _ => none := ⟨_, rfl⟩
    rw [← hf0] at HS3
    have HF0 := Lib.hid hf0
    have HTL := Lib.hid (show TblAt wd g8 42 [] 3 (lastT (Hm.push T f0 (l.take 0))) from TblAt.made (z := .int .i64 0) HA8d.out (fun n => by rw [hf0]; rfl))
    have HTI := Lib.hid (show TblAt wd g9 43 [] 1 (isT (Hm.push T f0 (l.take 0))) from TblAt.made (z := .bool false) HA9d.out (fun n => by rw [hf0]; rfl))
    have hG9 := HG9.out
    have hG8 := HG8.out
    have HGG := Lib.hid (And.intro hG8 hG9)
    clear hf0 HA8 HA8b HA8c HA8d HA9 HA9d HBa HSa HBx HBy HBz HG8 HG9 hG9 hG8
    go_loopw [10] (fun i wr => ∃ k : Nat, k ≤ l.length ∧ i = .int .i64 k ∧ TblAt wr g8 42 [] 3 (lastT (Hm.push T f0 (l.take k))) ∧ TblAt wr g9 43 [] 1 (isT (Hm.push T f0 (l.take k))) ∧ Below w3.heap.size w3 wr) (fun i _ => l.length - (RowKit.intOf i).toNat)
    case atStart => exact ⟨0, by omega, rfl, HTL.out, HTI.out, HB4.out⟩
    case round =>
      obtain ⟨k, hk, rfl, hL, hI, hB⟩ := hrel
      clear HTL HTI HB4
      have HTL := Lib.hid hL
      have HTI := Lib.hid hI
      have HB4 := Lib.hid hB
      have hBw := HB3.out.trans (hB.mono HB3.out.size)
      clear hL hI hB
      by_cases hlt : k < l.length
      · obtain ⟨g, off, rfl, hgl, c0, c1, c2⟩ := HL.out.cells (w' := wr) (fun g off e hlt' => hBw.block g hlt') hlt
        obtain ⟨m, hm⟩ : ∃ m, m = l[k] := ⟨_, rfl⟩
        rw [← hm] at c0 c1 c2
        have HM := Lib.hid hm
        have hHR := hBw.size
        have i1 : (0 : Int) ≤ (k : Int) := by omega
        have i2 : (k : Int) < (l.length : Int) := by omega
        clear hm hBw
        go_wp2_with fail
        obtain ⟨gd, hgd⟩ : ∃ gd, m.good = gd := ⟨_, rfl⟩
        have HGD := Lib.hid hgd
        refine (good_at m gd hgd wr).mono ?_
        rintro e w7 ⟨rfl, hb7⟩
        have d0 := (hb7.cell (p := ⟨g, off + k * 3, none⟩) (show g < _ by omega)).trans c0
        have d1 := (hb7.cell (p := ⟨g, off + k * 3 + 1, none⟩) (show g < _ by omega)).trans c1
        have d2 := (hb7.cell (p := ⟨g, off + k * 3 + 2, none⟩) (show g < _ by omega)).trans c2
        have HB7 := Lib.hid hb7
        clear hgd hb7 c0 c1 c2
        cases gd
        · go_wp2_with fail
          go_roundw
          case rel =>
            refine ⟨k + 1, by omega, by go_num, ?_, ?_, HB4.out.trans (HB7.out.mono HB4.out.size)⟩
            · rw [push_snoc T f0 l k hlt, ← HM.out, push1_bad T _ HGD.out]
              exact HTL.out.below HB7.out
            · rw [push_snoc T f0 l k hlt, ← HM.out, push1_bad T _ HGD.out]
              exact HTI.out.below HB7.out
          case measure => simp [RowKit.intOf]; omega
        · have hmg := (Mem.good_iff m).1 HGD.out
          obtain ⟨nn, hnn⟩ : ∃ nn : Nat, m.n = (nn : Int) := ⟨m.n.toNat, by omega⟩
          have hn7 : nn < 7 := by omega
          have hn7z : (nn : Int) < 7 := by omega
          have hn0z : (0 : Int) ≤ (nn : Int) := by omega
          have HNN := Lib.hid hnn
          rw [hnn] at d0
          clear hmg hnn
          go_wp2_with fail
          refine wp_region_then (fun w' => ∃ n, w' = w7.drewN n) 10 (by kernel_rfl) (by kernel_rfl) (by kernel_rfl) (by kernel_rfl) (by decide) ⟨1, rfl⟩ ?_
          simp only [List.take_succ_cons, List.take_zero, List.drop_succ_cons, List.drop_zero]
          iterate 10 (go_big_quiet_step (fail))
          refine wpQuiet_nil ?_
          intro _ hw'
          obtain ⟨nq, rfl⟩ := hw'
          have hcm : cellsM m = [.int .i64 nn, .int .i64 m.i, .int .i64 m.s] := by unfold cellsM; rw [HNN.out]
          have hB7 := below_drewN (Below.refl w7.heap.size w7) nq
          have hTL := (HTL.out.below HB7.out).below hB7
          have hTI := (HTI.out.below HB7.out).below hB7
          have hB8 := (HB4.out.trans (HB7.out.mono HB4.out.size)).trans (hB7.mono (HB4.out.trans (HB7.out.mono HB4.out.size)).size)
          refine wpList_store_mid rfl 41 (.tmp 59) (.tmp 58) rfl g8 (nn * 3) #[.int .i64 nn, .int .i64 m.i, .int .i64 m.s] rfl rfl (hTL.there0 hn7) (by kernel_rfl) (by have h := all_oneCell_toArray (cellsM_oneCell m); rw [hcm] at h; exact h) ?_
          have hp := hTL.put0 hn7 (cellsM m) rfl
          rw [hcm] at hp
          have hg8 : (w7.drewN nq).grownBy ((w7.drewN nq).setCells g8 (nn * 3) #[.int .i64 nn, .int .i64 m.i, .int .i64 m.s].toList) (some g8) := grown_setCells g8 _ _ _ _ (World.grownBy.refl _ _)
          have hp : TblAt ((w7.drewN nq).setCells g8 (nn * 3) #[.int .i64 nn, .int .i64 m.i, .int .i64 m.s].toList) g8 42 [] 3 (fun i => if i = nn then [.int .i64 nn, .int .i64 m.i, .int .i64 m.s] else lastT (Hm.push T f0 (l.take k)) i) := hp
          have hB9 := Below.ofGrown hB8 hg8 hB8.size (by have := HGG.out; omega)
          have hTI2 := hTI.grown hg8 (by intro e; injection e with e; have := HGG.out; omega)
          have hgl7 := (hB7.cell (p := ⟨g, off + k * 3, none⟩) (show g < _ by have := HB7.out.size; omega)).trans d0
          have hgl8 : ((w7.drewN nq).setCells g8 (nn * 3) #[.int .i64 nn, .int .i64 m.i, .int .i64 m.s].toList).cell? ⟨g, off + k * 3, none⟩ = some (.int .i64 nn) := by
            rw [World.cell?_of_block (w := w7.drewN nq) (hg8.block g (show g < _ by have := HB7.out.size; have := hB7.size; omega) (by intro e; injection e with e; have := HGG.out; have := HB3.out.size; omega))]
            exact hgl7
          generalize (w7.drewN nq).setCells g8 (nn * 3) #[.int .i64 nn, .int .i64 m.i, .int .i64 m.s].toList = w8 at hp hB9 hTI2 hgl8 ⊢
          have e0 := hTI2.cell10 hn7 (v := .bool (Hm.push T f0 (l.take k) (nn : Int)).isSome) rfl
          have ef := hTI2.frozen nn
          have HP := Lib.hid hp
          have HB9 := Lib.hid hB9
          have HTI2 := Lib.hid hTI2
          have HCM := Lib.hid hcm
          clear hg8 hp hB9 hTI2 hB8 hTI hTL hB7 hcm hgl7 d0 d1 d2
          refine wpList_nil ?_
          simp only [Act.put]
          go_wp2_with fail
          go_roundw
          case rel =>
            refine ⟨k + 1, by omega, by go_num, ?_, ?_, ?_⟩
            · have h1 := HP.out.grown (row := some g9) (show w8.grownBy (w8.setCell ⟨g9, nn, none⟩ (.bool true)) (some g9) from grown_setCell (World.grownBy.refl _ _) (.inl rfl) _) (by intro e; injection e with e; have := HGG.out; omega)
              rw [push_snoc T f0 l k hlt, ← HM.out]
              rw [← HCM.out] at h1
              exact h1.congr (lastT_put T _ HGD.out HNN.out)
            · rw [push_snoc T f0 l k hlt, ← HM.out]
              exact (HTI2.out.put10 hn7 _).congr (isT_put T _ HGD.out HNN.out)
            · exact Below.ofGrown HB9.out (show w8.grownBy (w8.setCell ⟨g9, nn, none⟩ (.bool true)) (some g9) from grown_setCell (World.grownBy.refl _ _) (.inl rfl) _) HB9.out.size (by have := HGG.out; omega)
          case measure => simp [RowKit.intOf]; omega
      · have hkl : k = l.length := by omega
        have HKL := Lib.hid hkl
        rw [show l.take k = l by rw [hkl, List.take_length]] at HTL HTI
        obtain ⟨f1, hf1⟩ : ∃ f1, f1 = Hm.push T f0 l := ⟨_, rfl⟩
        rw [← hf1] at HTL HTI HS3
        have HF1 := Lib.hid hf1
        have HBw := Lib.hid hBw
        clear hBw hkl hf1
        go_wp2_with (first
          | (with_reducible refine wpList_build (zInts 7).toArray (by with_unfolding_all rfl) 45 #[] rfl builtI7 ?_)
          | ((with_reducible refine wpList_allocZ (o := ⟨some 11, _, _, _, _, _⟩) 45 (zInts 7) rfl rfl zeroI7 ?_); intro g11 we hg hat hb; have HA11 := Lib.hid hat; have HBe := Lib.hid (HB4.out.trans (hb.mono HB4.out.size)); have HTLe := Lib.hid (HTL.out.below hb); have HTIe := Lib.hid (HTI.out.below hb); have HG11 := Lib.hid (show g8 < g11 ∧ g9 < g11 by have := HTL.out.lt; have := HTI.out.lt; omega); clear hat hb hg)
          | ((with_reducible refine wpList_storeAll rfl 45 (.tmp 11) (.tmp 66) rfl g11 rfl _ _ (zInts 7) HA11.out rfl rfl infoI7 (zInts_one _) ?_); intro wf hat hg hs; have HA11f := Lib.hid hat; have HTLf := Lib.hid (HTLe.out.grown hg (by intro e; injection e with e; have := HG11.out; omega)); have HTIf := Lib.hid (HTIe.out.grown hg (by intro e; injection e with e; have := HG11.out; omega)); have HBf := Lib.hid (Below.ofGrown HBe.out hg HBe.out.size (by have := HG11.out; have := HGG.out; omega)); clear hat hg hs))
        obtain ⟨A1, hA1⟩ : ∃ A1 : Nat → Prop, A1 = fun i => i < w.heap.size ∨ (w3.heap.size ≤ i ∧ i < wf.heap.size) := ⟨_, rfl⟩
        have HA1 := Lib.hid hA1
        have hSf : HumSt Unit wf A1 p b (0 + l.length) T f1 := HS3.out.more HBf.out (by rw [hA1]; exact fun i hi => hi)
        have h8 : A1 g8 := by rw [hA1]; exact .inr ⟨by have := HGG.out; omega, HTLf.out.lt⟩
        have h9 : A1 g9 := by rw [hA1]; exact .inr ⟨by have := HGG.out; omega, HTIf.out.lt⟩
        have h11 : A1 g11 := by rw [hA1]; exact .inr ⟨by have := HGG.out; have := HG11.out; omega, HA11f.out.lt⟩
        have HAA := Lib.hid (And.intro h8 (And.intro h9 h11))
        have hw3f : w.heap.size ≤ wf.heap.size := by have := HB3.out.size; have := HBf.out.size; omega
        have HAlt := Lib.hid (show ∀ i, A1 i → i < wf.heap.size by rw [hA1]; intro i hi; rcases hi with hi | hi; exact Nat.lt_of_lt_of_le hi hw3f; exact hi.2)
        have HAw := Lib.hid (show ∀ i, i < w.heap.size → A1 i by rw [hA1]; exact fun i hi => .inl hi)
        have hK0 : ∀ x r, f1 x = some r → r.k = T := by rw [HF1.out]; exact Hm.push_times T l f0 (by rw [HF0.out]; intro x r h; cases h)
        have hsum := Hm.sum_bound hSf.sane (by have := HT.out; omega)
        have HTE := Lib.hid (show TellS w wf A1 p b (0 + l.length) g8 g9 g11 T f1 f1 (fun _ => 0) from ⟨hSf, Hm.inv_start hK0, HTLf.out, HTIf.out, TblAt.made (z := .int .i64 0) HA11f.out (fun n => rfl), HB3.out.trans (HBf.out.mono HB3.out.size)⟩)
        have hs0 : Hm.sumK f1 ≤ 600 := by have := HT.out; omega
        have HS0 := Lib.hid hs0
        clear hA1 hSf h8 h9 h11 hK0 hsum hs0 hw3f HA1 HA11 HA11f HBe HTLe HTIe HTLf HTIf HBf HTL HTI HB4 HS3
        go_loopw [12] (fun i12 wr => ∃ (k : Nat) (f : Hm.St) (g : Int → Int), k ≤ 700 ∧ i12 = .int .i64 k ∧ (k : Int) + Hm.sumK f ≤ 600 ∧ TellS w wr A1 p b (0 + l.length) g8 g9 g11 T f1 f g) (fun i12 _ => 700 - (RowKit.intOf i12).toNat)
        case atStart => exact ⟨0, f1, _, by omega, rfl, by have := HS0.out; omega, HTE.out⟩
        case round =>
          clear HTE HS0
          obtain ⟨k, f, g, hk, rfl, hsum, hTE⟩ := hrel
          have hnn := (Hm.sum_bound hTE.st.sane (by have := HT.out; omega)).1
          have HTE := Lib.hid hTE
          have HSU := Lib.hid hsum
          have hlt : (k : Int) < 700 := by omega
          clear hTE hsum hnn
          go_wp2_with fail
          refine (take_any HTE.out.st Q (by have := HT.out; omega)).mono ?_
          rintro e w8 ⟨v, rfl, hS8, hK8, hO8⟩
          obtain ⟨L, hL⟩ : ∃ L, L = Hm.told Q f := ⟨_, rfl⟩
          obtain ⟨j, hj⟩ : ∃ j, j = (Hm.told Q f).length := ⟨_, rfl⟩
          rw [← hj, ← hL] at hO8
          have hjQ : (j : Int) ≤ Q := by have := Hm.told_len_le Q f; have := HT.out; omega
          have HT8 := Lib.hid (show TellS8 w w8 A1 p b (0 + l.length) g8 g9 g11 T f1 (Hm.rest Q f) g from ⟨hS8.less fun i hi => .inl hi, HTE.out.last.keeps hK8 HAA.out.1, HTE.out.is.keeps hK8 HAA.out.2.1, HTE.out.told.keeps hK8 HAA.out.2.2, HTE.out.below.trans (hK8.below HAw.out HTE.out.below.size)⟩)
          have HO8 := Lib.hid hO8
          have HLL := Lib.hid (And.intro hL hj)
          obtain ⟨A8, c8, hv8⟩ : ∃ A c, v = .slice A j c := by
            rcases hO8.2 with ⟨h1, h2⟩ | ⟨g, cap, cur, fr, h1, _⟩
            · exact ⟨none, 0, by rw [h1, h2]⟩
            · exact ⟨_, _, h1⟩
          have HRS := Lib.hid (show w.heap.size ≤ wr.heap.size ∧ ∀ i, A1 i → i < wr.heap.size from ⟨HTE.out.below.size, HTE.out.st.lt⟩)
          subst hv8
          clear hS8 hK8 hO8 hL hj
          by_cases hj0 : j = 0
          · subst hj0
            have hnone : ∀ x, f x = none := Hm.told_none HTE.out.st.sane HT.out.2.1 HLL.out.2.symm
            have hLe : L = [] := by rw [HLL.out.1]; exact List.eq_nil_of_length_eq_zero HLL.out.2.symm
            have hrest : Hm.rest Q f = f := by unfold Hm.rest; rw [← HLL.out.1, hLe]; rfl
            rw [hrest] at HT8
            have HG := Lib.hid (show ∀ x, g x = if (f1 x).isSome = true then T else 0 from fun x => by
              have := HTE.out.inv x
              rw [hnone x] at this
              exact this)
            have HNO := Lib.hid hnone
            clear hnone hLe hrest HTE HO8 HSU
            go_wp2_with fail
            go_loopw [16] (fun i16 wr => ∃ k : Nat, 1 ≤ k ∧ k ≤ 7 ∧ i16 = .int .i64 k ∧ wr = w8) (fun i16 _ => 7 - (RowKit.intOf i16).toNat)
            case atStart => exact ⟨1, by omega, by omega, rfl, rfl⟩
            case round =>
              obtain ⟨k4, hk1, hk7, rfl, rfl⟩ := hrel
              by_cases hlt4 : k4 < 7
              · have j1 : (1 : Int) ≤ (k4 : Int) := by omega
                have j2 : (k4 : Int) < 7 := by omega
                have hg := HG.out (k4 : Int)
                have hT1 := HT.out.1
                obtain ⟨B0, hB0⟩ : ∃ B0, B0 = (f1 (k4 : Int)).isSome := ⟨_, rfl⟩
                have e0 := HT8.out.is.cell10 hlt4 (v := .bool B0) (by unfold isT; rw [hB0])
                rw [← hB0] at hg
                cases B0
                · simp only [Bool.false_eq_true, if_false] at hg
                  have e1 := HT8.out.told.cell10 hlt4 (v := .int .i64 0) (by unfold toldT; rw [hg])
                  clear hg hB0
                  go_wp2_with fail
                  go_roundw
                  case rel => exact ⟨k4 + 1, by omega, by omega, by go_num, trivial⟩
                  case measure => simp [RowKit.intOf]; omega
                · simp only [if_true] at hg
                  have e1 := HT8.out.told.cell10 hlt4 (v := .int .i64 T) (by unfold toldT; rw [hg])
                  clear hg hB0
                  go_wp2_with fail
                  go_roundw
                  case rel => exact ⟨k4 + 1, by omega, by omega, by go_num, trivial⟩
                  case measure => simp [RowKit.intOf]; omega
              · have hk4 : k4 = 7 := by omega
                subst hk4
                go_wp2_with fail
                refine (left_any HT8.out.st).mono ?_
                rintro e w9 ⟨v9, rfl, hO9, hb9⟩
                rw [Hm.all_none HNO.out] at hO9
                obtain ⟨A9, c9, hv9⟩ : ∃ A c, v9 = .slice A 0 c := by
                  rcases hO9.2 with ⟨h1, _⟩ | ⟨g, cap, cur, fr, h1, _⟩
                  · exact ⟨none, 0, h1⟩
                  · exact ⟨_, _, h1⟩
                subst hv9
                have HB9 := Lib.hid (HT8.out.below.trans (hb9.mono HT8.out.below.size))
                clear hO9 hb9
                go_wp2_with fail
                go_ret
                exact ⟨rfl, HB9.out⟩
          · have hj0z : ¬ (j : Int) = 0 := by omega
            have hjQz : ¬ Q < (j : Int) := by omega
            obtain ⟨BB, hBB⟩ : ∃ BB, BB = wr.heap.size := ⟨_, rfl⟩
            rw [← hBB] at HO8 HRS
            have HSAN := Lib.hid HTE.out.st.sane
            have HINV := Lib.hid HTE.out.inv
            clear HTE hBB
            obtain ⟨gl, cap, hA8, hglb, hgll, _, _⟩ := HO8.out.form (by omega)
            obtain ⟨rfl, rfl⟩ : A8 = some ⟨gl, 0, none⟩ ∧ c8 = cap := by simpa using hA8
            have HGL := Lib.hid hglb
            have hj6 : j ≤ 6 := by have := HT.out; omega
            clear hA8 hgll
            go_wp2_with fail
            go_loopw [14] (fun i14 wr => ∃ k2 : Nat, k2 ≤ j ∧ i14 = .int .i64 k2 ∧ TellS8 w wr A1 p b (0 + l.length) g8 g9 g11 T f1 (Hm.rest Q f) ((L.take k2).foldl Hm.inc g) ∧ Own wr BB 41 3 (.slice (some ⟨gl, 0, none⟩) j c8) j (memsV (L.map (·.m)))) (fun i14 _ => j - (RowKit.intOf i14).toNat)
            case atStart => exact ⟨0, by omega, rfl, by rw [List.take_zero]; exact HT8.out, HO8.out⟩
            case round =>
              clear HT8 HO8
              obtain ⟨k2, hk2, rfl, hT8, hO8⟩ := hrel
              have HT8 := Lib.hid hT8
              have HO8 := Lib.hid hO8
              clear hT8 hO8
              have hLj : L.length = j := by rw [HLL.out.1, HLL.out.2]
              by_cases hlt2 : k2 < j
              · obtain ⟨r, hr⟩ : ∃ r, r = L[k2]'(by omega) := ⟨_, rfl⟩
                have hsane := HSAN.out
                have hfr : (((Hm.told Q f).take k2).foldl Hm.tell f) r.m.n = some r := by
                  have h := Hm.told_upto (q := Q) hsane (k := k2) (by rw [← HLL.out.2]; exact hlt2)
                  have e : (Hm.told Q f)[k2]'(by rw [← HLL.out.2]; exact hlt2) = r := by
                    have h2 := HLL.out.1
                    subst h2
                    exact hr.symm
                  rw [e] at h
                  exact h
                have hinv := Hm.inv_upto (q := Q) hsane HINV.out k2 (by rw [← HLL.out.2]; omega) r.m.n
                rw [hfr, ← HLL.out.1] at hinv
                obtain ⟨⟨r0, hr0, hrm⟩, hgk⟩ := hinv
                have hrs := Hm.sane_upto (q := Q) hsane k2 (by rw [← HLL.out.2]; omega) r.m.n r hfr
                obtain ⟨m, hm⟩ : ∃ m, m = r.m := ⟨_, rfl⟩
                have hmg := (Mem.good_iff m).1 (by rw [hm]; exact hrs.1)
                obtain ⟨nn, hnn⟩ : ∃ nn : Nat, m.n = (nn : Int) := ⟨m.n.toNat, by omega⟩
                have hn7 : nn < 7 := by omega
                have hlast : lastT f1 nn = cellsM m := by
                  unfold lastT lastM
                  rw [← hnn, hm, hr0]
                  simp only [hrm]
                obtain ⟨G, hG⟩ : ∃ G, G = ((L.take k2).foldl Hm.inc g) (nn : Int) := ⟨_, rfl⟩
                have hGb : 0 ≤ G ∧ G ≤ 100 := by
                  rw [hG, ← hnn, hm]
                  have := HT.out
                  have := hrs.2.2
                  omega
                have hrow : ∀ i v, (cellsM m)[i]? = some v → wr.cell? ⟨gl, k2 * 3 + i, none⟩ = some v := fun i v hv => by
                  have hi : i < 3 := (List.getElem?_eq_some_iff.1 hv).1
                  rw [HO8.out.cellAt rfl (k2 * 3 + i) (by omega)]
                  exact memsV_at (L.map (·.m)) k2 (by rw [List.length_map]; omega) i v (by rw [List.getElem_map, ← hr, ← hm]; exact hv)
                have HROW := Lib.hid (show ∀ w', Behind wr w' → w'.rangeAt gl (k2 * 3) (cellsM m) from fun w' h i v hv => (Below.cell h (p := ⟨gl, k2 * 3 + i, none⟩) (show gl < _ from (HO8.out.lt gl rfl).2)).trans (hrow i v hv))
                have HLAST := Lib.hid (show ∀ w', Behind wr w' → w'.rangeAt g8 (nn * 3) (cellsM m) from fun w' h => by rw [← hlast]; exact (HT8.out.last.below h).range0 hn7)
                have HNODE := Lib.hid (show ∀ w', Behind wr w' → w'.cell? ⟨gl, k2 * 3, none⟩ = some (.int .i64 nn) from fun w' h => by
                  have := HROW.out w' h 0 (.int .i64 m.n) rfl
                  rw [hnn] at this
                  exact this)
                have HGD := Lib.hid (show ∀ w', Behind wr w' → Calls Try.prog 17 #[memV m] w' fun e w'' => e = .returned (.bool true) ∧ Behind wr w'' from fun w' h => (good_at m true (by rw [hm]; exact hrs.1) _).mono fun e w'' ⟨he, hbx⟩ => ⟨he, Below.trans h (hbx.mono (Below.size h))⟩)
                have HQn := Lib.hid (show ∀ w, (binOp .neq 41 (memV m) (memV m)).run Try.prog w = .ok (.bool false) w from fun w => by rw [run_neq_mem]; simp)
                have HX := Lib.hid (And.intro hr (And.intro hm (And.intro hnn hG)))
                have HNE := Lib.hid (show ∀ k3, (h : k3 < k2) → (L[k3]'(by omega)).m.n ≠ (nn : Int) from fun k3 h => by
                  have h1 := Hm.told_ne (q := Q) hsane h (by rw [← HLL.out.2]; exact hlt2)
                  have e1 : ∀ i (h : i < L.length), L[i] = (Hm.told Q f)[i]'(by rw [← HLL.out.1]; exact h) := by
                    have h2 := HLL.out.1
                    subst h2
                    exact fun i h => rfl
                  rw [← e1 k3 (by omega), ← e1 k2 (by omega), ← hr, ← hm, hnn] at h1
                  exact h1)
                have HUi := Lib.hid Try.underlying3
                have HU := Lib.hid Try.underlying41
                have HI3 := Lib.hid (info_memC (m := m))
                have i1 : (0 : Int) ≤ (k2 : Int) := by omega
                have i2 : (k2 : Int) < (j : Int) := by omega
                have hn7z : (nn : Int) < 7 := by omega
                have hn0z : (0 : Int) ≤ (nn : Int) := by omega
                clear hrow hlast hmg hrs hgk hrm hr0 hfr hsane hm hnn hG
                go_wp2_with fail
                refine wp_region_class (Behind wr) (by kernel_rfl) (by kernel_rfl) (Below.refl _ _).drew ?_
                iterate 20 (first
                  | go_big_quiet_skip
                  | (with_reducible refine wpQuiet_loadAll (by with_unfolding_all rfl) 41 _ (by with_unfolding_all rfl) g8 (nn * 3) (by with_unfolding_all rfl) (cellsM m) _ (fun w h => HLAST.out w h) HU.out (by with_unfolding_all rfl) HI3.out ?_; simp only [Act.put, List.setIfInBounds_toArray, List.set_cons_zero, List.set_cons_succ])
                  | (with_reducible refine wpQuiet_loadAll (by with_unfolding_all rfl) 41 _ (by with_unfolding_all rfl) gl (k2 * 3) (by with_unfolding_all rfl) (cellsM m) _ (fun w h => HROW.out w h) HU.out (by with_unfolding_all rfl) HI3.out ?_; simp only [Act.put, List.setIfInBounds_toArray, List.set_cons_zero, List.set_cons_succ])
                  | (with_reducible refine wpQuiet_load1 (.int .i64 nn) (by with_unfolding_all rfl) 3 _ (by with_unfolding_all rfl) .i64 HUi.out gl (k2 * 3) (by with_unfolding_all rfl) (fun w h => HNODE.out w h) ?_; simp only [Act.put, List.setIfInBounds_toArray, List.set_cons_zero, List.set_cons_succ])
                  | (with_reducible refine wpQuiet_call 17 [memV m] (.bool true) (by with_unfolding_all rfl) _ _ (by with_unfolding_all rfl) (by with_unfolding_all rfl) (fun _ => by kernel_rfl) (fun w' h => HGD.out w' h) ?_; simp only [Act.put, List.setIfInBounds_toArray, List.set_cons_zero, List.set_cons_succ])
                  | (with_reducible refine wpQuiet_bin (by with_unfolding_all rfl) .neq 41 _ _ _ (by with_unfolding_all rfl) (memV m) (memV m) (.bool _) (by with_unfolding_all rfl) (by with_unfolding_all rfl) (fun w => run_eqGuard_mem w _ _ _ m m) (fun w => HQn.out w) ?_; simp only [Act.put, List.setIfInBounds_toArray, List.set_cons_zero, List.set_cons_succ])
                  | (go_big_quiet_step (exact fun _ => rfl)))
                with_reducible refine wpQuiet_nil ?_
                intro wy hwy
                have HTy := Lib.hid (HT8.out.up hwy)
                have HOy := Lib.hid (HO8.out.below hwy)
                have n0 := HNODE.out wy hwy
                have t0 := HTy.out.told.cell10 hn7 (v := .int .i64 G) (by unfold toldT; rw [HX.out.2.2.2])
                have tf := HTy.out.told.frozen nn
                have hg0 := hGb.1
                have hg1 := hGb.2
                clear HROW HLAST HNODE HGD HQn HT8 HO8 hwy hGb
                go_wp2_with fail
                have hgs : wy.grownBy (wy.setCell ⟨g11, nn, none⟩ (.int .i64 (G + 1))) (some g11) := grown_setCell (World.grownBy.refl _ _) (.inl rfl) _
                have hgne : gl ≠ g11 := fun e => by
                  have h1 := (HOy.out.lt gl rfl).1
                  have h2 := HRS.out.2 g11 HAA.out.2.2
                  omega
                have hTz : TellS8 w (wy.setCell ⟨g11, nn, none⟩ (.int .i64 (G + 1))) A1 p b (0 + l.length) g8 g9 g11 T f1 (Hm.rest Q f) ((L.take (k2 + 1)).foldl Hm.inc g) := by
                  refine ⟨HTy.out.st.apart hgs HAA.out.2.2, HTy.out.last.grown hgs (by intro e; injection e with e; have := HG11.out; omega), HTy.out.is.grown hgs (by intro e; injection e with e; have := HG11.out; omega), ?_, Below.ofGrown HTy.out.below hgs HTy.out.below.size (by have := HG11.out; have := HGG.out; have := HB3.out.size; omega)⟩
                  have hLj : L.length = j := by rw [HLL.out.1, HLL.out.2]
                  rw [take_snoc L k2 (by omega), List.foldl_append, ← HX.out.1]
                  have hrn : r.m.n = (nn : Int) := by rw [← HX.out.2.1, HX.out.2.2.1]
                  have hGe := HX.out.2.2.2
                  have hTo := HTy.out.told
                  generalize (L.take k2).foldl Hm.inc g = h0 at hGe hTo ⊢
                  refine (hTo.put10 hn7 _).congr fun i => ?_
                  show (if i = nn then [Value.int .i64 (G + 1)] else [Value.int .i64 (h0 (i : Int))]) = [Value.int .i64 (if (i : Int) = r.m.n then h0 (i : Int) + 1 else h0 (i : Int))]
                  by_cases hi : i = nn
                  · subst hi
                    rw [if_pos rfl, if_pos hrn.symm, hGe]
                  · rw [if_neg hi, if_neg (by omega)]
                have hOz := HOy.out.grown (row := some g11) hgs (.inr (by intro e; injection e with e; exact hgne e))
                generalize wy.setCell ⟨g11, nn, none⟩ (.int .i64 (G + 1)) = wz at hTz hOz ⊢
                have HTz := Lib.hid hTz
                have HOz := Lib.hid hOz
                have hLj : L.length = j := by rw [HLL.out.1, HLL.out.2]
                have HCELL := Lib.hid (show ∀ i (h : i < L.length), wz.cell? ⟨gl, i * 3, none⟩ = some (.int .i64 (L[i]).m.n) from fun i h => by
                  have h1 := HOz.out.cellAt rfl (i * 3 + 0) (by omega)
                  rw [Nat.add_zero] at h1
                  rw [h1]
                  have h2 := memsV_at (L.map (·.m)) i (by rw [List.length_map]; omega) 0 (.int .i64 (L[i]).m.n) (by rw [List.getElem_map]; rfl)
                  rw [Nat.add_zero] at h2
                  exact h2)
                have HLJ := Lib.hid hLj
                clear hTz hOz hgs hgne n0 t0 tf hg0 hg1 HTy HOy hLj
                go_loopw [15] (fun i15 wr => ∃ k3 : Nat, k3 ≤ k2 ∧ i15 = .int .i64 k3 ∧ Below wz.heap.size wz wr) (fun i15 _ => k2 - (RowKit.intOf i15).toNat)
                case atStart => exact ⟨0, by omega, rfl, Below.refl _ _⟩
                case round =>
                  obtain ⟨k3, hk3, rfl, hbz⟩ := hrel
                  have HBZ := Lib.hid hbz
                  by_cases hlt3 : k3 < k2
                  · have hgl := (HOz.out.lt gl rfl).2
                    have x0 := (hbz.cell (p := ⟨gl, k3 * 3, none⟩) hgl).trans (HCELL.out k3 (by rw [HLJ.out]; omega))
                    have x1 := (hbz.cell (p := ⟨gl, k2 * 3, none⟩) hgl).trans (HCELL.out k2 (by rw [HLJ.out]; omega))
                    have hne := HNE.out k3 hlt3
                    obtain ⟨a, ha⟩ : ∃ a, a = (L[k3]'(by rw [HLJ.out]; omega)).m.n := ⟨_, rfl⟩
                    rw [← ha] at x0 hne
                    rw [← HX.out.1, ← HX.out.2.1, HX.out.2.2.1] at x1
                    have j1 : (0 : Int) ≤ (k3 : Int) := by omega
                    have j2 : (k3 : Int) < (k2 : Int) := by omega
                    have j3 : (k3 : Int) < (j : Int) := by omega
                    clear ha hbz hgl
                    go_wp2_with fail
                    go_quiet (fail)
                    go_wp2_with fail
                    go_roundw
                    case rel => exact ⟨k3 + 1, by omega, by go_num, below_drewN HBZ.out nq⟩
                    case measure => simp [RowKit.intOf]; omega
                  · have hk3e : k3 = k2 := by omega
                    subst hk3e
                    clear hbz
                    go_wp2_with fail
                    go_roundw
                    case rel => exact ⟨k3 + 1, by omega, by go_num, HTz.out.up HBZ.out, HOz.out.below HBZ.out⟩
                    case measure => simp [RowKit.intOf]; omega
              · have hk2e : k2 = j := by omega
                have HK2 := Lib.hid hk2e
                clear hk2e
                go_wp2_with fail
                go_roundw
                case rel =>
                  refine ⟨k + 1, Hm.rest Q f, (Hm.told Q f).foldl Hm.inc g, by omega, by go_num, ?_, ?_⟩
                  · have := Hm.sum_rest (q := Q) HSAN.out
                    rw [← HLL.out.2] at this
                    have := HSU.out
                    omega
                  · have e : L.take k2 = Hm.told Q f := by rw [HK2.out, List.take_of_length_le (by omega), HLL.out.1]
                    have h := HT8.out
                    rw [e] at h
                    exact ⟨h.st, Hm.inv_rest HSAN.out HINV.out, h.last, h.is, h.told, h.below⟩
                case measure => simp [RowKit.intOf]; omega
  · have h40z : (40 : Int) < (l.length : Int) := by omega
    go_wp2_with fail
    go_ret
    exact ⟨rfl, HB1.out⟩
theorem tells_any (n : Int) (A : Option Addr) (c : Nat) (l : List Mem) (q : Int) (w : World) (_hn : -9223372036854775808 ≤ n ∧ n ≤ 9223372036854775807) (hl : MemsIn w A l) (_hw : ∀ m ∈ l, m.Wf) (h1 : l.length ≤ c) (h2 : c ≤ maxLen) (_hA : A = none → c = 0) (_hq : -9223372036854775808 ≤ q ∧ q ≤ 9223372036854775807) :
    Calls Try.prog 4 #[.int .i64 n, .slice A l.length c, .int .i64 q] w fun e w' => e = .returned (.bool true) ∧ Below w.heap.size w w' := tells_walk n A c l q w hl (Nat.le_trans h1 h2)
end Go.Proofs.Ytepnepgjlnoabaa
