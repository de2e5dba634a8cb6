/- Layer 16: Fill: what it computes. -/
import Derived.Test.YtefbllhpibfojaaDoorGleFM
namespace Go.Proofs.YtefbllhpibfojaaDoor
open Go.Proofs Stab Go.Shelf Go.RowKit Go.Lib Go.Sort

theorem wpList_storeS {P : Program} {ops : Array Oper} {Q : Exit → Act → World → Prop} {rest : List Oper} {o : Oper} {a : Act} {w : World} (hgd : o.guard = none) (ty : TypeId) (x y : Operand) (ho : o.op = .store ty x y) (b off : Nat) (A : Option Addr) (n c : Nat)
    (hx : a.eval x = .pointer (some ⟨b, off, none⟩)) (hy : a.eval y = .slice A n c) (hi : (P.info? ty).map (·.size) = some 1) (t : TypeId) (cs : List Value) (hg : At w b t cs) (hl : off < cs.length)
    (h : ∀ w', At w' b t (cs.set off (.slice A n c)) → w.grownBy w' (some b) → w'.heap.size = w.heap.size → wpList P ops Q rest (a.put o.dst undef) w') : wpList P ops Q (o :: rest) a w :=
  wpList_plain hgd fun _ hK => by
    have hc : (w.cell? ⟨b, off, none⟩).isSome = true ∧ w.frozen? ⟨b, off, none⟩ = false := by
      rw [hg.cell, hg.frozen]
      simp [hl]
    unfold Oper.wp execOp
    have hr : (Instr.storeAt ty (.pointer (some ⟨b, off, none⟩)) (.slice A n c)).run P w = .ok () (w.setCell ⟨b, off, none⟩ (.slice A n c)) := by
      cases hq : P.info? ty with
      | none => simp [hq] at hi
      | some i =>
        have hs : i.size = 1 := by simpa [hq] using hi
        obtain ⟨v0, hv0⟩ := Option.isSome_iff_exists.1 hc.1
        simp [Instr.storeAt, Instr.sureAddr, storeVar, sizeOf, typeInfo, hq, hs, hv0, hc.2, Value.cells, storeCells, go_sem]
    simp only [ho, hx, hy, Sem.run_bind, Sem.run_pure, hr, Result.andThen_ok]
    exact hK _ _ (h _ (hg.set off _) (grown_setCell (World.grownBy.refl _ _) (.inl rfl) _) (by simp [World.setCell]))
theorem clone_at (A : Option Addr) (c n : Nat) (l : List Rng) (w : World) (hln : n = l.length) (hE : EncIn encG 35 w A l) (hn : n < 1000000) :
    Calls Tryd.prog 71 #[.slice A n c] w fun e w' => ∃ v', e = .returned v' ∧ Own w' w.heap.size 26 35 v' n (l.flatMap encG) ∧ Below w.heap.size w w' := by
  subst hln
  exact cloneRng_any 35 (by omega) encG encG_len encG_one 56 default info3Rng A c l w hE (by omega) (by omega)
/-- the ranges that Fill looks at; what it tells -/
def goodsF (asks : List Rng) : List Rng := (asks.filter fun r => goodB r).take 16
def fillR (asks : List Rng) (th l : List Rec) : List Rec := ((sortR l).filter fun x => !outF th (goodsF asks) x).take 16
theorem sort_own3 (A : Option Addr) (c n : Nat) (l : List Rec) (w : World) (N : Nat) (hln : n = l.length) (hN : N = (sortR l).length) (hE : EncIn encR 65 w A l) (hn : n < 1099511627776) :
    Calls Tryd.prog 20 #[.slice A n c] w fun e w' => ∃ v, e = .returned v ∧ Own w' w.heap.size 38 65 v N ((sortR l).flatMap encR) ∧ Below w.heap.size w w' := by
  subst hln hN
  exact sort_any A c l w hE hn
set_option maxRecDepth 100000 in
set_option maxHeartbeats 4000000 in
theorem fill_any (B : Option Addr) (cb m : Nat) (asks : List Rng) (Th : Option Addr) (ct tn : Nat) (th : List Rec) (A : Option Addr) (c n : Nat) (l : List Rec) (w : World) (hlm : m = asks.length) (hF : EncIn encG 35 w B asks) (hm : m < 1000000) (hlt : tn = th.length) (hT : EncIn encR 65 w Th th) (htn : tn < 1000000) (hln : n = l.length) (hE : EncIn encR 65 w A l) (hn : n < 1000000) (M : Nat) (hM : M = (fillR asks th l).length) :
    Calls Tryd.prog 36 #[.slice B m cb, .slice Th tn ct, .slice A n c] w fun e w' => ∃ A' c', e = .returned (.slice A' M c') ∧ M ≤ c' ∧ EncIn encR 65 w' A' (fillR asks th l) ∧ Below w.heap.size w w' := by
  have h0 : At (w.alloc (.cells #[.slice Th tn ct] 22)) w.heap.size 22 [.slice Th tn ct] := At.new w _ _
  have hb0 : Below w.heap.size w (w.alloc (.cells #[.slice Th tn ct] 22)) := (Below.refl _ _).alloc (Nat.le_refl _) _
  have H4 := Lib.hid h0
  have HB0 := Lib.hid hb0
  have HEa := Lib.hid (hF.up hb0)
  have HEt := Lib.hid (hT.up hb0)
  have HEl := Lib.hid (hE.up hb0)
  have HLM := Lib.hid hlm
  have HLT := Lib.hid hlt
  have HLN := Lib.hid hln
  have HM := Lib.hid hM
  obtain ⟨M14, hM14⟩ : ∃ M, M = (goodsF asks).length := ⟨_, rfl⟩
  have hM16 : M14 ≤ 16 := by rw [hM14]; unfold goodsF; rw [List.length_take]; omega
  have HM14 := Lib.hid hM14
  obtain ⟨NS, hNS⟩ : ∃ N, N = (sortR l).length := ⟨_, rfl⟩
  have hNSn : NS ≤ n := by have := sortR_len l; omega
  have HNS := Lib.hid hNS
  clear h0 hb0 hF hT hE hlm hlt hln hM hM14 hNS
  go_enter Tryd.func36, Tryd.ntmps36
  go_upto_region 1 with (fail)
  obtain ⟨g4, hg4⟩ : ∃ g, g = w.heap.size := ⟨_, rfl⟩
  rw [← hg4] at H4 ⊢
  clear hg4
  generalize w.alloc (.cells #[.slice Th tn ct] 22) = w0 at H4 HB0 HEa HEt HEl ⊢
  go_wp2_with (first
    | (go_at_call 71; (with_reducible refine Calls.mono (clone_at B cb m asks w0 HLM.out HEa.out hm) ?_); rintro e w1 ⟨v1, rfl, hO, hb⟩; have HO1 := Lib.hid hO; have HB1 := Lib.hid hb; clear hO hb)
    | (go_at_call 70; refine (delRng_any 35 (by omega) aggRng sizeRng encG encG_len encG_one infoRng default zeroRng (fun r => !goodB r) 69 #[] egF1 w0.heap.size v1 m asks w1 HO1.out HLM.out (by omega) (fun W r _ => fill1_any r W)).mono ?_; rintro e w2 ⟨v2, m2, rfl, hm2, hO, hg⟩; have hbx := own_below2 HO1.out HB1.out (Nat.le_refl _) HB1.out.size hg; have hgd : (asks.filter fun r => !!goodB r) = asks.filter fun r => goodB r := (by congr 1; funext r; rw [Bool.not_not]); rw [hgd] at hm2 hO; obtain ⟨A2, c2, rfl, hc2, hE2⟩ := hO.rows hm2 (fun x _ => encG_len x); have HB2 := Lib.hid hbx; have HF14 := Lib.hid (first_rngs A2 c2 m2 (asks.filter fun r => goodB r) w2 hm2 hc2 hE2 (by have h1 := List.length_filter_le (fun r => goodB r) asks; have h2 := HLM.out; omega) M14 HM14.out); clear hm2 hO hg hbx hgd hE2)
    | (go_at_call 64; (with_reducible refine Calls.mono HF14.out ?_); rintro e w' ⟨A14, rfl, hE, rfl⟩; have HE14 := Lib.hid hE; clear hE)
    | (with_reducible refine wpList_storeS rfl 45 (.tmp 8) (.tmp 14) rfl w2.heap.size 0 A14 M14 c2 rfl rfl (by kernel_rfl) 45 [.slice none 0 0] (At.new w2 _ _) (by decide) ?_; intro w3 hat hg hs; have HB3 := Lib.hid (HB2.out.trans (Below.ofGrown ((Below.refl _ w2).alloc (Nat.le_refl _) _) hg (by simp) (Nat.le_refl _) |>.mono HB2.out.size)); have HB23 := Lib.hid (Below.ofGrown ((Below.refl _ w2).alloc (Nat.le_refl _) _) hg (by simp) (Nat.le_refl _)); have H8 := Lib.hid hat; have H43 := Lib.hid (H4.out.below HB3.out H4.out.lt); have HE3 := Lib.hid (HE14.out.up HB23.out); have HSO := Lib.hid (sort_own3 A c n l w3 NS HLN.out HNS.out (HEl.out.up HB3.out) (by omega)); clear hat hg hs)
    | (go_at_call 20; (with_reducible refine Calls.mono HSO.out ?_); rintro e w4 ⟨v4, rfl, hO, hb⟩; have HO4 := Lib.hid hO; have HB34 := Lib.hid hb; clear hO hb)
    | (go_at_call 46; refine (delRec_any 65 (by omega) aggRec sizeRec encR encR_len encR_one infoRec default zeroRec (fun x => outF th (goodsF asks) x) 72 #[.pointer (some ⟨g4, 0, none⟩), .pointer (some ⟨w2.heap.size, 0, none⟩)] egF2 w3.heap.size v4 NS (sortR l) w4 HO4.out HNS.out (by omega) (fun W x hg => fill2_any x g4 w2.heap.size Th ct tn th A14 c2 M14 (goodsF asks) W HLT.out HM14.out (by omega) (by omega) (H43.out.below (own_below2 HO4.out HB34.out (Nat.le_refl _) HB34.out.size hg) H43.out.lt) (H8.out.below (own_below2 HO4.out HB34.out (Nat.le_refl _) HB34.out.size hg) H8.out.lt) ((HEt.out.up HB3.out).up (own_below2 HO4.out HB34.out (Nat.le_refl _) HB34.out.size hg)) (HE3.out.up (own_below2 HO4.out HB34.out (Nat.le_refl _) HB34.out.size hg)))).mono ?_; rintro e w5 ⟨v5, m5, rfl, hm5, hO, hg⟩; have hbx := own_below2 HO4.out HB34.out (Nat.le_refl _) HB34.out.size hg; obtain ⟨A9, c9, rfl, hc9, hE9⟩ := hO.rows hm5 (fun x _ => encR_len x); have HB5 := Lib.hid (HB3.out.trans (hbx.mono HB3.out.size)); have hMM : M ≤ c9 := (by have h1 := HM.out; unfold fillR at h1; rw [List.length_take, ← hm5] at h1; omega); have HMC := Lib.hid hMM; have HF9 := Lib.hid (first_recs A9 c9 m5 ((sortR l).filter fun x => !outF th (goodsF asks) x) w5 hm5 hc9 hE9 (by have h1 := List.length_filter_le (fun x => !outF th (goodsF asks) x) (sortR l); have h2 := HNS.out; omega) M HM.out); clear hm5 hO hg hbx hE9 hMM)
    | (go_at_call 66; (with_reducible refine Calls.mono HF9.out ?_); rintro e w' ⟨A9', rfl, hE, rfl⟩; have HRES := Lib.hid hE; clear hE))
  go_ret
  have hA := HRES.out
  exact ⟨A9', c9, rfl, HMC.out, hA, HB0.out.trans (HB5.out.mono HB0.out.size)⟩
end Go.Proofs.YtefbllhpibfojaaDoor
