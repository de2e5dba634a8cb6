/- GleanMeets: answer: a node's answer to a letter. -/
import Derived.Test.YtefbllhpibfojaaDoorGmeBM
namespace Go.Proofs.YtefbllhpibfojaaDoor
open Go.Proofs Stab Go.Shelf Go.RowKit Go.Lib Go.Sort

theorem run_load_slice16 {P : Program} {ty e : TypeId} (hu : P.underlying ty = some (.slice e)) {w : World} {b off : Nat} {v : Value} (hc : w.cell? ⟨b, off, none⟩ = some v) :
    (Instr.loadAt ty (.pointer (some ⟨b, off, none⟩))).run P w = .ok v w := by
  simp [Instr.loadAt, Instr.sureAddr, loadVar, isAgg, run_underlying hu, hc]
theorem wpQuiet_loadS16 {P : Program} {ops : Array Oper} {C : World → Prop} {Q : Act → Prop} {a : Act} {o : Oper} {rest : List Oper} (v : Value) (hw : Region.wanted o (yielded ops a.tmps) = true) (ty e : TypeId) (x : Operand) (ho : o.op = .load ty x) (hu : P.underlying ty = some (.slice e)) (b off : Nat) (hx : a.eval x = .pointer (some ⟨b, off, none⟩))
    (hS : ∀ w, C w → w.cell? ⟨b, off, none⟩ = some v) (h : wpQuiet P ops C Q rest (a.put o.dst v)) : wpQuiet P ops C Q (o :: rest) a :=
  wpQuiet_val v hw (fun w hC => by
    unfold execOp
    simp only [ho, hx, Sem.run_bind, Sem.run_pure, run_load_slice16 hu (hS w hC), Result.andThen_ok]) h
theorem wpMix_storeS16 {P : Program} {ops : Array Oper} {Q : Exit → Act → World → Prop} {S : World → Prop} {i : Nat} {a : Act} {w : World} {o : Oper} {r : List (Nat × Bool)} (hoi : ops.toList[i]? = some o) (hw : Region.wanted o (yielded ops a.tmps) = true) (ty : TypeId) (x y : Operand) (ho : o.op = .store ty x y) (b off : Nat) (A : Option Addr) (n c : Nat)
    (hx : a.eval x = .pointer (some ⟨b, off, none⟩)) (hy : a.eval y = .slice A n c) (hi : (P.info? ty).map (·.size) = some 1) (t : TypeId) (cs : List Value) (hg : At w b t cs) (hl : off < cs.length)
    (hSs : ∀ w', w.grownBy w' (some b) → S w') (h : ∀ w', At w' b t (cs.set off (.slice A n c)) → w.grownBy w' (some b) → S w' → wpMix P ops S Q r (a.put o.dst undef) w') : wpMix P ops S Q ((i, false) :: r) a w :=
  wpMix_step hoi hw fun K hK => by
    have hc : (w.cell? ⟨b, off, none⟩).isSome = true ∧ w.frozen? ⟨b, off, none⟩ = false := by
      rw [hg.cell, hg.frozen]
      simp [hl]
    unfold Oper.wp execOp
    have hr : (Instr.storeAt ty (.pointer (some ⟨b, off, none⟩)) (.slice A n c)).run P w = .ok () (w.setCell ⟨b, off, none⟩ (.slice A n c)) := by
      cases hq : P.info? ty with
      | none => simp [hq] at hi
      | some i =>
        have hs : i.size = 1 := by simpa [hq] using hi
        obtain ⟨v0, hv0⟩ := Option.isSome_iff_exists.1 hc.1
        simp [Instr.storeAt, Instr.sureAddr, storeVar, sizeOf, typeInfo, hq, hs, hv0, hc.2, Value.cells, storeCells, go_sem]
    have hgr : w.grownBy (w.setCell ⟨b, off, none⟩ (.slice A n c)) (some b) := grown_setCell (World.grownBy.refl _ _) (.inl rfl) _
    simp only [ho, hx, hy, Sem.run_bind, Sem.run_pure, hr, Result.andThen_ok]
    exact hK _ _ (hSs _ hgr) (h _ (hg.set off _) hgr (hSs _ hgr))
theorem zeroLet (w : World) : (zeroValue 64).run Tryd.prog w = .ok (.agg (letC none 0 0 none 0 0 none 0 0).toArray) w := by kernel_rfl
theorem infoLet : (Tryd.prog.info? 64).map (·.size) = some 3 := by kernel_rfl
theorem let_info (A4 : Option Addr) (n4 c4 : Nat) (A5 : Option Addr) (n5 c5 : Nat) (A6 : Option Addr) (n6 c6 : Nat) : (Tryd.prog.info? 64).map (·.size) = some (letC A4 n4 c4 A5 n5 c5 A6 n6 c6).length := infoLet
theorem builtLet0 : Tryd.prog.built 64 [] = some (letC none 0 0 none 0 0 none 0 0).toArray := by kernel_rfl
theorem let_one (A4 : Option Addr) (n4 c4 : Nat) (A5 : Option Addr) (n5 c5 : Nat) (A6 : Option Addr) (n6 c6 : Nat) : ∀ v ∈ letC A4 n4 c4 A5 n5 c5 A6 n6 c6, v.oneCell' = true := fun v hv => by
  simp only [List.mem_cons, List.not_mem_nil, or_false] at hv
  rcases hv with rfl | rfl | rfl <;> rfl
/-- a store of slices into a block leaves things alone whose cells are numbers -/
theorem EncIn.keep {α : Type} {enc : α → List Value} {k : Nat} {w w' : World} {A : Option Addr} {l : List α} (henc : ∀ x, ∃ kd n, (enc x)[0]? = some (.int kd n)) (h : EncIn enc k w A l) {g : Nat} {t : TypeId} {cs : List Value} (hat : At w g t cs) (hcs : ∀ v ∈ cs, ∀ kd n, v ≠ .int kd n) (hg : w.grownBy w' (some g)) : EncIn enc k w' A l := fun h0 => by
  have hne : ∀ g' off, A = some ⟨g', off, none⟩ → some g' ≠ some g := fun g' off e e2 => by
    obtain ⟨g1, off1, e1, _, hc⟩ := h h0
    rw [e1] at e
    injection e with e
    injection e with e3 e4
    injection e2 with e2
    obtain ⟨kd, n, he⟩ := henc l[0]
    have hv := hc 0 h0 0 _ he
    rw [e3, e2, hat.cell] at hv
    exact hcs _ (List.mem_of_getElem? hv) kd n rfl
  exact EncIn.grown h hg hne h0
theorem encG_head (x : Rng) : ∃ kd n, (encG x)[0]? = some (.int kd n) := ⟨_, _, rfl⟩
theorem encR_head (x : Rec) : ∃ kd n, (encR x)[0]? = some (.int kd n) := by
  have hk := x.hk
  refine ⟨.u8, ((x.key.getD 0 0).toNat : Int), ?_⟩
  unfold encR
  rw [List.getElem?_append_left (by rw [u8s_length]; omega)]
  exact u8s_getD x.key 0 (by omega)
theorem let_no (A4 : Option Addr) (n4 c4 : Nat) (A5 : Option Addr) (n5 c5 : Nat) (A6 : Option Addr) (n6 c6 : Nat) : ∀ v ∈ letC A4 n4 c4 A5 n5 c5 A6 n6 c6, ∀ kd n, v ≠ .int kd n := fun v hv kd n => by
  simp only [List.mem_cons, List.not_mem_nil, or_false] at hv
  rcases hv with rfl | rfl | rfl <;> exact fun e => by cases e
/-- what holds in every world of the region that tells what is asked for: the letter's block, and its own -/
structure AnsS (w : World) (g2 : Nat) (C : List Value) (W : World) : Prop where
  b : Behind w W
  a : At W g2 64 C
theorem ans_first (l : Lett) (r : List Rec) : (ansL l r).items = (foldA l.sums (keptR r l.items)).2.1.take 16 ++ (if l.asks = [] then [] else fillR l.asks l.items r) := rfl
/-- what answer hands back -/
def Answers (l : Lett) (r : List Rec) (w : World) (e : Ending) (w' : World) : Prop :=
  ∃ A4 n4 c4 A5 n5 c5 A6 n6 c6 A n c, e = .returned (.tuple #[.agg (letC A4 n4 c4 A5 n5 c5 A6 n6 c6).toArray, .slice A n c]) ∧ n4 = (ansL l r).sums.length ∧ n5 = (ansL l r).items.length ∧ n6 = (ansL l r).asks.length ∧ n = (keptR r l.items).length ∧ n4 ≤ c4 ∧
    EncIn encG 35 w' A4 (ansL l r).sums ∧ EncIn encR 65 w' A5 (ansL l r).items ∧ EncIn encG 35 w' A6 (ansL l r).asks ∧ EncIn encR 65 w' A (keptR r l.items) ∧ Below w.heap.size w w'
set_option maxRecDepth 100000 in
set_option maxHeartbeats 8000000 in
theorem ans_any (A4 : Option Addr) (n4 c4 : Nat) (A5 : Option Addr) (n5 c5 : Nat) (A6 : Option Addr) (n6 c6 : Nat) (l : Lett) (A : Option Addr) (c n : Nat) (r : List Rec) (w : World) (h4 : n4 = l.sums.length) (h5 : n5 = l.items.length) (h6 : n6 = l.asks.length) (hn : n = r.length) (h4c : n4 ≤ c4)
    (hE4 : EncIn encG 35 w A4 l.sums) (hE5 : EncIn encR 65 w A5 l.items) (hE6 : EncIn encG 35 w A6 l.asks) (hE : EncIn encR 65 w A r) (b4 : n4 ≤ 100) (b5 : n5 ≤ 100) (b6 : n6 ≤ 100) (bn : n ≤ 100) (hwd : Tab w 0 (u32s Sha.words)) :
    Calls Tryd.prog 42 #[.agg (letC A4 n4 c4 A5 n5 c5 A6 n6 c6).toArray, .slice A n c] w fun e w' => Answers l r w e w' := by
  obtain ⟨C, hC⟩ : ∃ C, C = letC A4 n4 c4 A5 n5 c5 A6 n6 c6 := ⟨_, rfl⟩
  have HE4 := Lib.hid (show ∀ W, Behind w W → EncIn encG 35 W A4 l.sums from fun W h => hE4.up h)
  have HE5 := Lib.hid (show ∀ W, Behind w W → EncIn encR 65 W A5 l.items from fun W h => hE5.up h)
  have HE6 := Lib.hid (show ∀ W, Behind w W → EncIn encG 35 W A6 l.asks from fun W h => hE6.up h)
  have HER := Lib.hid (show ∀ W, Behind w W → EncIn encR 65 W A r from fun W h => hE.up h)
  have HW := Lib.hid (show ∀ W, Behind w W → Tab W 0 (u32s Sha.words) from fun W h => hwd.below h hwd.lt)
  have HB4 := Lib.hid b4
  have HB5 := Lib.hid b5
  have HB6 := Lib.hid b6
  have HBN := Lib.hid bn
  have H4 := Lib.hid h4
  have H5 := Lib.hid h5
  have H6 := Lib.hid h6
  have HN := Lib.hid hn
  have HC := Lib.hid hC
  have HC1 := Lib.hid (show C[1]? = some (.slice A5 n5 c5) by rw [hC]; rfl)
  have HC2 := Lib.hid (show C[2]? = some (.slice A6 n6 c6) by rw [hC]; rfl)
  have HLL := Lib.hid (show (Tryd.prog.info? 64).map (·.size) = some (letC none 0 0 none 0 0 none 0 0).length from infoLet)
  obtain ⟨M, hM⟩ : ∃ M, M = keptR r l.items := ⟨_, rfl⟩
  obtain ⟨N, hN⟩ : ∃ N, N = M.length := ⟨_, rfl⟩
  have hN2 : N ≤ 200 := by
    have h1 := sortR_len (r ++ l.items)
    rw [List.length_append] at h1
    rw [hN, hM]
    show (sortR (r ++ l.items)).length ≤ 200
    omega
  obtain ⟨X, hX⟩ : ∃ X, (foldA l.sums M).1.take 16 = X := ⟨_, rfl⟩
  obtain ⟨Y, hY⟩ : ∃ Y, (foldA l.sums M).2.1.take 16 = Y := ⟨_, rfl⟩
  obtain ⟨Z, hZ⟩ : ∃ Z, (foldA l.sums M).2.2.take 16 = Z := ⟨_, rfl⟩
  obtain ⟨M4, k4⟩ : ∃ M, M = X.length := ⟨_, rfl⟩
  obtain ⟨M5, k5⟩ : ∃ M, M = Y.length := ⟨_, rfl⟩
  obtain ⟨M6, k6⟩ : ∃ M, M = Z.length := ⟨_, rfl⟩
  have q5 : M5 ≤ 16 := by rw [k5, ← hY, List.length_take]; omega
  have HKC := Lib.hid (show ∀ W, Behind w W → Calls Tryd.prog 38 #[.slice A n c, .slice A5 n5 c5] W fun e w' => ∃ A' c', e = .returned (.slice A' N c') ∧ N ≤ c' ∧ EncIn encR 65 w' A' M ∧ Below W.heap.size W w' from fun W hW => by rw [hM] at hN ⊢; exact kept_any A c n r A5 c5 n5 l.items W hn h5 (HER.out W hW) (HE5.out W hW) (by omega) (by omega) N hN)
  have HAC := Lib.hid (show ∀ (B : Option Addr) (d : Nat) W, Behind w W → EncIn encR 65 W B M → Calls Tryd.prog 32 #[.slice A4 n4 c4, .slice B N d] W fun e w' => ∃ A4 A5 A6 c4 c5 c6, e = .returned (.tuple #[.slice A4 M4 c4, .slice A5 M5 c5, .slice A6 M6 c6]) ∧ EncIn encG 35 w' A4 X ∧ EncIn encR 65 w' A5 Y ∧ EncIn encG 35 w' A6 Z ∧ M4 ≤ c4 ∧ M5 ≤ c5 ∧ M6 ≤ c6 ∧ Below W.heap.size W w' from fun B d W hW hB => answer_any A4 c4 n4 l.sums B d N M W h4 h4c (HE4.out W hW) (by omega) hN hB (by omega) (HW.out W hW) X Y Z hX hY hZ M4 M5 M6 k4 k5 k6)
  have HL := Lib.hid (show (ansL l r).sums = X ∧ (ansL l r).asks = Z ∧ (ansL l r).items = Y ++ (if l.asks = [] then [] else fillR l.asks l.items r) ∧ M = keptR r l.items from by rw [hM] at hX hY hZ; exact ⟨hX, hZ, by rw [ans_first, hY], hM⟩)
  have HK := Lib.hid (show M4 = X.length ∧ M5 = Y.length ∧ M6 = Z.length ∧ N = M.length from ⟨k4, k5, k6, hN⟩)
  have ha : At (w.alloc (.cells C.toArray 64)) w.heap.size 64 C := At.new w _ _
  have hb : Below w.heap.size w (w.alloc (.cells C.toArray 64)) := (Below.refl _ _).alloc (Nat.le_refl _) _
  rw [← hC]
  have HA2 := Lib.hid ha
  have HB0 := Lib.hid hb
  clear hE4 hE5 hE6 hE hwd h4 h5 h6 hn h4c hC hM hN hX hY hZ k4 k5 k6 ha hb b4 b5 b6 bn
  go_enter Tryd.func42, Tryd.ntmps42
  go_upto_region 1 with (first
    | ((with_reducible refine wpList_allocZ (o := ⟨some 4, _, _, _, _, _⟩) 64 (letC none 0 0 none 0 0 none 0 0) rfl rfl zeroLet ?_); intro g4 w1 hg hat hb; have HAT4 := Lib.hid hat; have HBA4 := Lib.hid hb; have HGE4 := Lib.hid hg; clear hat hb hg))
  obtain ⟨g2, hg2⟩ : ∃ g, g = w.heap.size := ⟨_, rfl⟩
  rw [← hg2]
  have HB1 := Lib.hid (show Behind w w1 from HB0.out.trans (HBA4.out.mono HB0.out.size))
  have HA21 := Lib.hid (show At w1 g2 64 C from by rw [hg2]; exact HA2.out.below HBA4.out HA2.out.lt)
  have HGG := Lib.hid (show g2 < g4 ∧ g4 < w1.heap.size ∧ w.heap.size ≤ g2 from ⟨by have := HGE4.out; rw [World.size_alloc] at this; omega, HAT4.out.lt, by omega⟩)
  have cf1 : w1.cell? ⟨g2, 1, none⟩ = some (.slice A5 n5 c5) := HA21.out.cell' (i := 1) (by rw [HC.out]; rfl)
  clear hg2 HA2 HBA4 HGE4 HB0
  go_upto_region 8 with (first
    | (go_at_call 38; (with_reducible refine Calls.mono (HKC.out _ HB1.out) ?_); rintro e w2 ⟨B1, d1, rfl, hd1, hE, hb⟩; have HM2 := Lib.hid hE; have HB2 := Lib.hid (show Behind w w2 from Behind.trM HB1.out hb); have HA22 := Lib.hid (HA21.out.below hb HA21.out.lt); have HAT42 := Lib.hid (HAT4.out.below hb HAT4.out.lt); have HW12 := Lib.hid hb.size; clear hE hb hd1 cf1)
    | (with_reducible refine wpList_build (letC none 0 0 none 0 0 none 0 0).toArray (by with_unfolding_all rfl) 64 #[] rfl builtLet0 ?_)
    | ((with_reducible refine wpList_allocZ (o := ⟨some 7, _, _, _, _, _⟩) 64 (letC none 0 0 none 0 0 none 0 0) rfl rfl zeroLet ?_); intro g7 wa hg hat hb; have HAT7a := Lib.hid hat; have HBA7 := Lib.hid hb; have HGE7 := Lib.hid hg; clear hat hb hg)
    | ((with_reducible refine wpList_storeAll rfl 64 (.tmp 7) (.tmp 16) rfl g7 rfl _ _ (letC none 0 0 none 0 0 none 0 0) HAT7a.out rfl rfl HLL.out (let_one _ _ _ _ _ _ _ _ _) ?_); intro w3 hat hg hs; have hbb := Below.ofGrown HBA7.out hg HBA7.out.size (Nat.le_of_eq HGE7.out.symm); have HAT73 := Lib.hid hat; have HB3 := Lib.hid (show Behind w w3 from Behind.trM HB2.out hbb); have HA23 := Lib.hid (HA22.out.below hbb HA22.out.lt); have HAT43 := Lib.hid (HAT42.out.below hbb HAT42.out.lt); have HM3 := Lib.hid (HM2.out.up hbb); have HG7 := Lib.hid (show g4 < g7 ∧ w.heap.size ≤ g7 from ⟨by have h1 := HGE7.out; have h2 := HAT42.out.lt; omega, by have h1 := HGE7.out; have h2 := HB2.out.size; omega⟩); have cf0 : w3.cell? ⟨g2, 0, none⟩ = some (.slice A4 n4 c4) := HA23.out.cell' (i := 0) (by rw [HC.out]; rfl); clear hat hg hs hbb)
    | (go_at_call 32; (with_reducible refine Calls.mono (HAC.out _ _ _ HB3.out HM3.out) ?_); rintro e w4 ⟨B4, B5, B6, d4, d5, d6, rfl, hx, hy, hz, hd4, _, _, hb⟩; have HX4 := Lib.hid hx; have HY4 := Lib.hid hy; have HZ4 := Lib.hid hz; have HD4 := Lib.hid hd4; have HM4 := Lib.hid (HM3.out.up hb); have HB4w := Lib.hid (show Behind w w4 from Behind.trM HB3.out hb); have HA24 := Lib.hid (HA23.out.below hb HA23.out.lt); have HAT44 := Lib.hid (HAT43.out.below hb HAT43.out.lt); have HAT74 := Lib.hid (HAT73.out.below hb HAT73.out.lt); clear hx hy hz hd4 hb cf0)
    | ((with_reducible refine wpList_storeS rfl 45 (.tmp 26) (.tmp 25) rfl g7 0 B4 M4 d4 rfl rfl (by kernel_rfl) 64 (letC none 0 0 none 0 0 none 0 0) HAT74.out (by simp) ?_); intro w5 hat hg hs; have HAT75 := Lib.hid (show At w5 g7 64 (letC B4 M4 d4 none 0 0 none 0 0) from hat); have HX5 := Lib.hid (HX4.out.keep encG_head HAT74.out (let_no _ _ _ _ _ _ _ _ _) hg); have HY5 := Lib.hid (HY4.out.keep encR_head HAT74.out (let_no _ _ _ _ _ _ _ _ _) hg); have HZ5 := Lib.hid (HZ4.out.keep encG_head HAT74.out (let_no _ _ _ _ _ _ _ _ _) hg); have HM5 := Lib.hid (HM4.out.keep encR_head HAT74.out (let_no _ _ _ _ _ _ _ _ _) hg); have HA25 := Lib.hid (HA24.out.grown hg (fun e => by have h1 := Option.some.inj e; have h2 := HGG.out.1; have h3 := HG7.out.1; omega)); have HAT45 := Lib.hid (HAT44.out.grown hg (fun e => by have h1 := Option.some.inj e; have h3 := HG7.out.1; omega)); have HB5w := Lib.hid (show Behind w w5 from Below.ofGrown HB4w.out hg HB4w.out.size HG7.out.2); clear hat hg hs)
    | ((with_reducible refine wpList_storeS rfl 22 (.tmp 28) (.tmp 27) rfl g7 1 B5 M5 d5 rfl rfl (by kernel_rfl) 64 (letC B4 M4 d4 none 0 0 none 0 0) HAT75.out (by simp) ?_); intro w6 hat hg hs; have HAT76 := Lib.hid (show At w6 g7 64 (letC B4 M4 d4 B5 M5 d5 none 0 0) from hat); have HX6 := Lib.hid (HX5.out.keep encG_head HAT75.out (let_no _ _ _ _ _ _ _ _ _) hg); have HY6 := Lib.hid (HY5.out.keep encR_head HAT75.out (let_no _ _ _ _ _ _ _ _ _) hg); have HZ6 := Lib.hid (HZ5.out.keep encG_head HAT75.out (let_no _ _ _ _ _ _ _ _ _) hg); have HM6 := Lib.hid (HM5.out.keep encR_head HAT75.out (let_no _ _ _ _ _ _ _ _ _) hg); have HA26 := Lib.hid (HA25.out.grown hg (fun e => by have h1 := Option.some.inj e; have h2 := HGG.out.1; have h3 := HG7.out.1; omega)); have HAT46 := Lib.hid (HAT45.out.grown hg (fun e => by have h1 := Option.some.inj e; have h3 := HG7.out.1; omega)); have HB6w := Lib.hid (show Behind w w6 from Below.ofGrown HB5w.out hg HB5w.out.size HG7.out.2); clear hat hg hs)
    | ((with_reducible refine wpList_storeS rfl 45 (.tmp 30) (.tmp 29) rfl g7 2 B6 M6 d6 rfl rfl (by kernel_rfl) 64 (letC B4 M4 d4 B5 M5 d5 none 0 0) HAT76.out (by simp) ?_); intro w7 hat hg hs; have HAT77 := Lib.hid (show At w7 g7 64 (letC B4 M4 d4 B5 M5 d5 B6 M6 d6) from hat); have HX7 := Lib.hid (HX6.out.keep encG_head HAT76.out (let_no _ _ _ _ _ _ _ _ _) hg); have HY7 := Lib.hid (HY6.out.keep encR_head HAT76.out (let_no _ _ _ _ _ _ _ _ _) hg); have HZ7 := Lib.hid (HZ6.out.keep encG_head HAT76.out (let_no _ _ _ _ _ _ _ _ _) hg); have HM7 := Lib.hid (HM6.out.keep encR_head HAT76.out (let_no _ _ _ _ _ _ _ _ _) hg); have HA27 := Lib.hid (HA26.out.grown hg (fun e => by have h1 := Option.some.inj e; have h2 := HGG.out.1; have h3 := HG7.out.1; omega)); have HAT47 := Lib.hid (HAT46.out.grown hg (fun e => by have h1 := Option.some.inj e; have h3 := HG7.out.1; omega)); have HB7 := Lib.hid (show Behind w w7 from Below.ofGrown HB6w.out hg HB6w.out.size HG7.out.2); clear hat hg hs))
  have HAG := Lib.hid (show At w7 g7 64 (letC B4 M4 d4 B5 M5 d5 B6 M6 d6) from HAT77.out)
  have cf2 : w7.cell? ⟨g2, 2, none⟩ = some (.slice A6 n6 c6) := HA27.out.cell' (i := 2) (by rw [HC.out]; rfl)
  clear HAT77
  by_cases h6 : n6 = 0
  · have hask : l.asks = [] := List.length_eq_zero_iff.1 (by have := H6.out; omega)
    have hL := HL.out
    rw [if_pos hask, List.append_nil] at hL
    have HL2 := Lib.hid hL
    subst h6
    clear HL hask hL
    go_wp2_with (first
      | (with_reducible refine wpList_loadAll rfl 64 (.tmp 7) rfl g7 rfl _ _ _ (HAG.out) Tryd.underlying64 rfl (let_info _ _ _ _ _ _ _ _ _) ?_)
      | ((with_reducible refine wpList_storeAll rfl 64 (.tmp 4) (.tmp 46) rfl g4 rfl _ _ (letC B4 M4 d4 B5 M5 d5 B6 M6 d6) HAT47.out rfl (by simp) (let_info _ _ _ _ _ _ _ _ _) (let_one _ _ _ _ _ _ _ _ _) ?_); intro w8 hat hg hs; have HAT48 := Lib.hid hat; have HX8 := Lib.hid (HX7.out.keep encG_head HAT47.out (let_no _ _ _ _ _ _ _ _ _) hg); have HY8 := Lib.hid (HY7.out.keep encR_head HAT47.out (let_no _ _ _ _ _ _ _ _ _) hg); have HZ8 := Lib.hid (HZ7.out.keep encG_head HAT47.out (let_no _ _ _ _ _ _ _ _ _) hg); have HM8 := Lib.hid (HM7.out.keep encR_head HAT47.out (let_no _ _ _ _ _ _ _ _ _) hg); have HB8 := Lib.hid (show Behind w w8 from Below.ofGrown HB7.out hg HB7.out.size (by have h1 := HGG.out; omega)); clear hat hg hs))
    refine ret_cellTmp rfl rfl g4 _ _ _ rfl HAT48.out Tryd.underlying64 rfl infoLet _ rfl ?_
    exact ⟨B4, M4, d4, B5, M5, d5, B6, M6, d6, B1, N, d1, rfl, by rw [HL2.out.1]; exact HK.out.1, by rw [HL2.out.2.2.1]; exact HK.out.2.1, by rw [HL2.out.2.1]; exact HK.out.2.2.1, by rw [← HL2.out.2.2.2]; exact HK.out.2.2.2, HD4.out, by rw [HL2.out.1]; exact HX8.out, by rw [HL2.out.2.2.1]; exact HY8.out, by rw [HL2.out.2.1]; exact HZ8.out, by rw [← HL2.out.2.2.2]; exact HM8.out, HB8.out⟩
  · have z6 : (0 : Int) < (n6 : Int) := by omega
    have hask : l.asks ≠ [] := fun e => h6 (by have := H6.out; rw [e] at this; exact this)
    have hL := HL.out
    rw [if_neg hask] at hL
    obtain ⟨Fl, hFl⟩ : ∃ Fl, Fl = fillR l.asks l.items r := ⟨_, rfl⟩
    rw [← hFl] at hL
    obtain ⟨NF, hNF⟩ : ∃ k, k = Fl.length := ⟨_, rfl⟩
    have bF : NF ≤ 16 := by rw [hNF, hFl]; unfold fillR; rw [List.length_take]; omega
    have HFC := Lib.hid (show ∀ W, Behind w W → Calls Tryd.prog 36 #[.slice A6 n6 c6, .slice A5 n5 c5, .slice A n c] W fun e w' => ∃ A' c', e = .returned (.slice A' NF c') ∧ NF ≤ c' ∧ EncIn encR 65 w' A' Fl ∧ Below W.heap.size W w' from fun W hW => by rw [hFl] at hNF ⊢; exact fill_any A6 c6 n6 l.asks A5 c5 n5 l.items A c n r W H6.out (HE6.out W hW) (by have := HB6.out; omega) H5.out (HE5.out W hW) (by have := HB5.out; omega) HN.out (HER.out W hW) (by have := HBN.out; omega) NF hNF)
    have HL2 := Lib.hid hL
    have HNF := Lib.hid hNF
    clear HL hask hL hFl hNF h6
    go_wp2_with fail
    refine wp_region_mix [(1, true), (3, true), (4, true), (5, true), (6, true), (7, true), (0, false), (2, false), (8, false), (9, false), (10, true), (11, false)] (AnsS w g2 C)
      (by kernel_rfl) (by kernel_rfl) (fun _ _ d _ _ h => by cases d <;> exact h) (by kernel_rfl) (by decide) ⟨Behind.trM HB7.out (Below.refl _ _).drew, HA27.out.below (Below.refl _ _).drew HA27.out.lt⟩ ?_
    have hz0 : Behind w7 w7.drew := (Below.refl _ _).drew
    repeat (
      refine wpMix_q (by with_unfolding_all rfl) (by kernel_rfl) ?_
      first
        | go_big_quiet_skip
        | ((with_reducible refine wpQuiet_loadS16 (.slice A6 n6 c6) (by with_unfolding_all rfl) 45 _ _ (by with_unfolding_all rfl) Tryd.underlying45 g2 2 (by with_unfolding_all rfl) (fun w h => h.2.cell' HC2.out) ?_); simp only [Act.put, List.setIfInBounds_toArray, List.set_cons_zero, List.set_cons_succ])
        | ((with_reducible refine wpQuiet_loadS16 (.slice A5 n5 c5) (by with_unfolding_all rfl) 22 _ _ (by with_unfolding_all rfl) Tryd.underlying22 g2 1 (by with_unfolding_all rfl) (fun w h => h.2.cell' HC1.out) ?_); simp only [Act.put, List.setIfInBounds_toArray, List.set_cons_zero, List.set_cons_succ])
        | (go_big_quiet_step (exact fun _ => rfl))
      refine wpMix_qnil ?_)
    refine wpMix_put (.slice (some ⟨w7.drew.heap.size, 0, none⟩) 0 0) (w7.drew.alloc (.cells #[] 38)) (by with_unfolding_all rfl) (by with_unfolding_all rfl) (exec_none (by with_unfolding_all rfl) Tryd.underlying22 sizeRec w7.drew) ⟨Behind.trM HB7.out (hz0.alloc hz0.size _), HA27.out.below (hz0.alloc hz0.size _) HA27.out.lt⟩ ?_
    simp only [Act.put, List.setIfInBounds_toArray, List.set_cons_zero, List.set_cons_succ]
    have hO35 := own_none (k := 65) (enc := encR) w7.drew 38 (base := w7.heap.size) hz0.size
    have hz1 : Behind w7 (w7.drew.alloc (.cells #[] 38)) := hz0.alloc hz0.size _
    obtain ⟨g35, hg35⟩ : ∃ g, g = w7.drew.heap.size := ⟨_, rfl⟩
    rw [← hg35] at hO35 ⊢
    clear hg35 hz0
    generalize w7.drew.alloc (.cells #[] 38) = z1 at hz1 hO35 ⊢
    refine wpMix_step (by with_unfolding_all rfl) (by with_unfolding_all rfl) (fun K hK => wp_append_enc (enc := encR) (k := 65) (.tmp 35) (.tmp 36) 22 38 72 (by with_unfolding_all rfl) _ Tryd.underlying22 info3Rec (by decide) (by decide) w7.heap.size (.slice (some ⟨g35, 0, none⟩) 0 0) 0 [] Y (by with_unfolding_all rfl) hO35 (fun x _ => encR_len x) (fun x _ => encR_one x) B5 M5 d5 (by with_unfolding_all rfl) HK.out.2.1 (HY7.out.up hz1) (by have := HK.out.2.1; unfold maxLen; omega) (by have := HK.out.2.1; omega) hz1.size ?_)
    intro v37 z2 hO37 hg37 _
    have hz2 : Behind w7 z2 := own_below2 hO35 hz1 (Nat.le_refl _) hz1.size hg37
    refine hK _ _ ⟨Behind.trM HB7.out hz2, HA27.out.below hz2 HA27.out.lt⟩ ?_
    simp only [Act.put, List.setIfInBounds_toArray, List.set_cons_zero, List.set_cons_succ]
    rw [Nat.zero_add, List.nil_append, ← HK.out.2.1] at hO37
    clear hK hg37 hO35 hz1
    refine wpMix_call 36 [.slice A6 n6 c6, .slice A5 n5 c5, .slice A n c] (fun v w' => ∃ A' c', v = .slice A' NF c' ∧ EncIn encR 65 w' A' Fl ∧ Below z2.heap.size z2 w') (by with_unfolding_all rfl) (by with_unfolding_all rfl) (by with_unfolding_all rfl) ((HFC.out _ (Behind.trM HB7.out hz2)).mono (fun e w' ⟨A', c', he, _, hE, hb⟩ => ⟨_, he, ⟨Behind.trM HB7.out (Behind.trM hz2 hb), HA27.out.below (Behind.trM hz2 hb) HA27.out.lt⟩, A', c', rfl, hE, hb⟩)) ?_
    rintro v43 z3 hS3 ⟨B43, d43, rfl, hE43, hb3⟩
    simp only [Act.put, List.setIfInBounds_toArray, List.set_cons_zero, List.set_cons_succ]
    have hz3 : Behind w7 z3 := Behind.trM hz2 hb3
    have hO37' := hO37.below hb3
    refine wpMix_step (by with_unfolding_all rfl) (by with_unfolding_all rfl) (fun K hK => wp_append_enc (enc := encR) (k := 65) (.tmp 37) (.tmp 43) 22 38 72 (by with_unfolding_all rfl) _ Tryd.underlying22 info3Rec (by decide) (by decide) w7.heap.size v37 M5 Y Fl (by with_unfolding_all rfl) hO37' (fun x _ => encR_len x) (fun x _ => encR_one x) B43 NF d43 (by with_unfolding_all rfl) HNF.out hE43 (by have := HNF.out; unfold maxLen; omega) (by have := HNF.out; omega) hz3.size ?_)
    intro v44 z4 hO44 hg44 _
    have hz4 : Behind w7 z4 := own_below2 hO37' hz3 (Nat.le_refl _) hz3.size hg44
    refine hK _ _ ⟨Behind.trM HB7.out hz4, HA27.out.below hz4 HA27.out.lt⟩ ?_
    simp only [Act.put, List.setIfInBounds_toArray, List.set_cons_zero, List.set_cons_succ]
    rw [← HNF.out] at hO44
    obtain ⟨n5', hn5⟩ : ∃ k, k = M5 + NF := ⟨_, rfl⟩
    rw [← hn5] at hO44
    obtain ⟨C5, d5', hv44, _, hE44⟩ := hO44.rows (by rw [hn5, List.length_append, ← HK.out.2.1, ← HNF.out]) (fun x _ => encR_len x)
    subst hv44
    clear hK hg44 hO37 hO37' hb3 hE43 hz2 hz3 hS3 hO44
    repeat (
      refine wpMix_q (by with_unfolding_all rfl) (by kernel_rfl) ?_
      first
        | go_big_quiet_skip
        | (go_big_quiet_step (exact fun _ => rfl))
      refine wpMix_qnil ?_)
    have HAG4 := HAG.out.below hz4 HAG.out.lt
    refine wpMix_storeS16 (by with_unfolding_all rfl) (by with_unfolding_all rfl) 22 _ _ (by with_unfolding_all rfl) g7 1 C5 n5' d5' (by with_unfolding_all rfl) (by with_unfolding_all rfl) (by kernel_rfl) 64 (letC B4 M4 d4 B5 M5 d5 B6 M6 d6) HAG4 (by simp) (fun w' hg => ⟨Below.ofGrown (Behind.trM HB7.out hz4) hg (Behind.trM HB7.out hz4).size HG7.out.2, (HA27.out.below hz4 HA27.out.lt).grown hg (fun e => by have h1 := Option.some.inj e; have h2 := HGG.out.1; have h3 := HG7.out.1; omega)⟩) ?_
    intro w9 hat hg hS9
    simp only [Act.put]
    have HAG9 := Lib.hid (show At w9 g7 64 (letC B4 M4 d4 C5 n5' d5' B6 M6 d6) from hat)
    have HX9 := Lib.hid ((HX7.out.up hz4).keep encG_head HAG4 (let_no _ _ _ _ _ _ _ _ _) hg)
    have HY9 := Lib.hid (hE44.keep encR_head HAG4 (let_no _ _ _ _ _ _ _ _ _) hg)
    have HZ9 := Lib.hid ((HZ7.out.up hz4).keep encG_head HAG4 (let_no _ _ _ _ _ _ _ _ _) hg)
    have HM9 := Lib.hid ((HM7.out.up hz4).keep encR_head HAG4 (let_no _ _ _ _ _ _ _ _ _) hg)
    have HAT49 := Lib.hid ((HAT47.out.below hz4 HAT47.out.lt).grown hg (fun e => by have h1 := Option.some.inj e; have h3 := HG7.out.1; omega))
    have HB9 := Lib.hid (show Behind w w9 from hS9.1)
    clear hat hg hS9 HAG4 hE44 hz4
    refine wpMix_nil ?_
    have HL5 := Lib.hid (show n5' = (Y ++ Fl).length from by rw [List.length_append, ← HK.out.2.1, ← HNF.out]; exact hn5)
    clear hn5
    go_wp2_with (first
      | (with_reducible refine wpList_loadAll rfl 64 (.tmp 7) rfl g7 rfl _ _ _ (HAG9.out) Tryd.underlying64 rfl (let_info _ _ _ _ _ _ _ _ _) ?_)
      | ((with_reducible refine wpList_storeAll rfl 64 (.tmp 4) (.tmp 46) rfl g4 rfl _ _ (letC B4 M4 d4 C5 n5' d5' B6 M6 d6) HAT49.out rfl (by simp) (let_info _ _ _ _ _ _ _ _ _) (let_one _ _ _ _ _ _ _ _ _) ?_); intro w8 hat hg hs; have HAT48 := Lib.hid hat; have HX8 := Lib.hid (HX9.out.keep encG_head HAT49.out (let_no _ _ _ _ _ _ _ _ _) hg); have HY8 := Lib.hid (HY9.out.keep encR_head HAT49.out (let_no _ _ _ _ _ _ _ _ _) hg); have HZ8 := Lib.hid (HZ9.out.keep encG_head HAT49.out (let_no _ _ _ _ _ _ _ _ _) hg); have HM8 := Lib.hid (HM9.out.keep encR_head HAT49.out (let_no _ _ _ _ _ _ _ _ _) hg); have HB8 := Lib.hid (show Behind w w8 from Below.ofGrown HB9.out hg HB9.out.size (by have h1 := HGG.out; omega)); clear hat hg hs))
    refine ret_cellTmp rfl rfl g4 _ _ _ rfl HAT48.out Tryd.underlying64 rfl infoLet _ rfl ?_
    exact ⟨B4, M4, d4, C5, n5', d5', B6, M6, d6, B1, N, d1, rfl, by rw [HL2.out.1]; exact HK.out.1, by rw [HL2.out.2.2.1]; exact HL5.out, by rw [HL2.out.2.1]; exact HK.out.2.2.1, by rw [← HL2.out.2.2.2]; exact HK.out.2.2.2, HD4.out, by rw [HL2.out.1]; exact HX8.out, by rw [HL2.out.2.2.1]; exact HY8.out, by rw [HL2.out.2.1]; exact HZ8.out, by rw [← HL2.out.2.2.2]; exact HM8.out, HB8.out⟩
end Go.Proofs.YtefbllhpibfojaaDoor
