/- Layer 13: Walk: what it computes. -/
import Derived.Test.YtdfeiajdmmlllaaDoorRingS
import Derived.Test.YtdfeiajdmmlllaaDoorRegD
import Derived.Test.YtdfeiajdmmlllaaDoorMixQ
import Derived.BigQuiet
namespace Go.Proofs.YtdfeiajdmmlllaaDoor
open Go.Proofs Stab Go.Shelf Go.RowKit Go.Lib Go.Sort Go.Maps

theorem run_load_map {P : Program} {ty k e : TypeId} (hu : P.underlying ty = some (.map k e)) {w : World} {b off : Nat} {v : Value} (hc : w.cell? ⟨b, off, none⟩ = some v) :
    (Instr.loadAt ty (.pointer (some ⟨b, off, none⟩))).run P w = .ok v w := by
  simp [Instr.loadAt, Instr.sureAddr, loadVar, isAgg, run_underlying hu, hc]
theorem wpQuiet_loadM {P : Program} {ops : Array Oper} {C : World → Prop} {Q : Act → Prop} {a : Act} {o : Oper} {rest : List Oper} (v : Value) (hw : Region.wanted o (yielded ops a.tmps) = true) (ty k e : TypeId) (x : Operand) (ho : o.op = .load ty x) (hu : P.underlying ty = some (.map k e)) (b off : Nat) (hx : a.eval x = .pointer (some ⟨b, off, none⟩))
    (hS : ∀ w, C w → w.cell? ⟨b, off, none⟩ = some v) (h : wpQuiet P ops C Q rest (a.put o.dst v)) : wpQuiet P ops C Q (o :: rest) a :=
  wpQuiet_val v hw (fun w hC => by
    unfold execOp
    simp only [ho, hx, Sem.run_bind, Sem.run_pure, run_load_map hu (hS w hC), Result.andThen_ok]) h
theorem wpMix_mapUpdate {H : Type} {P : Program} {ops : Array Oper} {Q : Exit → Act → World → Prop} {S : World → Prop} {i : Nat} {a : Act} {w : World} {o : Oper} {r : List (Nat × Bool)} (hoi : ops.toList[i]? = some o) (hw : Region.wanted o (yielded ops a.tmps) = true) (m x v : Operand) (t : TypeId) (hop : o.op = Op.mapUpdate t m x v)
    (k e : TypeId) (K : Keyed P k) (ht : P.underlying t = some (.map k e)) (R : Value → Option (DataW H × List MemPlace)) (b n : Nat) (D : DataW H)
    (hm : a.eval m = .map (some b)) (hown : w.ownsMap P k R b n D) (hn : n < maxLen) (key val : Value) (kl : Lit) (hx : a.eval x = key) (hv : a.eval v = val) (hkey : keyOf P k key = some kl)
    (d : DataW H) (ps : List MemPlace) (hval : R val = some (d, ps)) (hS : ∀ w', w.grownBy w' (some b) → S w')
    (h : ∀ w', w'.ownsMap P k R b (n + 1) (D.put kl d) → w.grownBy w' (some b) → wpMix P ops S Q r (a.put o.dst undef) w') : wpMix P ops S Q ((i, false) :: r) a w :=
  wpMix_step hoi hw fun K' hK' => by
    obtain ⟨w', hrun, r1, r2⟩ := hown.update K ht hn hkey hval
    unfold Oper.wp
    simp [execOp, hop, hm, hx, hv, hrun, Result.andThen]
    exact hK' _ _ (hS _ r2) (h w' r1 r2)
def CellS (gf b : Nat) (W : World) : Prop := W.cell? ⟨gf, 0, none⟩ = some (.map (some b))
theorem CellS.out {gf b : Nat} {W : World} (h : CellS gf b W) : W.cell? ⟨gf, 0, none⟩ = some (.map (some b)) := h
/-- how far the first nodes are -/
def fK (far : Int → Nat) (L : List Int) : Int → Option Nat := L.foldl (fun f n => Sk.upd f n (far n)) (fun _ => none)
theorem fK_snoc (far : Int → Nat) (L : List Int) (k : Nat) (hk : k < L.length) : fK far (L.take (k + 1)) = Sk.upd (fK far (L.take k)) L[k] (far L[k]) := by
  unfold fK
  rw [List.take_succ_eq_append_getElem hk, List.foldl_append]
  rfl
theorem fK_val (far : Int → Nat) : ∀ (L : List Int) (f : Int → Option Nat) (n : Int), (n ∈ L ∨ f n = some (far n)) → (L.foldl (fun f n => Sk.upd f n (far n)) f) n = some (far n)
  | [], f, n, h => by
    rcases h with h | h
    · cases h
    · exact h
  | x :: L, f, n, h => by
    rw [List.foldl_cons]
    refine fK_val far L _ n ?_
    by_cases hx : n = x
    · right
      unfold Sk.upd
      rw [if_pos hx, hx]
    · rcases h with h | h
      · rcases List.mem_cons.1 h with h | h
        · exact absurd h hx
        · exact .inl h
      · right
        unfold Sk.upd
        rw [if_neg hx]
        exact h
theorem fK_far (far : Int → Nat) (L : List Int) {n : Int} (h : n ∈ L) : valF (fK far L) n = far n := by
  unfold valF fK
  rw [fK_val far L _ n (.inl h)]
  rfl
theorem walk_cong (key : List UInt8) (l : List Int) : S (leC (cfN (valF (fK (farR key) (nodesOf l))))) (nodesOf l) = walkK key l := by
  unfold walkK walkR
  refine S_cong _ fun x hx y hy => ?_
  rw [leC_cfN, leC_cfN, fK_far _ _ hx, fK_far _ _ hy]
/-- the row that Walk owns, and its map -/
structure Wk (w0 : World) (gf b B N : Nat) (v : Value) (f : Int → Option Nat) (k : Nat) (l : List Int) (w : World) : Prop where
  below : Below w0.heap.size w0 w
  cell : w.cell? ⟨gf, 0, none⟩ = some (.map (some b))
  far : FarAt w b k f
  row : w.ownsRow B 3 1 v N (l.map (Value.int .i64))
  lt : w0.heap.size ≤ b ∧ b < gf ∧ gf < B ∧ gf < w.heap.size
theorem row_below {w w' : World} {B N : Nat} {v : Value} {xs : List Value} (h : w.ownsRow B 3 1 v N xs) (hb : Behind w w') : w'.ownsRow B 3 1 v N xs := by
  refine ⟨h.1, ?_⟩
  rcases h.2 with h0 | ⟨g, cap, cur, e, hB, hg, r⟩
  · exact .inl h0
  · exact .inr ⟨g, cap, cur, e, hB, (hb.block g (Array.getElem?_eq_some_iff.1 hg).1).trans hg, r⟩
theorem row_grown {w w' : World} {B N b : Nat} {v : Value} {xs : List Value} (h : w.ownsRow B 3 1 v N xs) (hg : w.grownBy w' (some b)) (hb : b < B) : w'.ownsRow B 3 1 v N xs := by
  refine ⟨h.1, ?_⟩
  rcases h.2 with h0 | ⟨g, cap, cur, e, hB, hgg, r⟩
  · exact .inl h0
  · exact .inr ⟨g, cap, cur, e, hB, (hg.block g (Array.getElem?_eq_some_iff.1 hgg).1 (fun e => by have := Option.some.inj e; omega)).trans hgg, r⟩
theorem far_below {w w' : World} {b N : Nat} {f : Int → Option Nat} (h : FarAt w b N f) (hb : Behind w w') : FarAt w' b N f := by
  obtain ⟨⟨es, clock, h1, h2⟩, hs⟩ := h
  exact ⟨⟨es, clock, (hb.block b (Array.getElem?_eq_some_iff.1 h1).1).trans h1, h2⟩, hs⟩
theorem Wk.up {w0 w w' : World} {gf b B N k : Nat} {v : Value} {f : Int → Option Nat} {l : List Int} (h : Wk w0 gf b B N v f k l w) (hb : Behind w w') : Wk w0 gf b B N v f k l w' :=
  ⟨h.below.trans (Below.mono hb h.below.size), (hb.cell (p := ⟨gf, 0, none⟩) h.lt.2.2.2).trans h.cell, far_below h.far hb, row_below h.row hb, h.lt.1, h.lt.2.1, h.lt.2.2.1, Nat.lt_of_lt_of_le h.lt.2.2.2 hb.size⟩
/-- the row is written -/
theorem Wk.wrote {w0 w w' : World} {gf b B N N' k : Nat} {v v' : Value} {f : Int → Option Nat} {l l' : List Int} (h : Wk w0 gf b B N v f k l w) (hr : w'.ownsRow B 3 1 v' N' (l'.map (Value.int .i64))) (hg : w.grownBy w' v.ownBlock) : Wk w0 gf b B N' v' f k l' w' := by
  have hv : ∀ j, v.ownBlock = some j → B ≤ j := fun j hj => (h.row.lt j hj).1
  refine ⟨h.below.grown hg h.below.size (fun j hj => by have := hv j hj; have := h.lt; omega), ?_, h.far.kept hg (fun e => by have := hv b e.symm; have := h.lt; omega), hr, h.lt.1, h.lt.2.1, h.lt.2.2.1, Nat.lt_of_lt_of_le h.lt.2.2.2 hg.size⟩
  have hb := hg.block gf h.lt.2.2.2 (fun e => by have := hv gf e.symm; have := h.lt; omega)
  have hc := h.cell
  unfold World.cell? at hc ⊢
  rw [hb]
  exact hc
/-- an entry is put -/
theorem Wk.put {w0 w w' : World} {gf b B N k : Nat} {v : Value} {f f' : Int → Option Nat} {l : List Int} (h : Wk w0 gf b B N v f k l w) (hf : FarAt w' b (k + 1) f') (hg : w.grownBy w' (some b)) : Wk w0 gf b B N v f' (k + 1) l w' := by
  refine ⟨h.below.grown hg h.below.size (fun j hj => by have := Option.some.inj hj; have := h.lt; omega), ?_, hf, row_grown h.row hg (by have := h.lt; omega), h.lt.1, h.lt.2.1, h.lt.2.2.1, Nat.lt_of_lt_of_le h.lt.2.2.2 hg.size⟩
  have hb := hg.block gf h.lt.2.2.2 (fun e => by have := Option.some.inj e; have := h.lt; omega)
  have hc := h.cell
  unfold World.cell? at hc ⊢
  rw [hb]
  exact hc
theorem nodes_len (l : List Int) : (nodesOf l).length ≤ 6 := List.length_filter_le _ six
theorem walk_rows {w : World} {B N : Nat} {v : Value} {l : List Int} (h : w.ownsRow B 3 1 v N (l.map (Value.int .i64))) : ∃ A c, v = .slice A N c ∧ N ≤ c ∧ N = l.length ∧ EncIn encN 1 w A l := by
  have h2 := own_ofRow h
  rw [← flat_encN] at h2
  have hn : N = l.length := by
    have h1 := h.1
    rw [List.length_map, Nat.mul_one] at h1
    exact h1.symm
  obtain ⟨A, c, h3, h4, h5⟩ := h2.rows hn (fun _ _ => rfl)
  exact ⟨A, c, h3, h4, hn, h5⟩
set_option maxRecDepth 100000 in
set_option maxHeartbeats 4000000 in
theorem walk_any (key : List UInt8) (hk : key.length = 32) (A : Option Addr) (c n : Nat) (l : List Int) (w : World) (hn : n = l.length) (hE : EncIn encN 1 w A l) (hs : n < 1000) (hwd : Tab w 0 (u32s Sha.words)) (M : Nat) (hM : M = (walkK key l).length) :
    Calls Tryd.prog 13 #[.agg (u8s key).toArray, .slice A n c] w fun e w' => ∃ A' c', e = .returned (.slice A' M c') ∧ M ≤ c' ∧ EncIn encN 1 w' A' (walkK key l) ∧ Below w.heap.size w w' := by
  have h1 : At (w.alloc (.cells (u8s key).toArray 23)) w.heap.size 23 (u8s key) := At.new w _ _
  have hb : Below w.heap.size w (w.alloc (.cells (u8s key).toArray 23)) := (Below.refl _ _).alloc (Nat.le_refl _) _
  have HK1 := Lib.hid h1
  have HB0 := Lib.hid (show Behind w _ from hb)
  have HE := Lib.hid hE
  have HN := Lib.hid hn
  have HS := Lib.hid hs
  have HM := Lib.hid hM
  have HW := Lib.hid (show ∀ W, Behind w W → Tab W 0 (u32s Sha.words) from fun W h => hwd.below h hwd.lt)
  have HU := Lib.hid Tryd.underlying23
  have HI := Lib.hid (show (Tryd.prog.info? 23).map (·.size) = some (u8s key).length by
    have e : (Tryd.prog.info? 23).map (·.size) = some 32 := by kernel_rfl
    rw [e]
    simp [u8s, hk])
  have HP := Lib.hid (show ∀ W, Calls Tryd.prog 10 #[.agg (u8s key).toArray] W fun e w' => e = .returned (.int .u64 (placeR key)) ∧ Below W.heap.size W w' from fun W => place_any key hk W)
  have HPL := Lib.hid (place_lt key)
  have hmm : ∀ W, (Instr.makeMap 46 none).run Tryd.prog W = .ok (.map (some W.heap.size)) (W.alloc (.map #[] 0)) := fun _ => rfl
  clear h1 hb hE hn hs hM hwd hk
  go_enter Tryd.func13, Tryd.ntmps13
  go_upto_region 3 with (first
    | (with_reducible refine wpList_loadAll rfl 23 (.tmp 2) rfl w.heap.size rfl _ _ _ HK1.out HU.out rfl HI.out ?_)
    | (go_at_call 10; (with_reducible refine Calls.mono (HP.out _) ?_); rintro e w1 ⟨rfl, hb⟩; have HB1 := Lib.hid (show Behind w w1 from Behind.trans' HB0.out hb); clear hb))
  have hF0 : FarAt ((w1.alloc (.map #[] 0)).alloc (.cells #[.map (some w1.heap.size)] 46)) w1.heap.size 0 (fun _ => none) := by
    refine ⟨?_, Sk.sane_none⟩
    rw [Sk.mapD_none]
    exact (World.ownsMap_made w1 Tryd.prog 3 readU).kept (row := none) (grown_alloc (World.grownBy.refl _ _) _) (by simp)
  have hC0 : ((w1.alloc (.map #[] 0)).alloc (.cells #[.map (some w1.heap.size)] 46)).cell? ⟨w1.heap.size + 1, 0, none⟩ = some (.map (some w1.heap.size)) := by
    have h := At.new (w1.alloc (.map #[] 0)) 46 [.map (some w1.heap.size)]
    rw [World.size_alloc] at h
    exact h.cell' rfl
  have hB2 : Below w.heap.size w ((w1.alloc (.map #[] 0)).alloc (.cells #[.map (some w1.heap.size)] 46)) := (HB1.out.alloc HB1.out.size _).alloc (by rw [World.size_alloc]; have := HB1.out.size; omega) _
  have hsz : ((w1.alloc (.map #[] 0)).alloc (.cells #[.map (some w1.heap.size)] 46)).heap.size = w1.heap.size + 2 := by simp
  have hsz1 := HB1.out.size
  obtain ⟨b, hbb⟩ : ∃ b, b = w1.heap.size := ⟨_, rfl⟩
  obtain ⟨gf, hgf⟩ : ∃ g, g = w1.heap.size + 1 := ⟨_, rfl⟩
  rw [← hgf] at hC0 ⊢
  rw [← hbb] at hF0 hC0 hB2 hsz ⊢
  generalize (w1.alloc (.map #[] 0)).alloc (.cells #[.map (some b)] 46) = w2 at hF0 hC0 hB2 hsz ⊢
  have HLT := Lib.hid (show w.heap.size ≤ b ∧ b < gf ∧ gf < w2.heap.size ∧ gf < w2.heap.size from ⟨by omega, by omega, by omega, by omega⟩)
  have HF0 := Lib.hid hF0
  have HC0 := Lib.hid hC0
  have HB2 := Lib.hid (show Behind w w2 from hB2)
  have HCL := Lib.hid (clone_z (w := w2) (c := c) HN.out (HE.out.up HB2.out) (by have := HS.out; omega))
  clear hF0 hC0 hB2 hsz hbb hgf hsz1 hmm
  go_upto_region 6 with (first
    | (go_at_call 22; refine Calls.mono HCL.out ?_; rintro e w3 ⟨v3, rfl, hr, hb⟩; have HK3 := Lib.hid (show Wk w gf b w2.heap.size n v3 (fun _ => none) 0 l w3 from ⟨HB2.out.trans (Below.mono hb HB2.out.size), (hb.cell (p := ⟨gf, 0, none⟩) HLT.out.2.2.1).trans HC0.out, far_below HF0.out hb, hr, HLT.out.1, HLT.out.2.1, HLT.out.2.2.1, Nat.lt_of_lt_of_le HLT.out.2.2.1 hb.size⟩); clear hr hb)
    | (go_at_call 23; refine Calls.mono (sort_z HK3.out.row (by have := HS.out; omega)) ?_; rintro e w4 ⟨rfl, hr, hg⟩; have HK4 := Lib.hid (HK3.out.wrote hr hg); clear hr hg)
    | (go_at_call 25; refine Calls.mono (comp_z HK4.out.row (by have := HS.out; omega)) ?_; rintro e w5 ⟨v5, m5, rfl, hr, hg, _, hm⟩; have HK5 := Lib.hid (HK4.out.wrote hr hg); have HM5 := Lib.hid hm; clear hr hg hm)
    | (go_at_call 24; refine Calls.mono (del_z HK5.out.row (by have := HS.out; have := HM5.out; omega)) ?_; rintro e w6 ⟨v6, N, rfl, hr, hg, _, hm⟩; have hk := HK5.out.wrote hr hg; rw [filter_nodes] at hk; have HK6 := Lib.hid hk; clear hr hg hm hk))
  obtain ⟨A6, c6, hv6, hc6, hN6, _⟩ := walk_rows HK6.out.row
  have hN7 : N ≤ 6 := by rw [hN6]; exact nodes_len l
  have HN6 := Lib.hid hN6
  obtain ⟨L, hL⟩ : ∃ L, L = nodesOf l := ⟨_, rfl⟩
  rw [← hL] at HK6 HN6
  have HL := Lib.hid hL
  have HNR := Lib.hid (show ∀ (x : Int) (fx : Nat) W, 1 ≤ x ∧ x ≤ 6 → fx = farR key x → Behind w W → Calls Tryd.prog 27 #[.int .u64 (placeR key), .int .i64 x] W fun e w' => e = .returned (.int .u64 fx) ∧ Below W.heap.size W w' from fun x fx W hx hf hW => by rw [hf]; exact near_any (placeR key) HPL.out x hx W (HW.out W hW))
  have HLM := Lib.hid (show ∀ x ∈ L, 1 ≤ x ∧ x ≤ 6 from fun x hx => by rw [hL] at hx; exact (mem_nodes.1 hx).2)
  obtain ⟨F, hF⟩ : ∃ F, F = farR key := ⟨_, rfl⟩
  have HFF := Lib.hid hF
  clear hN6 hL hF
  subst hv6
  go_wp2_with fail
  go_loopg [22] N (fun gg s22 wr => ∃ k : Nat, s22 = .int .i64 k ∧ k ≤ N ∧ N - k ≤ gg ∧ Hid (Wk w gf b w2.heap.size N (.slice A6 N c6) (fK F (L.take k)) k L wr))
  case atStart => exact ⟨0, rfl, Nat.zero_le _, by omega, HK6.out⟩
  case round =>
    obtain ⟨k, rfl, hk, hgg, HWk⟩ := hrel
    by_cases hlt : k < N
    · have hltz : (k : Int) < (N : Int) := by omega
      have i0 : (0 : Int) ≤ (k : Int) := by omega
      have hkl : k < L.length := by have := HN6.out; omega
      obtain ⟨A', c', e1, hcc, hNN, hE'⟩ := walk_rows HWk.out.row
      injection e1 with e1 e2 e3
      subst e1
      clear hcc hNN e2 e3
      obtain ⟨g, off, hA, hg, hr⟩ := hE'.at hkl
      obtain ⟨x, hx⟩ : ∃ x, x = L[k] := ⟨_, rfl⟩
      have hc : wr.cell? ⟨g, off + k, none⟩ = some (.int .i64 x) := by
        have h := hr 0 _ rfl
        rw [Nat.mul_one, Nat.add_zero] at h
        rw [hx]
        exact h
      have hxx : 1 ≤ x ∧ x ≤ 6 := by rw [hx]; exact HLM.out _ (List.getElem_mem hkl)
      obtain ⟨fx, hfx⟩ : ∃ y, y = F x := ⟨_, rfl⟩
      have hup := fK_snoc F L k hkl
      rw [← hx, ← hfx] at hup
      have HUP := Lib.hid hup
      have HXX := Lib.hid hxx
      have HFX := Lib.hid (show fx = farR key x by rw [hfx, HFF.out])
      have hcf := HWk.out.cell
      clear hup hxx hfx hx hr hE' hg
      subst hA
      go_upto_region 9 with fail
      refine wp_region_mix [(0, true), (1, true), (2, true), (3, true), (4, false), (5, false)] (CellS gf b)
        (by kernel_rfl) (by kernel_rfl) (fun _ _ d _ _ h => by cases d <;> exact h) (by kernel_rfl) (by decide) (show CellS gf b wr.drew from hcf) ?_
      repeat (
        refine wpMix_q (by with_unfolding_all rfl) (by kernel_rfl) ?_
        first
          | go_big_quiet_skip
          | ((with_reducible refine wpQuiet_loadM (.map (some b)) (by with_unfolding_all rfl) 46 _ _ _ (by with_unfolding_all rfl) Tryd.underlying46 gf 0 (by with_unfolding_all rfl) (fun w h => CellS.out h) ?_); simp only [Act.put, List.setIfInBounds_toArray, List.set_cons_zero, List.set_cons_succ])
          | (go_big_quiet_step (exact fun _ => rfl))
        refine wpMix_qnil ?_)
      have hz0 : Behind wr wr.drew := (Below.refl _ _).drew
      have hWz := HWk.out.up hz0
      refine wpMix_call 27 [.int .u64 (placeR key), .int .i64 x] (fun v w' => v = .int .u64 fx ∧ Below wr.drew.heap.size wr.drew w') (by with_unfolding_all rfl) (by with_unfolding_all rfl) (by with_unfolding_all rfl) ((HNR.out x fx wr.drew HXX.out HFX.out hWz.below).mono (fun e w' ⟨he, hb⟩ => ⟨_, he, (hWz.up hb).cell, rfl, hb⟩)) ?_
      rintro v30 z1 _ ⟨rfl, hb1⟩
      simp only [Act.put, List.setIfInBounds_toArray, List.set_cons_zero, List.set_cons_succ]
      have hW1 := hWz.up hb1
      refine wpMix_mapUpdate (H := Unit) (by with_unfolding_all rfl) (by with_unfolding_all rfl) (.tmp 26) (.tmp 27) (.tmp 30) 46 (by with_unfolding_all rfl) 3 27 keyed_int Tryd.underlying46 readU b k (Sk.mapD farD (fK F (L.take k))) (by with_unfolding_all rfl) hW1.far.1 (by unfold maxLen; omega) (.int .i64 x) (farV fx) (.int .i64 x) (by with_unfolding_all rfl) (by with_unfolding_all rfl) (key_int (by have := HXX.out; omega) (by have := HXX.out; omega)) (farD fx) [] (readU_far fx) (fun w' hg => by
        have hb := hg.block gf hW1.lt.2.2.2 (fun e => by have := Option.some.inj e; have := hW1.lt; omega)
        have hc := hW1.cell
        unfold CellS
        unfold World.cell? at hc ⊢
        rw [hb]
        exact hc) ?_
      intro z2 ho2 hg2
      simp only [Act.put]
      refine wpMix_nil ?_
      rw [Sk.put_mapD _ fx (Sk.node_mem HXX.out.1 HXX.out.2), ← HUP.out] at ho2
      have hf2 : FarAt z2 b (k + 1) (fK F (L.take (k + 1))) := ⟨ho2, by rw [HUP.out]; exact Sk.sane_upd hW1.far.2 (Sk.node_mem HXX.out.1 HXX.out.2) _⟩
      have HW2 := Lib.hid (hW1.put hf2 hg2)
      clear hf2 ho2 hg2 hW1 hb1 hWz hz0 hcf HWk
      go_wp2_with fail
      go_roundg (N - (k + 1))
      case measure => omega
      case rel => exact ⟨k + 1, by go_num, by omega, Nat.le_refl _, HW2.out⟩
    · have hltz : ¬ (k : Int) < (N : Int) := by omega
      have hkn : k = N := by omega
      have htl : L.take k = L := List.take_of_length_le (by have := HN6.out; omega)
      have hwk := HWk.out
      rw [htl] at hwk
      have HWf := Lib.hid hwk
      clear hwk htl hkn HWk hgg
      have HST := Lib.hid (stable_z (v := .slice A6 N c6) (valF (fK F L)) #[.pointer (some ⟨gf, 0, none⟩)] HLM.out HWf.out.row (fun x y W hx hy hg => by
        have hv : ∀ j, (Value.slice A6 N c6).ownBlock = some j → w2.heap.size ≤ j := fun j hj => (HWf.out.row.lt j hj).1
        have hb := hg.block gf HWf.out.lt.2.2.2 (fun e => by have := hv gf e.symm; have := HWf.out.lt; omega)
        have hc : W.cell? ⟨gf, 0, none⟩ = some (.map (some b)) := by
          have hc := HWf.out.cell
          unfold World.cell? at hc ⊢
          rw [hb]
          exact hc
        exact walk2_any x y hx hy gf b k (fK F L) W hc (HWf.out.far.kept hg (fun e => by have := hv b e.symm; have := HWf.out.lt; omega))) (by omega))
      go_wp2_with (go_at_call 28; refine Calls.mono HST.out ?_; rintro e w8 ⟨rfl, hr, hg⟩; have HK8 := Lib.hid (HWf.out.wrote hr hg); clear hr hg)
      go_ret
      have h8 := HK8.out
      rw [HFF.out, HL.out, walk_cong] at h8
      obtain ⟨A8, c8, hv8, hc8, hN8, hE8⟩ := walk_rows h8.row
      injection hv8 with e1 e2 e3
      subst e1 e3
      rw [HM.out, ← hN8]
      exact ⟨_, _, rfl, hc8, hE8, h8.below⟩
end Go.Proofs.YtdfeiajdmmlllaaDoor
