/- Layer 12: a round of a camp, its walk. -/
import Derived.Test.YtghefmppjdneoaaCampBM
namespace Go.Proofs.Ytghefmppjdneoaa
open Go.Proofs Stab Go.Shelf Go.RowKit Go.Lib Go.Sort Go.Maps

/-- what a round's drawn regions read -/
structure CampS (p gS i : Nat) (v0 : Value) (q : Nat) (w : World) : Prop where
  a0 : w.cell? ⟨p, 0, none⟩ = some v0
  a2 : w.cell? ⟨gS, i, none⟩ = some (.pointer (some ⟨q, 0, none⟩))
theorem turn_app_net {ops : Array Oper} {Q : Exit → Act → World → Prop} {S : World → Prop} {W : Act → World → Prop} {i : Nat} {a : Act} {w : World} {o : Oper} (ho : ops.toList[i]? = some o) (hw : Region.wanted o (yielded ops a.tmps) = true) (y z : Operand) (hop : o.op = .call { callee := .builtin .append, args := #[y, z], argTypes := #[33, 33] }) {c c2 : Nat} {A A2 : Option Addr} {L L2 : List Fp} (hx : a.eval y = .slice A L.length c) (hy : a.eval z = .slice A2 L2.length c2)
    (hR : SRow w A c L) (hr : L2 = [] ∨ ∃ g, A2 = some ⟨g, 0, none⟩ ∧ w.rangeAt g 0 (fpsC L2)) (hl : L.length + L2.length ≤ 1000)
    (h : ∀ A' c' w', SRow w' A' c' (L ++ L2) → (∀ g, blkOf A' = some g → blkOf A = some g ∨ w.heap.size ≤ g) → Keeps (fun i => blkOf A ≠ some i) w w' → S w' ∧ W (a.put o.dst (.slice A' (L ++ L2).length c')) w') : turnT Try.prog ops S Q W i a w := by
  obtain ⟨A', c', w', e, h1, h2, h3⟩ := exec_app_net y z hop hx hy hR hr hl
  obtain ⟨hS, hW⟩ := h A' c' w' h1 h2 h3
  exact turn_put _ w' ho hw e hS hW
theorem exec_loadN {ρ : Operand → Value} {o : Oper} (y : Operand) (ho : o.op = .load 33 y) (g off : Nat) (hy : ρ y = .pointer (some ⟨g, off, none⟩)) {w : World} {v : Value} (hc : w.cell? ⟨g, off, none⟩ = some v) : (execOp ρ o).run Try.prog w = .ok (.value v) w := by
  unfold execOp
  simp only [ho, hy, Sem.run_bind, run_load_slice Try.underlying33 hc, Result.andThen_ok, Sem.run_pure]
/-- frames that may come -/
def FrW (n : Nat) (x : Fr) : Prop := (1 ≤ x.to_ ∧ x.to_ ≤ (n : Int)) ∧ (1 ≤ x.frm ∧ x.frm ≤ (n : Int)) ∧ x.rum.length ≤ 6 ∧ ∀ m ∈ x.rum, -9223372036854775808 ≤ m.n ∧ m.n ≤ 9223372036854775807
theorem run_stuck (S : Int → Bool) {C : Cmp} (h : C.net = []) : ∀ k, run S k C = C
  | 0 => rfl
  | k + 1 => by
    show run S k (deliver S C) = C
    have e : deliver S C = C := by
      unfold deliver
      rw [h]
    rw [e]
    exact run_stuck S h k
theorem run_add (S : Int → Bool) : ∀ (a b : Nat) (C : Cmp), run S (a + b) C = run S b (run S a C)
  | 0, b, C => by rw [Nat.zero_add]; rfl
  | a + 1, b, C => by
    rw [Nat.add_right_comm]
    exact run_add S a b (deliver S C)
theorem deliver_yes {S : Int → Bool} {C : Cmp} {x : Fr} {r : List Fr} (h : C.net = x :: r) (h1 : S x.to_ = false) (h2 : S x.frm = false) : deliver S C = ⟨setX C.X x.to_ ((C.X x.to_).hear x).1, r ++ ((C.X x.to_).hear x).2⟩ := by
  unfold deliver
  rw [h]
  exact if_pos ⟨h1, h2⟩
theorem deliver_no {S : Int → Bool} {C : Cmp} {x : Fr} {r : List Fr} (h : C.net = x :: r) (h1 : S x.to_ = true ∨ S x.frm = true) : deliver S C = ⟨C.X, r⟩ := by
  unfold deliver
  rw [h]
  refine if_neg fun h2 => ?_
  rcases h1 with e | e
  · rw [h2.1] at e; cases e
  · rw [h2.2] at e; cases e
theorem wrap64_in (x : Int) : -9223372036854775808 ≤ wrap64 x ∧ wrap64 x ≤ 9223372036854775807 := by unfold wrap64; omega
/-- what one of its scouts has done -/
def GaveC (w0 w : World) (p gS cS gq : Nat) (sp : Nat → Nat) (n M : Nat) (S : Int → Bool) (A : Option Addr) (c : Nat) (L : List Fp) (X : Int → Sct) (i : Int) (t : Sct) (l : List Fr) (v : Value) : Prop :=
  ∃ OS' L2 A2 c2, L2.map (·.x) = l ∧ CmpAt w0 w ⟨p, gS, cS, gq, sp, OS'⟩ n M S A c L (setX X i t) ∧ NewS w ⟨p, gS, cS, gq, sp, OS'⟩ n A v L2 A2 c2
section
variable {w0 w w' : World} {p gS cS gq : Nat} {sp : Nat → Nat} {OS : Nat → Nat → Prop} {n M : Nat} {S : Int → Bool} {A : Option Addr} {c : Nat} {L : List Fp} {X : Int → Sct}
theorem CmpAt.camps (h : CmpAt w0 w ⟨p, gS, cS, gq, sp, OS⟩ n M S A c L X) {i : Nat} (h1 : 1 ≤ i) (h2 : i ≤ n) : CampS p gS i (.slice (some ⟨gS, 0, none⟩) (n + 1) cS) (sp i) w := ⟨h.hd.cell' rfl, h.ptr i h1 h2⟩
theorem CmpAt.mid (h : CmpAt w0 w ⟨p, gS, cS, gq, sp, OS⟩ n M S A c L X) {i : Nat} (h1 : 1 ≤ i) (h2 : i ≤ n) (hk : Keeps (fun i => blkOf A ≠ some i) w w') : CampS p gS i (.slice (some ⟨gS, 0, none⟩) (n + 1) cS) (sp i) w' ∧ (w'.cell? ⟨p, 1, none⟩).isSome = true ∧ w'.frozen? ⟨p, 1, none⟩ = false ∧ ∀ v, CampS p gS i (.slice (some ⟨gS, 0, none⟩) (n + 1) cS) (sp i) (w'.setCell ⟨p, 1, none⟩ v) := by
  have hd := h.hd.keeps hk (fun e => (h.rowo _ e).2.1 rfl)
  have hS : w'.cell? ⟨gS, i, none⟩ = some (.pointer (some ⟨sp i, 0, none⟩)) := (World.cell?_of_block (w := w) (hk.block gS (fun e => (h.rowo _ e).2.2.1 rfl) h.ltS)).trans (h.ptr i h1 h2)
  refine ⟨⟨hd.cell' rfl, hS⟩, by rw [hd.cell' (i := 1) rfl]; rfl, hd.frozen 1, fun v => ⟨(hd.set 1 v).cell' rfl, ?_⟩⟩
  have hg : w'.grownBy (w'.setCell ⟨p, 1, none⟩ v) (some p) := grown_setCell (World.grownBy.refl _ _) (.inl rfl) _
  exact (World.cell?_of_block (w := w') (hg.block gS (Nat.lt_of_lt_of_le h.ltS hk.size) (by intro e; injection e with e; exact h.newp.2.2.2.1 e.symm))).trans hS
theorem CmpAt.gaveC {M' : Nat} (h : CmpAt w0 w ⟨p, gS, cS, gq, sp, OS⟩ n M S A c L X) {i : Nat} (h1 : 1 ≤ i) (h2 : i ≤ n) {t : Sct} {v : Value} {l : List Fr} (hG : Gave Unit w w' (OS i) M' (sp i) t v l) (hM : M ≤ M') : GaveC w0 w' p gS cS gq sp n M' S A c L X i t l v := by
  obtain ⟨⟨p', gS', cS', gq', sp', OS'⟩, ⟨e1, e2, e3, e4, e5⟩, hC, L2, A2, c2, hl, hN, _⟩ := h.gave h1 h2 hG hM
  simp only at e1 e2 e3 e4 e5
  subst e1 e2 e3 e4 e5
  exact ⟨OS', L2, A2, c2, hl, hC, hN⟩
theorem CmpAt.ticked (h : CmpAt w0 w ⟨p, gS, cS, gq, sp, OS⟩ n M S A c L X) {i : Nat} (h1 : 1 ≤ i) (h2 : i ≤ n) (hM : M + 12 < 1000000) (d : Int) (hd : -9223372036854775808 ≤ d ∧ d ≤ 9223372036854775807) :
    Calls Try.prog 12 #[.pointer (some ⟨sp i, 0, none⟩), .int .i64 d] w fun e w' => ∃ v, e = .returned v ∧ GaveC w0 w' p gS cS gq sp n (M + 10) S A c L X i ((X i).tick d).1 ((X i).tick d).2 v :=
  ((h.sc i h1 h2).tick hM d hd).mono fun _ _ ⟨v, he, hG⟩ => ⟨v, he, h.gaveC h1 h2 hG (by omega)⟩
theorem CmpAt.hears (h : CmpAt w0 w ⟨p, gS, cS, gq, sp, OS⟩ n M S A c L X) {i : Nat} (h1 : 1 ≤ i) (h2 : i ≤ n) {F : List Value} {x : Fr} {B : Option Addr} {cb : Nat} (hM : M + 20 < 1000000) (hF : FrIs F x B cb) (hR : MemsIn w B x.rum) (hRO : 0 < x.rum.length → ∀ g, blkOf B = some g → ¬ OS i g) (h6 : x.rum.length ≤ 6) (hR64 : ∀ m ∈ x.rum, -9223372036854775808 ≤ m.n ∧ m.n ≤ 9223372036854775807) (h64 : -9223372036854775808 ≤ x.frm ∧ x.frm ≤ 9223372036854775807) :
    Calls Try.prog 13 #[.pointer (some ⟨sp i, 0, none⟩), .agg F.toArray] w fun e w' => ∃ v, e = .returned v ∧ GaveC w0 w' p gS cS gq sp n (M + 8) S A c L X i ((X i).hear x).1 ((X i).hear x).2 v ∧ Keeps (fun b => ¬ OS i b) w w' :=
  ((h.sc i h1 h2).hear (by omega) hF hR (fun h0 g hg => ⟨hRO h0 g hg, mem_blk hR h0 hg⟩) hR64 h64).mono fun _ _ ⟨v, he, hG⟩ => ⟨v, he, (h.gaveC h1 h2 hG (by omega)) |> fun ⟨OS', L2, A2, c2, hl, hC, hN⟩ => ⟨OS', L2, A2, c2, hl, hC.mono (by omega), hN⟩, hG |> fun ⟨_, _, _, _, g3, _⟩ => g3⟩
theorem CmpAt.row1 (h : CmpAt w0 w ⟨p, gS, cS, gq, sp, OS⟩ n M S A c L X) : w.cell? ⟨p, 1, none⟩ = some (.slice A L.length c) := h.hd.cell' rfl
theorem CmpAt.row0 (h : CmpAt w0 w ⟨p, gS, cS, gq, sp, OS⟩ n M S A c L X) : w.cell? ⟨p, 0, none⟩ = some (.slice (some ⟨gS, 0, none⟩) (n + 1) cS) := h.hd.cell' rfl
theorem CmpAt.rowf (h : CmpAt w0 w ⟨p, gS, cS, gq, sp, OS⟩ n M S A c L X) : w.frozen? ⟨p, 1, none⟩ = false := h.hd.frozen 1
theorem run_lssI0 (a b : Int) (h : b ≤ a) (w : World) : (binOp .lss 3 (.int .i64 a) (.int .i64 b)).run Try.prog w = .ok (.bool false) w := by
  have : ¬ a < b := by omega
  go_simp
theorem exec_f1 {ρ : Operand → Value} {o : Oper} (y : Operand) (ho : o.op = .fieldAddr 59 y 1) (g : Nat) (hx : ρ y = .pointer (some ⟨g, 0, none⟩)) (w : World) : (execOp ρ o).run Try.prog w = .ok (.value (.pointer (some ⟨g, 1, none⟩))) w := by
  unfold execOp
  simp only [ho, hx]
  go_simp
theorem exec_f14 {ρ : Operand → Value} {o : Oper} (y : Operand) (ho : o.op = .fieldAddr 57 y 14) (g : Nat) (hx : ρ y = .pointer (some ⟨g, 1, none⟩)) (w : World) : (execOp ρ o).run Try.prog w = .ok (.value (.pointer (some ⟨g, 237, none⟩))) w := by
  unfold execOp
  simp only [ho, hx]
  go_simp
/-- what is looked at of a frame -/
structure MsgS (gx p : Nat) (a : Int) (v0 v1 : Value) (w : World) : Prop where
  x0 : w.cell? ⟨gx, 0, none⟩ = some (.int .i64 a)
  xr : w.cell? ⟨gx, 237, none⟩ = some v1
  a0 : w.cell? ⟨p, 0, none⟩ = some v0
/-- what is read where a frame is heard -/
structure CampH (p gS i gx : Nat) (v0 : Value) (q : Nat) (SC : List Value) (w : World) : Prop where
  a : CampS p gS i v0 q w
  x : At w gx 59 SC
/-- the frame that was taken -/
theorem CmpAt.taken {g off : Nat} {q : Fp} {L : List Fp} (h : CmpAt w0 w ⟨p, gS, cS, gq, sp, OS⟩ n M S (some ⟨g, off, none⟩) c (q :: L) X) {A' : Option Addr} {c' : Nat} (hA' : blkOf A' = some g) {W : World} (hW : W = w.setCell ⟨p, 1, none⟩ (.slice A' L.length c')) :
    MemsIn W q.A q.x.rum ∧ (0 < q.x.rum.length → ∀ b, blkOf q.A = some b → Cpl.Off ⟨p, gS, cS, gq, sp, OS⟩ n A' b) := by
  have hgr : w.grownBy W (some p) := by rw [hW]; exact grown_setCell (World.grownBy.refl _ _) (.inl rfl) _
  obtain ⟨m1, m2⟩ := h.rum q List.mem_cons_self
  refine ⟨mem_keep m1 hgr.size fun h0 b hb hlt => hgr.block b hlt (by intro e; injection e with e; exact (m2 h0 b hb).1 e), fun h0 b hb => ?_⟩
  obtain ⟨r1, r2, r3, r4, r5⟩ := m2 h0 b hb
  exact ⟨r1, r2, r3, by rw [hA']; exact r4, r5⟩
/-- its first frame is taken -/
theorem CmpAt.popped {g off : Nat} {q : Fp} {L : List Fp} (h : CmpAt w0 w ⟨p, gS, cS, gq, sp, OS⟩ n M S (some ⟨g, off, none⟩) c (q :: L) X) {A' : Option Addr} {c' : Nat} (hA' : blkOf A' = some g) (hs : SRow w A' c' L) : CmpAt w0 (w.setCell ⟨p, 1, none⟩ (.slice A' L.length c')) ⟨p, gS, cS, gq, sp, OS⟩ n M S A' c' L X := by
  have hgr : w.grownBy (w.setCell ⟨p, 1, none⟩ (.slice A' L.length c')) (some p) := grown_setCell (World.grownBy.refl _ _) (.inl rfl) _
  have hne : ∀ b, b ≠ p → b < w.heap.size → (w.setCell ⟨p, 1, none⟩ (.slice A' L.length c')).heap[b]? = w.heap[b]? := fun b h1 h2 => hgr.block b h2 (by intro e; injection e with e; exact h1 e)
  have hgp := h.rowo g rfl
  have hoff : ∀ b, Cpl.Off ⟨p, gS, cS, gq, sp, OS⟩ n (some ⟨g, off, none⟩) b → Cpl.Off ⟨p, gS, cS, gq, sp, OS⟩ n A' b := fun b ⟨r1, r2, r3, r4, r5⟩ => ⟨r1, r2, r3, by rw [hA']; exact r4, r5⟩
  refine ⟨h.hd.set 1 _, CmpAt.keptS h.rowS (hne _ (fun e => h.newp.2.2.2.1 e.symm) h.ltS), Nat.lt_of_lt_of_le h.ltS hgr.size, (hne _ (fun e => h.newp.2.2.2.2.1 e.symm) h.ltq).trans h.sil, Nat.lt_of_lt_of_le h.ltq hgr.size, fun i h1 h2 => ?_, h.dis, h.off, h.new, h.newp, ?_, ?_, fun b hb => ?_, fun x hx => ?_⟩
  · exact (h.sc i h1 h2).keep (Keeps.ofGrown hgr (h.off i h1 h2).1)
  · exact Below.ofGrown h.below hgr h.below.size h.newp.1
  · exact hs.keep fun b hb => hne b (by rw [hA'] at hb; cases hb; exact hgp.2.1) (hs.lt hb)
  · rw [hA'] at hb
    cases hb
    exact hgp
  · obtain ⟨m1, m2⟩ := h.rum x (List.mem_cons_of_mem _ hx)
    exact ⟨mem_keep m1 hgr.size fun h0 b hb hlt => hne b (m2 h0 b hb).1 hlt, fun h0 b hb => hoff b (m2 h0 b hb)⟩
end
set_option maxRecDepth 100000 in
set_option maxHeartbeats 4000000 in
theorem round_any {w0 w : World} {p gS cS gq : Nat} {sp : Nat → Nat} {OS : Nat → Nat → Prop} {n M : Nat} {S : Int → Bool} {A : Option Addr} {c : Nat} {C : Cmp} (h : CmpAt w0 w ⟨p, gS, cS, gq, sp, OS⟩ n M S A c [] C.X) (hnet : C.net = []) (hn : 1 ≤ n ∧ n ≤ 6) (hM : M + 2000 < 1000000) (d : Int)
    (hT : ∀ j, j ≤ n → (tickUp S d j C).net.length ≤ 200) (hF : ∀ kk, (∀ x ∈ (run S kk (tickUp S d n C)).net, FrW n x) ∧ (run S kk (tickUp S d n C)).net.length ≤ 200) {K : Nat} (hK : K ≤ 144) (hKn : (run S K (tickUp S d n C)).net = []) (cq : Nat) :
    Calls Try.prog 9 #[.pointer (some ⟨p, 0, none⟩), .slice (some ⟨gq, 0, none⟩) 7 cq, .int .i64 d] w fun e w' => e = .returned (.bool true) ∧ ∃ OS' A' c', CmpAt w0 w' ⟨p, gS, cS, gq, sp, OS'⟩ n (M + 2000) S A' c' [] (run S K (tickUp S d n C)).X := by
  have H := Lib.hid h
  have HP := Lib.hid (And.intro hT (And.intro hF hKn))
  have HNET := Lib.hid hnet
  clear h hT hF hKn hnet
  go_enter Try.func9, Try.ntmps9
  go_wp2_with fail
  go_loopw [7] (fun i wr => ∃ j : Nat, j ≤ n ∧ i = .int .i64 ((j + 1 : Nat) : Int) ∧ ∃ OS A c L, CmpAt w0 wr ⟨p, gS, cS, gq, sp, OS⟩ n (M + 10 * j) S A c L (tickUp S d j C).X ∧ L.map (·.x) = (tickUp S d j C).net) (fun i _ => n + 1 - (RowKit.intOf i).toNat)
  case atStart => exact ⟨0, by omega, rfl, _, _, _, _, H.out, by rw [show (tickUp S d 0 C).net = C.net from rfl, HNET.out]; rfl⟩
  case round =>
    clear H OS A c
    obtain ⟨j, hj, rfl, OS, A, c, L, hC, hL⟩ := hrel
    have b0 := hC.hd.cell' (i := 0) rfl
    have b1 := hC.hd.cell' (i := 1) rfl
    have HC := Lib.hid hC
    have HL := Lib.hid hL
    have hj0 : (0 : Int) ≤ (j : Int) := by omega
    clear hC hL
    by_cases hlt : j < n
    · have hltz : (j : Int) + 1 < (n : Int) + 1 := by omega
      have hj7 : (j : Int) + 1 < 7 := by omega
      have bq := HC.out.silc (i := j + 1) (by omega)
      have bq' : wr.cell? ⟨gq, j + 1, none⟩ = some (.bool (S ((j : Int) + 1))) := bq
      clear bq
      cases hS : S ((j : Int) + 1)
      · rw [hS] at bq'
        have HS := Lib.hid hS
        clear hS
        have hCd := HC.out.up (w' := wr.drew) (Below.refl _ _).drew
        have HCS := Lib.hid (show CampS p gS (j + 1) (.slice (some ⟨gS, 0, none⟩) (n + 1) cS) (sp (j + 1)) wr.drew from hCd.camps (by omega) (by omega))
        have HB1 := Lib.hid (show wr.drew.cell? ⟨p, 1, none⟩ = some (.slice A L.length c) from hCd.hd.cell' rfl)
        have HTU := Lib.hid (show (tickUp S d (j + 1) C).X = setX (tickUp S d j C).X ((j : Int) + 1) (((tickUp S d j C).X ((j : Int) + 1)).tick (wrap64 (d + ((j : Int) + 1)))).1 ∧ (tickUp S d (j + 1) C).net = (tickUp S d j C).net ++ (((tickUp S d j C).X ((j : Int) + 1)).tick (wrap64 (d + ((j : Int) + 1)))).2 from by
          have e : tickUp S d (j + 1) C = ⟨setX (tickUp S d j C).X ((j : Int) + 1) (((tickUp S d j C).X ((j : Int) + 1)).tick (wrap64 (d + ((j : Int) + 1)))).1, (tickUp S d j C).net ++ (((tickUp S d j C).X ((j : Int) + 1)).tick (wrap64 (d + ((j : Int) + 1)))).2⟩ := if_neg (fun e => by have := HS.out; rw [show S ((j : Int) + 1) = true from e] at this; cases this)
          rw [e]
          exact ⟨rfl, rfl⟩)
        have HLN := Lib.hid (show ∀ L2 : List Fp, L2.map (·.x) = (((tickUp S d j C).X ((j : Int) + 1)).tick (wrap64 (d + ((j : Int) + 1)))).2 → L.length + L2.length ≤ 200 from fun L2 h2 => by
          have h3 := HP.out.1 (j + 1) (by omega)
          rw [HTU.out.2, List.length_append, ← HL.out, ← h2, List.length_map, List.length_map] at h3
          exact h3)
        have HCT := Lib.hid (show Calls Try.prog 12 #[.pointer (some ⟨sp (j + 1), 0, none⟩), .int .i64 (wrap64 (d + ((j : Int) + 1)))] wr.drew fun e w3 => ∃ v, e = .returned v ∧ CampS p gS (j + 1) (.slice (some ⟨gS, 0, none⟩) (n + 1) cS) (sp (j + 1)) w3 ∧ GaveC w0 w3 p gS cS gq sp n (M + 10 * j + 10) S A c L (tickUp S d j C).X ((j : Int) + 1) (((tickUp S d j C).X ((j : Int) + 1)).tick (wrap64 (d + ((j : Int) + 1)))).1 (((tickUp S d j C).X ((j : Int) + 1)).tick (wrap64 (d + ((j : Int) + 1)))).2 v from by
          refine (hCd.ticked (i := j + 1) (by omega) (by omega) (by omega) _ (wrap64_in _)).mono ?_
          rintro e w3 ⟨v, he, hG⟩
          obtain ⟨OS3, L2, A2, c2, hl3, hC3, hN3⟩ := id hG
          exact ⟨v, he, hC3.camps (by omega) (by omega), hG⟩)
        clear hCd
        go_wp2_with fail
        refine wp_region_tree (.quiet 0 (.quiet 1 (.quiet 5 (.quiet 9 (.quiet 12 (.quiet 13 (.quiet 14 (.quiet 2 (.quiet 3 (.quiet 6 (.quiet 7 (.quiet 8 (.quiet 10 (.quiet 11 (.two 4 (.one 15 (.one 16 (.quiet 17 (.quiet 18 (.one 19 .done))))) 15 (.one 4 (.one 16 (.quiet 17 (.quiet 18 (.one 19 .done)))))))))))))))))))) (CampS p gS (j + 1) (.slice (some ⟨gS, 0, none⟩) (n + 1) cS) (sp (j + 1))) (by kernel_rfl) (by kernel_rfl) (fun _ _ d _ _ h => by cases d <;> exact h) (by kernel_rfl) (by decide) HCS.out ?_
        iterate 14 (
          first
            | (refine wpT_val (.pointer (some ⟨p, 0, none⟩)) (by with_unfolding_all rfl) (by with_unfolding_all rfl) (fun w _ => exec_nil _ (by with_unfolding_all rfl) p 0 (by with_unfolding_all rfl) w) ?_; simp only [Act.put, List.setIfInBounds_toArray, List.set_cons_zero, List.set_cons_succ])
            | (refine wpT_q (by with_unfolding_all rfl) (by kernel_rfl) ?_
               first
                | go_big_quiet_skip
                | ((with_reducible refine wpQuiet_loadS (.slice (some ⟨gS, 0, none⟩) (n + 1) cS) (by with_unfolding_all rfl) 32 _ _ (by with_unfolding_all rfl) Try.underlying32 p (0) (by with_unfolding_all rfl) (fun w h => h.a0) ?_); simp only [Act.put, List.setIfInBounds_toArray, List.set_cons_zero, List.set_cons_succ])
                | ((with_reducible refine wpQuiet_loadP (.pointer (some ⟨sp (j + 1), 0, none⟩)) (by with_unfolding_all rfl) 31 _ _ (by with_unfolding_all rfl) Try.underlying31 gS (j + 1) (by with_unfolding_all rfl) (fun w h => h.a2) ?_); simp only [Act.put, List.setIfInBounds_toArray, List.set_cons_zero, List.set_cons_succ])
                | (go_big_quiet_step (exact fun _ => rfl))
               refine wpT_qnil ?_))
        refine ⟨?_, ?_⟩
        · refine turn_put (.slice A L.length c) wr.drew (by with_unfolding_all rfl) (by with_unfolding_all rfl) (exec_loadN _ (by with_unfolding_all rfl) p 1 (by with_unfolding_all rfl) HB1.out) HCS.out ?_
          simp only [Act.put, List.setIfInBounds_toArray, List.set_cons_zero, List.set_cons_succ]
          refine turn_call 12 [.pointer (some ⟨sp (j + 1), 0, none⟩), .int .i64 (wrap64 (d + ((j : Int) + 1)))] (fun v w3 => GaveC w0 w3 p gS cS gq sp n (M + 10 * j + 10) S A c L (tickUp S d j C).X ((j : Int) + 1) (((tickUp S d j C).X ((j : Int) + 1)).tick (wrap64 (d + ((j : Int) + 1)))).1 (((tickUp S d j C).X ((j : Int) + 1)).tick (wrap64 (d + ((j : Int) + 1)))).2 v) (by with_unfolding_all rfl) (by with_unfolding_all rfl) (by with_unfolding_all rfl) HCT.out ?_
          rintro v3 w3 hS3 ⟨OS3, L2, A2, c2, hl3, hC3, hN3⟩
          simp only [Act.put, List.setIfInBounds_toArray, List.set_cons_zero, List.set_cons_succ]
          have HC3 := Lib.hid hC3
          have HN3 := Lib.hid hN3
          have HL3 := Lib.hid hl3
          have hlen3 : L.length + L2.length ≤ 1000 := by have := HLN.out L2 HL3.out; omega
          clear hC3 hN3 hl3 hS3
          refine turn_app_net (by with_unfolding_all rfl) (by with_unfolding_all rfl) (.tmp 28) (.tmp 39) (by with_unfolding_all rfl) (by with_unfolding_all rfl) (HN3.out.v.trans rfl) HC3.out.row HN3.out.row hlen3 ?_
          intro A4 c4 w4 hR4 hA4 hK4
          have HC5 := Lib.hid (HC3.out.sent HN3.out hR4 hA4 hK4)
          obtain ⟨s4, s5, s6, s7⟩ := HC3.out.mid (i := (j + 1)) (by omega) (by omega) hK4
          have HS4 := Lib.hid (And.intro (And.intro s5 s6) s7)
          refine ⟨s4, ?_⟩
          simp only [Act.put, List.setIfInBounds_toArray, List.set_cons_zero, List.set_cons_succ]
          obtain ⟨m4, hm4⟩ : ∃ m4, m4 = (L ++ L2).length := ⟨_, rfl⟩
          rw [← hm4]
          have HM4 := Lib.hid hm4
          clear hR4 hA4 hK4 s4 s5 s6 s7 hm4 hlen3
          iterate 2 (
            first
              | (refine wpT_val (.pointer (some ⟨p, 0, none⟩)) (by with_unfolding_all rfl) (by with_unfolding_all rfl) (fun w _ => exec_nil _ (by with_unfolding_all rfl) p 0 (by with_unfolding_all rfl) w) ?_; simp only [Act.put, List.setIfInBounds_toArray, List.set_cons_zero, List.set_cons_succ])
              | (refine wpT_q (by with_unfolding_all rfl) (by kernel_rfl) ?_
                 first
                  | go_big_quiet_skip
                  | (go_big_quiet_step (exact fun _ => rfl))
                 refine wpT_qnil ?_))
          refine turn_store1 (.slice A4 m4 c4) (by with_unfolding_all rfl) (by with_unfolding_all rfl) 33 _ _ (by with_unfolding_all rfl) p 1 (by with_unfolding_all rfl) (by with_unfolding_all rfl) (.inr (.inl ⟨_, _, _, rfl⟩)) (by kernel_rfl) HS4.out.1 (HS4.out.2 _) ?_
          simp only [Act.put]
          refine wpT_done ?_
          have hC5 := HC5.out
          rw [← HM4.out] at hC5
          generalize w4.setCell ⟨p, 1, none⟩ (.slice A4 m4 c4) = w5 at hC5 ⊢
          have HC6 := Lib.hid hC5
          clear hC5 HC5 HS4 HC3 HN3
          go_wp2_with fail
          go_roundw
          case rel =>
            refine ⟨j + 1, by omega, by go_num, OS3, A4, c4, L ++ L2, ?_, ?_⟩
            · have e : (tickUp S d (j + 1) C).X = setX (tickUp S d j C).X ((j : Int) + 1) (((tickUp S d j C).X ((j : Int) + 1)).tick (wrap64 (d + ((j : Int) + 1)))).1 := HTU.out.1
              rw [e]
              exact HC6.out.mono (by omega)
            · rw [HTU.out.2, List.map_append, HL.out, HL3.out]
          case measure => simp [RowKit.intOf]; omega
        · refine turn_call 12 [.pointer (some ⟨sp (j + 1), 0, none⟩), .int .i64 (wrap64 (d + ((j : Int) + 1)))] (fun v w3 => GaveC w0 w3 p gS cS gq sp n (M + 10 * j + 10) S A c L (tickUp S d j C).X ((j : Int) + 1) (((tickUp S d j C).X ((j : Int) + 1)).tick (wrap64 (d + ((j : Int) + 1)))).1 (((tickUp S d j C).X ((j : Int) + 1)).tick (wrap64 (d + ((j : Int) + 1)))).2 v) (by with_unfolding_all rfl) (by with_unfolding_all rfl) (by with_unfolding_all rfl) HCT.out ?_
          rintro v3 w3 hS3 ⟨OS3, L2, A2, c2, hl3, hC3, hN3⟩
          simp only [Act.put, List.setIfInBounds_toArray, List.set_cons_zero, List.set_cons_succ]
          refine turn_put (.slice A L.length c) w3 (by with_unfolding_all rfl) (by with_unfolding_all rfl) (exec_loadN _ (by with_unfolding_all rfl) p 1 (by with_unfolding_all rfl) (hC3.hd.cell' (i := 1) rfl)) hS3 ?_
          simp only [Act.put, List.setIfInBounds_toArray, List.set_cons_zero, List.set_cons_succ]
          have HC3 := Lib.hid hC3
          have HN3 := Lib.hid hN3
          have HL3 := Lib.hid hl3
          have hlen3 : L.length + L2.length ≤ 1000 := by have := HLN.out L2 HL3.out; omega
          clear hC3 hN3 hl3 hS3
          refine turn_app_net (by with_unfolding_all rfl) (by with_unfolding_all rfl) (.tmp 28) (.tmp 39) (by with_unfolding_all rfl) (by with_unfolding_all rfl) (HN3.out.v.trans rfl) HC3.out.row HN3.out.row hlen3 ?_
          intro A4 c4 w4 hR4 hA4 hK4
          have HC5 := Lib.hid (HC3.out.sent HN3.out hR4 hA4 hK4)
          obtain ⟨s4, s5, s6, s7⟩ := HC3.out.mid (i := (j + 1)) (by omega) (by omega) hK4
          have HS4 := Lib.hid (And.intro (And.intro s5 s6) s7)
          refine ⟨s4, ?_⟩
          simp only [Act.put, List.setIfInBounds_toArray, List.set_cons_zero, List.set_cons_succ]
          obtain ⟨m4, hm4⟩ : ∃ m4, m4 = (L ++ L2).length := ⟨_, rfl⟩
          rw [← hm4]
          have HM4 := Lib.hid hm4
          clear hR4 hA4 hK4 s4 s5 s6 s7 hm4 hlen3
          iterate 2 (
            first
              | (refine wpT_val (.pointer (some ⟨p, 0, none⟩)) (by with_unfolding_all rfl) (by with_unfolding_all rfl) (fun w _ => exec_nil _ (by with_unfolding_all rfl) p 0 (by with_unfolding_all rfl) w) ?_; simp only [Act.put, List.setIfInBounds_toArray, List.set_cons_zero, List.set_cons_succ])
              | (refine wpT_q (by with_unfolding_all rfl) (by kernel_rfl) ?_
                 first
                  | go_big_quiet_skip
                  | (go_big_quiet_step (exact fun _ => rfl))
                 refine wpT_qnil ?_))
          refine turn_store1 (.slice A4 m4 c4) (by with_unfolding_all rfl) (by with_unfolding_all rfl) 33 _ _ (by with_unfolding_all rfl) p 1 (by with_unfolding_all rfl) (by with_unfolding_all rfl) (.inr (.inl ⟨_, _, _, rfl⟩)) (by kernel_rfl) HS4.out.1 (HS4.out.2 _) ?_
          simp only [Act.put]
          refine wpT_done ?_
          have hC5 := HC5.out
          rw [← HM4.out] at hC5
          generalize w4.setCell ⟨p, 1, none⟩ (.slice A4 m4 c4) = w5 at hC5 ⊢
          have HC6 := Lib.hid hC5
          clear hC5 HC5 HS4 HC3 HN3
          go_wp2_with fail
          go_roundw
          case rel =>
            refine ⟨j + 1, by omega, by go_num, OS3, A4, c4, L ++ L2, ?_, ?_⟩
            · have e : (tickUp S d (j + 1) C).X = setX (tickUp S d j C).X ((j : Int) + 1) (((tickUp S d j C).X ((j : Int) + 1)).tick (wrap64 (d + ((j : Int) + 1)))).1 := HTU.out.1
              rw [e]
              exact HC6.out.mono (by omega)
            · rw [HTU.out.2, List.map_append, HL.out, HL3.out]
          case measure => simp [RowKit.intOf]; omega
      · rw [hS] at bq'
        have HS := Lib.hid hS
        clear hS
        go_wp2_with fail
        go_roundw
        case rel =>
          refine ⟨j + 1, by omega, by go_num, OS, A, c, L, ?_, ?_⟩
          · rw [show tickUp S d (j + 1) C = tickUp S d j C from if_pos HS.out]
            exact HC.out.mono (by omega)
          · rw [show tickUp S d (j + 1) C = tickUp S d j C from if_pos HS.out]
            exact HL.out
        case measure => simp [RowKit.intOf]; omega
    · have hje : j = n := by omega
      have hC := HC.out
      have hL := HL.out
      have hP := HP.out.2
      rw [hje] at hC hL
      obtain ⟨D, hD⟩ : ∃ D, D = tickUp S d n C := ⟨_, rfl⟩
      rw [← hD] at hC hL hP
      have HC2 := Lib.hid hC
      have HL2 := Lib.hid hL
      have HP2 := Lib.hid hP
      have hnlt : ¬ (j : Int) + 1 < (n : Int) + 1 := by omega
      have HHD := Lib.hid hD
      clear hC hL hP hD HC HL
      go_wp2_with fail
      go_loopw [8] (fun i wr => ∃ kk : Nat, kk ≤ K ∧ i = .int .i64 kk ∧ ∃ OS A c L, CmpAt w0 wr ⟨p, gS, cS, gq, sp, OS⟩ n (M + 60 + 8 * kk) S A c L (run S kk D).X ∧ L.map (·.x) = (run S kk D).net) (fun i _ => K - (RowKit.intOf i).toNat)
      case atStart => exact ⟨0, by omega, rfl, _, _, _, _, HC2.out.mono (by omega), HL2.out⟩
      case round =>
        clear HC2 HL2 OS A c L b0 b1 hnlt hje
        obtain ⟨kk, hkK, rfl, OS, A, c, L, hC, hL⟩ := hrel
        have b0 := hC.hd.cell' (i := 0) rfl
        have b1 := hC.hd.cell' (i := 1) rfl
        have hk500 : (kk : Int) < 500 := by omega
        cases L with
        | nil =>
          have HC := Lib.hid hC
          have HL := Lib.hid hL
          clear hC hL
          go_wp2_with fail
          go_ret
          refine ⟨rfl, OS, A, c, ?_⟩
          have e : run S K (tickUp S d n C) = run S kk D := by
            rw [← HHD.out, show K = kk + (K - kk) by omega, run_add, run_stuck S HL.out.symm]
          rw [e]
          exact HC.out.mono (by omega)
        | cons q L' =>
          have hkk : kk < K := by
            rcases Nat.lt_or_ge kk K with h | h
            · exact h
            · have e : kk = K := by omega
              rw [e, HP2.out.2] at hL
              cases hL
          have hfw := (HP2.out.1 kk).1 q.x (by rw [← hL]; exact List.mem_cons_self)
          obtain ⟨g, off, rfl⟩ := hC.row.some
          obtain ⟨ht, hr⟩ := hC.row.tail
          have hnul := hC.row.nul
          have hlen := hC.row.len
          obtain ⟨m, hm⟩ : ∃ m, m = L'.length := ⟨_, rfl⟩
          rw [List.length_cons, ← hm] at b1 hlen
          have hc1 : m + 1 ≤ c := hlen.1
          have hcm : c ≤ 9223372036854775807 := hlen.2
          obtain ⟨SC, hSC⟩ : ∃ SC, SC = sentC q.x q.A q.c := ⟨_, rfl⟩
          obtain ⟨Z, hZ⟩ : ∃ Z, Z = bareC ⟨0, 0, 0, 0, 0, []⟩ := ⟨_, rfl⟩
          have HZ := Lib.hid (show ∀ w, (zeroValue 59).run Try.prog w = .ok (.agg Z.toArray) w by rw [hZ]; exact zeroSent)
          have HZl := Lib.hid (show Z.length = 238 by rw [hZ]; exact sentC_len _ _ _)
          have HSl := Lib.hid (show SC.length = 238 by rw [hSC]; exact sentC_len _ _ _)
          have HS1 := Lib.hid (show ∀ v ∈ SC, v.oneCell' = true by rw [hSC]; exact sentC_one _ _ _)
          have HR := Lib.hid (show wr.rangeAt g off SC by rw [hSC]; exact hr)
          have HSC := Lib.hid hSC
          have HT := Lib.hid (And.intro ht hnul)
          have HC := Lib.hid hC
          have HL := Lib.hid hL
          have HFW := Lib.hid hfw
          have HM := Lib.hid hm
          have bf := hC.hd.frozen 1
          clear hC hL hfw hr ht hnul hlen hSC hZ hm
          have hm1 : (1 : Int) ≤ (m : Int) + 1 := by omega
          by_cases hcc : c = 1
          · subst hcc
            go_wp2_with (first
              | (with_reducible refine wpList_loadW (by with_unfolding_all rfl) 59 _ (by with_unfolding_all rfl) g off (by with_unfolding_all rfl) SC _ HR.out Try.underlying59 rfl (by rw [HSl.out]; exact info_sent) ?_)
              | ((with_reducible refine wpList_allocZ (o := ⟨some 9, _, _, _, _, _⟩) 59 Z (by with_unfolding_all rfl) (by with_unfolding_all rfl) HZ.out ?_); intro gx w4 hg hat hb; have HAX := Lib.hid hat; have HB4 := Lib.hid hb; have HGX := Lib.hid hg; clear hat hb hg)
              | ((with_reducible refine wpList_storeAll (by with_unfolding_all rfl) 59 _ _ (by with_unfolding_all rfl) gx (by with_unfolding_all rfl) 59 Z SC HAX.out (by with_unfolding_all rfl) (HSl.out.trans HZl.out.symm) (by rw [HSl.out]; exact info_sent) HS1.out ?_); intro w5 hat2 hg2 _; have HX5 := Lib.hid hat2; have HB5 := Lib.hid (Below.ofGrown HB4.out hg2 HB4.out.size (Nat.le_of_eq HGX.out.symm)); clear hat2 hg2; have HC5 := Lib.hid (HC.out.up HB5.out); have d1 := HC5.out.row1; rw [List.length_cons, ← HM.out] at d1; have d0 := HC5.out.row0; have df := HC5.out.rowf))
            have hL0 : L' = [] := List.eq_nil_of_length_eq_zero (by rw [← HM.out]; omega)
            subst hL0
            obtain ⟨AT, cT, hV, hgT, hC6, hQ6⟩ : ∃ AT cT, Value.slice (some ⟨g, off, none⟩) 0 0 = .slice AT ([] : List Fp).length cT ∧ blkOf AT = some g ∧ CmpAt w0 (w5.setCell ⟨p, 1, none⟩ (.slice AT ([] : List Fp).length cT)) ⟨p, gS, cS, gq, sp, OS⟩ n (M + 60 + 8 * kk) S AT cT ([] : List Fp) (run S kk D).X ∧ MemsIn (w5.setCell ⟨p, 1, none⟩ (.slice AT ([] : List Fp).length cT)) q.A q.x.rum ∧ (0 < q.x.rum.length → ∀ b, blkOf q.A = some b → Cpl.Off ⟨p, gS, cS, gq, sp, OS⟩ n AT b) := ⟨some ⟨g, off, none⟩, 0, rfl, rfl, HC5.out.popped rfl (HT.out.2.keep fun b hb => HB5.out.block b (HT.out.2.lt hb)), HC5.out.taken rfl rfl⟩
            rw [hV]
            clear hV
            have hgr : w5.grownBy (w5.setCell ⟨p, 1, none⟩ (.slice AT ([] : List Fp).length cT)) (some p) := grown_setCell (World.grownBy.refl _ _) (.inl rfl) _
            have hgxp : gx ≠ p := fun e => by have h1 : p < wr.heap.size := HC.out.hd.lt; have := HGX.out; omega
            have hX6 := HX5.out.grown hgr (by intro e; injection e with e; exact hgxp e)
            generalize w5.setCell ⟨p, 1, none⟩ (.slice AT ([] : List Fp).length cT) = w6 at hC6 hQ6 hX6 ⊢
            have hgo : Cpl.Off ⟨p, gS, cS, gq, sp, OS⟩ n AT gx := ⟨hgxp, fun e => (by have h1 : gS < wr.heap.size := HC.out.ltS; have e : gx = gS := e; have := HGX.out; omega), fun e => (by have h1 : gq < wr.heap.size := HC.out.ltq; have e : gx = gq := e; have := HGX.out; omega), fun e => (by rw [hgT] at e; injection e with e; have h1 : g < wr.heap.size := HC.out.row.lt rfl; have := HGX.out; omega), fun i i1 i2 ho => (by have h1 : gx < wr.heap.size := (HC.out.sc i i1 i2).bound gx ho; have := HGX.out; omega)⟩
            obtain ⟨a, ha⟩ : ∃ a : Nat, q.x.to_ = a := ⟨q.x.to_.toNat, by have := HFW.out.1; omega⟩
            obtain ⟨b, hb⟩ : ∃ b : Nat, q.x.frm = b := ⟨q.x.frm.toNat, by have := HFW.out.2.1; omega⟩
            have ha1 : 1 ≤ a ∧ a ≤ n := by have := HFW.out.1; omega
            have hb1 : 1 ≤ b ∧ b ≤ n := by have := HFW.out.2.1; omega
            have x0 : w6.cell? ⟨gx, 0, none⟩ = some (.int .i64 a) := by rw [← ha]; exact hX6.cell' (by rw [HSC.out]; rfl)
            have x2 : w6.cell? ⟨gx, 2, none⟩ = some (.int .i64 b) := by rw [← hb]; exact hX6.cell' (by rw [HSC.out]; rfl)
            have xr : w6.cell? ⟨gx, 237, none⟩ = some (.slice q.A q.x.rum.length q.c) := hX6.cell' (by rw [HSC.out]; exact (frameC_is q.x q.A q.c).r)
            obtain ⟨lr, hlr⟩ : ∃ lr, lr = q.x.rum.length := ⟨_, rfl⟩
            rw [← hlr] at xr
            have HLR := Lib.hid (show (lr : Int) ≤ 6 by rw [hlr]; have := HFW.out.2.2.1; omega)
            have HAB := Lib.hid (And.intro ha1 hb1)
            have HA := Lib.hid ha
            have HBF := Lib.hid hb
            have HC6 := Lib.hid hC6
            have HQ6 := Lib.hid hQ6
            have HX6 := Lib.hid hX6
            have HGO := Lib.hid hgo
            have qa := hC6.silc (i := a) (by omega)
            have qb := hC6.silc (i := b) (by omega)
            have HMS := Lib.hid (show ∀ W, Behind w6 W → MsgS gx p a (.slice (some ⟨gS, 0, none⟩) (n + 1) cS) (.slice q.A lr q.c) W from fun W h => ⟨(Below.cell h (p := ⟨gx, 0, none⟩) hX6.lt).trans x0, (Below.cell h (p := ⟨gx, 237, none⟩) hX6.lt).trans xr, (Below.cell h (p := ⟨p, 0, none⟩) hC6.hd.lt).trans hC6.row0⟩)
            have ha7 : (a : Int) < 7 := by omega
            have hb7 : (b : Int) < 7 := by omega
            have ha0 : (0 : Int) ≤ (a : Int) := by omega
            have hb0 : (0 : Int) ≤ (b : Int) := by omega
            clear hC6 hQ6 hX6 hgr hgxp hgo ha hb hgT hlr d0 d1 df bf b0 b1 HC5 HX5 HT HR ha1 hb1 xr
            refine wp_region_class (Behind w6) (by kernel_rfl) (by kernel_rfl) (Below.refl _ _).drew ?_
            iterate 20 (first
              | go_big_quiet_skip
              | ((with_reducible refine wpQuiet_load1 (.int .i64 (a : Int)) (by with_unfolding_all rfl) 3 _ (by with_unfolding_all rfl) .i64 Try.underlying3 gx (0) (by with_unfolding_all rfl) (fun w h => (HMS.out w h).x0) ?_); simp only [Act.put, List.setIfInBounds_toArray, List.set_cons_zero, List.set_cons_succ])
              | ((with_reducible refine wpQuiet_loadS (.slice q.A lr q.c) (by with_unfolding_all rfl) 30 _ _ (by with_unfolding_all rfl) Try.underlying30 gx (237) (by with_unfolding_all rfl) (fun w h => (HMS.out w h).xr) ?_); simp only [Act.put, List.setIfInBounds_toArray, List.set_cons_zero, List.set_cons_succ])
              | ((with_reducible refine wpQuiet_loadS (.slice (some ⟨gS, 0, none⟩) (n + 1) cS) (by with_unfolding_all rfl) 32 _ _ (by with_unfolding_all rfl) Try.underlying32 p (0) (by with_unfolding_all rfl) (fun w h => (HMS.out w h).a0) ?_); simp only [Act.put, List.setIfInBounds_toArray, List.set_cons_zero, List.set_cons_succ])
              | ((with_reducible refine wpQuiet_val (.pointer (some ⟨p, 0, none⟩)) (by with_unfolding_all rfl) (fun w _ => exec_nil _ (by with_unfolding_all rfl) p 0 (by with_unfolding_all rfl) w) ?_); simp only [Act.put, List.setIfInBounds_toArray, List.set_cons_zero, List.set_cons_succ])
              | ((with_reducible refine wpQuiet_val (.pointer (some ⟨gx, 1, none⟩)) (by with_unfolding_all rfl) (fun w _ => exec_f1 _ (by with_unfolding_all rfl) gx (by with_unfolding_all rfl) w) ?_); simp only [Act.put, List.setIfInBounds_toArray, List.set_cons_zero, List.set_cons_succ])
              | ((with_reducible refine wpQuiet_val (.pointer (some ⟨gx, 237, none⟩)) (by with_unfolding_all rfl) (fun w _ => exec_f14 _ (by with_unfolding_all rfl) gx (by with_unfolding_all rfl) w) ?_); simp only [Act.put, List.setIfInBounds_toArray, List.set_cons_zero, List.set_cons_succ])
              | ((with_reducible refine wpQuiet_bin (by with_unfolding_all rfl) .lss 3 _ _ _ (by with_unfolding_all rfl) (.int .i64 (a : Int)) (.int .i64 1) (.bool false) (by with_unfolding_all rfl) (by with_unfolding_all rfl) (fun w => run_guardI w _ _ _ _ _) (fun w => run_lssI0 _ _ (by have := HAB.out; omega) w) ?_); simp only [Act.put, List.setIfInBounds_toArray, List.set_cons_zero, List.set_cons_succ])
              | ((with_reducible refine wpQuiet_bin (by with_unfolding_all rfl) .geq 3 _ _ _ (by with_unfolding_all rfl) (.int .i64 (a : Int)) (.int .i64 ((n : Int) + 1)) (.bool false) (by with_unfolding_all rfl) (by with_unfolding_all rfl) (fun w => run_guardI w _ _ _ _ _) (fun w => run_geqI0 _ _ (by have := HAB.out; omega) w) ?_); simp only [Act.put, List.setIfInBounds_toArray, List.set_cons_zero, List.set_cons_succ])
              | ((with_reducible refine wpQuiet_bin (by with_unfolding_all rfl) .gtr 3 _ _ _ (by with_unfolding_all rfl) (.int .i64 (lr : Int)) (.int .i64 6) (.bool false) (by with_unfolding_all rfl) (by with_unfolding_all rfl) (fun w => run_guardI w _ _ _ _ _) (fun w => run_gtrI0 _ _ HLR.out w) ?_); simp only [Act.put, List.setIfInBounds_toArray, List.set_cons_zero, List.set_cons_succ])
              | (go_big_quiet_step (exact fun _ => rfl)))
            with_reducible refine wpQuiet_nil ?_
            intro wy hwy
            have hC7 := HC6.out.up hwy
            have hX7 := HX6.out.below hwy HX6.out.lt
            have y0 := hX7.cell' (i := 0) (v := .int .i64 a) (by rw [HSC.out, ← HA.out]; rfl)
            have y2 := hX7.cell' (i := 2) (v := .int .i64 b) (by rw [HSC.out, ← HBF.out]; rfl)
            have qa := hC7.silc (i := a) (by omega)
            have qb := hC7.silc (i := b) (by omega)
            have HC7 := Lib.hid hC7
            have HX7 := Lib.hid hX7
            have HQ7 := Lib.hid (show MemsIn wy q.A q.x.rum from HQ6.out.1.below hwy)
            have HNX := Lib.hid (show (run S kk D).net = q.x :: ([] : List Fp).map (·.x) from HL.out.symm)
            clear hC7 hX7 hwy x0 x2 HC6 HX6 HMS
            cases hSa : S (a : Int)
            · rw [hSa] at qa
              cases hSb : S (b : Int)
              · rw [hSb] at qb
                have HSA := Lib.hid (show S q.x.to_ = false by rw [HA.out]; exact hSa)
                have HSB := Lib.hid (show S q.x.frm = false by rw [HBF.out]; exact hSb)
                clear hSa hSb
                obtain ⟨FC, hFC⟩ : ∃ FC, FC = frameC q.x q.A q.c := ⟨_, rfl⟩
                have HFI := Lib.hid (show FrIs FC q.x q.A q.c by rw [hFC]; exact frameC_is q.x q.A q.c)
                have HSF := Lib.hid (show SC = .int .i64 q.x.to_ :: FC by rw [HSC.out, hFC]; rfl)
                clear hFC
                have hCd := HC7.out.up (w' := wy.drew) (Below.refl _ _).drew
                have hXd := HX7.out.below (w' := wy.drew) (Below.refl _ _).drew HX7.out.lt
                have HCH := Lib.hid (show CampH p gS a gx (.slice (some ⟨gS, 0, none⟩) (n + 1) cS) (sp a) SC wy.drew from ⟨hCd.camps (by have := HAB.out; omega) (by have := HAB.out; omega), hXd⟩)
                have HRF := Lib.hid (show ∀ w, At w gx 59 SC → w.rangeAt gx 1 FC from fun w h j v hv => by rw [Nat.add_comm]; exact h.cell' (i := j + 1) (by rw [HSF.out]; exact hv))
                have HX0 := Lib.hid (show ∀ w, At w gx 59 SC → w.cell? ⟨gx, 0, none⟩ = some (.int .i64 a) from fun w h => h.cell' (by rw [HSF.out, HA.out]; rfl))
                have HB1 := Lib.hid (show wy.drew.cell? ⟨p, 1, none⟩ = some (.slice AT ([] : List Fp).length cT) from hCd.row1)
                have HTU := Lib.hid (show (run S (kk + 1) D).X = setX (run S kk D).X (a : Int) (((run S kk D).X (a : Int)).hear q.x).1 ∧ (run S (kk + 1) D).net = ([] : List Fp).map (·.x) ++ (((run S kk D).X (a : Int)).hear q.x).2 from by
                  rw [run_succ, deliver_yes HNX.out HSA.out HSB.out, HA.out]
                  exact ⟨rfl, rfl⟩)
                have HLN := Lib.hid (show ∀ L2 : List Fp, L2.map (·.x) = (((run S kk D).X (a : Int)).hear q.x).2 → ([] : List Fp).length + L2.length ≤ 200 from fun L2 h2 => by
                  have h3 := (HP2.out.1 (kk + 1)).2
                  rw [HTU.out.2, List.length_append, ← h2, List.length_map, List.length_map] at h3
                  exact h3)
                have HCT := Lib.hid (show Calls Try.prog 13 #[.pointer (some ⟨sp a, 0, none⟩), .agg FC.toArray] wy.drew fun e w3 => ∃ v, e = .returned v ∧ CampH p gS a gx (.slice (some ⟨gS, 0, none⟩) (n + 1) cS) (sp a) SC w3 ∧ GaveC w0 w3 p gS cS gq sp n (M + 60 + 8 * kk + 8) S AT cT ([] : List Fp) (run S kk D).X (a : Int) (((run S kk D).X (a : Int)).hear q.x).1 (((run S kk D).X (a : Int)).hear q.x).2 v from by
                  refine (hCd.hears (i := a) (by have := HAB.out; omega) (by have := HAB.out; omega) (by omega) HFI.out (HQ7.out.below (Below.refl _ _).drew) (fun h0 g hg => (HQ6.out.2 h0 g hg).2.2.2.2 a (by have := HAB.out; omega) (by have := HAB.out; omega)) HFW.out.2.2.1 HFW.out.2.2.2 (by have := HFW.out.2.1; omega)).mono ?_
                  rintro e w3 ⟨v, he, hG, hK3⟩
                  obtain ⟨OS3, L2, A2, c2, hl3, hC3, hN3⟩ := id hG
                  exact ⟨v, he, ⟨hC3.camps (by have := HAB.out; omega) (by have := HAB.out; omega), hXd.keeps hK3 (HGO.out.2.2.2.2 a (by have := HAB.out; omega) (by have := HAB.out; omega))⟩, hG⟩)
                clear hCd hXd
                go_wp2_with fail
                clear qa qb y0 y2
                have han : (a : Int) < (n : Int) + 1 := by have := HAB.out; omega
                refine wp_region_tree (.quiet 0 (.quiet 1 (.quiet 5 (.quiet 9 (.quiet 10 (.quiet 13 (.quiet 14 (.quiet 2 (.quiet 3 (.quiet 6 (.quiet 7 (.quiet 8 (.quiet 11 (.quiet 12 (.two 4 (.one 15 (.one 16 (.quiet 17 (.quiet 18 (.one 19 .done))))) 15 (.one 4 (.one 16 (.quiet 17 (.quiet 18 (.one 19 .done)))))))))))))))))))) (CampH p gS a gx (.slice (some ⟨gS, 0, none⟩) (n + 1) cS) (sp a) SC) (by kernel_rfl) (by kernel_rfl) (fun _ _ d _ _ h => by cases d <;> exact h) (by kernel_rfl) (by decide) HCH.out ?_
                iterate 14 (
                  first
                    | (refine wpT_val (.pointer (some ⟨p, 0, none⟩)) (by with_unfolding_all rfl) (by with_unfolding_all rfl) (fun w _ => exec_nil _ (by with_unfolding_all rfl) p 0 (by with_unfolding_all rfl) w) ?_; simp only [Act.put, List.setIfInBounds_toArray, List.set_cons_zero, List.set_cons_succ])
                    | (refine wpT_val (.pointer (some ⟨gx, 1, none⟩)) (by with_unfolding_all rfl) (by with_unfolding_all rfl) (fun w _ => exec_f1 _ (by with_unfolding_all rfl) gx (by with_unfolding_all rfl) w) ?_; simp only [Act.put, List.setIfInBounds_toArray, List.set_cons_zero, List.set_cons_succ])
                    | (refine wpT_q (by with_unfolding_all rfl) (by kernel_rfl) ?_
                       first
                        | go_big_quiet_skip
                        | ((with_reducible refine wpQuiet_loadS (.slice (some ⟨gS, 0, none⟩) (n + 1) cS) (by with_unfolding_all rfl) 32 _ _ (by with_unfolding_all rfl) Try.underlying32 p (0) (by with_unfolding_all rfl) (fun w h => h.a.a0) ?_); simp only [Act.put, List.setIfInBounds_toArray, List.set_cons_zero, List.set_cons_succ])
                        | ((with_reducible refine wpQuiet_loadP (.pointer (some ⟨sp a, 0, none⟩)) (by with_unfolding_all rfl) 31 _ _ (by with_unfolding_all rfl) Try.underlying31 gS (a) (by with_unfolding_all rfl) (fun w h => h.a.a2) ?_); simp only [Act.put, List.setIfInBounds_toArray, List.set_cons_zero, List.set_cons_succ])
                        | ((with_reducible refine wpQuiet_load1 (.int .i64 (a : Int)) (by with_unfolding_all rfl) 3 _ (by with_unfolding_all rfl) .i64 Try.underlying3 gx (0) (by with_unfolding_all rfl) (fun w h => HX0.out w h.x) ?_); simp only [Act.put, List.setIfInBounds_toArray, List.set_cons_zero, List.set_cons_succ])
                        | ((with_reducible refine wpQuiet_loadAll (by with_unfolding_all rfl) 57 _ (by with_unfolding_all rfl) gx (1) (by with_unfolding_all rfl) FC _ (fun w h => HRF.out w h.x) Try.underlying57 rfl (by rw [HFI.out.len]; exact info_frame) ?_); simp only [Act.put, List.setIfInBounds_toArray, List.set_cons_zero, List.set_cons_succ])
                        | (go_big_quiet_step (exact fun _ => rfl))
                       refine wpT_qnil ?_))
                refine ⟨?_, ?_⟩
                · refine turn_put (.slice AT ([] : List Fp).length cT) wy.drew (by with_unfolding_all rfl) (by with_unfolding_all rfl) (exec_loadN _ (by with_unfolding_all rfl) p 1 (by with_unfolding_all rfl) HB1.out) HCH.out ?_
                  simp only [Act.put, List.setIfInBounds_toArray, List.set_cons_zero, List.set_cons_succ]
                  refine turn_call 13 [.pointer (some ⟨sp a, 0, none⟩), .agg FC.toArray] (fun v w3 => GaveC w0 w3 p gS cS gq sp n (M + 60 + 8 * kk + 8) S AT cT ([] : List Fp) (run S kk D).X (a : Int) (((run S kk D).X (a : Int)).hear q.x).1 (((run S kk D).X (a : Int)).hear q.x).2 v) (by with_unfolding_all rfl) (by with_unfolding_all rfl) (by with_unfolding_all rfl) HCT.out ?_
                  rintro v3 w3 hS3 ⟨OS3, L2, A2, c2, hl3, hC3, hN3⟩
                  simp only [Act.put, List.setIfInBounds_toArray, List.set_cons_zero, List.set_cons_succ]
                  have HC3 := Lib.hid hC3
                  have HN3 := Lib.hid hN3
                  have HL3 := Lib.hid hl3
                  have hlen3 : ([] : List Fp).length + L2.length ≤ 1000 := by have := HLN.out L2 HL3.out; omega
                  have hX3 := hS3.x
                  have HX3 := Lib.hid hX3
                  clear hC3 hN3 hl3 hS3 hX3
                  refine turn_app_net (by with_unfolding_all rfl) (by with_unfolding_all rfl) (.tmp 108) (.tmp 119) (by with_unfolding_all rfl) (by with_unfolding_all rfl) (HN3.out.v.trans rfl) HC3.out.row HN3.out.row hlen3 ?_
                  intro A4 c4 w4 hR4 hA4 hK4
                  have HC5 := Lib.hid (HC3.out.sent HN3.out hR4 hA4 hK4)
                  obtain ⟨s4, s5, s6, s7⟩ := HC3.out.mid (i := a) (by have := HAB.out; omega) (by have := HAB.out; omega) hK4
                  have hX4 := HX3.out.keeps hK4 HGO.out.2.2.2.1
                  have HS4 := Lib.hid (show ((w4.cell? ⟨p, 1, none⟩).isSome = true ∧ w4.frozen? ⟨p, 1, none⟩ = false) ∧ ∀ v, CampH p gS a gx (.slice (some ⟨gS, 0, none⟩) (n + 1) cS) (sp a) SC (w4.setCell ⟨p, 1, none⟩ v) from ⟨⟨s5, s6⟩, fun v => ⟨s7 v, hX4.far (p := ⟨p, 1, none⟩) HGO.out.1.symm v⟩⟩)
                  refine ⟨⟨s4, hX4⟩, ?_⟩
                  simp only [Act.put, List.setIfInBounds_toArray, List.set_cons_zero, List.set_cons_succ]
                  obtain ⟨m4, hm4⟩ : ∃ m4, m4 = (([] : List Fp) ++ L2).length := ⟨_, rfl⟩
                  rw [← hm4]
                  have HM4 := Lib.hid hm4
                  clear hX4 hR4 hA4 hK4 s4 s5 s6 s7 hm4 hlen3
                  iterate 2 (
                    first
                      | (refine wpT_val (.pointer (some ⟨p, 0, none⟩)) (by with_unfolding_all rfl) (by with_unfolding_all rfl) (fun w _ => exec_nil _ (by with_unfolding_all rfl) p 0 (by with_unfolding_all rfl) w) ?_; simp only [Act.put, List.setIfInBounds_toArray, List.set_cons_zero, List.set_cons_succ])
                      | (refine wpT_q (by with_unfolding_all rfl) (by kernel_rfl) ?_
                         first
                          | go_big_quiet_skip
                          | (go_big_quiet_step (exact fun _ => rfl))
                         refine wpT_qnil ?_))
                  refine turn_store1 (.slice A4 m4 c4) (by with_unfolding_all rfl) (by with_unfolding_all rfl) 33 _ _ (by with_unfolding_all rfl) p 1 (by with_unfolding_all rfl) (by with_unfolding_all rfl) (.inr (.inl ⟨_, _, _, rfl⟩)) (by kernel_rfl) HS4.out.1 (HS4.out.2 _) ?_
                  simp only [Act.put]
                  refine wpT_done ?_
                  have hC5 := HC5.out
                  rw [← HM4.out] at hC5
                  generalize w4.setCell ⟨p, 1, none⟩ (.slice A4 m4 c4) = w5 at hC5 ⊢
                  have HC6 := Lib.hid hC5
                  clear hC5 HC5 HS4 HC3 HN3
                  go_wp2_with fail
                  go_roundw
                  case rel =>
                    refine ⟨kk + 1, by omega, by go_num, OS3, A4, c4, ([] : List Fp) ++ L2, ?_, ?_⟩
                    · rw [HTU.out.1]
                      exact HC6.out.mono (by omega)
                    · rw [HTU.out.2, List.map_append, HL3.out]
                  case measure => simp [RowKit.intOf]; omega
                · refine turn_call 13 [.pointer (some ⟨sp a, 0, none⟩), .agg FC.toArray] (fun v w3 => GaveC w0 w3 p gS cS gq sp n (M + 60 + 8 * kk + 8) S AT cT ([] : List Fp) (run S kk D).X (a : Int) (((run S kk D).X (a : Int)).hear q.x).1 (((run S kk D).X (a : Int)).hear q.x).2 v) (by with_unfolding_all rfl) (by with_unfolding_all rfl) (by with_unfolding_all rfl) HCT.out ?_
                  rintro v3 w3 hS3 ⟨OS3, L2, A2, c2, hl3, hC3, hN3⟩
                  simp only [Act.put, List.setIfInBounds_toArray, List.set_cons_zero, List.set_cons_succ]
                  refine turn_put (.slice AT ([] : List Fp).length cT) w3 (by with_unfolding_all rfl) (by with_unfolding_all rfl) (exec_loadN _ (by with_unfolding_all rfl) p 1 (by with_unfolding_all rfl) (hC3.hd.cell' (i := 1) rfl)) hS3 ?_
                  simp only [Act.put, List.setIfInBounds_toArray, List.set_cons_zero, List.set_cons_succ]
                  have HC3 := Lib.hid hC3
                  have HN3 := Lib.hid hN3
                  have HL3 := Lib.hid hl3
                  have hlen3 : ([] : List Fp).length + L2.length ≤ 1000 := by have := HLN.out L2 HL3.out; omega
                  have hX3 := hS3.x
                  have HX3 := Lib.hid hX3
                  clear hC3 hN3 hl3 hS3 hX3
                  refine turn_app_net (by with_unfolding_all rfl) (by with_unfolding_all rfl) (.tmp 108) (.tmp 119) (by with_unfolding_all rfl) (by with_unfolding_all rfl) (HN3.out.v.trans rfl) HC3.out.row HN3.out.row hlen3 ?_
                  intro A4 c4 w4 hR4 hA4 hK4
                  have HC5 := Lib.hid (HC3.out.sent HN3.out hR4 hA4 hK4)
                  obtain ⟨s4, s5, s6, s7⟩ := HC3.out.mid (i := a) (by have := HAB.out; omega) (by have := HAB.out; omega) hK4
                  have hX4 := HX3.out.keeps hK4 HGO.out.2.2.2.1
                  have HS4 := Lib.hid (show ((w4.cell? ⟨p, 1, none⟩).isSome = true ∧ w4.frozen? ⟨p, 1, none⟩ = false) ∧ ∀ v, CampH p gS a gx (.slice (some ⟨gS, 0, none⟩) (n + 1) cS) (sp a) SC (w4.setCell ⟨p, 1, none⟩ v) from ⟨⟨s5, s6⟩, fun v => ⟨s7 v, hX4.far (p := ⟨p, 1, none⟩) HGO.out.1.symm v⟩⟩)
                  refine ⟨⟨s4, hX4⟩, ?_⟩
                  simp only [Act.put, List.setIfInBounds_toArray, List.set_cons_zero, List.set_cons_succ]
                  obtain ⟨m4, hm4⟩ : ∃ m4, m4 = (([] : List Fp) ++ L2).length := ⟨_, rfl⟩
                  rw [← hm4]
                  have HM4 := Lib.hid hm4
                  clear hX4 hR4 hA4 hK4 s4 s5 s6 s7 hm4 hlen3
                  iterate 2 (
                    first
                      | (refine wpT_val (.pointer (some ⟨p, 0, none⟩)) (by with_unfolding_all rfl) (by with_unfolding_all rfl) (fun w _ => exec_nil _ (by with_unfolding_all rfl) p 0 (by with_unfolding_all rfl) w) ?_; simp only [Act.put, List.setIfInBounds_toArray, List.set_cons_zero, List.set_cons_succ])
                      | (refine wpT_q (by with_unfolding_all rfl) (by kernel_rfl) ?_
                         first
                          | go_big_quiet_skip
                          | (go_big_quiet_step (exact fun _ => rfl))
                         refine wpT_qnil ?_))
                  refine turn_store1 (.slice A4 m4 c4) (by with_unfolding_all rfl) (by with_unfolding_all rfl) 33 _ _ (by with_unfolding_all rfl) p 1 (by with_unfolding_all rfl) (by with_unfolding_all rfl) (.inr (.inl ⟨_, _, _, rfl⟩)) (by kernel_rfl) HS4.out.1 (HS4.out.2 _) ?_
                  simp only [Act.put]
                  refine wpT_done ?_
                  have hC5 := HC5.out
                  rw [← HM4.out] at hC5
                  generalize w4.setCell ⟨p, 1, none⟩ (.slice A4 m4 c4) = w5 at hC5 ⊢
                  have HC6 := Lib.hid hC5
                  clear hC5 HC5 HS4 HC3 HN3
                  go_wp2_with fail
                  go_roundw
                  case rel =>
                    refine ⟨kk + 1, by omega, by go_num, OS3, A4, c4, ([] : List Fp) ++ L2, ?_, ?_⟩
                    · rw [HTU.out.1]
                      exact HC6.out.mono (by omega)
                    · rw [HTU.out.2, List.map_append, HL3.out]
                  case measure => simp [RowKit.intOf]; omega
              · rw [hSb] at qb
                have HDL := Lib.hid (deliver_no HNX.out (.inr (show S q.x.frm = true by rw [HBF.out]; exact hSb)))
                clear hSa hSb
                go_wp2_with fail
                go_roundw
                case rel =>
                  refine ⟨kk + 1, by omega, by go_num, OS, AT, cT, [], ?_, ?_⟩
                  · rw [run_succ, HDL.out]
                    exact HC7.out.mono (by omega)
                  · rw [run_succ, HDL.out]
                case measure => simp [RowKit.intOf]; omega
            · rw [hSa] at qa
              have HDL := Lib.hid (deliver_no HNX.out (.inl (show S q.x.to_ = true by rw [HA.out]; exact hSa)))
              clear hSa
              go_wp2_with fail
              go_roundw
              case rel =>
                refine ⟨kk + 1, by omega, by go_num, OS, AT, cT, [], ?_, ?_⟩
                · rw [run_succ, HDL.out]
                  exact HC7.out.mono (by omega)
                · rw [run_succ, HDL.out]
              case measure => simp [RowKit.intOf]; omega
          · have hc2 : 1 < c := by omega
            go_wp2_with (first
              | (with_reducible refine wpList_loadW (by with_unfolding_all rfl) 59 _ (by with_unfolding_all rfl) g off (by with_unfolding_all rfl) SC _ HR.out Try.underlying59 rfl (by rw [HSl.out]; exact info_sent) ?_)
              | ((with_reducible refine wpList_allocZ (o := ⟨some 9, _, _, _, _, _⟩) 59 Z (by with_unfolding_all rfl) (by with_unfolding_all rfl) HZ.out ?_); intro gx w4 hg hat hb; have HAX := Lib.hid hat; have HB4 := Lib.hid hb; have HGX := Lib.hid hg; clear hat hb hg)
              | ((with_reducible refine wpList_storeAll (by with_unfolding_all rfl) 59 _ _ (by with_unfolding_all rfl) gx (by with_unfolding_all rfl) 59 Z SC HAX.out (by with_unfolding_all rfl) (HSl.out.trans HZl.out.symm) (by rw [HSl.out]; exact info_sent) HS1.out ?_); intro w5 hat2 hg2 _; have HX5 := Lib.hid hat2; have HB5 := Lib.hid (Below.ofGrown HB4.out hg2 HB4.out.size (Nat.le_of_eq HGX.out.symm)); clear hat2 hg2; have HC5 := Lib.hid (HC.out.up HB5.out); have d1 := HC5.out.row1; rw [List.length_cons, ← HM.out] at d1; have d0 := HC5.out.row0; have df := HC5.out.rowf))
            obtain ⟨AT, cT, hV, hgT, hC6, hQ6⟩ : ∃ AT cT, Value.slice (some ⟨g, off + 238, none⟩) m (c - 1) = .slice AT L'.length cT ∧ blkOf AT = some g ∧ CmpAt w0 (w5.setCell ⟨p, 1, none⟩ (.slice AT L'.length cT)) ⟨p, gS, cS, gq, sp, OS⟩ n (M + 60 + 8 * kk) S AT cT L' (run S kk D).X ∧ MemsIn (w5.setCell ⟨p, 1, none⟩ (.slice AT L'.length cT)) q.A q.x.rum ∧ (0 < q.x.rum.length → ∀ b, blkOf q.A = some b → Cpl.Off ⟨p, gS, cS, gq, sp, OS⟩ n AT b) := ⟨some ⟨g, off + 238, none⟩, c - 1, by rw [HM.out], rfl, HC5.out.popped rfl (HT.out.1.keep fun b hb => HB5.out.block b (HT.out.1.lt hb)), HC5.out.taken rfl rfl⟩
            rw [hV]
            clear hV
            have hgr : w5.grownBy (w5.setCell ⟨p, 1, none⟩ (.slice AT L'.length cT)) (some p) := grown_setCell (World.grownBy.refl _ _) (.inl rfl) _
            have hgxp : gx ≠ p := fun e => by have h1 : p < wr.heap.size := HC.out.hd.lt; have := HGX.out; omega
            have hX6 := HX5.out.grown hgr (by intro e; injection e with e; exact hgxp e)
            generalize w5.setCell ⟨p, 1, none⟩ (.slice AT L'.length cT) = w6 at hC6 hQ6 hX6 ⊢
            have hgo : Cpl.Off ⟨p, gS, cS, gq, sp, OS⟩ n AT gx := ⟨hgxp, fun e => (by have h1 : gS < wr.heap.size := HC.out.ltS; have e : gx = gS := e; have := HGX.out; omega), fun e => (by have h1 : gq < wr.heap.size := HC.out.ltq; have e : gx = gq := e; have := HGX.out; omega), fun e => (by rw [hgT] at e; injection e with e; have h1 : g < wr.heap.size := HC.out.row.lt rfl; have := HGX.out; omega), fun i i1 i2 ho => (by have h1 : gx < wr.heap.size := (HC.out.sc i i1 i2).bound gx ho; have := HGX.out; omega)⟩
            obtain ⟨a, ha⟩ : ∃ a : Nat, q.x.to_ = a := ⟨q.x.to_.toNat, by have := HFW.out.1; omega⟩
            obtain ⟨b, hb⟩ : ∃ b : Nat, q.x.frm = b := ⟨q.x.frm.toNat, by have := HFW.out.2.1; omega⟩
            have ha1 : 1 ≤ a ∧ a ≤ n := by have := HFW.out.1; omega
            have hb1 : 1 ≤ b ∧ b ≤ n := by have := HFW.out.2.1; omega
            have x0 : w6.cell? ⟨gx, 0, none⟩ = some (.int .i64 a) := by rw [← ha]; exact hX6.cell' (by rw [HSC.out]; rfl)
            have x2 : w6.cell? ⟨gx, 2, none⟩ = some (.int .i64 b) := by rw [← hb]; exact hX6.cell' (by rw [HSC.out]; rfl)
            have xr : w6.cell? ⟨gx, 237, none⟩ = some (.slice q.A q.x.rum.length q.c) := hX6.cell' (by rw [HSC.out]; exact (frameC_is q.x q.A q.c).r)
            obtain ⟨lr, hlr⟩ : ∃ lr, lr = q.x.rum.length := ⟨_, rfl⟩
            rw [← hlr] at xr
            have HLR := Lib.hid (show (lr : Int) ≤ 6 by rw [hlr]; have := HFW.out.2.2.1; omega)
            have HAB := Lib.hid (And.intro ha1 hb1)
            have HA := Lib.hid ha
            have HBF := Lib.hid hb
            have HC6 := Lib.hid hC6
            have HQ6 := Lib.hid hQ6
            have HX6 := Lib.hid hX6
            have HGO := Lib.hid hgo
            have qa := hC6.silc (i := a) (by omega)
            have qb := hC6.silc (i := b) (by omega)
            have HMS := Lib.hid (show ∀ W, Behind w6 W → MsgS gx p a (.slice (some ⟨gS, 0, none⟩) (n + 1) cS) (.slice q.A lr q.c) W from fun W h => ⟨(Below.cell h (p := ⟨gx, 0, none⟩) hX6.lt).trans x0, (Below.cell h (p := ⟨gx, 237, none⟩) hX6.lt).trans xr, (Below.cell h (p := ⟨p, 0, none⟩) hC6.hd.lt).trans hC6.row0⟩)
            have ha7 : (a : Int) < 7 := by omega
            have hb7 : (b : Int) < 7 := by omega
            have ha0 : (0 : Int) ≤ (a : Int) := by omega
            have hb0 : (0 : Int) ≤ (b : Int) := by omega
            clear hC6 hQ6 hX6 hgr hgxp hgo ha hb hgT hlr d0 d1 df bf b0 b1 HC5 HX5 HT HR ha1 hb1 xr
            refine wp_region_class (Behind w6) (by kernel_rfl) (by kernel_rfl) (Below.refl _ _).drew ?_
            iterate 20 (first
              | go_big_quiet_skip
              | ((with_reducible refine wpQuiet_load1 (.int .i64 (a : Int)) (by with_unfolding_all rfl) 3 _ (by with_unfolding_all rfl) .i64 Try.underlying3 gx (0) (by with_unfolding_all rfl) (fun w h => (HMS.out w h).x0) ?_); simp only [Act.put, List.setIfInBounds_toArray, List.set_cons_zero, List.set_cons_succ])
              | ((with_reducible refine wpQuiet_loadS (.slice q.A lr q.c) (by with_unfolding_all rfl) 30 _ _ (by with_unfolding_all rfl) Try.underlying30 gx (237) (by with_unfolding_all rfl) (fun w h => (HMS.out w h).xr) ?_); simp only [Act.put, List.setIfInBounds_toArray, List.set_cons_zero, List.set_cons_succ])
              | ((with_reducible refine wpQuiet_loadS (.slice (some ⟨gS, 0, none⟩) (n + 1) cS) (by with_unfolding_all rfl) 32 _ _ (by with_unfolding_all rfl) Try.underlying32 p (0) (by with_unfolding_all rfl) (fun w h => (HMS.out w h).a0) ?_); simp only [Act.put, List.setIfInBounds_toArray, List.set_cons_zero, List.set_cons_succ])
              | ((with_reducible refine wpQuiet_val (.pointer (some ⟨p, 0, none⟩)) (by with_unfolding_all rfl) (fun w _ => exec_nil _ (by with_unfolding_all rfl) p 0 (by with_unfolding_all rfl) w) ?_); simp only [Act.put, List.setIfInBounds_toArray, List.set_cons_zero, List.set_cons_succ])
              | ((with_reducible refine wpQuiet_val (.pointer (some ⟨gx, 1, none⟩)) (by with_unfolding_all rfl) (fun w _ => exec_f1 _ (by with_unfolding_all rfl) gx (by with_unfolding_all rfl) w) ?_); simp only [Act.put, List.setIfInBounds_toArray, List.set_cons_zero, List.set_cons_succ])
              | ((with_reducible refine wpQuiet_val (.pointer (some ⟨gx, 237, none⟩)) (by with_unfolding_all rfl) (fun w _ => exec_f14 _ (by with_unfolding_all rfl) gx (by with_unfolding_all rfl) w) ?_); simp only [Act.put, List.setIfInBounds_toArray, List.set_cons_zero, List.set_cons_succ])
              | ((with_reducible refine wpQuiet_bin (by with_unfolding_all rfl) .lss 3 _ _ _ (by with_unfolding_all rfl) (.int .i64 (a : Int)) (.int .i64 1) (.bool false) (by with_unfolding_all rfl) (by with_unfolding_all rfl) (fun w => run_guardI w _ _ _ _ _) (fun w => run_lssI0 _ _ (by have := HAB.out; omega) w) ?_); simp only [Act.put, List.setIfInBounds_toArray, List.set_cons_zero, List.set_cons_succ])
              | ((with_reducible refine wpQuiet_bin (by with_unfolding_all rfl) .geq 3 _ _ _ (by with_unfolding_all rfl) (.int .i64 (a : Int)) (.int .i64 ((n : Int) + 1)) (.bool false) (by with_unfolding_all rfl) (by with_unfolding_all rfl) (fun w => run_guardI w _ _ _ _ _) (fun w => run_geqI0 _ _ (by have := HAB.out; omega) w) ?_); simp only [Act.put, List.setIfInBounds_toArray, List.set_cons_zero, List.set_cons_succ])
              | ((with_reducible refine wpQuiet_bin (by with_unfolding_all rfl) .gtr 3 _ _ _ (by with_unfolding_all rfl) (.int .i64 (lr : Int)) (.int .i64 6) (.bool false) (by with_unfolding_all rfl) (by with_unfolding_all rfl) (fun w => run_guardI w _ _ _ _ _) (fun w => run_gtrI0 _ _ HLR.out w) ?_); simp only [Act.put, List.setIfInBounds_toArray, List.set_cons_zero, List.set_cons_succ])
              | (go_big_quiet_step (exact fun _ => rfl)))
            with_reducible refine wpQuiet_nil ?_
            intro wy hwy
            have hC7 := HC6.out.up hwy
            have hX7 := HX6.out.below hwy HX6.out.lt
            have y0 := hX7.cell' (i := 0) (v := .int .i64 a) (by rw [HSC.out, ← HA.out]; rfl)
            have y2 := hX7.cell' (i := 2) (v := .int .i64 b) (by rw [HSC.out, ← HBF.out]; rfl)
            have qa := hC7.silc (i := a) (by omega)
            have qb := hC7.silc (i := b) (by omega)
            have HC7 := Lib.hid hC7
            have HX7 := Lib.hid hX7
            have HQ7 := Lib.hid (show MemsIn wy q.A q.x.rum from HQ6.out.1.below hwy)
            have HNX := Lib.hid (show (run S kk D).net = q.x :: L'.map (·.x) from HL.out.symm)
            clear hC7 hX7 hwy x0 x2 HC6 HX6 HMS
            cases hSa : S (a : Int)
            · rw [hSa] at qa
              cases hSb : S (b : Int)
              · rw [hSb] at qb
                have HSA := Lib.hid (show S q.x.to_ = false by rw [HA.out]; exact hSa)
                have HSB := Lib.hid (show S q.x.frm = false by rw [HBF.out]; exact hSb)
                clear hSa hSb
                obtain ⟨FC, hFC⟩ : ∃ FC, FC = frameC q.x q.A q.c := ⟨_, rfl⟩
                have HFI := Lib.hid (show FrIs FC q.x q.A q.c by rw [hFC]; exact frameC_is q.x q.A q.c)
                have HSF := Lib.hid (show SC = .int .i64 q.x.to_ :: FC by rw [HSC.out, hFC]; rfl)
                clear hFC
                have hCd := HC7.out.up (w' := wy.drew) (Below.refl _ _).drew
                have hXd := HX7.out.below (w' := wy.drew) (Below.refl _ _).drew HX7.out.lt
                have HCH := Lib.hid (show CampH p gS a gx (.slice (some ⟨gS, 0, none⟩) (n + 1) cS) (sp a) SC wy.drew from ⟨hCd.camps (by have := HAB.out; omega) (by have := HAB.out; omega), hXd⟩)
                have HRF := Lib.hid (show ∀ w, At w gx 59 SC → w.rangeAt gx 1 FC from fun w h j v hv => by rw [Nat.add_comm]; exact h.cell' (i := j + 1) (by rw [HSF.out]; exact hv))
                have HX0 := Lib.hid (show ∀ w, At w gx 59 SC → w.cell? ⟨gx, 0, none⟩ = some (.int .i64 a) from fun w h => h.cell' (by rw [HSF.out, HA.out]; rfl))
                have HB1 := Lib.hid (show wy.drew.cell? ⟨p, 1, none⟩ = some (.slice AT L'.length cT) from hCd.row1)
                have HTU := Lib.hid (show (run S (kk + 1) D).X = setX (run S kk D).X (a : Int) (((run S kk D).X (a : Int)).hear q.x).1 ∧ (run S (kk + 1) D).net = L'.map (·.x) ++ (((run S kk D).X (a : Int)).hear q.x).2 from by
                  rw [run_succ, deliver_yes HNX.out HSA.out HSB.out, HA.out]
                  exact ⟨rfl, rfl⟩)
                have HLN := Lib.hid (show ∀ L2 : List Fp, L2.map (·.x) = (((run S kk D).X (a : Int)).hear q.x).2 → L'.length + L2.length ≤ 200 from fun L2 h2 => by
                  have h3 := (HP2.out.1 (kk + 1)).2
                  rw [HTU.out.2, List.length_append, ← h2, List.length_map, List.length_map] at h3
                  exact h3)
                have HCT := Lib.hid (show Calls Try.prog 13 #[.pointer (some ⟨sp a, 0, none⟩), .agg FC.toArray] wy.drew fun e w3 => ∃ v, e = .returned v ∧ CampH p gS a gx (.slice (some ⟨gS, 0, none⟩) (n + 1) cS) (sp a) SC w3 ∧ GaveC w0 w3 p gS cS gq sp n (M + 60 + 8 * kk + 8) S AT cT L' (run S kk D).X (a : Int) (((run S kk D).X (a : Int)).hear q.x).1 (((run S kk D).X (a : Int)).hear q.x).2 v from by
                  refine (hCd.hears (i := a) (by have := HAB.out; omega) (by have := HAB.out; omega) (by omega) HFI.out (HQ7.out.below (Below.refl _ _).drew) (fun h0 g hg => (HQ6.out.2 h0 g hg).2.2.2.2 a (by have := HAB.out; omega) (by have := HAB.out; omega)) HFW.out.2.2.1 HFW.out.2.2.2 (by have := HFW.out.2.1; omega)).mono ?_
                  rintro e w3 ⟨v, he, hG, hK3⟩
                  obtain ⟨OS3, L2, A2, c2, hl3, hC3, hN3⟩ := id hG
                  exact ⟨v, he, ⟨hC3.camps (by have := HAB.out; omega) (by have := HAB.out; omega), hXd.keeps hK3 (HGO.out.2.2.2.2 a (by have := HAB.out; omega) (by have := HAB.out; omega))⟩, hG⟩)
                clear hCd hXd
                go_wp2_with fail
                clear qa qb y0 y2
                have han : (a : Int) < (n : Int) + 1 := by have := HAB.out; omega
                refine wp_region_tree (.quiet 0 (.quiet 1 (.quiet 5 (.quiet 9 (.quiet 10 (.quiet 13 (.quiet 14 (.quiet 2 (.quiet 3 (.quiet 6 (.quiet 7 (.quiet 8 (.quiet 11 (.quiet 12 (.two 4 (.one 15 (.one 16 (.quiet 17 (.quiet 18 (.one 19 .done))))) 15 (.one 4 (.one 16 (.quiet 17 (.quiet 18 (.one 19 .done)))))))))))))))))))) (CampH p gS a gx (.slice (some ⟨gS, 0, none⟩) (n + 1) cS) (sp a) SC) (by kernel_rfl) (by kernel_rfl) (fun _ _ d _ _ h => by cases d <;> exact h) (by kernel_rfl) (by decide) HCH.out ?_
                iterate 14 (
                  first
                    | (refine wpT_val (.pointer (some ⟨p, 0, none⟩)) (by with_unfolding_all rfl) (by with_unfolding_all rfl) (fun w _ => exec_nil _ (by with_unfolding_all rfl) p 0 (by with_unfolding_all rfl) w) ?_; simp only [Act.put, List.setIfInBounds_toArray, List.set_cons_zero, List.set_cons_succ])
                    | (refine wpT_val (.pointer (some ⟨gx, 1, none⟩)) (by with_unfolding_all rfl) (by with_unfolding_all rfl) (fun w _ => exec_f1 _ (by with_unfolding_all rfl) gx (by with_unfolding_all rfl) w) ?_; simp only [Act.put, List.setIfInBounds_toArray, List.set_cons_zero, List.set_cons_succ])
                    | (refine wpT_q (by with_unfolding_all rfl) (by kernel_rfl) ?_
                       first
                        | go_big_quiet_skip
                        | ((with_reducible refine wpQuiet_loadS (.slice (some ⟨gS, 0, none⟩) (n + 1) cS) (by with_unfolding_all rfl) 32 _ _ (by with_unfolding_all rfl) Try.underlying32 p (0) (by with_unfolding_all rfl) (fun w h => h.a.a0) ?_); simp only [Act.put, List.setIfInBounds_toArray, List.set_cons_zero, List.set_cons_succ])
                        | ((with_reducible refine wpQuiet_loadP (.pointer (some ⟨sp a, 0, none⟩)) (by with_unfolding_all rfl) 31 _ _ (by with_unfolding_all rfl) Try.underlying31 gS (a) (by with_unfolding_all rfl) (fun w h => h.a.a2) ?_); simp only [Act.put, List.setIfInBounds_toArray, List.set_cons_zero, List.set_cons_succ])
                        | ((with_reducible refine wpQuiet_load1 (.int .i64 (a : Int)) (by with_unfolding_all rfl) 3 _ (by with_unfolding_all rfl) .i64 Try.underlying3 gx (0) (by with_unfolding_all rfl) (fun w h => HX0.out w h.x) ?_); simp only [Act.put, List.setIfInBounds_toArray, List.set_cons_zero, List.set_cons_succ])
                        | ((with_reducible refine wpQuiet_loadAll (by with_unfolding_all rfl) 57 _ (by with_unfolding_all rfl) gx (1) (by with_unfolding_all rfl) FC _ (fun w h => HRF.out w h.x) Try.underlying57 rfl (by rw [HFI.out.len]; exact info_frame) ?_); simp only [Act.put, List.setIfInBounds_toArray, List.set_cons_zero, List.set_cons_succ])
                        | (go_big_quiet_step (exact fun _ => rfl))
                       refine wpT_qnil ?_))
                refine ⟨?_, ?_⟩
                · refine turn_put (.slice AT L'.length cT) wy.drew (by with_unfolding_all rfl) (by with_unfolding_all rfl) (exec_loadN _ (by with_unfolding_all rfl) p 1 (by with_unfolding_all rfl) HB1.out) HCH.out ?_
                  simp only [Act.put, List.setIfInBounds_toArray, List.set_cons_zero, List.set_cons_succ]
                  refine turn_call 13 [.pointer (some ⟨sp a, 0, none⟩), .agg FC.toArray] (fun v w3 => GaveC w0 w3 p gS cS gq sp n (M + 60 + 8 * kk + 8) S AT cT L' (run S kk D).X (a : Int) (((run S kk D).X (a : Int)).hear q.x).1 (((run S kk D).X (a : Int)).hear q.x).2 v) (by with_unfolding_all rfl) (by with_unfolding_all rfl) (by with_unfolding_all rfl) HCT.out ?_
                  rintro v3 w3 hS3 ⟨OS3, L2, A2, c2, hl3, hC3, hN3⟩
                  simp only [Act.put, List.setIfInBounds_toArray, List.set_cons_zero, List.set_cons_succ]
                  have HC3 := Lib.hid hC3
                  have HN3 := Lib.hid hN3
                  have HL3 := Lib.hid hl3
                  have hlen3 : L'.length + L2.length ≤ 1000 := by have := HLN.out L2 HL3.out; omega
                  have hX3 := hS3.x
                  have HX3 := Lib.hid hX3
                  clear hC3 hN3 hl3 hS3 hX3
                  refine turn_app_net (by with_unfolding_all rfl) (by with_unfolding_all rfl) (.tmp 108) (.tmp 119) (by with_unfolding_all rfl) (by with_unfolding_all rfl) (HN3.out.v.trans rfl) HC3.out.row HN3.out.row hlen3 ?_
                  intro A4 c4 w4 hR4 hA4 hK4
                  have HC5 := Lib.hid (HC3.out.sent HN3.out hR4 hA4 hK4)
                  obtain ⟨s4, s5, s6, s7⟩ := HC3.out.mid (i := a) (by have := HAB.out; omega) (by have := HAB.out; omega) hK4
                  have hX4 := HX3.out.keeps hK4 HGO.out.2.2.2.1
                  have HS4 := Lib.hid (show ((w4.cell? ⟨p, 1, none⟩).isSome = true ∧ w4.frozen? ⟨p, 1, none⟩ = false) ∧ ∀ v, CampH p gS a gx (.slice (some ⟨gS, 0, none⟩) (n + 1) cS) (sp a) SC (w4.setCell ⟨p, 1, none⟩ v) from ⟨⟨s5, s6⟩, fun v => ⟨s7 v, hX4.far (p := ⟨p, 1, none⟩) HGO.out.1.symm v⟩⟩)
                  refine ⟨⟨s4, hX4⟩, ?_⟩
                  simp only [Act.put, List.setIfInBounds_toArray, List.set_cons_zero, List.set_cons_succ]
                  obtain ⟨m4, hm4⟩ : ∃ m4, m4 = (L' ++ L2).length := ⟨_, rfl⟩
                  rw [← hm4]
                  have HM4 := Lib.hid hm4
                  clear hX4 hR4 hA4 hK4 s4 s5 s6 s7 hm4 hlen3
                  iterate 2 (
                    first
                      | (refine wpT_val (.pointer (some ⟨p, 0, none⟩)) (by with_unfolding_all rfl) (by with_unfolding_all rfl) (fun w _ => exec_nil _ (by with_unfolding_all rfl) p 0 (by with_unfolding_all rfl) w) ?_; simp only [Act.put, List.setIfInBounds_toArray, List.set_cons_zero, List.set_cons_succ])
                      | (refine wpT_q (by with_unfolding_all rfl) (by kernel_rfl) ?_
                         first
                          | go_big_quiet_skip
                          | (go_big_quiet_step (exact fun _ => rfl))
                         refine wpT_qnil ?_))
                  refine turn_store1 (.slice A4 m4 c4) (by with_unfolding_all rfl) (by with_unfolding_all rfl) 33 _ _ (by with_unfolding_all rfl) p 1 (by with_unfolding_all rfl) (by with_unfolding_all rfl) (.inr (.inl ⟨_, _, _, rfl⟩)) (by kernel_rfl) HS4.out.1 (HS4.out.2 _) ?_
                  simp only [Act.put]
                  refine wpT_done ?_
                  have hC5 := HC5.out
                  rw [← HM4.out] at hC5
                  generalize w4.setCell ⟨p, 1, none⟩ (.slice A4 m4 c4) = w5 at hC5 ⊢
                  have HC6 := Lib.hid hC5
                  clear hC5 HC5 HS4 HC3 HN3
                  go_wp2_with fail
                  go_roundw
                  case rel =>
                    refine ⟨kk + 1, by omega, by go_num, OS3, A4, c4, L' ++ L2, ?_, ?_⟩
                    · rw [HTU.out.1]
                      exact HC6.out.mono (by omega)
                    · rw [HTU.out.2, List.map_append, HL3.out]
                  case measure => simp [RowKit.intOf]; omega
                · refine turn_call 13 [.pointer (some ⟨sp a, 0, none⟩), .agg FC.toArray] (fun v w3 => GaveC w0 w3 p gS cS gq sp n (M + 60 + 8 * kk + 8) S AT cT L' (run S kk D).X (a : Int) (((run S kk D).X (a : Int)).hear q.x).1 (((run S kk D).X (a : Int)).hear q.x).2 v) (by with_unfolding_all rfl) (by with_unfolding_all rfl) (by with_unfolding_all rfl) HCT.out ?_
                  rintro v3 w3 hS3 ⟨OS3, L2, A2, c2, hl3, hC3, hN3⟩
                  simp only [Act.put, List.setIfInBounds_toArray, List.set_cons_zero, List.set_cons_succ]
                  refine turn_put (.slice AT L'.length cT) w3 (by with_unfolding_all rfl) (by with_unfolding_all rfl) (exec_loadN _ (by with_unfolding_all rfl) p 1 (by with_unfolding_all rfl) (hC3.hd.cell' (i := 1) rfl)) hS3 ?_
                  simp only [Act.put, List.setIfInBounds_toArray, List.set_cons_zero, List.set_cons_succ]
                  have HC3 := Lib.hid hC3
                  have HN3 := Lib.hid hN3
                  have HL3 := Lib.hid hl3
                  have hlen3 : L'.length + L2.length ≤ 1000 := by have := HLN.out L2 HL3.out; omega
                  have hX3 := hS3.x
                  have HX3 := Lib.hid hX3
                  clear hC3 hN3 hl3 hS3 hX3
                  refine turn_app_net (by with_unfolding_all rfl) (by with_unfolding_all rfl) (.tmp 108) (.tmp 119) (by with_unfolding_all rfl) (by with_unfolding_all rfl) (HN3.out.v.trans rfl) HC3.out.row HN3.out.row hlen3 ?_
                  intro A4 c4 w4 hR4 hA4 hK4
                  have HC5 := Lib.hid (HC3.out.sent HN3.out hR4 hA4 hK4)
                  obtain ⟨s4, s5, s6, s7⟩ := HC3.out.mid (i := a) (by have := HAB.out; omega) (by have := HAB.out; omega) hK4
                  have hX4 := HX3.out.keeps hK4 HGO.out.2.2.2.1
                  have HS4 := Lib.hid (show ((w4.cell? ⟨p, 1, none⟩).isSome = true ∧ w4.frozen? ⟨p, 1, none⟩ = false) ∧ ∀ v, CampH p gS a gx (.slice (some ⟨gS, 0, none⟩) (n + 1) cS) (sp a) SC (w4.setCell ⟨p, 1, none⟩ v) from ⟨⟨s5, s6⟩, fun v => ⟨s7 v, hX4.far (p := ⟨p, 1, none⟩) HGO.out.1.symm v⟩⟩)
                  refine ⟨⟨s4, hX4⟩, ?_⟩
                  simp only [Act.put, List.setIfInBounds_toArray, List.set_cons_zero, List.set_cons_succ]
                  obtain ⟨m4, hm4⟩ : ∃ m4, m4 = (L' ++ L2).length := ⟨_, rfl⟩
                  rw [← hm4]
                  have HM4 := Lib.hid hm4
                  clear hX4 hR4 hA4 hK4 s4 s5 s6 s7 hm4 hlen3
                  iterate 2 (
                    first
                      | (refine wpT_val (.pointer (some ⟨p, 0, none⟩)) (by with_unfolding_all rfl) (by with_unfolding_all rfl) (fun w _ => exec_nil _ (by with_unfolding_all rfl) p 0 (by with_unfolding_all rfl) w) ?_; simp only [Act.put, List.setIfInBounds_toArray, List.set_cons_zero, List.set_cons_succ])
                      | (refine wpT_q (by with_unfolding_all rfl) (by kernel_rfl) ?_
                         first
                          | go_big_quiet_skip
                          | (go_big_quiet_step (exact fun _ => rfl))
                         refine wpT_qnil ?_))
                  refine turn_store1 (.slice A4 m4 c4) (by with_unfolding_all rfl) (by with_unfolding_all rfl) 33 _ _ (by with_unfolding_all rfl) p 1 (by with_unfolding_all rfl) (by with_unfolding_all rfl) (.inr (.inl ⟨_, _, _, rfl⟩)) (by kernel_rfl) HS4.out.1 (HS4.out.2 _) ?_
                  simp only [Act.put]
                  refine wpT_done ?_
                  have hC5 := HC5.out
                  rw [← HM4.out] at hC5
                  generalize w4.setCell ⟨p, 1, none⟩ (.slice A4 m4 c4) = w5 at hC5 ⊢
                  have HC6 := Lib.hid hC5
                  clear hC5 HC5 HS4 HC3 HN3
                  go_wp2_with fail
                  go_roundw
                  case rel =>
                    refine ⟨kk + 1, by omega, by go_num, OS3, A4, c4, L' ++ L2, ?_, ?_⟩
                    · rw [HTU.out.1]
                      exact HC6.out.mono (by omega)
                    · rw [HTU.out.2, List.map_append, HL3.out]
                  case measure => simp [RowKit.intOf]; omega
              · rw [hSb] at qb
                have HDL := Lib.hid (deliver_no HNX.out (.inr (show S q.x.frm = true by rw [HBF.out]; exact hSb)))
                clear hSa hSb
                go_wp2_with fail
                go_roundw
                case rel =>
                  refine ⟨kk + 1, by omega, by go_num, OS, AT, cT, L', ?_, ?_⟩
                  · rw [run_succ, HDL.out]
                    exact HC7.out.mono (by omega)
                  · rw [run_succ, HDL.out]
                case measure => simp [RowKit.intOf]; omega
            · rw [hSa] at qa
              have HDL := Lib.hid (deliver_no HNX.out (.inl (show S q.x.to_ = true by rw [HA.out]; exact hSa)))
              clear hSa
              go_wp2_with fail
              go_roundw
              case rel =>
                refine ⟨kk + 1, by omega, by go_num, OS, AT, cT, L', ?_, ?_⟩
                · rw [run_succ, HDL.out]
                  exact HC7.out.mono (by omega)
                · rw [run_succ, HDL.out]
              case measure => simp [RowKit.intOf]; omega
end Go.Proofs.Ytghefmppjdneoaa
