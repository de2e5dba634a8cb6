/- Layer 12, the texts ScZh to ScZh joined: what the functions that a scout reaches do with memory, each told once. -/
import Derived.Test.YtghefmppjdneoaaGrpN
namespace Go.Proofs.Ytghefmppjdneoaa
open Go.Proofs Stab Go.Shelf Go.RowKit Go.Lib Go.Sort Go.Maps

theorem exec_p0 {ρ : Operand → Value} {o : Oper} (y : Operand) (ho : o.op = .fieldAddr 75 y 0) (g off : Nat) (hx : ρ y = .pointer (some ⟨g, off, none⟩)) (w : World) : (execOp ρ o).run Try.prog w = .ok (.value (.pointer (some ⟨g, off, none⟩))) w := by
  unfold execOp
  simp only [ho, hx]
  go_simp
theorem exec_p1 {ρ : Operand → Value} {o : Oper} (y : Operand) (ho : o.op = .fieldAddr 75 y 1) (g off : Nat) (hx : ρ y = .pointer (some ⟨g, off, none⟩)) (w : World) : (execOp ρ o).run Try.prog w = .ok (.value (.pointer (some ⟨g, off + 1, none⟩))) w := by
  unfold execOp
  simp only [ho, hx]
  go_simp
theorem exec_p3 {ρ : Operand → Value} {o : Oper} (y : Operand) (ho : o.op = .fieldAddr 75 y 3) (g off : Nat) (hx : ρ y = .pointer (some ⟨g, off, none⟩)) (w : World) : (execOp ρ o).run Try.prog w = .ok (.value (.pointer (some ⟨g, off + 3, none⟩))) w := by
  unfold execOp
  simp only [ho, hx]
  go_simp
theorem ack_yes {t : Sct} {x : Fr} (h1 : 0 < t.tgt) (h2 : x.seq = t.seq) (h3 : x.node = t.tgt) (h4 : x.frm = t.tgt ∨ x.frm ∈ t.help) : t.ack x = ({ t with got := true, rel := t.rel.filter fun r => !Sct.mine x r }, outs x t.rel) := by
  unfold Sct.ack
  simp only
  rw [if_pos ⟨h1, h2, h3, h4⟩]
  rfl
theorem ack_no {t : Sct} {x : Fr} (h : ¬ 0 < t.tgt ∨ ¬ x.seq = t.seq ∨ ¬ x.node = t.tgt ∨ ¬ (x.frm = t.tgt ∨ x.frm ∈ t.help)) : t.ack x = ({ t with rel := t.rel.filter fun r => !Sct.mine x r }, outs x t.rel) := by
  unfold Sct.ack
  simp only
  rw [if_neg]
  · rfl
  · rintro ⟨h1, h2, h3, h4⟩
    rcases h with h | h | h | h
    · exact h h1
    · exact h h2
    · exact h h3
    · exact h h4
theorem setCell_same {w : World} {g : Nat} {ty : TypeId} {v : Value} (h : At w g ty [v]) : w.setCell ⟨g, 0, none⟩ v = w := by
  have hh : (w.setCell ⟨g, 0, none⟩ v).heap = w.heap := by
    apply Array.ext_getElem?
    intro i
    by_cases hi : i = g
    · subst hi
      have := h.set 0 v
      exact this.trans h.symm
    · exact heap_setCell_other w _ i v hi
  have hw : w.setCell ⟨g, 0, none⟩ v = { w with heap := (w.setCell ⟨g, 0, none⟩ v).heap } := rfl
  rw [hw, hh]
theorem ret_cell1 {P : Program} {fn : Func} {R : Ending → World → Prop} {a : Act} {w : World} {p : Tmp} {ty e : TypeId} (hr : fn.results = #[.cell p ty]) (hd : a.defers = []) (g : Nat) (hp : a.tmps.getD p undef = .pointer (some ⟨g, 0, none⟩)) (hu : P.underlying ty = some (.slice e)) {v : Value} (hc : w.cell? ⟨g, 0, none⟩ = some v) (hR : R (.returned v) w) : bodyPost P fn R .ret a w := by
  refine bodyPost_ret ?_ hd hR
  have hp' : a.tmps[p]?.getD undef = .pointer (some ⟨g, 0, none⟩) := by simpa using hp
  simp [results, hr, hp', asAddr, loadVar, isAgg, run_underlying hu, hc]
section
variable {H : Type} {w w' w0 : World} {O : Nat → Prop} {M : Nat} {b : Blk} {t : Sct} {s : Nat}
/-- its relays have been cut down in a clone, a block beside it has been written -/
theorem Grew.acked {W2 wz w5 w6 : World} {ov n rc c2 m : Nat} {rA A2 : Option Addr} {l' : List Rel} (h : Grew H W2 wz O M s t) (hc : wz.cell? ⟨s, 12, none⟩ = some (.slice rA n rc)) (_hn : n = n) (hb : Below wz.heap.size wz w5) (hk : Keeps (fun i => i < wz.heap.size ∧ i ≠ ov) w5 w6) (hov : ov < wz.heap.size) (hoO : ¬ O ov ∧ ov < W2.heap.size ∧ w.heap.size ≤ ov) (hr : RRow w6 A2 c2 l') (hlo : ∀ g, blkOf A2 = some g → wz.heap.size ≤ g) (hm : m = l'.length) (hb2 : Below w.heap.size w W2) (_hO : ∀ i, O i → i < w.heap.size) (hl : l'.length ≤ 16) :
    Grew H w (w6.setCell ⟨s, 12, none⟩ (.slice A2 m c2)) O M s { t with rel := l' } := by
  obtain ⟨b', O', rfl, hS, h3, h4⟩ := h
  obtain ⟨_, _, _, _, _, _, _, _, n9⟩ := Blk.ne hS.dis
  have hso : O' b'.s := hS.own _ (mem_list.2 (.inl rfl))
  have hno : ¬ O' ov := fun ho => by
    rcases h3 ov ho with h | h
    · exact hoO.1 h
    · omega
  have hslt := hS.hd.lt
  have hsz5 := hb.size
  have hsz6 := hk.size
  have hg : w6.grownBy (w6.setCell ⟨b'.s, 12, none⟩ (.slice A2 m c2)) (some b'.s) := grown_setCell (World.grownBy.refl _ _) (.inl rfl) _
  have hsz7 := hg.size
  have k6 : ∀ i, i < wz.heap.size → i ≠ ov → w6.heap[i]? = wz.heap[i]? := fun i hi hn => (hk.block i ⟨hi, hn⟩ (Nat.lt_of_lt_of_le hi hsz5)).trans (hb.block i hi)
  have k7 : ∀ i, i < wz.heap.size → i ≠ ov → i ≠ b'.s → (w6.setCell ⟨b'.s, 12, none⟩ (.slice A2 m c2)).heap[i]? = wz.heap[i]? := fun i hi hn hs => (hg.block i (Nat.lt_of_lt_of_le hi (Nat.le_trans hsz5 hsz6)) fun e => hs (Option.some.inj e)).trans (k6 i hi hn)
  have hAt : At w6 b'.s 79 (scC b' t) := (k6 _ hslt fun e => hno (e ▸ hso)).trans hS.hd
  have hset := hAt.set 12 (.slice A2 m c2)
  have hcells : scC { b' with rA := A2, rc := c2 } { t with rel := l' } = (scC b' t).set 12 (.slice A2 m c2) := by rw [hm]; rfl
  rw [← hcells] at hset
  have hos : (w6.setCell ⟨b'.s, 12, none⟩ (.slice A2 m c2)).os = wz.os := hg.os.trans (hk.os.trans hb.os)
  have htp : (w6.setCell ⟨b'.s, 12, none⟩ (.slice A2 m c2)).tape = wz.tape := hg.tape.trans (hk.tape.trans hb.tape)
  have hot : (w6.setCell ⟨b'.s, 12, none⟩ (.slice A2 m c2)).output = wz.output := hg.output.trans (hk.output.trans hb.output)
  have hsz : wz.heap.size ≤ (w6.setCell ⟨b'.s, 12, none⟩ (.slice A2 m c2)).heap.size := Nat.le_trans hsz5 (Nat.le_trans hsz6 hsz7)
  have hlim := hS.lim
  have hS2 := hS.relayed (M' := M) (A := A2) (c := c2) (t' := { t with rel := l' }) ⟨hos, htp, hot, hsz, fun i hi hl => k7 i hl (fun e => hno (e ▸ hi.1)) hi.2.1⟩ hset ⟨rfl, rfl, rfl, rfl, rfl⟩ (hr.keep fun g off e2 => hg.block g (hr.lt e2) fun e3 => by cases e3; have := hlo b'.s (blk_some e2); omega) (fun g hg2 => .inr (hlo g hg2)) ⟨hlim.me, hlim.ticks, hlim.last, hlim.seq, hlim.tgt, hlim.help, hlim.line, hl, hlim.since⟩ (Nat.le_refl _)
  have hb2s := hb2.size
  have h4s := h4.size
  refine ⟨{ b' with rA := A2, rc := c2 }, _, rfl, hS2, fun i hi => ?_, ⟨hos.trans (h4.os.trans hb2.os), htp.trans (h4.tape.trans hb2.tape), hot.trans (h4.output.trans hb2.output), by omega, fun i hi hl => ?_⟩⟩
  · rcases hi with hi | hi
    · rcases h3 i hi with h | h
      · exact .inl h
      · exact .inr ⟨by omega, by omega⟩
    · exact .inr ⟨by omega, hi.2⟩
  · refine (k7 i (by omega) (by omega) fun e => ?_).trans ((h4.block i hi (by omega)).trans (hb2.block i hl))
    rcases h3 i (e ▸ hso) with h | h
    · exact hi h
    · omega
theorem Grew.helps (h : Grew H w0 w O M s t) : ∃ hA hc, w.cell? ⟨s, 5, none⟩ = some (.slice hA t.help.length hc) ∧ IRow w hA hc t.help := by
  obtain ⟨b', O', rfl, hS, _⟩ := h
  exact ⟨b'.hA, b'.hc, hS.cell (i := 5) rfl, hS.help⟩
set_option maxRecDepth 100000 in
set_option maxHeartbeats 8000000 in
theorem ack_aux (h : ScAt H w O M b t) (hO : ∀ i, O i → i < w.heap.size) {F : List Value} {x : Fr} {A : Option Addr} {c : Nat} (hF : FrIs F x A c) : Calls Try.prog 36 #[.pointer (some ⟨b.s, 0, none⟩), .agg F.toArray] w fun e w' => ∃ v, e = .returned v ∧ Bares w' v (t.ack x).2 ∧ Grew H w w' O M b.s (t.ack x).1 := by
  obtain ⟨W1, hW1⟩ : ∃ W1, W1 = w.alloc (.cells F.toArray 57) := ⟨_, rfl⟩
  have hA1 : At W1 w.heap.size 57 F := by rw [hW1]; exact At.new _ _ _
  have hb1 : Below w.heap.size w W1 := by rw [hW1]; exact (Below.refl _ _).alloc (Nat.le_refl _) _
  obtain ⟨W2, hW2⟩ : ∃ W2, W2 = W1.alloc (.cells #[.slice none 0 0] 33) := ⟨_, rfl⟩
  have hA2 : At W2 W1.heap.size 33 [.slice none 0 0] := by rw [hW2]; exact At.newA _ _ rfl
  have hb2 : Below W1.heap.size W1 W2 := by rw [hW2]; exact (Below.refl _ _).alloc (Nat.le_refl _) _
  obtain ⟨s, hs⟩ : ∃ s, s = b.s := ⟨_, rfl⟩
  have hB2 : Below w.heap.size w W2 := hb1.trans (hb2.mono hb1.size)
  have hG2 : Grew H W2 W2 O M s t := by have := Grew.refl (h.below hB2); rwa [← hs] at this
  rw [← hs]
  obtain ⟨fq, hfq⟩ : ∃ fq, fq = w.heap.size := ⟨_, rfl⟩
  obtain ⟨ov, hov⟩ : ∃ ov, ov = W1.heap.size := ⟨_, rfl⟩
  rw [← hfq] at hA1
  rw [← hov] at hA2
  have hF2 := hA1.below hb2 hA1.lt
  have hfl := hA1.lt
  have hsl := h.hd.lt
  have HO := Lib.hid (show ¬ O fq ∧ ¬ O ov from ⟨fun ho => by have := hO fq ho; omega, fun ho => by have := hO ov ho; have := hb1.size; omega⟩)
  have HO2 := Lib.hid (show fq ≠ ov by omega)
  have HO3 := Lib.hid (show s ≠ ov by rw [hs]; have := hb1.size; omega)
  have HO4 := Lib.hid (show ov < W2.heap.size from hA2.lt)
  have HO5 := Lib.hid (show ¬ O ov ∧ ov < W2.heap.size ∧ w.heap.size ≤ ov from ⟨HO.out.2, hA2.lt, by rw [hov]; exact hb1.size⟩)
  have HOT := Lib.hid hO
  have HB2 := Lib.hid hB2
  have HA2 := Lib.hid (And.intro hF2 hA2)
  have HW := Lib.hid (And.intro (And.intro hW1 hfq) (And.intro hW2 hov))
  have HF := Lib.hid hF
  have HG2 := Lib.hid (show ∀ W, Behind W2 W → Grew H W2 W O M s t from fun W hW => hG2.on hW)
  obtain ⟨tg, htg⟩ : ∃ tg, tg = t.tgt := ⟨_, rfl⟩
  obtain ⟨sq, hsq⟩ : ∃ sq, sq = t.seq := ⟨_, rfl⟩
  have HE := Lib.hid (And.intro htg hsq)
  have HS2 := Lib.hid (show ∀ W, Behind W2 W → W.cell? ⟨s, 2, none⟩ = some (.int .i64 tg) from fun W hW => by rw [htg]; exact (HG2.out W hW).cell (i := 2) (fun _ => rfl))
  have HS3 := Lib.hid (show ∀ W, Behind W2 W → W.cell? ⟨s, 3, none⟩ = some (.int .i64 sq) from fun W hW => by rw [hsq]; exact (HG2.out W hW).cell (i := 3) (fun _ => rfl))
  have HFQ := Lib.hid (show (∀ W, Behind W2 W → W.cell? ⟨fq, 1, none⟩ = some (.int .i64 x.frm)) ∧ (∀ W, Behind W2 W → W.cell? ⟨fq, 2, none⟩ = some (.int .i64 x.seq)) ∧ ∀ W, Behind W2 W → W.cell? ⟨fq, 3, none⟩ = some (.int .i64 x.node) from ⟨fun W hW => (hF2.below hW hF2.lt).cell' hF.f, fun W hW => (hF2.below hW hF2.lt).cell' hF.s, fun W hW => (hF2.below hW hF2.lt).cell' hF.n⟩)
  obtain ⟨hA, hc, hc5, hIR⟩ := hG2.helps
  obtain ⟨hn, hhn⟩ : ∃ hn, hn = t.help.length := ⟨_, rfl⟩
  have HS5 := Lib.hid (show ∀ W, Behind W2 W → W.cell? ⟨s, 5, none⟩ = some (.slice hA hn hc) from fun W hW => by rw [hhn]; exact (World.cell?_of_block (a := ⟨s, 5, none⟩) (Below.block hW s hG2.lt)).trans hc5)
  have HCN := Lib.hid (show ∀ W, Behind W2 W → Calls Try.prog 50 #[.slice hA hn hc, .int .i64 x.frm] W fun e w' => e = .returned (.bool (decide (x.frm ∈ t.help))) ∧ Behind W2 w' from fun W hW => by
    rw [hhn]
    refine (con_row (hIR.below hW) (by have := hG2.lim.help; omega) x.frm).mono ?_
    rintro e w' ⟨rfl, rfl⟩
    exact ⟨rfl, hW⟩)
  clear h hO hW1 hA1 hb1 hW2 hA2 hb2 hs hB2 hG2 hfq hov hF2 hfl hsl hF htg hsq hc5 hIR hhn
  go_enter Try.func36, Try.ntmps36
  go_wp2_with (first
    | ((with_reducible refine wpList_to (.pointer (some ⟨w.heap.size, 0, none⟩)) (w.alloc (.cells F.toArray 57)) (by with_unfolding_all rfl) (exec_boxF _ _ (by with_unfolding_all rfl) F (by with_unfolding_all rfl)) ?_); rw [← HW.out.1.1, ← HW.out.1.2]))
  rw [← HW.out.2.1, ← HW.out.2.2]
  by_cases hft : x.frm = tg
  · have HFT := Lib.hid (show ∀ w, (binOp .eql 3 (.int .i64 x.frm) (.int .i64 tg)).run Try.prog w = .ok (.bool true) w from by rw [hft]; exact run_eqlI1 _)
    have HASK := Lib.hid (show x.frm = t.tgt ∨ x.frm ∈ t.help from .inl (by rw [← HE.out.1]; exact hft))
    clear hft
    refine wp_region_class (Behind W2) (by kernel_rfl) (by kernel_rfl) ((Below.refl _ _).drew) ?_
    iterate 19 (first
      | go_big_quiet_skip
      | ((with_reducible refine wpQuiet_val (.pointer (some ⟨s, 0, none⟩)) (by with_unfolding_all rfl) (fun w _ => exec_nil _ (by with_unfolding_all rfl) s 0 (by with_unfolding_all rfl) w) ?_); simp only [Act.put, List.setIfInBounds_toArray, List.set_cons_zero, List.set_cons_succ])
      | ((with_reducible refine wpQuiet_val (.pointer (some ⟨s, 2, none⟩)) (by with_unfolding_all rfl) (fun w _ => exec_s1 _ (by with_unfolding_all rfl) s (by with_unfolding_all rfl) w) ?_); simp only [Act.put, List.setIfInBounds_toArray, List.set_cons_zero, List.set_cons_succ])
      | ((with_reducible refine wpQuiet_val (.pointer (some ⟨s, 2, none⟩)) (by with_unfolding_all rfl) (fun w _ => exec_p0 _ (by with_unfolding_all rfl) s 2 (by with_unfolding_all rfl) w) ?_); simp only [Act.put, List.setIfInBounds_toArray, List.set_cons_zero, List.set_cons_succ])
      | ((with_reducible refine wpQuiet_val (.pointer (some ⟨s, 3, none⟩)) (by with_unfolding_all rfl) (fun w _ => exec_p1 _ (by with_unfolding_all rfl) s 2 (by with_unfolding_all rfl) w) ?_); simp only [Act.put, List.setIfInBounds_toArray, List.set_cons_zero, List.set_cons_succ])
      | ((with_reducible refine wpQuiet_val (.pointer (some ⟨s, 5, none⟩)) (by with_unfolding_all rfl) (fun w _ => exec_p3 _ (by with_unfolding_all rfl) s 2 (by with_unfolding_all rfl) w) ?_); simp only [Act.put, List.setIfInBounds_toArray, List.set_cons_zero, List.set_cons_succ])
      | ((with_reducible refine wpQuiet_load1 (.int .i64 x.frm) (by with_unfolding_all rfl) 3 _ (by with_unfolding_all rfl) .i64 Try.underlying3 fq (1) (by with_unfolding_all rfl) (fun w h => HFQ.out.1 w h) ?_); simp only [Act.put, List.setIfInBounds_toArray, List.set_cons_zero, List.set_cons_succ])
      | ((with_reducible refine wpQuiet_load1 (.int .i64 x.seq) (by with_unfolding_all rfl) 3 _ (by with_unfolding_all rfl) .i64 Try.underlying3 fq (2) (by with_unfolding_all rfl) (fun w h => HFQ.out.2.1 w h) ?_); simp only [Act.put, List.setIfInBounds_toArray, List.set_cons_zero, List.set_cons_succ])
      | ((with_reducible refine wpQuiet_load1 (.int .i64 x.node) (by with_unfolding_all rfl) 3 _ (by with_unfolding_all rfl) .i64 Try.underlying3 fq (3) (by with_unfolding_all rfl) (fun w h => HFQ.out.2.2 w h) ?_); simp only [Act.put, List.setIfInBounds_toArray, List.set_cons_zero, List.set_cons_succ])
      | ((with_reducible refine wpQuiet_load1 (.int .i64 tg) (by with_unfolding_all rfl) 3 _ (by with_unfolding_all rfl) .i64 Try.underlying3 s (2) (by with_unfolding_all rfl) (fun w h => HS2.out w h) ?_); simp only [Act.put, List.setIfInBounds_toArray, List.set_cons_zero, List.set_cons_succ])
      | ((with_reducible refine wpQuiet_load1 (.int .i64 sq) (by with_unfolding_all rfl) 3 _ (by with_unfolding_all rfl) .i64 Try.underlying3 s (3) (by with_unfolding_all rfl) (fun w h => HS3.out w h) ?_); simp only [Act.put, List.setIfInBounds_toArray, List.set_cons_zero, List.set_cons_succ])
      | ((with_reducible refine wpQuiet_bin (by with_unfolding_all rfl) .eql 3 _ _ _ (by with_unfolding_all rfl) (.int .i64 x.frm) (.int .i64 tg) (.bool true) (by with_unfolding_all rfl) (by with_unfolding_all rfl) (fun w => run_guardI w _ _ _ _ _) (fun w => HFT.out w) ?_); simp only [Act.put, List.setIfInBounds_toArray, List.set_cons_zero, List.set_cons_succ])
      | (go_big_quiet_step (exact fun _ => rfl)))
    with_reducible refine wpQuiet_nil ?_
    intro wx hwx
    have Hwx := Lib.hid hwx
    clear hwx HCN HS5
    go_wp2_with fail
    by_cases h1 : 0 < tg
    · have HGT := Lib.hid (show ∀ w, (binOp .gtr 3 (.int .i64 tg) (.int .i64 0)).run Try.prog w = .ok (.bool true) w from run_gtrI1 _ _ h1)
      by_cases h2 : x.seq = sq
      · have HEQ := Lib.hid (show ∀ w, (binOp .eql 3 (.int .i64 x.seq) (.int .i64 sq)).run Try.prog w = .ok (.bool true) w from by rw [h2]; exact run_eqlI1 _)
        by_cases h3 : x.node = tg
        · have HEN := Lib.hid (show ∀ w, (binOp .eql 3 (.int .i64 x.node) (.int .i64 tg)).run Try.prog w = .ok (.bool true) w from by rw [h3]; exact run_eqlI1 _)
          have HC := Lib.hid (ack_yes (x := x) (t := t) (by rw [← HE.out.1]; exact h1) (by rw [← HE.out.2]; exact h2) (by rw [← HE.out.1]; exact h3) HASK.out)
          clear h1 h2 h3
          refine wp_region_class (Behind W2) (by kernel_rfl) (by kernel_rfl) (show Behind W2 wx.drew from Below.drew Hwx.out) ?_
          iterate 29 (first
            | go_big_quiet_skip
            | ((with_reducible refine wpQuiet_val (.pointer (some ⟨s, 0, none⟩)) (by with_unfolding_all rfl) (fun w _ => exec_nil _ (by with_unfolding_all rfl) s 0 (by with_unfolding_all rfl) w) ?_); simp only [Act.put, List.setIfInBounds_toArray, List.set_cons_zero, List.set_cons_succ])
            | ((with_reducible refine wpQuiet_val (.pointer (some ⟨s, 2, none⟩)) (by with_unfolding_all rfl) (fun w _ => exec_s1 _ (by with_unfolding_all rfl) s (by with_unfolding_all rfl) w) ?_); simp only [Act.put, List.setIfInBounds_toArray, List.set_cons_zero, List.set_cons_succ])
            | ((with_reducible refine wpQuiet_val (.pointer (some ⟨s, 2, none⟩)) (by with_unfolding_all rfl) (fun w _ => exec_p0 _ (by with_unfolding_all rfl) s 2 (by with_unfolding_all rfl) w) ?_); simp only [Act.put, List.setIfInBounds_toArray, List.set_cons_zero, List.set_cons_succ])
            | ((with_reducible refine wpQuiet_val (.pointer (some ⟨s, 3, none⟩)) (by with_unfolding_all rfl) (fun w _ => exec_p1 _ (by with_unfolding_all rfl) s 2 (by with_unfolding_all rfl) w) ?_); simp only [Act.put, List.setIfInBounds_toArray, List.set_cons_zero, List.set_cons_succ])
            | ((with_reducible refine wpQuiet_val (.pointer (some ⟨s, 5, none⟩)) (by with_unfolding_all rfl) (fun w _ => exec_p3 _ (by with_unfolding_all rfl) s 2 (by with_unfolding_all rfl) w) ?_); simp only [Act.put, List.setIfInBounds_toArray, List.set_cons_zero, List.set_cons_succ])
            | ((with_reducible refine wpQuiet_load1 (.int .i64 x.frm) (by with_unfolding_all rfl) 3 _ (by with_unfolding_all rfl) .i64 Try.underlying3 fq (1) (by with_unfolding_all rfl) (fun w h => HFQ.out.1 w h) ?_); simp only [Act.put, List.setIfInBounds_toArray, List.set_cons_zero, List.set_cons_succ])
            | ((with_reducible refine wpQuiet_load1 (.int .i64 x.seq) (by with_unfolding_all rfl) 3 _ (by with_unfolding_all rfl) .i64 Try.underlying3 fq (2) (by with_unfolding_all rfl) (fun w h => HFQ.out.2.1 w h) ?_); simp only [Act.put, List.setIfInBounds_toArray, List.set_cons_zero, List.set_cons_succ])
            | ((with_reducible refine wpQuiet_load1 (.int .i64 x.node) (by with_unfolding_all rfl) 3 _ (by with_unfolding_all rfl) .i64 Try.underlying3 fq (3) (by with_unfolding_all rfl) (fun w h => HFQ.out.2.2 w h) ?_); simp only [Act.put, List.setIfInBounds_toArray, List.set_cons_zero, List.set_cons_succ])
            | ((with_reducible refine wpQuiet_load1 (.int .i64 tg) (by with_unfolding_all rfl) 3 _ (by with_unfolding_all rfl) .i64 Try.underlying3 s (2) (by with_unfolding_all rfl) (fun w h => HS2.out w h) ?_); simp only [Act.put, List.setIfInBounds_toArray, List.set_cons_zero, List.set_cons_succ])
            | ((with_reducible refine wpQuiet_load1 (.int .i64 sq) (by with_unfolding_all rfl) 3 _ (by with_unfolding_all rfl) .i64 Try.underlying3 s (3) (by with_unfolding_all rfl) (fun w h => HS3.out w h) ?_); simp only [Act.put, List.setIfInBounds_toArray, List.set_cons_zero, List.set_cons_succ])
            | ((with_reducible refine wpQuiet_bin (by with_unfolding_all rfl) .gtr 3 _ _ _ (by with_unfolding_all rfl) (.int .i64 tg) (.int .i64 0) (.bool true) (by with_unfolding_all rfl) (by with_unfolding_all rfl) (fun w => run_guardI w _ _ _ _ _) (fun w => HGT.out w) ?_); simp only [Act.put, List.setIfInBounds_toArray, List.set_cons_zero, List.set_cons_succ])
            | ((with_reducible refine wpQuiet_bin (by with_unfolding_all rfl) .eql 3 _ _ _ (by with_unfolding_all rfl) (.int .i64 x.seq) (.int .i64 sq) (.bool true) (by with_unfolding_all rfl) (by with_unfolding_all rfl) (fun w => run_guardI w _ _ _ _ _) (fun w => HEQ.out w) ?_); simp only [Act.put, List.setIfInBounds_toArray, List.set_cons_zero, List.set_cons_succ])
            | ((with_reducible refine wpQuiet_bin (by with_unfolding_all rfl) .eql 3 _ _ _ (by with_unfolding_all rfl) (.int .i64 x.node) (.int .i64 tg) (.bool true) (by with_unfolding_all rfl) (by with_unfolding_all rfl) (fun w => run_guardI w _ _ _ _ _) (fun w => HEN.out w) ?_); simp only [Act.put, List.setIfInBounds_toArray, List.set_cons_zero, List.set_cons_succ])
            | (go_big_quiet_step (exact fun _ => rfl)))
          with_reducible refine wpQuiet_nil ?_
          intro wy hwy
          have HGG := Lib.hid (HG2.out wy hwy)
          have Hwy := Lib.hid hwy
          have c4 : wy.cell? ⟨s, 4, none⟩ = some (.bool t.got) := HGG.out.cell (i := 4) (fun _ => rfl)
          have f4 := HGG.out.frozen 4
          obtain ⟨gt, hgt⟩ : ∃ gt, gt = t.got := ⟨_, rfl⟩
          rw [← hgt] at c4
          clear hgt
          clear hwy HS2 HS3 HFQ
          have HG := Lib.hid (HGG.out.set (i := 4) (v := .bool true) (t' := { t with got := true }) (fun _ => rfl) ⟨rfl, rfl, rfl, rfl, rfl, rfl⟩ (fun l => ⟨l.me, l.ticks, l.last, l.seq, l.tgt, l.help, l.line, l.rel, l.since⟩) (Nat.le_refl M))
          have hfz : At (wy.setCell ⟨s, 4, none⟩ (.bool true)) fq 57 F := (HG.out.keeps.block fq HO.out.1 HA2.out.1.lt).trans HA2.out.1
          have hoz : At (wy.setCell ⟨s, 4, none⟩ (.bool true)) ov 33 [.slice none 0 0] := (HG.out.keeps.block ov HO.out.2 HA2.out.2.lt).trans HA2.out.2
          obtain ⟨rA, rc, hc12, hR, _, _⟩ := HG.out.relrow
          obtain ⟨rl, hrl⟩ : ∃ rl, rl = t.rel := ⟨_, rfl⟩
          have HRL := Lib.hid hrl
          have hR' : RRow (wy.setCell ⟨s, 4, none⟩ (.bool true)) rA rc rl := by rw [hrl]; exact hR
          have hc12' : (wy.setCell ⟨s, 4, none⟩ (.bool true)).cell? ⟨s, 12, none⟩ = some (.slice rA rl.length rc) := by rw [hrl]; exact hc12
          have hl16 : rl.length ≤ 16 := by rw [hrl]; exact HG.out.lim.rel
          have HCL := Lib.hid (clone_rel hR' hl16)
          have HZ := Lib.hid (And.intro hfz hoz)
          have HC12 := Lib.hid hc12'
          obtain ⟨n, hn⟩ : ∃ n, n = rl.length := ⟨_, rfl⟩
          rw [← hn] at hc12' HCL
          have HN := Lib.hid hn
          clear hfz hoz hc12 hR hrl hR' hl16 hn
          go_wp2_with fail
          refine HCL.out.mono ?_
          rintro e w5 ⟨A1, cap, rfl, hb5, hCR⟩
          have hlZ := HZ.out.1.lt
          have hlO := HZ.out.2.lt
          have HD := Lib.hid (del_ack hCR (by rw [HRL.out]; exact HG.out.lim.rel) hb5.size hlO hlZ (Ne.symm HO2.out) (HZ.out.2.below hb5 hlO) (HZ.out.1.below hb5 hlZ) HF.out)
          rw [← HN.out] at HD
          have HB5 := Lib.hid hb5
          clear hb5 hCR hlZ hlO HCL
          go_wp2_with fail
          refine HD.out.mono ?_
          rintro e w6 ⟨A2, c2, rfl, hR6, hlo6, ⟨v6, hv6, hrow6⟩, hk6⟩
          have hlt := HG.out.lt
          have hs6 : w6.heap[s]? = w5.heap[s]? := hk6.block s ⟨hlt, HO3.out⟩ (Nat.lt_of_lt_of_le hlt HB5.out.size)
          have hs56 : w6.heap[s]? = (wy.setCell ⟨s, 4, none⟩ (.bool true)).heap[s]? := hs6.trans (HB5.out.block s hlt)
          have c12 : w6.cell? ⟨s, 12, none⟩ = some (.slice rA n rc) := by rw [World.cell?_of_block (a := ⟨s, 12, none⟩) hs56, HN.out]; exact HC12.out
          have f12 : w6.frozen? ⟨s, 12, none⟩ = false := by rw [World.frozen?_of_block (a := ⟨s, 12, none⟩) hs56]; exact HG.out.frozen 12
          obtain ⟨m, hm⟩ : ∃ m, m = (rl.filter fun r => !Sct.mine x r).length := ⟨_, rfl⟩
          rw [← hm]
          have HFIN := Lib.hid (HG.out.acked HC12.out (by rw [HRL.out]) HB5.out hk6 (Nat.lt_of_lt_of_le HO4.out HG.out.size) HO5.out hR6 hlo6 hm HB2.out HOT.out (Nat.le_trans (List.length_filter_le _ _) (by rw [HRL.out]; exact HG.out.lim.rel)))
          have hvz := hv6.far (p := ⟨s, 12, none⟩) HO3.out (.slice A2 m c2)
          have HVZ := Lib.hid hvz
          have hcv : (w6.setCell ⟨s, 12, none⟩ (.slice A2 m c2)).cell? ⟨ov, 0, none⟩ = some v6 := hvz.cell' rfl
          have hfv := hvz.frozen 0
          have HRW := Lib.hid (show (w6.setCell ⟨s, 12, none⟩ (.slice A2 m c2)).ownsRow (wy.setCell ⟨s, 4, none⟩ (.bool true)).heap.size 59 238 v6 (outs x rl).length ((outs x rl).flatMap bareC) from hrow6.kept (grown_setCell (World.grownBy.refl _ _) (.inl rfl) _) (.inr fun e => by
            have := (hrow6.lt s e).1; omega))
          obtain ⟨Av, nv, cv, hsv⟩ : ∃ A n c, v6 = .slice A n c := by
            rcases slice_of_own hrow6 with ⟨k, n, h⟩ | h | ⟨bb, h⟩
            · rcases hrow6.2 with ⟨h1, _⟩ | ⟨g, cap, cur, h1, _⟩ <;> (rw [h] at h1; cases h1)
            · exact h
            · rcases hrow6.2 with ⟨h1, _⟩ | ⟨g, cap, cur, h1, _⟩ <;> (rw [h] at h1; cases h1)
          subst hsv
          clear hm hR6 hlo6 hv6 hrow6 hk6 hs6 hs56 hvz HD
          go_wp2_with fail
          rw [setCell_same HVZ.out]
          refine ret_cell1 (p := 4) (by kernel_rfl) (by with_unfolding_all rfl) ov (by with_unfolding_all rfl) Try.underlying33 (HVZ.out.cell' rfl) ?_
          rw [HC.out, ← HRL.out]
          exact ⟨_, rfl, Bares.own HRW.out (Nat.le_trans (outs_len x rl) (by rw [HRL.out]; exact Nat.le_trans HG.out.lim.rel (by omega))), HFIN.out⟩
        · have HEN := Lib.hid (show ∀ w, (binOp .eql 3 (.int .i64 x.node) (.int .i64 tg)).run Try.prog w = .ok (.bool false) w from run_eqlI0 _ _ h3)
          have HC := Lib.hid (ack_no (x := x) (t := t) (.inr (.inr (.inl (by rw [← HE.out.1]; exact h3)))))
          clear h1 h2 h3
          refine wp_region_class (Behind W2) (by kernel_rfl) (by kernel_rfl) (show Behind W2 wx.drew from Below.drew Hwx.out) ?_
          iterate 29 (first
            | go_big_quiet_skip
            | ((with_reducible refine wpQuiet_val (.pointer (some ⟨s, 0, none⟩)) (by with_unfolding_all rfl) (fun w _ => exec_nil _ (by with_unfolding_all rfl) s 0 (by with_unfolding_all rfl) w) ?_); simp only [Act.put, List.setIfInBounds_toArray, List.set_cons_zero, List.set_cons_succ])
            | ((with_reducible refine wpQuiet_val (.pointer (some ⟨s, 2, none⟩)) (by with_unfolding_all rfl) (fun w _ => exec_s1 _ (by with_unfolding_all rfl) s (by with_unfolding_all rfl) w) ?_); simp only [Act.put, List.setIfInBounds_toArray, List.set_cons_zero, List.set_cons_succ])
            | ((with_reducible refine wpQuiet_val (.pointer (some ⟨s, 2, none⟩)) (by with_unfolding_all rfl) (fun w _ => exec_p0 _ (by with_unfolding_all rfl) s 2 (by with_unfolding_all rfl) w) ?_); simp only [Act.put, List.setIfInBounds_toArray, List.set_cons_zero, List.set_cons_succ])
            | ((with_reducible refine wpQuiet_val (.pointer (some ⟨s, 3, none⟩)) (by with_unfolding_all rfl) (fun w _ => exec_p1 _ (by with_unfolding_all rfl) s 2 (by with_unfolding_all rfl) w) ?_); simp only [Act.put, List.setIfInBounds_toArray, List.set_cons_zero, List.set_cons_succ])
            | ((with_reducible refine wpQuiet_val (.pointer (some ⟨s, 5, none⟩)) (by with_unfolding_all rfl) (fun w _ => exec_p3 _ (by with_unfolding_all rfl) s 2 (by with_unfolding_all rfl) w) ?_); simp only [Act.put, List.setIfInBounds_toArray, List.set_cons_zero, List.set_cons_succ])
            | ((with_reducible refine wpQuiet_load1 (.int .i64 x.frm) (by with_unfolding_all rfl) 3 _ (by with_unfolding_all rfl) .i64 Try.underlying3 fq (1) (by with_unfolding_all rfl) (fun w h => HFQ.out.1 w h) ?_); simp only [Act.put, List.setIfInBounds_toArray, List.set_cons_zero, List.set_cons_succ])
            | ((with_reducible refine wpQuiet_load1 (.int .i64 x.seq) (by with_unfolding_all rfl) 3 _ (by with_unfolding_all rfl) .i64 Try.underlying3 fq (2) (by with_unfolding_all rfl) (fun w h => HFQ.out.2.1 w h) ?_); simp only [Act.put, List.setIfInBounds_toArray, List.set_cons_zero, List.set_cons_succ])
            | ((with_reducible refine wpQuiet_load1 (.int .i64 x.node) (by with_unfolding_all rfl) 3 _ (by with_unfolding_all rfl) .i64 Try.underlying3 fq (3) (by with_unfolding_all rfl) (fun w h => HFQ.out.2.2 w h) ?_); simp only [Act.put, List.setIfInBounds_toArray, List.set_cons_zero, List.set_cons_succ])
            | ((with_reducible refine wpQuiet_load1 (.int .i64 tg) (by with_unfolding_all rfl) 3 _ (by with_unfolding_all rfl) .i64 Try.underlying3 s (2) (by with_unfolding_all rfl) (fun w h => HS2.out w h) ?_); simp only [Act.put, List.setIfInBounds_toArray, List.set_cons_zero, List.set_cons_succ])
            | ((with_reducible refine wpQuiet_load1 (.int .i64 sq) (by with_unfolding_all rfl) 3 _ (by with_unfolding_all rfl) .i64 Try.underlying3 s (3) (by with_unfolding_all rfl) (fun w h => HS3.out w h) ?_); simp only [Act.put, List.setIfInBounds_toArray, List.set_cons_zero, List.set_cons_succ])
            | ((with_reducible refine wpQuiet_bin (by with_unfolding_all rfl) .gtr 3 _ _ _ (by with_unfolding_all rfl) (.int .i64 tg) (.int .i64 0) (.bool true) (by with_unfolding_all rfl) (by with_unfolding_all rfl) (fun w => run_guardI w _ _ _ _ _) (fun w => HGT.out w) ?_); simp only [Act.put, List.setIfInBounds_toArray, List.set_cons_zero, List.set_cons_succ])
            | ((with_reducible refine wpQuiet_bin (by with_unfolding_all rfl) .eql 3 _ _ _ (by with_unfolding_all rfl) (.int .i64 x.seq) (.int .i64 sq) (.bool true) (by with_unfolding_all rfl) (by with_unfolding_all rfl) (fun w => run_guardI w _ _ _ _ _) (fun w => HEQ.out w) ?_); simp only [Act.put, List.setIfInBounds_toArray, List.set_cons_zero, List.set_cons_succ])
            | ((with_reducible refine wpQuiet_bin (by with_unfolding_all rfl) .eql 3 _ _ _ (by with_unfolding_all rfl) (.int .i64 x.node) (.int .i64 tg) (.bool false) (by with_unfolding_all rfl) (by with_unfolding_all rfl) (fun w => run_guardI w _ _ _ _ _) (fun w => HEN.out w) ?_); simp only [Act.put, List.setIfInBounds_toArray, List.set_cons_zero, List.set_cons_succ])
            | (go_big_quiet_step (exact fun _ => rfl)))
          with_reducible refine wpQuiet_nil ?_
          intro wy hwy
          have HGG := Lib.hid (HG2.out wy hwy)
          have Hwy := Lib.hid hwy
          clear hwy HS2 HS3 HFQ
          have HG := Lib.hid (HGG.out)
          have hfz : At wy fq 57 F := (HG.out.keeps.block fq HO.out.1 HA2.out.1.lt).trans HA2.out.1
          have hoz : At wy ov 33 [.slice none 0 0] := (HG.out.keeps.block ov HO.out.2 HA2.out.2.lt).trans HA2.out.2
          obtain ⟨rA, rc, hc12, hR, _, _⟩ := HG.out.relrow
          obtain ⟨rl, hrl⟩ : ∃ rl, rl = t.rel := ⟨_, rfl⟩
          have HRL := Lib.hid hrl
          have hR' : RRow wy rA rc rl := by rw [hrl]; exact hR
          have hc12' : wy.cell? ⟨s, 12, none⟩ = some (.slice rA rl.length rc) := by rw [hrl]; exact hc12
          have hl16 : rl.length ≤ 16 := by rw [hrl]; exact HG.out.lim.rel
          have HCL := Lib.hid (clone_rel hR' hl16)
          have HZ := Lib.hid (And.intro hfz hoz)
          have HC12 := Lib.hid hc12'
          obtain ⟨n, hn⟩ : ∃ n, n = rl.length := ⟨_, rfl⟩
          rw [← hn] at hc12' HCL
          have HN := Lib.hid hn
          clear hfz hoz hc12 hR hrl hR' hl16 hn
          go_wp2_with fail
          refine HCL.out.mono ?_
          rintro e w5 ⟨A1, cap, rfl, hb5, hCR⟩
          have hlZ := HZ.out.1.lt
          have hlO := HZ.out.2.lt
          have HD := Lib.hid (del_ack hCR (by rw [HRL.out]; exact HG.out.lim.rel) hb5.size hlO hlZ (Ne.symm HO2.out) (HZ.out.2.below hb5 hlO) (HZ.out.1.below hb5 hlZ) HF.out)
          rw [← HN.out] at HD
          have HB5 := Lib.hid hb5
          clear hb5 hCR hlZ hlO HCL
          go_wp2_with fail
          refine HD.out.mono ?_
          rintro e w6 ⟨A2, c2, rfl, hR6, hlo6, ⟨v6, hv6, hrow6⟩, hk6⟩
          have hlt := HG.out.lt
          have hs6 : w6.heap[s]? = w5.heap[s]? := hk6.block s ⟨hlt, HO3.out⟩ (Nat.lt_of_lt_of_le hlt HB5.out.size)
          have hs56 : w6.heap[s]? = wy.heap[s]? := hs6.trans (HB5.out.block s hlt)
          have c12 : w6.cell? ⟨s, 12, none⟩ = some (.slice rA n rc) := by rw [World.cell?_of_block (a := ⟨s, 12, none⟩) hs56, HN.out]; exact HC12.out
          have f12 : w6.frozen? ⟨s, 12, none⟩ = false := by rw [World.frozen?_of_block (a := ⟨s, 12, none⟩) hs56]; exact HG.out.frozen 12
          obtain ⟨m, hm⟩ : ∃ m, m = (rl.filter fun r => !Sct.mine x r).length := ⟨_, rfl⟩
          rw [← hm]
          have HFIN := Lib.hid (HG.out.acked HC12.out (by rw [HRL.out]) HB5.out hk6 (Nat.lt_of_lt_of_le HO4.out HG.out.size) HO5.out hR6 hlo6 hm HB2.out HOT.out (Nat.le_trans (List.length_filter_le _ _) (by rw [HRL.out]; exact HG.out.lim.rel)))
          have hvz := hv6.far (p := ⟨s, 12, none⟩) HO3.out (.slice A2 m c2)
          have HVZ := Lib.hid hvz
          have hcv : (w6.setCell ⟨s, 12, none⟩ (.slice A2 m c2)).cell? ⟨ov, 0, none⟩ = some v6 := hvz.cell' rfl
          have hfv := hvz.frozen 0
          have HRW := Lib.hid (show (w6.setCell ⟨s, 12, none⟩ (.slice A2 m c2)).ownsRow wy.heap.size 59 238 v6 (outs x rl).length ((outs x rl).flatMap bareC) from hrow6.kept (grown_setCell (World.grownBy.refl _ _) (.inl rfl) _) (.inr fun e => by
            have := (hrow6.lt s e).1; omega))
          obtain ⟨Av, nv, cv, hsv⟩ : ∃ A n c, v6 = .slice A n c := by
            rcases slice_of_own hrow6 with ⟨k, n, h⟩ | h | ⟨bb, h⟩
            · rcases hrow6.2 with ⟨h1, _⟩ | ⟨g, cap, cur, h1, _⟩ <;> (rw [h] at h1; cases h1)
            · exact h
            · rcases hrow6.2 with ⟨h1, _⟩ | ⟨g, cap, cur, h1, _⟩ <;> (rw [h] at h1; cases h1)
          subst hsv
          clear hm hR6 hlo6 hv6 hrow6 hk6 hs6 hs56 hvz HD
          go_wp2_with fail
          rw [setCell_same HVZ.out]
          refine ret_cell1 (p := 4) (by kernel_rfl) (by with_unfolding_all rfl) ov (by with_unfolding_all rfl) Try.underlying33 (HVZ.out.cell' rfl) ?_
          rw [HC.out, ← HRL.out]
          exact ⟨_, rfl, Bares.own HRW.out (Nat.le_trans (outs_len x rl) (by rw [HRL.out]; exact Nat.le_trans HG.out.lim.rel (by omega))), HFIN.out⟩
      · have HEQ := Lib.hid (show ∀ w, (binOp .eql 3 (.int .i64 x.seq) (.int .i64 sq)).run Try.prog w = .ok (.bool false) w from run_eqlI0 _ _ h2)
        have HC := Lib.hid (ack_no (x := x) (t := t) (.inr (.inl (by rw [← HE.out.2]; exact h2))))
        clear h1 h2
        refine wp_region_class (Behind W2) (by kernel_rfl) (by kernel_rfl) (show Behind W2 wx.drew from Below.drew Hwx.out) ?_
        iterate 29 (first
          | go_big_quiet_skip
          | ((with_reducible refine wpQuiet_val (.pointer (some ⟨s, 0, none⟩)) (by with_unfolding_all rfl) (fun w _ => exec_nil _ (by with_unfolding_all rfl) s 0 (by with_unfolding_all rfl) w) ?_); simp only [Act.put, List.setIfInBounds_toArray, List.set_cons_zero, List.set_cons_succ])
          | ((with_reducible refine wpQuiet_val (.pointer (some ⟨s, 2, none⟩)) (by with_unfolding_all rfl) (fun w _ => exec_s1 _ (by with_unfolding_all rfl) s (by with_unfolding_all rfl) w) ?_); simp only [Act.put, List.setIfInBounds_toArray, List.set_cons_zero, List.set_cons_succ])
          | ((with_reducible refine wpQuiet_val (.pointer (some ⟨s, 2, none⟩)) (by with_unfolding_all rfl) (fun w _ => exec_p0 _ (by with_unfolding_all rfl) s 2 (by with_unfolding_all rfl) w) ?_); simp only [Act.put, List.setIfInBounds_toArray, List.set_cons_zero, List.set_cons_succ])
          | ((with_reducible refine wpQuiet_val (.pointer (some ⟨s, 3, none⟩)) (by with_unfolding_all rfl) (fun w _ => exec_p1 _ (by with_unfolding_all rfl) s 2 (by with_unfolding_all rfl) w) ?_); simp only [Act.put, List.setIfInBounds_toArray, List.set_cons_zero, List.set_cons_succ])
          | ((with_reducible refine wpQuiet_val (.pointer (some ⟨s, 5, none⟩)) (by with_unfolding_all rfl) (fun w _ => exec_p3 _ (by with_unfolding_all rfl) s 2 (by with_unfolding_all rfl) w) ?_); simp only [Act.put, List.setIfInBounds_toArray, List.set_cons_zero, List.set_cons_succ])
          | ((with_reducible refine wpQuiet_load1 (.int .i64 x.frm) (by with_unfolding_all rfl) 3 _ (by with_unfolding_all rfl) .i64 Try.underlying3 fq (1) (by with_unfolding_all rfl) (fun w h => HFQ.out.1 w h) ?_); simp only [Act.put, List.setIfInBounds_toArray, List.set_cons_zero, List.set_cons_succ])
          | ((with_reducible refine wpQuiet_load1 (.int .i64 x.seq) (by with_unfolding_all rfl) 3 _ (by with_unfolding_all rfl) .i64 Try.underlying3 fq (2) (by with_unfolding_all rfl) (fun w h => HFQ.out.2.1 w h) ?_); simp only [Act.put, List.setIfInBounds_toArray, List.set_cons_zero, List.set_cons_succ])
          | ((with_reducible refine wpQuiet_load1 (.int .i64 x.node) (by with_unfolding_all rfl) 3 _ (by with_unfolding_all rfl) .i64 Try.underlying3 fq (3) (by with_unfolding_all rfl) (fun w h => HFQ.out.2.2 w h) ?_); simp only [Act.put, List.setIfInBounds_toArray, List.set_cons_zero, List.set_cons_succ])
          | ((with_reducible refine wpQuiet_load1 (.int .i64 tg) (by with_unfolding_all rfl) 3 _ (by with_unfolding_all rfl) .i64 Try.underlying3 s (2) (by with_unfolding_all rfl) (fun w h => HS2.out w h) ?_); simp only [Act.put, List.setIfInBounds_toArray, List.set_cons_zero, List.set_cons_succ])
          | ((with_reducible refine wpQuiet_load1 (.int .i64 sq) (by with_unfolding_all rfl) 3 _ (by with_unfolding_all rfl) .i64 Try.underlying3 s (3) (by with_unfolding_all rfl) (fun w h => HS3.out w h) ?_); simp only [Act.put, List.setIfInBounds_toArray, List.set_cons_zero, List.set_cons_succ])
          | ((with_reducible refine wpQuiet_bin (by with_unfolding_all rfl) .gtr 3 _ _ _ (by with_unfolding_all rfl) (.int .i64 tg) (.int .i64 0) (.bool true) (by with_unfolding_all rfl) (by with_unfolding_all rfl) (fun w => run_guardI w _ _ _ _ _) (fun w => HGT.out w) ?_); simp only [Act.put, List.setIfInBounds_toArray, List.set_cons_zero, List.set_cons_succ])
          | ((with_reducible refine wpQuiet_bin (by with_unfolding_all rfl) .eql 3 _ _ _ (by with_unfolding_all rfl) (.int .i64 x.seq) (.int .i64 sq) (.bool false) (by with_unfolding_all rfl) (by with_unfolding_all rfl) (fun w => run_guardI w _ _ _ _ _) (fun w => HEQ.out w) ?_); simp only [Act.put, List.setIfInBounds_toArray, List.set_cons_zero, List.set_cons_succ])
          | (go_big_quiet_step (exact fun _ => rfl)))
        with_reducible refine wpQuiet_nil ?_
        intro wy hwy
        have HGG := Lib.hid (HG2.out wy hwy)
        have Hwy := Lib.hid hwy
        clear hwy HS2 HS3 HFQ
        have HG := Lib.hid (HGG.out)
        have hfz : At wy fq 57 F := (HG.out.keeps.block fq HO.out.1 HA2.out.1.lt).trans HA2.out.1
        have hoz : At wy ov 33 [.slice none 0 0] := (HG.out.keeps.block ov HO.out.2 HA2.out.2.lt).trans HA2.out.2
        obtain ⟨rA, rc, hc12, hR, _, _⟩ := HG.out.relrow
        obtain ⟨rl, hrl⟩ : ∃ rl, rl = t.rel := ⟨_, rfl⟩
        have HRL := Lib.hid hrl
        have hR' : RRow wy rA rc rl := by rw [hrl]; exact hR
        have hc12' : wy.cell? ⟨s, 12, none⟩ = some (.slice rA rl.length rc) := by rw [hrl]; exact hc12
        have hl16 : rl.length ≤ 16 := by rw [hrl]; exact HG.out.lim.rel
        have HCL := Lib.hid (clone_rel hR' hl16)
        have HZ := Lib.hid (And.intro hfz hoz)
        have HC12 := Lib.hid hc12'
        obtain ⟨n, hn⟩ : ∃ n, n = rl.length := ⟨_, rfl⟩
        rw [← hn] at hc12' HCL
        have HN := Lib.hid hn
        clear hfz hoz hc12 hR hrl hR' hl16 hn
        go_wp2_with fail
        refine HCL.out.mono ?_
        rintro e w5 ⟨A1, cap, rfl, hb5, hCR⟩
        have hlZ := HZ.out.1.lt
        have hlO := HZ.out.2.lt
        have HD := Lib.hid (del_ack hCR (by rw [HRL.out]; exact HG.out.lim.rel) hb5.size hlO hlZ (Ne.symm HO2.out) (HZ.out.2.below hb5 hlO) (HZ.out.1.below hb5 hlZ) HF.out)
        rw [← HN.out] at HD
        have HB5 := Lib.hid hb5
        clear hb5 hCR hlZ hlO HCL
        go_wp2_with fail
        refine HD.out.mono ?_
        rintro e w6 ⟨A2, c2, rfl, hR6, hlo6, ⟨v6, hv6, hrow6⟩, hk6⟩
        have hlt := HG.out.lt
        have hs6 : w6.heap[s]? = w5.heap[s]? := hk6.block s ⟨hlt, HO3.out⟩ (Nat.lt_of_lt_of_le hlt HB5.out.size)
        have hs56 : w6.heap[s]? = wy.heap[s]? := hs6.trans (HB5.out.block s hlt)
        have c12 : w6.cell? ⟨s, 12, none⟩ = some (.slice rA n rc) := by rw [World.cell?_of_block (a := ⟨s, 12, none⟩) hs56, HN.out]; exact HC12.out
        have f12 : w6.frozen? ⟨s, 12, none⟩ = false := by rw [World.frozen?_of_block (a := ⟨s, 12, none⟩) hs56]; exact HG.out.frozen 12
        obtain ⟨m, hm⟩ : ∃ m, m = (rl.filter fun r => !Sct.mine x r).length := ⟨_, rfl⟩
        rw [← hm]
        have HFIN := Lib.hid (HG.out.acked HC12.out (by rw [HRL.out]) HB5.out hk6 (Nat.lt_of_lt_of_le HO4.out HG.out.size) HO5.out hR6 hlo6 hm HB2.out HOT.out (Nat.le_trans (List.length_filter_le _ _) (by rw [HRL.out]; exact HG.out.lim.rel)))
        have hvz := hv6.far (p := ⟨s, 12, none⟩) HO3.out (.slice A2 m c2)
        have HVZ := Lib.hid hvz
        have hcv : (w6.setCell ⟨s, 12, none⟩ (.slice A2 m c2)).cell? ⟨ov, 0, none⟩ = some v6 := hvz.cell' rfl
        have hfv := hvz.frozen 0
        have HRW := Lib.hid (show (w6.setCell ⟨s, 12, none⟩ (.slice A2 m c2)).ownsRow wy.heap.size 59 238 v6 (outs x rl).length ((outs x rl).flatMap bareC) from hrow6.kept (grown_setCell (World.grownBy.refl _ _) (.inl rfl) _) (.inr fun e => by
          have := (hrow6.lt s e).1; omega))
        obtain ⟨Av, nv, cv, hsv⟩ : ∃ A n c, v6 = .slice A n c := by
          rcases slice_of_own hrow6 with ⟨k, n, h⟩ | h | ⟨bb, h⟩
          · rcases hrow6.2 with ⟨h1, _⟩ | ⟨g, cap, cur, h1, _⟩ <;> (rw [h] at h1; cases h1)
          · exact h
          · rcases hrow6.2 with ⟨h1, _⟩ | ⟨g, cap, cur, h1, _⟩ <;> (rw [h] at h1; cases h1)
        subst hsv
        clear hm hR6 hlo6 hv6 hrow6 hk6 hs6 hs56 hvz HD
        go_wp2_with fail
        rw [setCell_same HVZ.out]
        refine ret_cell1 (p := 4) (by kernel_rfl) (by with_unfolding_all rfl) ov (by with_unfolding_all rfl) Try.underlying33 (HVZ.out.cell' rfl) ?_
        rw [HC.out, ← HRL.out]
        exact ⟨_, rfl, Bares.own HRW.out (Nat.le_trans (outs_len x rl) (by rw [HRL.out]; exact Nat.le_trans HG.out.lim.rel (by omega))), HFIN.out⟩
    · have HGT := Lib.hid (show ∀ w, (binOp .gtr 3 (.int .i64 tg) (.int .i64 0)).run Try.prog w = .ok (.bool false) w from run_gtrI0 _ _ (by omega))
      have HC := Lib.hid (ack_no (x := x) (t := t) (.inl (by rw [← HE.out.1]; exact h1)))
      clear h1
      refine wp_region_class (Behind W2) (by kernel_rfl) (by kernel_rfl) (show Behind W2 wx.drew from Below.drew Hwx.out) ?_
      iterate 29 (first
        | go_big_quiet_skip
        | ((with_reducible refine wpQuiet_val (.pointer (some ⟨s, 0, none⟩)) (by with_unfolding_all rfl) (fun w _ => exec_nil _ (by with_unfolding_all rfl) s 0 (by with_unfolding_all rfl) w) ?_); simp only [Act.put, List.setIfInBounds_toArray, List.set_cons_zero, List.set_cons_succ])
        | ((with_reducible refine wpQuiet_val (.pointer (some ⟨s, 2, none⟩)) (by with_unfolding_all rfl) (fun w _ => exec_s1 _ (by with_unfolding_all rfl) s (by with_unfolding_all rfl) w) ?_); simp only [Act.put, List.setIfInBounds_toArray, List.set_cons_zero, List.set_cons_succ])
        | ((with_reducible refine wpQuiet_val (.pointer (some ⟨s, 2, none⟩)) (by with_unfolding_all rfl) (fun w _ => exec_p0 _ (by with_unfolding_all rfl) s 2 (by with_unfolding_all rfl) w) ?_); simp only [Act.put, List.setIfInBounds_toArray, List.set_cons_zero, List.set_cons_succ])
        | ((with_reducible refine wpQuiet_val (.pointer (some ⟨s, 3, none⟩)) (by with_unfolding_all rfl) (fun w _ => exec_p1 _ (by with_unfolding_all rfl) s 2 (by with_unfolding_all rfl) w) ?_); simp only [Act.put, List.setIfInBounds_toArray, List.set_cons_zero, List.set_cons_succ])
        | ((with_reducible refine wpQuiet_val (.pointer (some ⟨s, 5, none⟩)) (by with_unfolding_all rfl) (fun w _ => exec_p3 _ (by with_unfolding_all rfl) s 2 (by with_unfolding_all rfl) w) ?_); simp only [Act.put, List.setIfInBounds_toArray, List.set_cons_zero, List.set_cons_succ])
        | ((with_reducible refine wpQuiet_load1 (.int .i64 x.frm) (by with_unfolding_all rfl) 3 _ (by with_unfolding_all rfl) .i64 Try.underlying3 fq (1) (by with_unfolding_all rfl) (fun w h => HFQ.out.1 w h) ?_); simp only [Act.put, List.setIfInBounds_toArray, List.set_cons_zero, List.set_cons_succ])
        | ((with_reducible refine wpQuiet_load1 (.int .i64 x.seq) (by with_unfolding_all rfl) 3 _ (by with_unfolding_all rfl) .i64 Try.underlying3 fq (2) (by with_unfolding_all rfl) (fun w h => HFQ.out.2.1 w h) ?_); simp only [Act.put, List.setIfInBounds_toArray, List.set_cons_zero, List.set_cons_succ])
        | ((with_reducible refine wpQuiet_load1 (.int .i64 x.node) (by with_unfolding_all rfl) 3 _ (by with_unfolding_all rfl) .i64 Try.underlying3 fq (3) (by with_unfolding_all rfl) (fun w h => HFQ.out.2.2 w h) ?_); simp only [Act.put, List.setIfInBounds_toArray, List.set_cons_zero, List.set_cons_succ])
        | ((with_reducible refine wpQuiet_load1 (.int .i64 tg) (by with_unfolding_all rfl) 3 _ (by with_unfolding_all rfl) .i64 Try.underlying3 s (2) (by with_unfolding_all rfl) (fun w h => HS2.out w h) ?_); simp only [Act.put, List.setIfInBounds_toArray, List.set_cons_zero, List.set_cons_succ])
        | ((with_reducible refine wpQuiet_load1 (.int .i64 sq) (by with_unfolding_all rfl) 3 _ (by with_unfolding_all rfl) .i64 Try.underlying3 s (3) (by with_unfolding_all rfl) (fun w h => HS3.out w h) ?_); simp only [Act.put, List.setIfInBounds_toArray, List.set_cons_zero, List.set_cons_succ])
        | ((with_reducible refine wpQuiet_bin (by with_unfolding_all rfl) .gtr 3 _ _ _ (by with_unfolding_all rfl) (.int .i64 tg) (.int .i64 0) (.bool false) (by with_unfolding_all rfl) (by with_unfolding_all rfl) (fun w => run_guardI w _ _ _ _ _) (fun w => HGT.out w) ?_); simp only [Act.put, List.setIfInBounds_toArray, List.set_cons_zero, List.set_cons_succ])
        | (go_big_quiet_step (exact fun _ => rfl)))
      with_reducible refine wpQuiet_nil ?_
      intro wy hwy
      have HGG := Lib.hid (HG2.out wy hwy)
      have Hwy := Lib.hid hwy
      clear hwy HS2 HS3 HFQ
      have HG := Lib.hid (HGG.out)
      have hfz : At wy fq 57 F := (HG.out.keeps.block fq HO.out.1 HA2.out.1.lt).trans HA2.out.1
      have hoz : At wy ov 33 [.slice none 0 0] := (HG.out.keeps.block ov HO.out.2 HA2.out.2.lt).trans HA2.out.2
      obtain ⟨rA, rc, hc12, hR, _, _⟩ := HG.out.relrow
      obtain ⟨rl, hrl⟩ : ∃ rl, rl = t.rel := ⟨_, rfl⟩
      have HRL := Lib.hid hrl
      have hR' : RRow wy rA rc rl := by rw [hrl]; exact hR
      have hc12' : wy.cell? ⟨s, 12, none⟩ = some (.slice rA rl.length rc) := by rw [hrl]; exact hc12
      have hl16 : rl.length ≤ 16 := by rw [hrl]; exact HG.out.lim.rel
      have HCL := Lib.hid (clone_rel hR' hl16)
      have HZ := Lib.hid (And.intro hfz hoz)
      have HC12 := Lib.hid hc12'
      obtain ⟨n, hn⟩ : ∃ n, n = rl.length := ⟨_, rfl⟩
      rw [← hn] at hc12' HCL
      have HN := Lib.hid hn
      clear hfz hoz hc12 hR hrl hR' hl16 hn
      go_wp2_with fail
      refine HCL.out.mono ?_
      rintro e w5 ⟨A1, cap, rfl, hb5, hCR⟩
      have hlZ := HZ.out.1.lt
      have hlO := HZ.out.2.lt
      have HD := Lib.hid (del_ack hCR (by rw [HRL.out]; exact HG.out.lim.rel) hb5.size hlO hlZ (Ne.symm HO2.out) (HZ.out.2.below hb5 hlO) (HZ.out.1.below hb5 hlZ) HF.out)
      rw [← HN.out] at HD
      have HB5 := Lib.hid hb5
      clear hb5 hCR hlZ hlO HCL
      go_wp2_with fail
      refine HD.out.mono ?_
      rintro e w6 ⟨A2, c2, rfl, hR6, hlo6, ⟨v6, hv6, hrow6⟩, hk6⟩
      have hlt := HG.out.lt
      have hs6 : w6.heap[s]? = w5.heap[s]? := hk6.block s ⟨hlt, HO3.out⟩ (Nat.lt_of_lt_of_le hlt HB5.out.size)
      have hs56 : w6.heap[s]? = wy.heap[s]? := hs6.trans (HB5.out.block s hlt)
      have c12 : w6.cell? ⟨s, 12, none⟩ = some (.slice rA n rc) := by rw [World.cell?_of_block (a := ⟨s, 12, none⟩) hs56, HN.out]; exact HC12.out
      have f12 : w6.frozen? ⟨s, 12, none⟩ = false := by rw [World.frozen?_of_block (a := ⟨s, 12, none⟩) hs56]; exact HG.out.frozen 12
      obtain ⟨m, hm⟩ : ∃ m, m = (rl.filter fun r => !Sct.mine x r).length := ⟨_, rfl⟩
      rw [← hm]
      have HFIN := Lib.hid (HG.out.acked HC12.out (by rw [HRL.out]) HB5.out hk6 (Nat.lt_of_lt_of_le HO4.out HG.out.size) HO5.out hR6 hlo6 hm HB2.out HOT.out (Nat.le_trans (List.length_filter_le _ _) (by rw [HRL.out]; exact HG.out.lim.rel)))
      have hvz := hv6.far (p := ⟨s, 12, none⟩) HO3.out (.slice A2 m c2)
      have HVZ := Lib.hid hvz
      have hcv : (w6.setCell ⟨s, 12, none⟩ (.slice A2 m c2)).cell? ⟨ov, 0, none⟩ = some v6 := hvz.cell' rfl
      have hfv := hvz.frozen 0
      have HRW := Lib.hid (show (w6.setCell ⟨s, 12, none⟩ (.slice A2 m c2)).ownsRow wy.heap.size 59 238 v6 (outs x rl).length ((outs x rl).flatMap bareC) from hrow6.kept (grown_setCell (World.grownBy.refl _ _) (.inl rfl) _) (.inr fun e => by
        have := (hrow6.lt s e).1; omega))
      obtain ⟨Av, nv, cv, hsv⟩ : ∃ A n c, v6 = .slice A n c := by
        rcases slice_of_own hrow6 with ⟨k, n, h⟩ | h | ⟨bb, h⟩
        · rcases hrow6.2 with ⟨h1, _⟩ | ⟨g, cap, cur, h1, _⟩ <;> (rw [h] at h1; cases h1)
        · exact h
        · rcases hrow6.2 with ⟨h1, _⟩ | ⟨g, cap, cur, h1, _⟩ <;> (rw [h] at h1; cases h1)
      subst hsv
      clear hm hR6 hlo6 hv6 hrow6 hk6 hs6 hs56 hvz HD
      go_wp2_with fail
      rw [setCell_same HVZ.out]
      refine ret_cell1 (p := 4) (by kernel_rfl) (by with_unfolding_all rfl) ov (by with_unfolding_all rfl) Try.underlying33 (HVZ.out.cell' rfl) ?_
      rw [HC.out, ← HRL.out]
      exact ⟨_, rfl, Bares.own HRW.out (Nat.le_trans (outs_len x rl) (by rw [HRL.out]; exact Nat.le_trans HG.out.lim.rel (by omega))), HFIN.out⟩
  · have HFT := Lib.hid (show ∀ w, (binOp .eql 3 (.int .i64 x.frm) (.int .i64 tg)).run Try.prog w = .ok (.bool false) w from run_eqlI0 _ _ hft)
    obtain ⟨ak, hak⟩ : ∃ ak, ak = decide (x.frm ∈ t.help) := ⟨_, rfl⟩
    rw [← hak] at HCN
    have HASK := Lib.hid (show (ak = true → (x.frm = t.tgt ∨ x.frm ∈ t.help)) ∧ (ak = false → ¬ (x.frm = t.tgt ∨ x.frm ∈ t.help)) from ⟨fun e => .inr (of_decide_eq_true (hak.symm.trans e)), fun e => by
      rintro (h | h)
      · exact hft (by rw [HE.out.1]; exact h)
      · exact of_decide_eq_false (hak.symm.trans e) h⟩)
    clear hft hak
    refine wp_region_class (Behind W2) (by kernel_rfl) (by kernel_rfl) ((Below.refl _ _).drew) ?_
    iterate 19 (first
      | go_big_quiet_skip
      | ((with_reducible refine wpQuiet_val (.pointer (some ⟨s, 0, none⟩)) (by with_unfolding_all rfl) (fun w _ => exec_nil _ (by with_unfolding_all rfl) s 0 (by with_unfolding_all rfl) w) ?_); simp only [Act.put, List.setIfInBounds_toArray, List.set_cons_zero, List.set_cons_succ])
      | ((with_reducible refine wpQuiet_val (.pointer (some ⟨s, 2, none⟩)) (by with_unfolding_all rfl) (fun w _ => exec_s1 _ (by with_unfolding_all rfl) s (by with_unfolding_all rfl) w) ?_); simp only [Act.put, List.setIfInBounds_toArray, List.set_cons_zero, List.set_cons_succ])
      | ((with_reducible refine wpQuiet_val (.pointer (some ⟨s, 2, none⟩)) (by with_unfolding_all rfl) (fun w _ => exec_p0 _ (by with_unfolding_all rfl) s 2 (by with_unfolding_all rfl) w) ?_); simp only [Act.put, List.setIfInBounds_toArray, List.set_cons_zero, List.set_cons_succ])
      | ((with_reducible refine wpQuiet_val (.pointer (some ⟨s, 3, none⟩)) (by with_unfolding_all rfl) (fun w _ => exec_p1 _ (by with_unfolding_all rfl) s 2 (by with_unfolding_all rfl) w) ?_); simp only [Act.put, List.setIfInBounds_toArray, List.set_cons_zero, List.set_cons_succ])
      | ((with_reducible refine wpQuiet_val (.pointer (some ⟨s, 5, none⟩)) (by with_unfolding_all rfl) (fun w _ => exec_p3 _ (by with_unfolding_all rfl) s 2 (by with_unfolding_all rfl) w) ?_); simp only [Act.put, List.setIfInBounds_toArray, List.set_cons_zero, List.set_cons_succ])
      | ((with_reducible refine wpQuiet_load1 (.int .i64 x.frm) (by with_unfolding_all rfl) 3 _ (by with_unfolding_all rfl) .i64 Try.underlying3 fq (1) (by with_unfolding_all rfl) (fun w h => HFQ.out.1 w h) ?_); simp only [Act.put, List.setIfInBounds_toArray, List.set_cons_zero, List.set_cons_succ])
      | ((with_reducible refine wpQuiet_load1 (.int .i64 x.seq) (by with_unfolding_all rfl) 3 _ (by with_unfolding_all rfl) .i64 Try.underlying3 fq (2) (by with_unfolding_all rfl) (fun w h => HFQ.out.2.1 w h) ?_); simp only [Act.put, List.setIfInBounds_toArray, List.set_cons_zero, List.set_cons_succ])
      | ((with_reducible refine wpQuiet_load1 (.int .i64 x.node) (by with_unfolding_all rfl) 3 _ (by with_unfolding_all rfl) .i64 Try.underlying3 fq (3) (by with_unfolding_all rfl) (fun w h => HFQ.out.2.2 w h) ?_); simp only [Act.put, List.setIfInBounds_toArray, List.set_cons_zero, List.set_cons_succ])
      | ((with_reducible refine wpQuiet_load1 (.int .i64 tg) (by with_unfolding_all rfl) 3 _ (by with_unfolding_all rfl) .i64 Try.underlying3 s (2) (by with_unfolding_all rfl) (fun w h => HS2.out w h) ?_); simp only [Act.put, List.setIfInBounds_toArray, List.set_cons_zero, List.set_cons_succ])
      | ((with_reducible refine wpQuiet_load1 (.int .i64 sq) (by with_unfolding_all rfl) 3 _ (by with_unfolding_all rfl) .i64 Try.underlying3 s (3) (by with_unfolding_all rfl) (fun w h => HS3.out w h) ?_); simp only [Act.put, List.setIfInBounds_toArray, List.set_cons_zero, List.set_cons_succ])
      | ((with_reducible refine wpQuiet_bin (by with_unfolding_all rfl) .eql 3 _ _ _ (by with_unfolding_all rfl) (.int .i64 x.frm) (.int .i64 tg) (.bool false) (by with_unfolding_all rfl) (by with_unfolding_all rfl) (fun w => run_guardI w _ _ _ _ _) (fun w => HFT.out w) ?_); simp only [Act.put, List.setIfInBounds_toArray, List.set_cons_zero, List.set_cons_succ])
      | ((with_reducible refine wpQuiet_loadS (.slice hA hn hc) (by with_unfolding_all rfl) 23 _ _ (by with_unfolding_all rfl) Try.underlying23 s (5) (by with_unfolding_all rfl) (fun w h => HS5.out w h) ?_); simp only [Act.put, List.setIfInBounds_toArray, List.set_cons_zero, List.set_cons_succ])
      | ((with_reducible refine wpQuiet_call 50 [.slice hA hn hc, .int .i64 x.frm] (.bool ak) (by with_unfolding_all rfl) _ _ (by with_unfolding_all rfl) (by with_unfolding_all rfl) (fun _ => by with_unfolding_all rfl) (fun w h => HCN.out w h) ?_); simp only [Act.put, List.setIfInBounds_toArray, List.set_cons_zero, List.set_cons_succ])
      | (go_big_quiet_step (exact fun _ => rfl)))
    with_reducible refine wpQuiet_nil ?_
    intro wx hwx
    have Hwx := Lib.hid hwx
    clear hwx HCN HS5
    go_wp2_with fail
    by_cases h1 : 0 < tg
    · have HGT := Lib.hid (show ∀ w, (binOp .gtr 3 (.int .i64 tg) (.int .i64 0)).run Try.prog w = .ok (.bool true) w from run_gtrI1 _ _ h1)
      by_cases h2 : x.seq = sq
      · have HEQ := Lib.hid (show ∀ w, (binOp .eql 3 (.int .i64 x.seq) (.int .i64 sq)).run Try.prog w = .ok (.bool true) w from by rw [h2]; exact run_eqlI1 _)
        by_cases h3 : x.node = tg
        · have HEN := Lib.hid (show ∀ w, (binOp .eql 3 (.int .i64 x.node) (.int .i64 tg)).run Try.prog w = .ok (.bool true) w from by rw [h3]; exact run_eqlI1 _)
          cases hak : ak
          · have HAK := Lib.hid hak
            have HC := Lib.hid (ack_no (x := x) (t := t) (.inr (.inr (.inr (HASK.out.2 hak)))))
            clear h1 h2 h3 hak
            refine wp_region_class (Behind W2) (by kernel_rfl) (by kernel_rfl) (show Behind W2 wx.drew from Below.drew Hwx.out) ?_
            iterate 29 (first
              | go_big_quiet_skip
              | ((with_reducible refine wpQuiet_val (.pointer (some ⟨s, 0, none⟩)) (by with_unfolding_all rfl) (fun w _ => exec_nil _ (by with_unfolding_all rfl) s 0 (by with_unfolding_all rfl) w) ?_); simp only [Act.put, List.setIfInBounds_toArray, List.set_cons_zero, List.set_cons_succ])
              | ((with_reducible refine wpQuiet_val (.pointer (some ⟨s, 2, none⟩)) (by with_unfolding_all rfl) (fun w _ => exec_s1 _ (by with_unfolding_all rfl) s (by with_unfolding_all rfl) w) ?_); simp only [Act.put, List.setIfInBounds_toArray, List.set_cons_zero, List.set_cons_succ])
              | ((with_reducible refine wpQuiet_val (.pointer (some ⟨s, 2, none⟩)) (by with_unfolding_all rfl) (fun w _ => exec_p0 _ (by with_unfolding_all rfl) s 2 (by with_unfolding_all rfl) w) ?_); simp only [Act.put, List.setIfInBounds_toArray, List.set_cons_zero, List.set_cons_succ])
              | ((with_reducible refine wpQuiet_val (.pointer (some ⟨s, 3, none⟩)) (by with_unfolding_all rfl) (fun w _ => exec_p1 _ (by with_unfolding_all rfl) s 2 (by with_unfolding_all rfl) w) ?_); simp only [Act.put, List.setIfInBounds_toArray, List.set_cons_zero, List.set_cons_succ])
              | ((with_reducible refine wpQuiet_val (.pointer (some ⟨s, 5, none⟩)) (by with_unfolding_all rfl) (fun w _ => exec_p3 _ (by with_unfolding_all rfl) s 2 (by with_unfolding_all rfl) w) ?_); simp only [Act.put, List.setIfInBounds_toArray, List.set_cons_zero, List.set_cons_succ])
              | ((with_reducible refine wpQuiet_load1 (.int .i64 x.frm) (by with_unfolding_all rfl) 3 _ (by with_unfolding_all rfl) .i64 Try.underlying3 fq (1) (by with_unfolding_all rfl) (fun w h => HFQ.out.1 w h) ?_); simp only [Act.put, List.setIfInBounds_toArray, List.set_cons_zero, List.set_cons_succ])
              | ((with_reducible refine wpQuiet_load1 (.int .i64 x.seq) (by with_unfolding_all rfl) 3 _ (by with_unfolding_all rfl) .i64 Try.underlying3 fq (2) (by with_unfolding_all rfl) (fun w h => HFQ.out.2.1 w h) ?_); simp only [Act.put, List.setIfInBounds_toArray, List.set_cons_zero, List.set_cons_succ])
              | ((with_reducible refine wpQuiet_load1 (.int .i64 x.node) (by with_unfolding_all rfl) 3 _ (by with_unfolding_all rfl) .i64 Try.underlying3 fq (3) (by with_unfolding_all rfl) (fun w h => HFQ.out.2.2 w h) ?_); simp only [Act.put, List.setIfInBounds_toArray, List.set_cons_zero, List.set_cons_succ])
              | ((with_reducible refine wpQuiet_load1 (.int .i64 tg) (by with_unfolding_all rfl) 3 _ (by with_unfolding_all rfl) .i64 Try.underlying3 s (2) (by with_unfolding_all rfl) (fun w h => HS2.out w h) ?_); simp only [Act.put, List.setIfInBounds_toArray, List.set_cons_zero, List.set_cons_succ])
              | ((with_reducible refine wpQuiet_load1 (.int .i64 sq) (by with_unfolding_all rfl) 3 _ (by with_unfolding_all rfl) .i64 Try.underlying3 s (3) (by with_unfolding_all rfl) (fun w h => HS3.out w h) ?_); simp only [Act.put, List.setIfInBounds_toArray, List.set_cons_zero, List.set_cons_succ])
              | ((with_reducible refine wpQuiet_bin (by with_unfolding_all rfl) .gtr 3 _ _ _ (by with_unfolding_all rfl) (.int .i64 tg) (.int .i64 0) (.bool true) (by with_unfolding_all rfl) (by with_unfolding_all rfl) (fun w => run_guardI w _ _ _ _ _) (fun w => HGT.out w) ?_); simp only [Act.put, List.setIfInBounds_toArray, List.set_cons_zero, List.set_cons_succ])
              | ((with_reducible refine wpQuiet_bin (by with_unfolding_all rfl) .eql 3 _ _ _ (by with_unfolding_all rfl) (.int .i64 x.seq) (.int .i64 sq) (.bool true) (by with_unfolding_all rfl) (by with_unfolding_all rfl) (fun w => run_guardI w _ _ _ _ _) (fun w => HEQ.out w) ?_); simp only [Act.put, List.setIfInBounds_toArray, List.set_cons_zero, List.set_cons_succ])
              | ((with_reducible refine wpQuiet_bin (by with_unfolding_all rfl) .eql 3 _ _ _ (by with_unfolding_all rfl) (.int .i64 x.node) (.int .i64 tg) (.bool true) (by with_unfolding_all rfl) (by with_unfolding_all rfl) (fun w => run_guardI w _ _ _ _ _) (fun w => HEN.out w) ?_); simp only [Act.put, List.setIfInBounds_toArray, List.set_cons_zero, List.set_cons_succ])
              | (go_big_quiet_step (exact fun _ => rfl)))
            with_reducible refine wpQuiet_nil ?_
            intro wy hwy
            have HGG := Lib.hid (HG2.out wy hwy)
            have Hwy := Lib.hid hwy
            clear hwy HS2 HS3 HFQ
            have HG := Lib.hid (HGG.out)
            have hfz : At wy fq 57 F := (HG.out.keeps.block fq HO.out.1 HA2.out.1.lt).trans HA2.out.1
            have hoz : At wy ov 33 [.slice none 0 0] := (HG.out.keeps.block ov HO.out.2 HA2.out.2.lt).trans HA2.out.2
            obtain ⟨rA, rc, hc12, hR, _, _⟩ := HG.out.relrow
            obtain ⟨rl, hrl⟩ : ∃ rl, rl = t.rel := ⟨_, rfl⟩
            have HRL := Lib.hid hrl
            have hR' : RRow wy rA rc rl := by rw [hrl]; exact hR
            have hc12' : wy.cell? ⟨s, 12, none⟩ = some (.slice rA rl.length rc) := by rw [hrl]; exact hc12
            have hl16 : rl.length ≤ 16 := by rw [hrl]; exact HG.out.lim.rel
            have HCL := Lib.hid (clone_rel hR' hl16)
            have HZ := Lib.hid (And.intro hfz hoz)
            have HC12 := Lib.hid hc12'
            obtain ⟨n, hn⟩ : ∃ n, n = rl.length := ⟨_, rfl⟩
            rw [← hn] at hc12' HCL
            have HN := Lib.hid hn
            clear hfz hoz hc12 hR hrl hR' hl16 hn
            go_wp2_with fail
            refine HCL.out.mono ?_
            rintro e w5 ⟨A1, cap, rfl, hb5, hCR⟩
            have hlZ := HZ.out.1.lt
            have hlO := HZ.out.2.lt
            have HD := Lib.hid (del_ack hCR (by rw [HRL.out]; exact HG.out.lim.rel) hb5.size hlO hlZ (Ne.symm HO2.out) (HZ.out.2.below hb5 hlO) (HZ.out.1.below hb5 hlZ) HF.out)
            rw [← HN.out] at HD
            have HB5 := Lib.hid hb5
            clear hb5 hCR hlZ hlO HCL
            go_wp2_with fail
            refine HD.out.mono ?_
            rintro e w6 ⟨A2, c2, rfl, hR6, hlo6, ⟨v6, hv6, hrow6⟩, hk6⟩
            have hlt := HG.out.lt
            have hs6 : w6.heap[s]? = w5.heap[s]? := hk6.block s ⟨hlt, HO3.out⟩ (Nat.lt_of_lt_of_le hlt HB5.out.size)
            have hs56 : w6.heap[s]? = wy.heap[s]? := hs6.trans (HB5.out.block s hlt)
            have c12 : w6.cell? ⟨s, 12, none⟩ = some (.slice rA n rc) := by rw [World.cell?_of_block (a := ⟨s, 12, none⟩) hs56, HN.out]; exact HC12.out
            have f12 : w6.frozen? ⟨s, 12, none⟩ = false := by rw [World.frozen?_of_block (a := ⟨s, 12, none⟩) hs56]; exact HG.out.frozen 12
            obtain ⟨m, hm⟩ : ∃ m, m = (rl.filter fun r => !Sct.mine x r).length := ⟨_, rfl⟩
            rw [← hm]
            have HFIN := Lib.hid (HG.out.acked HC12.out (by rw [HRL.out]) HB5.out hk6 (Nat.lt_of_lt_of_le HO4.out HG.out.size) HO5.out hR6 hlo6 hm HB2.out HOT.out (Nat.le_trans (List.length_filter_le _ _) (by rw [HRL.out]; exact HG.out.lim.rel)))
            have hvz := hv6.far (p := ⟨s, 12, none⟩) HO3.out (.slice A2 m c2)
            have HVZ := Lib.hid hvz
            have hcv : (w6.setCell ⟨s, 12, none⟩ (.slice A2 m c2)).cell? ⟨ov, 0, none⟩ = some v6 := hvz.cell' rfl
            have hfv := hvz.frozen 0
            have HRW := Lib.hid (show (w6.setCell ⟨s, 12, none⟩ (.slice A2 m c2)).ownsRow wy.heap.size 59 238 v6 (outs x rl).length ((outs x rl).flatMap bareC) from hrow6.kept (grown_setCell (World.grownBy.refl _ _) (.inl rfl) _) (.inr fun e => by
              have := (hrow6.lt s e).1; omega))
            obtain ⟨Av, nv, cv, hsv⟩ : ∃ A n c, v6 = .slice A n c := by
              rcases slice_of_own hrow6 with ⟨k, n, h⟩ | h | ⟨bb, h⟩
              · rcases hrow6.2 with ⟨h1, _⟩ | ⟨g, cap, cur, h1, _⟩ <;> (rw [h] at h1; cases h1)
              · exact h
              · rcases hrow6.2 with ⟨h1, _⟩ | ⟨g, cap, cur, h1, _⟩ <;> (rw [h] at h1; cases h1)
            subst hsv
            clear hm hR6 hlo6 hv6 hrow6 hk6 hs6 hs56 hvz HD
            go_wp2_with fail
            rw [setCell_same HVZ.out]
            refine ret_cell1 (p := 4) (by kernel_rfl) (by with_unfolding_all rfl) ov (by with_unfolding_all rfl) Try.underlying33 (HVZ.out.cell' rfl) ?_
            rw [HC.out, ← HRL.out]
            exact ⟨_, rfl, Bares.own HRW.out (Nat.le_trans (outs_len x rl) (by rw [HRL.out]; exact Nat.le_trans HG.out.lim.rel (by omega))), HFIN.out⟩
          · have HAK := Lib.hid hak
            have HC := Lib.hid (ack_yes (x := x) (t := t) (by rw [← HE.out.1]; exact h1) (by rw [← HE.out.2]; exact h2) (by rw [← HE.out.1]; exact h3) (HASK.out.1 hak))
            clear h1 h2 h3 hak
            refine wp_region_class (Behind W2) (by kernel_rfl) (by kernel_rfl) (show Behind W2 wx.drew from Below.drew Hwx.out) ?_
            iterate 29 (first
              | go_big_quiet_skip
              | ((with_reducible refine wpQuiet_val (.pointer (some ⟨s, 0, none⟩)) (by with_unfolding_all rfl) (fun w _ => exec_nil _ (by with_unfolding_all rfl) s 0 (by with_unfolding_all rfl) w) ?_); simp only [Act.put, List.setIfInBounds_toArray, List.set_cons_zero, List.set_cons_succ])
              | ((with_reducible refine wpQuiet_val (.pointer (some ⟨s, 2, none⟩)) (by with_unfolding_all rfl) (fun w _ => exec_s1 _ (by with_unfolding_all rfl) s (by with_unfolding_all rfl) w) ?_); simp only [Act.put, List.setIfInBounds_toArray, List.set_cons_zero, List.set_cons_succ])
              | ((with_reducible refine wpQuiet_val (.pointer (some ⟨s, 2, none⟩)) (by with_unfolding_all rfl) (fun w _ => exec_p0 _ (by with_unfolding_all rfl) s 2 (by with_unfolding_all rfl) w) ?_); simp only [Act.put, List.setIfInBounds_toArray, List.set_cons_zero, List.set_cons_succ])
              | ((with_reducible refine wpQuiet_val (.pointer (some ⟨s, 3, none⟩)) (by with_unfolding_all rfl) (fun w _ => exec_p1 _ (by with_unfolding_all rfl) s 2 (by with_unfolding_all rfl) w) ?_); simp only [Act.put, List.setIfInBounds_toArray, List.set_cons_zero, List.set_cons_succ])
              | ((with_reducible refine wpQuiet_val (.pointer (some ⟨s, 5, none⟩)) (by with_unfolding_all rfl) (fun w _ => exec_p3 _ (by with_unfolding_all rfl) s 2 (by with_unfolding_all rfl) w) ?_); simp only [Act.put, List.setIfInBounds_toArray, List.set_cons_zero, List.set_cons_succ])
              | ((with_reducible refine wpQuiet_load1 (.int .i64 x.frm) (by with_unfolding_all rfl) 3 _ (by with_unfolding_all rfl) .i64 Try.underlying3 fq (1) (by with_unfolding_all rfl) (fun w h => HFQ.out.1 w h) ?_); simp only [Act.put, List.setIfInBounds_toArray, List.set_cons_zero, List.set_cons_succ])
              | ((with_reducible refine wpQuiet_load1 (.int .i64 x.seq) (by with_unfolding_all rfl) 3 _ (by with_unfolding_all rfl) .i64 Try.underlying3 fq (2) (by with_unfolding_all rfl) (fun w h => HFQ.out.2.1 w h) ?_); simp only [Act.put, List.setIfInBounds_toArray, List.set_cons_zero, List.set_cons_succ])
              | ((with_reducible refine wpQuiet_load1 (.int .i64 x.node) (by with_unfolding_all rfl) 3 _ (by with_unfolding_all rfl) .i64 Try.underlying3 fq (3) (by with_unfolding_all rfl) (fun w h => HFQ.out.2.2 w h) ?_); simp only [Act.put, List.setIfInBounds_toArray, List.set_cons_zero, List.set_cons_succ])
              | ((with_reducible refine wpQuiet_load1 (.int .i64 tg) (by with_unfolding_all rfl) 3 _ (by with_unfolding_all rfl) .i64 Try.underlying3 s (2) (by with_unfolding_all rfl) (fun w h => HS2.out w h) ?_); simp only [Act.put, List.setIfInBounds_toArray, List.set_cons_zero, List.set_cons_succ])
              | ((with_reducible refine wpQuiet_load1 (.int .i64 sq) (by with_unfolding_all rfl) 3 _ (by with_unfolding_all rfl) .i64 Try.underlying3 s (3) (by with_unfolding_all rfl) (fun w h => HS3.out w h) ?_); simp only [Act.put, List.setIfInBounds_toArray, List.set_cons_zero, List.set_cons_succ])
              | ((with_reducible refine wpQuiet_bin (by with_unfolding_all rfl) .gtr 3 _ _ _ (by with_unfolding_all rfl) (.int .i64 tg) (.int .i64 0) (.bool true) (by with_unfolding_all rfl) (by with_unfolding_all rfl) (fun w => run_guardI w _ _ _ _ _) (fun w => HGT.out w) ?_); simp only [Act.put, List.setIfInBounds_toArray, List.set_cons_zero, List.set_cons_succ])
              | ((with_reducible refine wpQuiet_bin (by with_unfolding_all rfl) .eql 3 _ _ _ (by with_unfolding_all rfl) (.int .i64 x.seq) (.int .i64 sq) (.bool true) (by with_unfolding_all rfl) (by with_unfolding_all rfl) (fun w => run_guardI w _ _ _ _ _) (fun w => HEQ.out w) ?_); simp only [Act.put, List.setIfInBounds_toArray, List.set_cons_zero, List.set_cons_succ])
              | ((with_reducible refine wpQuiet_bin (by with_unfolding_all rfl) .eql 3 _ _ _ (by with_unfolding_all rfl) (.int .i64 x.node) (.int .i64 tg) (.bool true) (by with_unfolding_all rfl) (by with_unfolding_all rfl) (fun w => run_guardI w _ _ _ _ _) (fun w => HEN.out w) ?_); simp only [Act.put, List.setIfInBounds_toArray, List.set_cons_zero, List.set_cons_succ])
              | (go_big_quiet_step (exact fun _ => rfl)))
            with_reducible refine wpQuiet_nil ?_
            intro wy hwy
            have HGG := Lib.hid (HG2.out wy hwy)
            have Hwy := Lib.hid hwy
            have c4 : wy.cell? ⟨s, 4, none⟩ = some (.bool t.got) := HGG.out.cell (i := 4) (fun _ => rfl)
            have f4 := HGG.out.frozen 4
            obtain ⟨gt, hgt⟩ : ∃ gt, gt = t.got := ⟨_, rfl⟩
            rw [← hgt] at c4
            clear hgt
            clear hwy HS2 HS3 HFQ
            have HG := Lib.hid (HGG.out.set (i := 4) (v := .bool true) (t' := { t with got := true }) (fun _ => rfl) ⟨rfl, rfl, rfl, rfl, rfl, rfl⟩ (fun l => ⟨l.me, l.ticks, l.last, l.seq, l.tgt, l.help, l.line, l.rel, l.since⟩) (Nat.le_refl M))
            have hfz : At (wy.setCell ⟨s, 4, none⟩ (.bool true)) fq 57 F := (HG.out.keeps.block fq HO.out.1 HA2.out.1.lt).trans HA2.out.1
            have hoz : At (wy.setCell ⟨s, 4, none⟩ (.bool true)) ov 33 [.slice none 0 0] := (HG.out.keeps.block ov HO.out.2 HA2.out.2.lt).trans HA2.out.2
            obtain ⟨rA, rc, hc12, hR, _, _⟩ := HG.out.relrow
            obtain ⟨rl, hrl⟩ : ∃ rl, rl = t.rel := ⟨_, rfl⟩
            have HRL := Lib.hid hrl
            have hR' : RRow (wy.setCell ⟨s, 4, none⟩ (.bool true)) rA rc rl := by rw [hrl]; exact hR
            have hc12' : (wy.setCell ⟨s, 4, none⟩ (.bool true)).cell? ⟨s, 12, none⟩ = some (.slice rA rl.length rc) := by rw [hrl]; exact hc12
            have hl16 : rl.length ≤ 16 := by rw [hrl]; exact HG.out.lim.rel
            have HCL := Lib.hid (clone_rel hR' hl16)
            have HZ := Lib.hid (And.intro hfz hoz)
            have HC12 := Lib.hid hc12'
            obtain ⟨n, hn⟩ : ∃ n, n = rl.length := ⟨_, rfl⟩
            rw [← hn] at hc12' HCL
            have HN := Lib.hid hn
            clear hfz hoz hc12 hR hrl hR' hl16 hn
            go_wp2_with fail
            refine HCL.out.mono ?_
            rintro e w5 ⟨A1, cap, rfl, hb5, hCR⟩
            have hlZ := HZ.out.1.lt
            have hlO := HZ.out.2.lt
            have HD := Lib.hid (del_ack hCR (by rw [HRL.out]; exact HG.out.lim.rel) hb5.size hlO hlZ (Ne.symm HO2.out) (HZ.out.2.below hb5 hlO) (HZ.out.1.below hb5 hlZ) HF.out)
            rw [← HN.out] at HD
            have HB5 := Lib.hid hb5
            clear hb5 hCR hlZ hlO HCL
            go_wp2_with fail
            refine HD.out.mono ?_
            rintro e w6 ⟨A2, c2, rfl, hR6, hlo6, ⟨v6, hv6, hrow6⟩, hk6⟩
            have hlt := HG.out.lt
            have hs6 : w6.heap[s]? = w5.heap[s]? := hk6.block s ⟨hlt, HO3.out⟩ (Nat.lt_of_lt_of_le hlt HB5.out.size)
            have hs56 : w6.heap[s]? = (wy.setCell ⟨s, 4, none⟩ (.bool true)).heap[s]? := hs6.trans (HB5.out.block s hlt)
            have c12 : w6.cell? ⟨s, 12, none⟩ = some (.slice rA n rc) := by rw [World.cell?_of_block (a := ⟨s, 12, none⟩) hs56, HN.out]; exact HC12.out
            have f12 : w6.frozen? ⟨s, 12, none⟩ = false := by rw [World.frozen?_of_block (a := ⟨s, 12, none⟩) hs56]; exact HG.out.frozen 12
            obtain ⟨m, hm⟩ : ∃ m, m = (rl.filter fun r => !Sct.mine x r).length := ⟨_, rfl⟩
            rw [← hm]
            have HFIN := Lib.hid (HG.out.acked HC12.out (by rw [HRL.out]) HB5.out hk6 (Nat.lt_of_lt_of_le HO4.out HG.out.size) HO5.out hR6 hlo6 hm HB2.out HOT.out (Nat.le_trans (List.length_filter_le _ _) (by rw [HRL.out]; exact HG.out.lim.rel)))
            have hvz := hv6.far (p := ⟨s, 12, none⟩) HO3.out (.slice A2 m c2)
            have HVZ := Lib.hid hvz
            have hcv : (w6.setCell ⟨s, 12, none⟩ (.slice A2 m c2)).cell? ⟨ov, 0, none⟩ = some v6 := hvz.cell' rfl
            have hfv := hvz.frozen 0
            have HRW := Lib.hid (show (w6.setCell ⟨s, 12, none⟩ (.slice A2 m c2)).ownsRow (wy.setCell ⟨s, 4, none⟩ (.bool true)).heap.size 59 238 v6 (outs x rl).length ((outs x rl).flatMap bareC) from hrow6.kept (grown_setCell (World.grownBy.refl _ _) (.inl rfl) _) (.inr fun e => by
              have := (hrow6.lt s e).1; omega))
            obtain ⟨Av, nv, cv, hsv⟩ : ∃ A n c, v6 = .slice A n c := by
              rcases slice_of_own hrow6 with ⟨k, n, h⟩ | h | ⟨bb, h⟩
              · rcases hrow6.2 with ⟨h1, _⟩ | ⟨g, cap, cur, h1, _⟩ <;> (rw [h] at h1; cases h1)
              · exact h
              · rcases hrow6.2 with ⟨h1, _⟩ | ⟨g, cap, cur, h1, _⟩ <;> (rw [h] at h1; cases h1)
            subst hsv
            clear hm hR6 hlo6 hv6 hrow6 hk6 hs6 hs56 hvz HD
            go_wp2_with fail
            rw [setCell_same HVZ.out]
            refine ret_cell1 (p := 4) (by kernel_rfl) (by with_unfolding_all rfl) ov (by with_unfolding_all rfl) Try.underlying33 (HVZ.out.cell' rfl) ?_
            rw [HC.out, ← HRL.out]
            exact ⟨_, rfl, Bares.own HRW.out (Nat.le_trans (outs_len x rl) (by rw [HRL.out]; exact Nat.le_trans HG.out.lim.rel (by omega))), HFIN.out⟩
        · have HEN := Lib.hid (show ∀ w, (binOp .eql 3 (.int .i64 x.node) (.int .i64 tg)).run Try.prog w = .ok (.bool false) w from run_eqlI0 _ _ h3)
          have HC := Lib.hid (ack_no (x := x) (t := t) (.inr (.inr (.inl (by rw [← HE.out.1]; exact h3)))))
          clear h1 h2 h3
          refine wp_region_class (Behind W2) (by kernel_rfl) (by kernel_rfl) (show Behind W2 wx.drew from Below.drew Hwx.out) ?_
          iterate 29 (first
            | go_big_quiet_skip
            | ((with_reducible refine wpQuiet_val (.pointer (some ⟨s, 0, none⟩)) (by with_unfolding_all rfl) (fun w _ => exec_nil _ (by with_unfolding_all rfl) s 0 (by with_unfolding_all rfl) w) ?_); simp only [Act.put, List.setIfInBounds_toArray, List.set_cons_zero, List.set_cons_succ])
            | ((with_reducible refine wpQuiet_val (.pointer (some ⟨s, 2, none⟩)) (by with_unfolding_all rfl) (fun w _ => exec_s1 _ (by with_unfolding_all rfl) s (by with_unfolding_all rfl) w) ?_); simp only [Act.put, List.setIfInBounds_toArray, List.set_cons_zero, List.set_cons_succ])
            | ((with_reducible refine wpQuiet_val (.pointer (some ⟨s, 2, none⟩)) (by with_unfolding_all rfl) (fun w _ => exec_p0 _ (by with_unfolding_all rfl) s 2 (by with_unfolding_all rfl) w) ?_); simp only [Act.put, List.setIfInBounds_toArray, List.set_cons_zero, List.set_cons_succ])
            | ((with_reducible refine wpQuiet_val (.pointer (some ⟨s, 3, none⟩)) (by with_unfolding_all rfl) (fun w _ => exec_p1 _ (by with_unfolding_all rfl) s 2 (by with_unfolding_all rfl) w) ?_); simp only [Act.put, List.setIfInBounds_toArray, List.set_cons_zero, List.set_cons_succ])
            | ((with_reducible refine wpQuiet_val (.pointer (some ⟨s, 5, none⟩)) (by with_unfolding_all rfl) (fun w _ => exec_p3 _ (by with_unfolding_all rfl) s 2 (by with_unfolding_all rfl) w) ?_); simp only [Act.put, List.setIfInBounds_toArray, List.set_cons_zero, List.set_cons_succ])
            | ((with_reducible refine wpQuiet_load1 (.int .i64 x.frm) (by with_unfolding_all rfl) 3 _ (by with_unfolding_all rfl) .i64 Try.underlying3 fq (1) (by with_unfolding_all rfl) (fun w h => HFQ.out.1 w h) ?_); simp only [Act.put, List.setIfInBounds_toArray, List.set_cons_zero, List.set_cons_succ])
            | ((with_reducible refine wpQuiet_load1 (.int .i64 x.seq) (by with_unfolding_all rfl) 3 _ (by with_unfolding_all rfl) .i64 Try.underlying3 fq (2) (by with_unfolding_all rfl) (fun w h => HFQ.out.2.1 w h) ?_); simp only [Act.put, List.setIfInBounds_toArray, List.set_cons_zero, List.set_cons_succ])
            | ((with_reducible refine wpQuiet_load1 (.int .i64 x.node) (by with_unfolding_all rfl) 3 _ (by with_unfolding_all rfl) .i64 Try.underlying3 fq (3) (by with_unfolding_all rfl) (fun w h => HFQ.out.2.2 w h) ?_); simp only [Act.put, List.setIfInBounds_toArray, List.set_cons_zero, List.set_cons_succ])
            | ((with_reducible refine wpQuiet_load1 (.int .i64 tg) (by with_unfolding_all rfl) 3 _ (by with_unfolding_all rfl) .i64 Try.underlying3 s (2) (by with_unfolding_all rfl) (fun w h => HS2.out w h) ?_); simp only [Act.put, List.setIfInBounds_toArray, List.set_cons_zero, List.set_cons_succ])
            | ((with_reducible refine wpQuiet_load1 (.int .i64 sq) (by with_unfolding_all rfl) 3 _ (by with_unfolding_all rfl) .i64 Try.underlying3 s (3) (by with_unfolding_all rfl) (fun w h => HS3.out w h) ?_); simp only [Act.put, List.setIfInBounds_toArray, List.set_cons_zero, List.set_cons_succ])
            | ((with_reducible refine wpQuiet_bin (by with_unfolding_all rfl) .gtr 3 _ _ _ (by with_unfolding_all rfl) (.int .i64 tg) (.int .i64 0) (.bool true) (by with_unfolding_all rfl) (by with_unfolding_all rfl) (fun w => run_guardI w _ _ _ _ _) (fun w => HGT.out w) ?_); simp only [Act.put, List.setIfInBounds_toArray, List.set_cons_zero, List.set_cons_succ])
            | ((with_reducible refine wpQuiet_bin (by with_unfolding_all rfl) .eql 3 _ _ _ (by with_unfolding_all rfl) (.int .i64 x.seq) (.int .i64 sq) (.bool true) (by with_unfolding_all rfl) (by with_unfolding_all rfl) (fun w => run_guardI w _ _ _ _ _) (fun w => HEQ.out w) ?_); simp only [Act.put, List.setIfInBounds_toArray, List.set_cons_zero, List.set_cons_succ])
            | ((with_reducible refine wpQuiet_bin (by with_unfolding_all rfl) .eql 3 _ _ _ (by with_unfolding_all rfl) (.int .i64 x.node) (.int .i64 tg) (.bool false) (by with_unfolding_all rfl) (by with_unfolding_all rfl) (fun w => run_guardI w _ _ _ _ _) (fun w => HEN.out w) ?_); simp only [Act.put, List.setIfInBounds_toArray, List.set_cons_zero, List.set_cons_succ])
            | (go_big_quiet_step (exact fun _ => rfl)))
          with_reducible refine wpQuiet_nil ?_
          intro wy hwy
          have HGG := Lib.hid (HG2.out wy hwy)
          have Hwy := Lib.hid hwy
          clear hwy HS2 HS3 HFQ
          have HG := Lib.hid (HGG.out)
          have hfz : At wy fq 57 F := (HG.out.keeps.block fq HO.out.1 HA2.out.1.lt).trans HA2.out.1
          have hoz : At wy ov 33 [.slice none 0 0] := (HG.out.keeps.block ov HO.out.2 HA2.out.2.lt).trans HA2.out.2
          obtain ⟨rA, rc, hc12, hR, _, _⟩ := HG.out.relrow
          obtain ⟨rl, hrl⟩ : ∃ rl, rl = t.rel := ⟨_, rfl⟩
          have HRL := Lib.hid hrl
          have hR' : RRow wy rA rc rl := by rw [hrl]; exact hR
          have hc12' : wy.cell? ⟨s, 12, none⟩ = some (.slice rA rl.length rc) := by rw [hrl]; exact hc12
          have hl16 : rl.length ≤ 16 := by rw [hrl]; exact HG.out.lim.rel
          have HCL := Lib.hid (clone_rel hR' hl16)
          have HZ := Lib.hid (And.intro hfz hoz)
          have HC12 := Lib.hid hc12'
          obtain ⟨n, hn⟩ : ∃ n, n = rl.length := ⟨_, rfl⟩
          rw [← hn] at hc12' HCL
          have HN := Lib.hid hn
          clear hfz hoz hc12 hR hrl hR' hl16 hn
          go_wp2_with fail
          refine HCL.out.mono ?_
          rintro e w5 ⟨A1, cap, rfl, hb5, hCR⟩
          have hlZ := HZ.out.1.lt
          have hlO := HZ.out.2.lt
          have HD := Lib.hid (del_ack hCR (by rw [HRL.out]; exact HG.out.lim.rel) hb5.size hlO hlZ (Ne.symm HO2.out) (HZ.out.2.below hb5 hlO) (HZ.out.1.below hb5 hlZ) HF.out)
          rw [← HN.out] at HD
          have HB5 := Lib.hid hb5
          clear hb5 hCR hlZ hlO HCL
          go_wp2_with fail
          refine HD.out.mono ?_
          rintro e w6 ⟨A2, c2, rfl, hR6, hlo6, ⟨v6, hv6, hrow6⟩, hk6⟩
          have hlt := HG.out.lt
          have hs6 : w6.heap[s]? = w5.heap[s]? := hk6.block s ⟨hlt, HO3.out⟩ (Nat.lt_of_lt_of_le hlt HB5.out.size)
          have hs56 : w6.heap[s]? = wy.heap[s]? := hs6.trans (HB5.out.block s hlt)
          have c12 : w6.cell? ⟨s, 12, none⟩ = some (.slice rA n rc) := by rw [World.cell?_of_block (a := ⟨s, 12, none⟩) hs56, HN.out]; exact HC12.out
          have f12 : w6.frozen? ⟨s, 12, none⟩ = false := by rw [World.frozen?_of_block (a := ⟨s, 12, none⟩) hs56]; exact HG.out.frozen 12
          obtain ⟨m, hm⟩ : ∃ m, m = (rl.filter fun r => !Sct.mine x r).length := ⟨_, rfl⟩
          rw [← hm]
          have HFIN := Lib.hid (HG.out.acked HC12.out (by rw [HRL.out]) HB5.out hk6 (Nat.lt_of_lt_of_le HO4.out HG.out.size) HO5.out hR6 hlo6 hm HB2.out HOT.out (Nat.le_trans (List.length_filter_le _ _) (by rw [HRL.out]; exact HG.out.lim.rel)))
          have hvz := hv6.far (p := ⟨s, 12, none⟩) HO3.out (.slice A2 m c2)
          have HVZ := Lib.hid hvz
          have hcv : (w6.setCell ⟨s, 12, none⟩ (.slice A2 m c2)).cell? ⟨ov, 0, none⟩ = some v6 := hvz.cell' rfl
          have hfv := hvz.frozen 0
          have HRW := Lib.hid (show (w6.setCell ⟨s, 12, none⟩ (.slice A2 m c2)).ownsRow wy.heap.size 59 238 v6 (outs x rl).length ((outs x rl).flatMap bareC) from hrow6.kept (grown_setCell (World.grownBy.refl _ _) (.inl rfl) _) (.inr fun e => by
            have := (hrow6.lt s e).1; omega))
          obtain ⟨Av, nv, cv, hsv⟩ : ∃ A n c, v6 = .slice A n c := by
            rcases slice_of_own hrow6 with ⟨k, n, h⟩ | h | ⟨bb, h⟩
            · rcases hrow6.2 with ⟨h1, _⟩ | ⟨g, cap, cur, h1, _⟩ <;> (rw [h] at h1; cases h1)
            · exact h
            · rcases hrow6.2 with ⟨h1, _⟩ | ⟨g, cap, cur, h1, _⟩ <;> (rw [h] at h1; cases h1)
          subst hsv
          clear hm hR6 hlo6 hv6 hrow6 hk6 hs6 hs56 hvz HD
          go_wp2_with fail
          rw [setCell_same HVZ.out]
          refine ret_cell1 (p := 4) (by kernel_rfl) (by with_unfolding_all rfl) ov (by with_unfolding_all rfl) Try.underlying33 (HVZ.out.cell' rfl) ?_
          rw [HC.out, ← HRL.out]
          exact ⟨_, rfl, Bares.own HRW.out (Nat.le_trans (outs_len x rl) (by rw [HRL.out]; exact Nat.le_trans HG.out.lim.rel (by omega))), HFIN.out⟩
      · have HEQ := Lib.hid (show ∀ w, (binOp .eql 3 (.int .i64 x.seq) (.int .i64 sq)).run Try.prog w = .ok (.bool false) w from run_eqlI0 _ _ h2)
        have HC := Lib.hid (ack_no (x := x) (t := t) (.inr (.inl (by rw [← HE.out.2]; exact h2))))
        clear h1 h2
        refine wp_region_class (Behind W2) (by kernel_rfl) (by kernel_rfl) (show Behind W2 wx.drew from Below.drew Hwx.out) ?_
        iterate 29 (first
          | go_big_quiet_skip
          | ((with_reducible refine wpQuiet_val (.pointer (some ⟨s, 0, none⟩)) (by with_unfolding_all rfl) (fun w _ => exec_nil _ (by with_unfolding_all rfl) s 0 (by with_unfolding_all rfl) w) ?_); simp only [Act.put, List.setIfInBounds_toArray, List.set_cons_zero, List.set_cons_succ])
          | ((with_reducible refine wpQuiet_val (.pointer (some ⟨s, 2, none⟩)) (by with_unfolding_all rfl) (fun w _ => exec_s1 _ (by with_unfolding_all rfl) s (by with_unfolding_all rfl) w) ?_); simp only [Act.put, List.setIfInBounds_toArray, List.set_cons_zero, List.set_cons_succ])
          | ((with_reducible refine wpQuiet_val (.pointer (some ⟨s, 2, none⟩)) (by with_unfolding_all rfl) (fun w _ => exec_p0 _ (by with_unfolding_all rfl) s 2 (by with_unfolding_all rfl) w) ?_); simp only [Act.put, List.setIfInBounds_toArray, List.set_cons_zero, List.set_cons_succ])
          | ((with_reducible refine wpQuiet_val (.pointer (some ⟨s, 3, none⟩)) (by with_unfolding_all rfl) (fun w _ => exec_p1 _ (by with_unfolding_all rfl) s 2 (by with_unfolding_all rfl) w) ?_); simp only [Act.put, List.setIfInBounds_toArray, List.set_cons_zero, List.set_cons_succ])
          | ((with_reducible refine wpQuiet_val (.pointer (some ⟨s, 5, none⟩)) (by with_unfolding_all rfl) (fun w _ => exec_p3 _ (by with_unfolding_all rfl) s 2 (by with_unfolding_all rfl) w) ?_); simp only [Act.put, List.setIfInBounds_toArray, List.set_cons_zero, List.set_cons_succ])
          | ((with_reducible refine wpQuiet_load1 (.int .i64 x.frm) (by with_unfolding_all rfl) 3 _ (by with_unfolding_all rfl) .i64 Try.underlying3 fq (1) (by with_unfolding_all rfl) (fun w h => HFQ.out.1 w h) ?_); simp only [Act.put, List.setIfInBounds_toArray, List.set_cons_zero, List.set_cons_succ])
          | ((with_reducible refine wpQuiet_load1 (.int .i64 x.seq) (by with_unfolding_all rfl) 3 _ (by with_unfolding_all rfl) .i64 Try.underlying3 fq (2) (by with_unfolding_all rfl) (fun w h => HFQ.out.2.1 w h) ?_); simp only [Act.put, List.setIfInBounds_toArray, List.set_cons_zero, List.set_cons_succ])
          | ((with_reducible refine wpQuiet_load1 (.int .i64 x.node) (by with_unfolding_all rfl) 3 _ (by with_unfolding_all rfl) .i64 Try.underlying3 fq (3) (by with_unfolding_all rfl) (fun w h => HFQ.out.2.2 w h) ?_); simp only [Act.put, List.setIfInBounds_toArray, List.set_cons_zero, List.set_cons_succ])
          | ((with_reducible refine wpQuiet_load1 (.int .i64 tg) (by with_unfolding_all rfl) 3 _ (by with_unfolding_all rfl) .i64 Try.underlying3 s (2) (by with_unfolding_all rfl) (fun w h => HS2.out w h) ?_); simp only [Act.put, List.setIfInBounds_toArray, List.set_cons_zero, List.set_cons_succ])
          | ((with_reducible refine wpQuiet_load1 (.int .i64 sq) (by with_unfolding_all rfl) 3 _ (by with_unfolding_all rfl) .i64 Try.underlying3 s (3) (by with_unfolding_all rfl) (fun w h => HS3.out w h) ?_); simp only [Act.put, List.setIfInBounds_toArray, List.set_cons_zero, List.set_cons_succ])
          | ((with_reducible refine wpQuiet_bin (by with_unfolding_all rfl) .gtr 3 _ _ _ (by with_unfolding_all rfl) (.int .i64 tg) (.int .i64 0) (.bool true) (by with_unfolding_all rfl) (by with_unfolding_all rfl) (fun w => run_guardI w _ _ _ _ _) (fun w => HGT.out w) ?_); simp only [Act.put, List.setIfInBounds_toArray, List.set_cons_zero, List.set_cons_succ])
          | ((with_reducible refine wpQuiet_bin (by with_unfolding_all rfl) .eql 3 _ _ _ (by with_unfolding_all rfl) (.int .i64 x.seq) (.int .i64 sq) (.bool false) (by with_unfolding_all rfl) (by with_unfolding_all rfl) (fun w => run_guardI w _ _ _ _ _) (fun w => HEQ.out w) ?_); simp only [Act.put, List.setIfInBounds_toArray, List.set_cons_zero, List.set_cons_succ])
          | (go_big_quiet_step (exact fun _ => rfl)))
        with_reducible refine wpQuiet_nil ?_
        intro wy hwy
        have HGG := Lib.hid (HG2.out wy hwy)
        have Hwy := Lib.hid hwy
        clear hwy HS2 HS3 HFQ
        have HG := Lib.hid (HGG.out)
        have hfz : At wy fq 57 F := (HG.out.keeps.block fq HO.out.1 HA2.out.1.lt).trans HA2.out.1
        have hoz : At wy ov 33 [.slice none 0 0] := (HG.out.keeps.block ov HO.out.2 HA2.out.2.lt).trans HA2.out.2
        obtain ⟨rA, rc, hc12, hR, _, _⟩ := HG.out.relrow
        obtain ⟨rl, hrl⟩ : ∃ rl, rl = t.rel := ⟨_, rfl⟩
        have HRL := Lib.hid hrl
        have hR' : RRow wy rA rc rl := by rw [hrl]; exact hR
        have hc12' : wy.cell? ⟨s, 12, none⟩ = some (.slice rA rl.length rc) := by rw [hrl]; exact hc12
        have hl16 : rl.length ≤ 16 := by rw [hrl]; exact HG.out.lim.rel
        have HCL := Lib.hid (clone_rel hR' hl16)
        have HZ := Lib.hid (And.intro hfz hoz)
        have HC12 := Lib.hid hc12'
        obtain ⟨n, hn⟩ : ∃ n, n = rl.length := ⟨_, rfl⟩
        rw [← hn] at hc12' HCL
        have HN := Lib.hid hn
        clear hfz hoz hc12 hR hrl hR' hl16 hn
        go_wp2_with fail
        refine HCL.out.mono ?_
        rintro e w5 ⟨A1, cap, rfl, hb5, hCR⟩
        have hlZ := HZ.out.1.lt
        have hlO := HZ.out.2.lt
        have HD := Lib.hid (del_ack hCR (by rw [HRL.out]; exact HG.out.lim.rel) hb5.size hlO hlZ (Ne.symm HO2.out) (HZ.out.2.below hb5 hlO) (HZ.out.1.below hb5 hlZ) HF.out)
        rw [← HN.out] at HD
        have HB5 := Lib.hid hb5
        clear hb5 hCR hlZ hlO HCL
        go_wp2_with fail
        refine HD.out.mono ?_
        rintro e w6 ⟨A2, c2, rfl, hR6, hlo6, ⟨v6, hv6, hrow6⟩, hk6⟩
        have hlt := HG.out.lt
        have hs6 : w6.heap[s]? = w5.heap[s]? := hk6.block s ⟨hlt, HO3.out⟩ (Nat.lt_of_lt_of_le hlt HB5.out.size)
        have hs56 : w6.heap[s]? = wy.heap[s]? := hs6.trans (HB5.out.block s hlt)
        have c12 : w6.cell? ⟨s, 12, none⟩ = some (.slice rA n rc) := by rw [World.cell?_of_block (a := ⟨s, 12, none⟩) hs56, HN.out]; exact HC12.out
        have f12 : w6.frozen? ⟨s, 12, none⟩ = false := by rw [World.frozen?_of_block (a := ⟨s, 12, none⟩) hs56]; exact HG.out.frozen 12
        obtain ⟨m, hm⟩ : ∃ m, m = (rl.filter fun r => !Sct.mine x r).length := ⟨_, rfl⟩
        rw [← hm]
        have HFIN := Lib.hid (HG.out.acked HC12.out (by rw [HRL.out]) HB5.out hk6 (Nat.lt_of_lt_of_le HO4.out HG.out.size) HO5.out hR6 hlo6 hm HB2.out HOT.out (Nat.le_trans (List.length_filter_le _ _) (by rw [HRL.out]; exact HG.out.lim.rel)))
        have hvz := hv6.far (p := ⟨s, 12, none⟩) HO3.out (.slice A2 m c2)
        have HVZ := Lib.hid hvz
        have hcv : (w6.setCell ⟨s, 12, none⟩ (.slice A2 m c2)).cell? ⟨ov, 0, none⟩ = some v6 := hvz.cell' rfl
        have hfv := hvz.frozen 0
        have HRW := Lib.hid (show (w6.setCell ⟨s, 12, none⟩ (.slice A2 m c2)).ownsRow wy.heap.size 59 238 v6 (outs x rl).length ((outs x rl).flatMap bareC) from hrow6.kept (grown_setCell (World.grownBy.refl _ _) (.inl rfl) _) (.inr fun e => by
          have := (hrow6.lt s e).1; omega))
        obtain ⟨Av, nv, cv, hsv⟩ : ∃ A n c, v6 = .slice A n c := by
          rcases slice_of_own hrow6 with ⟨k, n, h⟩ | h | ⟨bb, h⟩
          · rcases hrow6.2 with ⟨h1, _⟩ | ⟨g, cap, cur, h1, _⟩ <;> (rw [h] at h1; cases h1)
          · exact h
          · rcases hrow6.2 with ⟨h1, _⟩ | ⟨g, cap, cur, h1, _⟩ <;> (rw [h] at h1; cases h1)
        subst hsv
        clear hm hR6 hlo6 hv6 hrow6 hk6 hs6 hs56 hvz HD
        go_wp2_with fail
        rw [setCell_same HVZ.out]
        refine ret_cell1 (p := 4) (by kernel_rfl) (by with_unfolding_all rfl) ov (by with_unfolding_all rfl) Try.underlying33 (HVZ.out.cell' rfl) ?_
        rw [HC.out, ← HRL.out]
        exact ⟨_, rfl, Bares.own HRW.out (Nat.le_trans (outs_len x rl) (by rw [HRL.out]; exact Nat.le_trans HG.out.lim.rel (by omega))), HFIN.out⟩
    · have HGT := Lib.hid (show ∀ w, (binOp .gtr 3 (.int .i64 tg) (.int .i64 0)).run Try.prog w = .ok (.bool false) w from run_gtrI0 _ _ (by omega))
      have HC := Lib.hid (ack_no (x := x) (t := t) (.inl (by rw [← HE.out.1]; exact h1)))
      clear h1
      refine wp_region_class (Behind W2) (by kernel_rfl) (by kernel_rfl) (show Behind W2 wx.drew from Below.drew Hwx.out) ?_
      iterate 29 (first
        | go_big_quiet_skip
        | ((with_reducible refine wpQuiet_val (.pointer (some ⟨s, 0, none⟩)) (by with_unfolding_all rfl) (fun w _ => exec_nil _ (by with_unfolding_all rfl) s 0 (by with_unfolding_all rfl) w) ?_); simp only [Act.put, List.setIfInBounds_toArray, List.set_cons_zero, List.set_cons_succ])
        | ((with_reducible refine wpQuiet_val (.pointer (some ⟨s, 2, none⟩)) (by with_unfolding_all rfl) (fun w _ => exec_s1 _ (by with_unfolding_all rfl) s (by with_unfolding_all rfl) w) ?_); simp only [Act.put, List.setIfInBounds_toArray, List.set_cons_zero, List.set_cons_succ])
        | ((with_reducible refine wpQuiet_val (.pointer (some ⟨s, 2, none⟩)) (by with_unfolding_all rfl) (fun w _ => exec_p0 _ (by with_unfolding_all rfl) s 2 (by with_unfolding_all rfl) w) ?_); simp only [Act.put, List.setIfInBounds_toArray, List.set_cons_zero, List.set_cons_succ])
        | ((with_reducible refine wpQuiet_val (.pointer (some ⟨s, 3, none⟩)) (by with_unfolding_all rfl) (fun w _ => exec_p1 _ (by with_unfolding_all rfl) s 2 (by with_unfolding_all rfl) w) ?_); simp only [Act.put, List.setIfInBounds_toArray, List.set_cons_zero, List.set_cons_succ])
        | ((with_reducible refine wpQuiet_val (.pointer (some ⟨s, 5, none⟩)) (by with_unfolding_all rfl) (fun w _ => exec_p3 _ (by with_unfolding_all rfl) s 2 (by with_unfolding_all rfl) w) ?_); simp only [Act.put, List.setIfInBounds_toArray, List.set_cons_zero, List.set_cons_succ])
        | ((with_reducible refine wpQuiet_load1 (.int .i64 x.frm) (by with_unfolding_all rfl) 3 _ (by with_unfolding_all rfl) .i64 Try.underlying3 fq (1) (by with_unfolding_all rfl) (fun w h => HFQ.out.1 w h) ?_); simp only [Act.put, List.setIfInBounds_toArray, List.set_cons_zero, List.set_cons_succ])
        | ((with_reducible refine wpQuiet_load1 (.int .i64 x.seq) (by with_unfolding_all rfl) 3 _ (by with_unfolding_all rfl) .i64 Try.underlying3 fq (2) (by with_unfolding_all rfl) (fun w h => HFQ.out.2.1 w h) ?_); simp only [Act.put, List.setIfInBounds_toArray, List.set_cons_zero, List.set_cons_succ])
        | ((with_reducible refine wpQuiet_load1 (.int .i64 x.node) (by with_unfolding_all rfl) 3 _ (by with_unfolding_all rfl) .i64 Try.underlying3 fq (3) (by with_unfolding_all rfl) (fun w h => HFQ.out.2.2 w h) ?_); simp only [Act.put, List.setIfInBounds_toArray, List.set_cons_zero, List.set_cons_succ])
        | ((with_reducible refine wpQuiet_load1 (.int .i64 tg) (by with_unfolding_all rfl) 3 _ (by with_unfolding_all rfl) .i64 Try.underlying3 s (2) (by with_unfolding_all rfl) (fun w h => HS2.out w h) ?_); simp only [Act.put, List.setIfInBounds_toArray, List.set_cons_zero, List.set_cons_succ])
        | ((with_reducible refine wpQuiet_load1 (.int .i64 sq) (by with_unfolding_all rfl) 3 _ (by with_unfolding_all rfl) .i64 Try.underlying3 s (3) (by with_unfolding_all rfl) (fun w h => HS3.out w h) ?_); simp only [Act.put, List.setIfInBounds_toArray, List.set_cons_zero, List.set_cons_succ])
        | ((with_reducible refine wpQuiet_bin (by with_unfolding_all rfl) .gtr 3 _ _ _ (by with_unfolding_all rfl) (.int .i64 tg) (.int .i64 0) (.bool false) (by with_unfolding_all rfl) (by with_unfolding_all rfl) (fun w => run_guardI w _ _ _ _ _) (fun w => HGT.out w) ?_); simp only [Act.put, List.setIfInBounds_toArray, List.set_cons_zero, List.set_cons_succ])
        | (go_big_quiet_step (exact fun _ => rfl)))
      with_reducible refine wpQuiet_nil ?_
      intro wy hwy
      have HGG := Lib.hid (HG2.out wy hwy)
      have Hwy := Lib.hid hwy
      clear hwy HS2 HS3 HFQ
      have HG := Lib.hid (HGG.out)
      have hfz : At wy fq 57 F := (HG.out.keeps.block fq HO.out.1 HA2.out.1.lt).trans HA2.out.1
      have hoz : At wy ov 33 [.slice none 0 0] := (HG.out.keeps.block ov HO.out.2 HA2.out.2.lt).trans HA2.out.2
      obtain ⟨rA, rc, hc12, hR, _, _⟩ := HG.out.relrow
      obtain ⟨rl, hrl⟩ : ∃ rl, rl = t.rel := ⟨_, rfl⟩
      have HRL := Lib.hid hrl
      have hR' : RRow wy rA rc rl := by rw [hrl]; exact hR
      have hc12' : wy.cell? ⟨s, 12, none⟩ = some (.slice rA rl.length rc) := by rw [hrl]; exact hc12
      have hl16 : rl.length ≤ 16 := by rw [hrl]; exact HG.out.lim.rel
      have HCL := Lib.hid (clone_rel hR' hl16)
      have HZ := Lib.hid (And.intro hfz hoz)
      have HC12 := Lib.hid hc12'
      obtain ⟨n, hn⟩ : ∃ n, n = rl.length := ⟨_, rfl⟩
      rw [← hn] at hc12' HCL
      have HN := Lib.hid hn
      clear hfz hoz hc12 hR hrl hR' hl16 hn
      go_wp2_with fail
      refine HCL.out.mono ?_
      rintro e w5 ⟨A1, cap, rfl, hb5, hCR⟩
      have hlZ := HZ.out.1.lt
      have hlO := HZ.out.2.lt
      have HD := Lib.hid (del_ack hCR (by rw [HRL.out]; exact HG.out.lim.rel) hb5.size hlO hlZ (Ne.symm HO2.out) (HZ.out.2.below hb5 hlO) (HZ.out.1.below hb5 hlZ) HF.out)
      rw [← HN.out] at HD
      have HB5 := Lib.hid hb5
      clear hb5 hCR hlZ hlO HCL
      go_wp2_with fail
      refine HD.out.mono ?_
      rintro e w6 ⟨A2, c2, rfl, hR6, hlo6, ⟨v6, hv6, hrow6⟩, hk6⟩
      have hlt := HG.out.lt
      have hs6 : w6.heap[s]? = w5.heap[s]? := hk6.block s ⟨hlt, HO3.out⟩ (Nat.lt_of_lt_of_le hlt HB5.out.size)
      have hs56 : w6.heap[s]? = wy.heap[s]? := hs6.trans (HB5.out.block s hlt)
      have c12 : w6.cell? ⟨s, 12, none⟩ = some (.slice rA n rc) := by rw [World.cell?_of_block (a := ⟨s, 12, none⟩) hs56, HN.out]; exact HC12.out
      have f12 : w6.frozen? ⟨s, 12, none⟩ = false := by rw [World.frozen?_of_block (a := ⟨s, 12, none⟩) hs56]; exact HG.out.frozen 12
      obtain ⟨m, hm⟩ : ∃ m, m = (rl.filter fun r => !Sct.mine x r).length := ⟨_, rfl⟩
      rw [← hm]
      have HFIN := Lib.hid (HG.out.acked HC12.out (by rw [HRL.out]) HB5.out hk6 (Nat.lt_of_lt_of_le HO4.out HG.out.size) HO5.out hR6 hlo6 hm HB2.out HOT.out (Nat.le_trans (List.length_filter_le _ _) (by rw [HRL.out]; exact HG.out.lim.rel)))
      have hvz := hv6.far (p := ⟨s, 12, none⟩) HO3.out (.slice A2 m c2)
      have HVZ := Lib.hid hvz
      have hcv : (w6.setCell ⟨s, 12, none⟩ (.slice A2 m c2)).cell? ⟨ov, 0, none⟩ = some v6 := hvz.cell' rfl
      have hfv := hvz.frozen 0
      have HRW := Lib.hid (show (w6.setCell ⟨s, 12, none⟩ (.slice A2 m c2)).ownsRow wy.heap.size 59 238 v6 (outs x rl).length ((outs x rl).flatMap bareC) from hrow6.kept (grown_setCell (World.grownBy.refl _ _) (.inl rfl) _) (.inr fun e => by
        have := (hrow6.lt s e).1; omega))
      obtain ⟨Av, nv, cv, hsv⟩ : ∃ A n c, v6 = .slice A n c := by
        rcases slice_of_own hrow6 with ⟨k, n, h⟩ | h | ⟨bb, h⟩
        · rcases hrow6.2 with ⟨h1, _⟩ | ⟨g, cap, cur, h1, _⟩ <;> (rw [h] at h1; cases h1)
        · exact h
        · rcases hrow6.2 with ⟨h1, _⟩ | ⟨g, cap, cur, h1, _⟩ <;> (rw [h] at h1; cases h1)
      subst hsv
      clear hm hR6 hlo6 hv6 hrow6 hk6 hs6 hs56 hvz HD
      go_wp2_with fail
      rw [setCell_same HVZ.out]
      refine ret_cell1 (p := 4) (by kernel_rfl) (by with_unfolding_all rfl) ov (by with_unfolding_all rfl) Try.underlying33 (HVZ.out.cell' rfl) ?_
      rw [HC.out, ← HRL.out]
      exact ⟨_, rfl, Bares.own HRW.out (Nat.le_trans (outs_len x rl) (by rw [HRL.out]; exact Nat.le_trans HG.out.lim.rel (by omega))), HFIN.out⟩
end
end Go.Proofs.Ytghefmppjdneoaa
