/- Layer 12, the texts ScZf to ScZg joined: what the functions that a scout reaches do with memory, each told once. -/
import Derived.Test.YtghefmppjdneoaaGrpM
namespace Go.Proofs.Ytghefmppjdneoaa
open Go.Proofs Stab Go.Shelf Go.RowKit Go.Lib Go.Sort Go.Maps

def ackFr (x : Fr) (r : Rel) : Fr := ⟨r.org, 2, 0, r.was, x.frm, []⟩
def outs (x : Fr) (ls : List Rel) : List Fr := (ls.filter (Sct.mine x)).map (ackFr x)
theorem outs_len (x : Fr) (ls : List Rel) : (outs x ls).length ≤ ls.length := by
  unfold outs
  rw [List.length_map]
  exact List.length_filter_le _ _
theorem outs_no {x : Fr} {ls : List Rel} {r : Rel} (h : Sct.mine x r = false) : outs x (ls ++ [r]) = outs x ls := by
  unfold outs
  rw [List.filter_append]
  simp [h]
theorem outs_yes {x : Fr} {ls : List Rel} {r : Rel} (h : Sct.mine x r = true) : outs x (ls ++ [r]) = outs x ls ++ [ackFr x r] := by
  unfold outs
  rw [List.filter_append]
  simp [h]
/-- what ack's function has made, asked of ls -/
structure AckI (W0 : World) (q ov fq : Nat) (F : List Value) (x : Fr) (ls : List Rel) (B : Nat) (W : World) : Prop where
  out : ∃ v, At W ov 33 [v] ∧ W.ownsRow W0.heap.size 59 238 v (outs x ls).length ((outs x ls).flatMap bareC) ∧ ∀ g, v.ownBlock = some g → g < B
  fr : At W fq 57 F
  kp : Keeps (fun i => i ≠ ov ∧ i ≠ q) W0 W
  lt : ov < W0.heap.size ∧ fq < W0.heap.size ∧ q < W0.heap.size ∧ ov ≠ q ∧ fq ≠ q ∧ ov ≠ fq
  base : W0.heap.size ≤ B
section
variable {W0 W w4 w5 : World} {q ov fq B : Nat} {F : List Value} {x : Fr} {ls : List Rel} {r : Rel} {v v' : Value}
theorem AckI.row (h : AckI W0 q ov fq F x ls B W) (hv : At W ov 33 [v]) : W.ownsRow W0.heap.size 59 238 v (outs x ls).length ((outs x ls).flatMap bareC) := by
  obtain ⟨v0, h1, h2, _⟩ := h.out
  have := h1.inj hv
  cases this
  exact h2
theorem AckI.rowlt (h : AckI W0 q ov fq F x ls B W) (hv : At W ov 33 [v]) : ∀ g, v.ownBlock = some g → g < B := by
  obtain ⟨v0, h1, _, h2⟩ := h.out
  have := h1.inj hv
  cases this
  exact h2
theorem row_below3 {w w' : World} {B : Nat} {e : TypeId} {size n : Nat} {v : Value} {xs : List Value} (h : w.ownsRow B e size v n xs) (hb : Below w.heap.size w w') : w'.ownsRow B e size v n xs := row_behind h hb
theorem AckI.new {W' : World} (h : AckI W0 q ov fq F x ls B W) (hb : Below W.heap.size W W') : AckI W0 q ov fq F x ls B W' := by
  obtain ⟨v, h1, h2, h3⟩ := h.out
  exact ⟨⟨v, h1.below hb h1.lt, row_below3 h2 hb, h3⟩, h.fr.below hb h.fr.lt, h.kp.trans (Keeps.ofBelow hb), h.lt, h.base⟩
theorem AckI.set (h : AckI W0 q ov fq F x ls B W) (k : Nat) (u : Value) : AckI W0 q ov fq F x ls B (W.setCell ⟨q, k, none⟩ u) := by
  obtain ⟨v, h1, h2, h3⟩ := h.out
  obtain ⟨l1, l2, l3, l4, l5, l6⟩ := h.lt
  have hg : W.grownBy (W.setCell ⟨q, k, none⟩ u) (some q) := grown_setCell (World.grownBy.refl _ _) (.inl rfl) _
  refine ⟨⟨v, h1.grown hg (by intro e; injection e with e; exact l4 e), h2.kept hg ?_, h3⟩, h.fr.grown hg (by intro e; injection e with e; exact l5 e), h.kp.trans (Keeps.ofGrown hg fun h => h.2 rfl), h.lt, h.base⟩
  cases hv : v.ownBlock with
  | none => exact .inl rfl
  | some g =>
    refine .inr fun e => ?_
    injection e with e
    have := (h2.lt g hv).1
    omega
theorem AckI.skip (h : AckI W0 q ov fq F x ls B W) (hm : Sct.mine x r = false) : AckI W0 q ov fq F x (ls ++ [r]) W.heap.size W := by
  obtain ⟨v, h1, h2, h3⟩ := h.out
  refine ⟨⟨v, h1, by rw [outs_no hm]; exact h2, fun g hg => (h2.lt g hg).2⟩, h.fr, h.kp, h.lt, h.kp.size⟩
theorem AckI.app (h : AckI W0 q ov fq F x ls B W) (hv : At W ov 33 [v]) (hb : Below W.heap.size W w4) (hO : w5.ownsRow W0.heap.size 59 238 v' (outs x ls ++ [ackFr x r]).length ((outs x ls ++ [ackFr x r]).flatMap bareC)) (hg : w4.grownBy w5 v.ownBlock) (hm : Sct.mine x r = true) :
    (∀ i, i < w4.heap.size → some i ≠ v.ownBlock → w5.heap[i]? = w4.heap[i]?) ∧ At w5 ov 33 [v] ∧ AckI W0 q ov fq F x (ls ++ [r]) (w5.setCell ⟨ov, 0, none⟩ v').heap.size (w5.setCell ⟨ov, 0, none⟩ v') ∧ ∀ i, i ≠ ov → some i ≠ v.ownBlock → i < W.heap.size → (w5.setCell ⟨ov, 0, none⟩ v').heap[i]? = W.heap[i]? := by
  obtain ⟨l1, l2, l3, l4, l5, l6⟩ := h.lt
  have hrow := h.row hv
  have hlo : ∀ i, i < W0.heap.size → some i ≠ v.ownBlock := fun i hi e => by have := (hrow.lt i e.symm).1; omega
  have hg2 : w5.grownBy (w5.setCell ⟨ov, 0, none⟩ v') (some ov) := grown_setCell (World.grownBy.refl _ _) (.inl rfl) _
  have hs := h.kp.size
  have hov5 : At w5 ov 33 [v] := (hv.below hb hv.lt).grown hg (hlo ov l1)
  have hfr5 : At w5 fq 57 F := (h.fr.below hb h.fr.lt).grown hg (hlo fq l2)
  refine ⟨fun i hi hn => hg.block i hi hn, hov5, ⟨⟨v', hov5.set 0 v', ?_, fun g hg => ?_⟩, hfr5.far (p := ⟨ov, 0, none⟩) l6 v', ?_, h.lt, Nat.le_trans hs (Nat.le_trans hb.size (Nat.le_trans hg.size hg2.size))⟩, fun i h1 h2 h3 => ?_⟩
  · rw [outs_yes hm]
    refine hO.kept hg2 ?_
    cases hv' : v'.ownBlock with
    | none => exact .inl rfl
    | some g =>
      refine .inr fun e => ?_
      injection e with e
      have := (hO.lt g hv').1
      omega
  · have := (hO.lt g hg).2
    exact Nat.lt_of_lt_of_le this hg2.size
  · have hk4 := h.kp.trans (Keeps.ofBelow (A := fun i => i ≠ ov ∧ i ≠ q) hb)
    refine ⟨hg2.os.trans (hg.os.trans hk4.os), hg2.tape.trans (hg.tape.trans hk4.tape), hg2.output.trans (hg.output.trans hk4.output), Nat.le_trans hk4.size (Nat.le_trans hg.size hg2.size), fun i hi hl => ?_⟩
    have hl4 := Nat.lt_of_lt_of_le hl hk4.size
    exact (hg2.block i (Nat.lt_of_lt_of_le hl4 hg.size) (fun e => hi.1 (Option.some.inj e))).trans ((hg.block i hl4 (hlo i hl)).trans (hk4.block i hi hl))
  · exact (hg2.block i (Nat.lt_of_lt_of_le (Nat.lt_of_lt_of_le h3 hb.size) hg.size) (fun e => h1 (Option.some.inj e))).trans ((hg.block i (Nat.lt_of_lt_of_le h3 hb.size) h2).trans (hb.block i h3))
/-- what the drawn region reads beside the frames: the frame, the relay -/
structure AckS (fq rb : Nat) (x : Fr) (r : Rel) (w : World) : Prop where
  f : w.cell? ⟨fq, 1, none⟩ = some (.int .i64 x.frm)
  o : w.cell? ⟨rb, 2, none⟩ = some (.int .i64 r.org)
  a : w.cell? ⟨rb, 3, none⟩ = some (.int .i64 r.was)
  l : fq < w.heap.size ∧ rb < w.heap.size
theorem AckS.away {rb : Nat} {w w' : World} (h : AckS fq rb x r w) (h1 : w'.heap[fq]? = w.heap[fq]?) (h2 : w'.heap[rb]? = w.heap[rb]?) (hs : w.heap.size ≤ w'.heap.size) : AckS fq rb x r w' :=
  ⟨(World.cell?_of_block (a := ⟨fq, 1, none⟩) h1).trans h.f, (World.cell?_of_block (a := ⟨rb, 2, none⟩) h2).trans h.o, (World.cell?_of_block (a := ⟨rb, 3, none⟩) h2).trans h.a, ⟨Nat.lt_of_lt_of_le h.l.1 hs, Nat.lt_of_lt_of_le h.l.2 hs⟩⟩
theorem AckS.below {rb : Nat} {w w' : World} (h : AckS fq rb x r w) (hb : Below w.heap.size w w') : AckS fq rb x r w' := h.away (hb.block _ h.l.1) (hb.block _ h.l.2) hb.size
theorem exec_loadV {ρ : Operand → Value} {o : Oper} (y : Operand) (ho : o.op = .load 33 y) (b off : Nat) (hx : ρ y = .pointer (some ⟨b, off, none⟩)) {w : World} {v : Value} (hc : w.cell? ⟨b, off, none⟩ = some v) : (execOp ρ o).run Try.prog w = .ok (.value v) w := by
  unfold execOp
  simp only [ho, hx, Sem.run_bind, Sem.run_pure, run_load_slice Try.underlying33 hc, Result.andThen_ok]
theorem slice_of_own {w : World} {B n : Nat} {xs : List Value} (h : w.ownsRow B 59 238 v n xs) : (∃ k n, v = .int k n) ∨ (∃ A n c, v = .slice A n c) ∨ ∃ b, v = .bool b := by
  rcases h.2 with ⟨h1, _⟩ | ⟨g, cap, cur, h1, _⟩
  · exact .inr (.inl ⟨_, _, _, h1⟩)
  · exact .inr (.inl ⟨_, _, _, h1⟩)
theorem turn_app_sent {ops : Array Oper} {Q : Exit → Act → World → Prop} {S : World → Prop} {Z : Act → World → Prop} {i : Nat} {a : Act} {w : World} {o : Oper} (ho : ops.toList[i]? = some o) (hw : Region.wanted o (yielded ops a.tmps) = true) (y z : Operand) (hop : o.op = .call { callee := .builtin .append, args := #[y, z], argTypes := #[33, 33] }) {B g c : Nat} {v : Value} {l : List Fr} {f : Fr} (hx : a.eval y = v) (hy : a.eval z = .slice (some ⟨g, 0, none⟩) 1 c)
    (hO : w.ownsRow B 59 238 v l.length (l.flatMap bareC)) (hB : B ≤ w.heap.size) (hg : w.rangeAt g 0 (bareC f)) (hl : l.length ≤ 1000) (h : ∀ v' w', w'.ownsRow B 59 238 v' (l ++ [f]).length ((l ++ [f]).flatMap bareC) → w.grownBy w' v.ownBlock → S w' ∧ Z (a.put o.dst v') w') : turnT Try.prog ops S Q Z i a w := by
  obtain ⟨v', w', h1, h2, h3⟩ := exec_app_sent y z hop hx hy hO hB hg hl
  obtain ⟨hS, hW⟩ := h v' w' h2 h3
  exact turn_put _ _ ho hw h1 hS hW
set_option maxRecDepth 100000 in
set_option maxHeartbeats 2000000 in
theorem ack1_any {A : Option Addr} {c : Nat} (hF : FrIs F x A c) (hI : AckI W0 q ov fq F x ls B W) (hB : B ≤ W.heap.size) (hls : ls.length < 1000) {cs : List Value} (hq : At W q 113 cs) :
    Calls Try.prog 51 #[.agg #[.int .i64 r.seq, .int .i64 r.to_, .int .i64 r.org, .int .i64 r.was], .pointer (some ⟨fq, 0, none⟩), .pointer (some ⟨ov, 0, none⟩)] W fun e w' => e = .returned (.bool (Sct.mine x r)) ∧ AckI W0 q ov fq F x (ls ++ [r]) w'.heap.size w' ∧ At w' q 113 cs ∧ W.heap.size ≤ w'.heap.size ∧ ∀ i, B ≤ i → i < W.heap.size → w'.heap[i]? = W.heap[i]? := by
  obtain ⟨W1, hW1⟩ : ∃ W1, W1 = W.alloc (.cells #[.int .i64 r.seq, .int .i64 r.to_, .int .i64 r.org, .int .i64 r.was] 113) := ⟨_, rfl⟩
  have hb1 : Below W.heap.size W W1 := by rw [hW1]; exact (Below.refl _ _).alloc (Nat.le_refl _) _
  have hA1 : At W1 W.heap.size 113 (relC r) := by rw [hW1]; exact At.newA _ _ rfl
  obtain ⟨rb, hrb⟩ : ∃ rb, rb = W.heap.size := ⟨_, rfl⟩
  rw [← hrb] at hA1
  have hI1 := hI.new hb1
  have c1 := hI1.fr.cell' hF.f
  have c2 := hI1.fr.cell' hF.s
  have r0 := hA1.cell' (i := 0) (v := .int .i64 r.seq) rfl
  have r1 := hA1.cell' (i := 1) (v := .int .i64 r.to_) rfl
  have r2 := hA1.cell' (i := 2) (v := .int .i64 r.org) rfl
  have r3 := hA1.cell' (i := 3) (v := .int .i64 r.was) rfl
  have HI1 := Lib.hid hI1
  have HW1 := Lib.hid (And.intro hW1 hrb)
  have HB1 := Lib.hid hb1
  have HQ1 := Lib.hid (hq.below hb1 hq.lt)
  have HA1 := Lib.hid hA1
  have HBB := Lib.hid hB
  have HLS := Lib.hid hls
  have HQ0 := Lib.hid (show W0.heap.size ≤ W.heap.size from hI.kp.size)
  have HOB := Lib.hid (show ov < B from Nat.lt_of_lt_of_le hI.lt.1 hI.base)
  have HF := Lib.hid hF
  clear hI hB hls hq hb1 hA1 hW1 hrb hI1 hF
  by_cases h1 : r.seq = x.seq
  · by_cases h2 : r.to_ = x.frm
    · have HMI := Lib.hid (show Sct.mine x r = true by unfold Sct.mine; simp [h1, h2])
      have hm := HMI.out
      rw [h1] at r0
      rw [h2] at r1
      rw [hm]
      clear hm h1 h2
      obtain ⟨v0, hv0, _⟩ := HI1.out.out
      obtain ⟨SC, hSC⟩ : ∃ SC, SC = bareC ⟨r.org, 2, 0, r.was, x.frm, []⟩ := ⟨_, rfl⟩
      have HFR := Lib.hid (fun w => frame_any r.org 2 r.was x.frm w)
      rw [← hSC] at HFR
      have HSC := Lib.hid hSC
      have HV0 := Lib.hid (show W1.cell? ⟨ov, 0, none⟩ = some v0 from hv0.cell' rfl)
      have HV1 := Lib.hid hv0
      have HLT := Lib.hid hv0.lt
      have HS1 := Lib.hid (show AckS fq rb x r W1 from ⟨c1, r2, r3, ⟨HI1.out.fr.lt, HA1.out.lt⟩⟩)
      have HRB := Lib.hid (show ∀ i, some i = v0.ownBlock → i ≠ rb from fun i hi e => by
        have := HI1.out.rowlt HV1.out i hi.symm
        have h2 := HW1.out.2
        have := HBB.out
        omega)
      clear hSC hv0
      go_enter Try.func51, Try.ntmps51
      go_wp2_with (first
        | ((with_reducible refine wpList_to (.pointer (some ⟨W.heap.size, 0, none⟩)) (W.alloc (.cells #[.int .i64 r.seq, .int .i64 r.to_, .int .i64 r.org, .int .i64 r.was] 113)) (by with_unfolding_all rfl) (exec_boxF _ _ (by with_unfolding_all rfl) (relC r) (by with_unfolding_all rfl)) ?_); rw [← HW1.out.1, ← HW1.out.2]))
      refine wp_region_tree (.quiet 1 (.quiet 2 (.quiet 3 (.quiet 4 (.quiet 5 (.quiet 6 (.two 0 (.one 7 (.one 8 (.one 9 (.one 10 .done)))) 7 (.two 0 (.one 8 (.one 9 (.one 10 .done))) 8 (.one 0 (.one 9 (.one 10 .done))))))))))) (AckS fq rb x r) (by kernel_rfl) (by kernel_rfl) (fun _ _ d _ _ h => by cases d <;> exact h) (by kernel_rfl) (by decide) ⟨HS1.out.f, HS1.out.o, HS1.out.a, HS1.out.l⟩ ?_
      iterate 6 (
        first
          | (refine wpT_q (by with_unfolding_all rfl) (by kernel_rfl) ?_
             first
              | go_big_quiet_skip
              | ((with_reducible refine wpQuiet_load1 (.int .i64 x.frm) (by with_unfolding_all rfl) 3 _ (by with_unfolding_all rfl) .i64 Try.underlying3 fq (1) (by with_unfolding_all rfl) (fun w h => h.f) ?_); simp only [Act.put, List.setIfInBounds_toArray, List.set_cons_zero, List.set_cons_succ])
              | ((with_reducible refine wpQuiet_load1 (.int .i64 r.org) (by with_unfolding_all rfl) 3 _ (by with_unfolding_all rfl) .i64 Try.underlying3 rb (2) (by with_unfolding_all rfl) (fun w h => h.o) ?_); simp only [Act.put, List.setIfInBounds_toArray, List.set_cons_zero, List.set_cons_succ])
              | ((with_reducible refine wpQuiet_load1 (.int .i64 r.was) (by with_unfolding_all rfl) 3 _ (by with_unfolding_all rfl) .i64 Try.underlying3 rb (3) (by with_unfolding_all rfl) (fun w h => h.a) ?_); simp only [Act.put, List.setIfInBounds_toArray, List.set_cons_zero, List.set_cons_succ])
              | (go_big_quiet_step (exact fun _ => rfl))
             refine wpT_qnil ?_))
      refine ⟨?_, ?_⟩
      · refine turn_put v0 W1.drew (by with_unfolding_all rfl) (by with_unfolding_all rfl) (exec_loadV _ (by with_unfolding_all rfl) ov 0 (by with_unfolding_all rfl) HV0.out) ⟨HS1.out.f, HS1.out.o, HS1.out.a, HS1.out.l⟩ ?_
        simp only [Act.put, List.setIfInBounds_toArray, List.set_cons_zero, List.set_cons_succ]
        refine turn_call 25 [.int .i64 r.org, .int .i64 2, .int .i64 r.was, .int .i64 x.frm] (fun v w3 => v = .agg SC.toArray ∧ Below W1.heap.size W1 w3) (by with_unfolding_all rfl) (by with_unfolding_all rfl) (by with_unfolding_all rfl) ((HFR.out W1.drew).mono fun e w3 ⟨he, h1⟩ => ⟨_, he, HS1.out.below ((Below.refl W1.heap.size W1).drew.trans h1), rfl, (Below.refl W1.heap.size W1).drew.trans h1⟩) ?_
        rintro v3 w3 hS3 ⟨rfl, hb3⟩
        simp only [Act.put, List.setIfInBounds_toArray, List.set_cons_zero, List.set_cons_succ]
        obtain ⟨w4, hw4⟩ : ∃ w4, w4 = w3.alloc (.cells SC.toArray 59) := ⟨_, rfl⟩
        have hb4 : Below w3.heap.size w3 w4 := by rw [hw4]; exact (Below.refl _ _).alloc (Nat.le_refl _) _
        have hA4 : At w4 w3.heap.size 59 SC := by rw [hw4]; exact At.new _ _ _
        have hB4 : Below W1.heap.size W1 w4 := hb3.trans (hb4.mono hb3.size)
        refine turn_put (.slice (some ⟨w3.heap.size, 0, none⟩) 1 1) w4 (by with_unfolding_all rfl) (by with_unfolding_all rfl) (by rw [hw4]; exact exec_one_sent ⟨r.org, 2, 0, r.was, x.frm, []⟩ (.tmp 26) (by with_unfolding_all rfl) HSC.out (by with_unfolding_all rfl) _) (HS1.out.below hB4) ?_
        simp only [Act.put, List.setIfInBounds_toArray, List.set_cons_zero, List.set_cons_succ]
        refine turn_app_sent (by with_unfolding_all rfl) (by with_unfolding_all rfl) (.tmp 19) (.tmp 27) (by with_unfolding_all rfl) (by with_unfolding_all rfl) (by with_unfolding_all rfl) (row_below3 (HI1.out.row HV1.out) hB4) (Nat.le_trans HI1.out.kp.size hB4.size) (f := ⟨r.org, 2, 0, r.was, x.frm, []⟩) (fun j u hu => by rw [Nat.zero_add]; rw [← HSC.out] at hu; exact hA4.cell' hu) (by have := outs_len x ls; have := HLS.out; omega) ?_
        intro v5 w5 hO5 hg5
        obtain ⟨hk5, hov5, hI5, hfin⟩ := HI1.out.app (r := r) HV1.out hB4 hO5 hg5 HMI.out
        have hS5 := (HS1.out.below hB4).away (hk5 fq (Nat.lt_of_lt_of_le HI1.out.fr.lt hB4.size) (fun e => by have := ((HI1.out.row HV1.out).lt fq e.symm).1; have := HI1.out.lt.2.1; omega)) (hk5 rb (Nat.lt_of_lt_of_le HA1.out.lt hB4.size) (fun e => HRB.out rb e rfl)) hg5.size
        refine ⟨hS5, ?_⟩
        simp only [Act.put, List.setIfInBounds_toArray, List.set_cons_zero, List.set_cons_succ]
        have HI6 := Lib.hid hI5
        have HFN := Lib.hid (And.intro hfin (show W1.heap.size ≤ (w5.setCell ⟨ov, 0, none⟩ v5).heap.size from Nat.le_trans hB4.size (Nat.le_trans hg5.size (by rw [size_setCell']; exact Nat.le_refl _))))
        have hgs : w5.grownBy (w5.setCell ⟨ov, 0, none⟩ v5) (some ov) := grown_setCell (World.grownBy.refl _ _) (.inl rfl) _
        have hS6 := hS5.away (hgs.block fq hS5.l.1 (fun e => HI1.out.lt.2.2.2.2.2 (Option.some.inj e).symm)) (hgs.block rb hS5.l.2 (fun e => by have := Option.some.inj e; have h2 := HW1.out.2; have h3 := HI1.out.lt.1; have h4 := HB1.out.size; have := HI1.out.kp.size; have := HQ0.out; omega)) hgs.size
        refine turn_store1 v5 (by with_unfolding_all rfl) (by with_unfolding_all rfl) 33 _ _ (by with_unfolding_all rfl) ov 0 (by with_unfolding_all rfl) (by with_unfolding_all rfl) (slice_of_own hO5) (by kernel_rfl) ⟨by rw [hov5.cell]; rfl, hov5.frozen 0⟩ hS6 ?_
        simp only [Act.put]
        refine wpT_done ?_
        clear hS6 hgs hS5 hI5 hfin hov5 hk5 hO5 hg5 hA4 hb4 hw4 hB4
        go_wp2_with fail
        go_ret
        refine ⟨rfl, HI6.out, (HFN.out.1 q (Ne.symm HI1.out.lt.2.2.2.1) (fun e => by have := ((HI1.out.row HV1.out).lt q e.symm).1; have := HI1.out.lt.2.2.1; omega) HQ1.out.lt).trans HQ1.out, Nat.le_trans HB1.out.size HFN.out.2, fun i hi hl => ?_⟩
        refine (HFN.out.1 i (fun e => ?_) (fun e => ?_) (Nat.lt_of_lt_of_le hl HB1.out.size)).trans (HB1.out.block i hl)
        · have := HOB.out; omega
        · have := HI1.out.rowlt HV1.out i e.symm; omega
      · refine turn_call 25 [.int .i64 r.org, .int .i64 2, .int .i64 r.was, .int .i64 x.frm] (fun v w3 => v = .agg SC.toArray ∧ Below W1.heap.size W1 w3) (by with_unfolding_all rfl) (by with_unfolding_all rfl) (by with_unfolding_all rfl) ((HFR.out W1.drew).mono fun e w3 ⟨he, h1⟩ => ⟨_, he, HS1.out.below ((Below.refl W1.heap.size W1).drew.trans h1), rfl, (Below.refl W1.heap.size W1).drew.trans h1⟩) ?_
        rintro v3 w3 hS3 ⟨rfl, hb3⟩
        simp only [Act.put, List.setIfInBounds_toArray, List.set_cons_zero, List.set_cons_succ]
        refine ⟨?_, ?_⟩
        · refine turn_put v0 w3 (by with_unfolding_all rfl) (by with_unfolding_all rfl) (exec_loadV _ (by with_unfolding_all rfl) ov 0 (by with_unfolding_all rfl) ((World.cell?_of_block (a := ⟨ov, 0, none⟩) (Below.block hb3 ov HLT.out)).trans HV0.out)) hS3 ?_
          simp only [Act.put, List.setIfInBounds_toArray, List.set_cons_zero, List.set_cons_succ]
          obtain ⟨w4, hw4⟩ : ∃ w4, w4 = w3.alloc (.cells SC.toArray 59) := ⟨_, rfl⟩
          have hb4 : Below w3.heap.size w3 w4 := by rw [hw4]; exact (Below.refl _ _).alloc (Nat.le_refl _) _
          have hA4 : At w4 w3.heap.size 59 SC := by rw [hw4]; exact At.new _ _ _
          have hB4 : Below W1.heap.size W1 w4 := hb3.trans (hb4.mono hb3.size)
          refine turn_put (.slice (some ⟨w3.heap.size, 0, none⟩) 1 1) w4 (by with_unfolding_all rfl) (by with_unfolding_all rfl) (by rw [hw4]; exact exec_one_sent ⟨r.org, 2, 0, r.was, x.frm, []⟩ (.tmp 26) (by with_unfolding_all rfl) HSC.out (by with_unfolding_all rfl) _) (HS1.out.below hB4) ?_
          simp only [Act.put, List.setIfInBounds_toArray, List.set_cons_zero, List.set_cons_succ]
          refine turn_app_sent (by with_unfolding_all rfl) (by with_unfolding_all rfl) (.tmp 19) (.tmp 27) (by with_unfolding_all rfl) (by with_unfolding_all rfl) (by with_unfolding_all rfl) (row_below3 (HI1.out.row HV1.out) hB4) (Nat.le_trans HI1.out.kp.size hB4.size) (f := ⟨r.org, 2, 0, r.was, x.frm, []⟩) (fun j u hu => by rw [Nat.zero_add]; rw [← HSC.out] at hu; exact hA4.cell' hu) (by have := outs_len x ls; have := HLS.out; omega) ?_
          intro v5 w5 hO5 hg5
          obtain ⟨hk5, hov5, hI5, hfin⟩ := HI1.out.app (r := r) HV1.out hB4 hO5 hg5 HMI.out
          have hS5 := (HS1.out.below hB4).away (hk5 fq (Nat.lt_of_lt_of_le HI1.out.fr.lt hB4.size) (fun e => by have := ((HI1.out.row HV1.out).lt fq e.symm).1; have := HI1.out.lt.2.1; omega)) (hk5 rb (Nat.lt_of_lt_of_le HA1.out.lt hB4.size) (fun e => HRB.out rb e rfl)) hg5.size
          refine ⟨hS5, ?_⟩
          simp only [Act.put, List.setIfInBounds_toArray, List.set_cons_zero, List.set_cons_succ]
          have HI6 := Lib.hid hI5
          have HFN := Lib.hid (And.intro hfin (show W1.heap.size ≤ (w5.setCell ⟨ov, 0, none⟩ v5).heap.size from Nat.le_trans hB4.size (Nat.le_trans hg5.size (by rw [size_setCell']; exact Nat.le_refl _))))
          have hgs : w5.grownBy (w5.setCell ⟨ov, 0, none⟩ v5) (some ov) := grown_setCell (World.grownBy.refl _ _) (.inl rfl) _
          have hS6 := hS5.away (hgs.block fq hS5.l.1 (fun e => HI1.out.lt.2.2.2.2.2 (Option.some.inj e).symm)) (hgs.block rb hS5.l.2 (fun e => by have := Option.some.inj e; have h2 := HW1.out.2; have h3 := HI1.out.lt.1; have h4 := HB1.out.size; have := HI1.out.kp.size; have := HQ0.out; omega)) hgs.size
          refine turn_store1 v5 (by with_unfolding_all rfl) (by with_unfolding_all rfl) 33 _ _ (by with_unfolding_all rfl) ov 0 (by with_unfolding_all rfl) (by with_unfolding_all rfl) (slice_of_own hO5) (by kernel_rfl) ⟨by rw [hov5.cell]; rfl, hov5.frozen 0⟩ hS6 ?_
          simp only [Act.put]
          refine wpT_done ?_
          clear hS6 hgs hS5 hI5 hfin hov5 hk5 hO5 hg5 hA4 hb4 hw4 hB4
          go_wp2_with fail
          go_ret
          refine ⟨rfl, HI6.out, (HFN.out.1 q (Ne.symm HI1.out.lt.2.2.2.1) (fun e => by have := ((HI1.out.row HV1.out).lt q e.symm).1; have := HI1.out.lt.2.2.1; omega) HQ1.out.lt).trans HQ1.out, Nat.le_trans HB1.out.size HFN.out.2, fun i hi hl => ?_⟩
          refine (HFN.out.1 i (fun e => ?_) (fun e => ?_) (Nat.lt_of_lt_of_le hl HB1.out.size)).trans (HB1.out.block i hl)
          · have := HOB.out; omega
          · have := HI1.out.rowlt HV1.out i e.symm; omega
        · obtain ⟨w4, hw4⟩ : ∃ w4, w4 = w3.alloc (.cells SC.toArray 59) := ⟨_, rfl⟩
          have hb4 : Below w3.heap.size w3 w4 := by rw [hw4]; exact (Below.refl _ _).alloc (Nat.le_refl _) _
          have hA4 : At w4 w3.heap.size 59 SC := by rw [hw4]; exact At.new _ _ _
          have hB4 : Below W1.heap.size W1 w4 := hb3.trans (hb4.mono hb3.size)
          refine turn_put (.slice (some ⟨w3.heap.size, 0, none⟩) 1 1) w4 (by with_unfolding_all rfl) (by with_unfolding_all rfl) (by rw [hw4]; exact exec_one_sent ⟨r.org, 2, 0, r.was, x.frm, []⟩ (.tmp 26) (by with_unfolding_all rfl) HSC.out (by with_unfolding_all rfl) _) (HS1.out.below hB4) ?_
          simp only [Act.put, List.setIfInBounds_toArray, List.set_cons_zero, List.set_cons_succ]
          refine turn_put v0 w4 (by with_unfolding_all rfl) (by with_unfolding_all rfl) (exec_loadV _ (by with_unfolding_all rfl) ov 0 (by with_unfolding_all rfl) ((World.cell?_of_block (a := ⟨ov, 0, none⟩) (Below.block hB4 ov HLT.out)).trans HV0.out)) (HS1.out.below hB4) ?_
          simp only [Act.put, List.setIfInBounds_toArray, List.set_cons_zero, List.set_cons_succ]
          refine turn_app_sent (by with_unfolding_all rfl) (by with_unfolding_all rfl) (.tmp 19) (.tmp 27) (by with_unfolding_all rfl) (by with_unfolding_all rfl) (by with_unfolding_all rfl) (row_below3 (HI1.out.row HV1.out) hB4) (Nat.le_trans HI1.out.kp.size hB4.size) (f := ⟨r.org, 2, 0, r.was, x.frm, []⟩) (fun j u hu => by rw [Nat.zero_add]; rw [← HSC.out] at hu; exact hA4.cell' hu) (by have := outs_len x ls; have := HLS.out; omega) ?_
          intro v5 w5 hO5 hg5
          obtain ⟨hk5, hov5, hI5, hfin⟩ := HI1.out.app (r := r) HV1.out hB4 hO5 hg5 HMI.out
          have hS5 := (HS1.out.below hB4).away (hk5 fq (Nat.lt_of_lt_of_le HI1.out.fr.lt hB4.size) (fun e => by have := ((HI1.out.row HV1.out).lt fq e.symm).1; have := HI1.out.lt.2.1; omega)) (hk5 rb (Nat.lt_of_lt_of_le HA1.out.lt hB4.size) (fun e => HRB.out rb e rfl)) hg5.size
          refine ⟨hS5, ?_⟩
          simp only [Act.put, List.setIfInBounds_toArray, List.set_cons_zero, List.set_cons_succ]
          have HI6 := Lib.hid hI5
          have HFN := Lib.hid (And.intro hfin (show W1.heap.size ≤ (w5.setCell ⟨ov, 0, none⟩ v5).heap.size from Nat.le_trans hB4.size (Nat.le_trans hg5.size (by rw [size_setCell']; exact Nat.le_refl _))))
          have hgs : w5.grownBy (w5.setCell ⟨ov, 0, none⟩ v5) (some ov) := grown_setCell (World.grownBy.refl _ _) (.inl rfl) _
          have hS6 := hS5.away (hgs.block fq hS5.l.1 (fun e => HI1.out.lt.2.2.2.2.2 (Option.some.inj e).symm)) (hgs.block rb hS5.l.2 (fun e => by have := Option.some.inj e; have h2 := HW1.out.2; have h3 := HI1.out.lt.1; have h4 := HB1.out.size; have := HI1.out.kp.size; have := HQ0.out; omega)) hgs.size
          refine turn_store1 v5 (by with_unfolding_all rfl) (by with_unfolding_all rfl) 33 _ _ (by with_unfolding_all rfl) ov 0 (by with_unfolding_all rfl) (by with_unfolding_all rfl) (slice_of_own hO5) (by kernel_rfl) ⟨by rw [hov5.cell]; rfl, hov5.frozen 0⟩ hS6 ?_
          simp only [Act.put]
          refine wpT_done ?_
          clear hS6 hgs hS5 hI5 hfin hov5 hk5 hO5 hg5 hA4 hb4 hw4 hB4
          go_wp2_with fail
          go_ret
          refine ⟨rfl, HI6.out, (HFN.out.1 q (Ne.symm HI1.out.lt.2.2.2.1) (fun e => by have := ((HI1.out.row HV1.out).lt q e.symm).1; have := HI1.out.lt.2.2.1; omega) HQ1.out.lt).trans HQ1.out, Nat.le_trans HB1.out.size HFN.out.2, fun i hi hl => ?_⟩
          refine (HFN.out.1 i (fun e => ?_) (fun e => ?_) (Nat.lt_of_lt_of_le hl HB1.out.size)).trans (HB1.out.block i hl)
          · have := HOB.out; omega
          · have := HI1.out.rowlt HV1.out i e.symm; omega
    · have HMI := Lib.hid (show Sct.mine x r = false by unfold Sct.mine; simp [h2])
      have hm := HMI.out
      rw [hm]
      clear hm
      go_enter Try.func51, Try.ntmps51
      go_wp2_with (first
        | ((with_reducible refine wpList_to (.pointer (some ⟨W.heap.size, 0, none⟩)) (W.alloc (.cells #[.int .i64 r.seq, .int .i64 r.to_, .int .i64 r.org, .int .i64 r.was] 113)) (by with_unfolding_all rfl) (exec_boxF _ _ (by with_unfolding_all rfl) (relC r) (by with_unfolding_all rfl)) ?_); rw [← HW1.out.1, ← HW1.out.2]))
      go_ret
      have e2 : (r.to_ == x.frm) = false := by simp [h2]
      exact ⟨by first | rfl | (show Ending.returned (.bool (r.to_ == x.frm)) = _; rw [e2]), HI1.out.skip HMI.out, HQ1.out, HB1.out.size, fun i _ hi => HB1.out.block i hi⟩
  · have HMI := Lib.hid (show Sct.mine x r = false by unfold Sct.mine; simp [h1])
    have hm := HMI.out
    rw [hm]
    clear hm
    go_enter Try.func51, Try.ntmps51
    go_wp2_with (first
      | ((with_reducible refine wpList_to (.pointer (some ⟨W.heap.size, 0, none⟩)) (W.alloc (.cells #[.int .i64 r.seq, .int .i64 r.to_, .int .i64 r.org, .int .i64 r.was] 113)) (by with_unfolding_all rfl) (exec_boxF _ _ (by with_unfolding_all rfl) (relC r) (by with_unfolding_all rfl)) ?_); rw [← HW1.out.1, ← HW1.out.2]))
    go_ret
    exact ⟨rfl, HI1.out.skip HMI.out, HQ1.out, HB1.out.size, fun i _ hi => HB1.out.block i hi⟩
end
end Go.Proofs.Ytghefmppjdneoaa

namespace Go.Proofs.Ytghefmppjdneoaa
open Go.Proofs Stab Go.Shelf Go.RowKit Go.Lib Go.Sort Go.Maps

/-- a clone of relays -/
def CloneR (w : World) (B : Nat) (A : Option Addr) (cap : Nat) (l : List Rel) : Prop :=
  (l = [] ∧ A = none ∧ cap = 0) ∨ ∃ q sp, A = some ⟨q, 0, none⟩ ∧ B ≤ q ∧ At w q 113 (relsV l ++ sp) ∧ (relsV l ++ sp).length = cap * 4 ∧ l.length ≤ cap ∧ cap ≤ maxLen
theorem clone_rel {w : World} {A : Option Addr} {c : Nat} {l : List Rel} (h : RRow w A c l) (hl : l.length ≤ 16) :
    Calls Try.prog 53 #[.slice A l.length c] w fun e w' => ∃ A1 cap, e = .returned (.slice A1 l.length cap) ∧ Below w.heap.size w w' ∧ CloneR w' w.heap.size A1 cap l := by
  rcases h with ⟨rfl, rfl, rfl⟩ | ⟨g, off, cs, rfl, h1, h2, h3, h4, h5⟩
  · refine (AnyE.slices_Clone_nil (ρ := Try.cloneL_ren) Try.cloneL 0 0 w).mono ?_
    rintro e w' ⟨rfl, rfl⟩
    exact ⟨none, 0, rfl, Below.refl _ _, .inl ⟨rfl, rfl, rfl⟩⟩
  · obtain ⟨i0, hi, hz0, hz1, hz2⟩ := info_parts info_relay3
    refine (AnyE.slices_Clone (ρ := Try.cloneL_ren) Try.cloneL i0 _ 4 32 hi hz0 hz1 hz2 rfl (by omega) (fun w => by kernel_rfl) g off l.length c (relsV l) w (relsV_len l) (by unfold maxLen; omega) (by omega) (fun j u hu => ?_) (rels_one l)).mono ?_
    · have hj : j < l.length * 4 := by have := (List.getElem?_eq_some_iff.1 hu).1; rwa [relsV_len] at this
      refine h1.cell' ?_
      rw [← h2, List.getElem?_take, if_pos hj, List.getElem?_drop] at hu
      exact hu
    · rintro e w' ⟨v', rfl, hO, hne, hb⟩
      rcases hO.2 with ⟨h1, _⟩ | ⟨q, cap, cur, h1, h2, h3, h4, h5, h6, h7⟩
      · exact absurd h1 hne
      · subst h1
        have e : relsV l ++ cur.toList.drop (l.length * 4) = cur.toList := by
          rw [← h7]
          exact List.take_append_drop _ _
        refine ⟨_, cap, rfl, hb, .inr ⟨q, cur.toList.drop (l.length * 4), rfl, h2, ?_, ?_, h4, h5⟩⟩
        · rw [e]
          unfold At
          rw [h3]
          rfl
        · rw [e, Array.length_toList, h6]
theorem eg_ack1 : ∀ args w, (callFunc 51 args).run Try.prog w = .ok (.enter 51 args) w := enters_of Try.func51 (by kernel_rfl) rfl
set_option maxRecDepth 100000 in
theorem del_nil_rel (f : Value) (w : World) : Calls Try.prog 52 #[.slice none 0 0, f] w fun e w' => e = .returned (.slice none 0 0) ∧ w' = w := by
  have hi : Calls Try.prog 70 #[.slice none 0 0, f] w fun e w' => e = .returned (.int .i64 (-1)) ∧ w' = w := by
    go_enter Try.func70, Try.ntmps70
    go_wp2_with fail
    go_loopg [8] 0 (fun _ s8 wr => s8 = .int .i64 0 ∧ wr = w)
    case atStart => exact ⟨rfl, rfl⟩
    case round =>
      obtain ⟨rfl, rfl⟩ := hrel
      go_wp2_with fail
      go_ret
      exact ⟨rfl, rfl⟩
  have HI := Lib.hid hi
  clear hi
  go_enter Try.func52, Try.ntmps52
  go_wp2_with fail
  refine HI.out.mono ?_
  rintro e w' ⟨rfl, rfl⟩
  go_wp2_with fail
  go_ret
  exact ⟨rfl, rfl⟩
/-- relays cut down by ack's function -/
theorem del_ack {W0 : World} {B ov fq cap : Nat} {A1 : Option Addr} {l : List Rel} {F : List Value} {x : Fr} {A : Option Addr} {c : Nat} (h : CloneR W0 B A1 cap l) (hl : l.length ≤ 16) (hB : B ≤ W0.heap.size) (ho : ov < B) (hf : fq < B) (hne : ov ≠ fq) (hov : At W0 ov 33 [.slice none 0 0]) (hfq : At W0 fq 57 F) (hF : FrIs F x A c) :
    Calls Try.prog 52 #[.slice A1 l.length cap, .func (.func 51) #[] #[.pointer (some ⟨fq, 0, none⟩), .pointer (some ⟨ov, 0, none⟩)]] W0 fun e w' => ∃ A2 c2, e = .returned (.slice A2 (l.filter fun r => !Sct.mine x r).length c2) ∧ RRow w' A2 c2 (l.filter fun r => !Sct.mine x r) ∧ (∀ g, blkOf A2 = some g → B ≤ g) ∧ (∃ v, At w' ov 33 [v] ∧ w'.ownsRow B 59 238 v (outs x l).length ((outs x l).flatMap bareC)) ∧ Keeps (fun i => i < B ∧ i ≠ ov) W0 w' := by
  rcases h with ⟨rfl, rfl, rfl⟩ | ⟨q, sp, rfl, hq, hA, hlen, hc1, hc2⟩
  · refine (del_nil_rel _ _).mono ?_
    rintro e w' ⟨rfl, rfl⟩
    exact ⟨none, 0, rfl, RRow.nil _, fun g hg => (by cases hg), ⟨_, hov, World.ownsRow_nil _ _ _ _⟩, Keeps.refl _ _⟩
  · have hI : AckI W0 q ov fq F x [] W0.heap.size W0 := ⟨⟨_, hov, World.ownsRow_nil _ _ _ _, fun g hg => by cases hg⟩, hfq, Keeps.refl _ _, ⟨hov.lt, hfq.lt, hA.lt, by omega, by omega, hne⟩, Nat.le_refl _⟩
    have hR : RowFn q 51 #[.pointer (some ⟨fq, 0, none⟩), .pointer (some ⟨ov, 0, none⟩)] (Sct.mine x) (fun ls B W => B ≤ W.heap.size ∧ AckI W0 q ov fq F x ls B W) := by
      refine ⟨fun ls B r W cs hls h1 h2 => ?_, fun ls B W k v h => ⟨by rw [size_setCell']; exact h.1, h.2.set k v⟩, fun ls B W W' h hb => ⟨Nat.le_trans h.1 hb.size, h.2.new hb⟩⟩
      refine (ack1_any (r := r) hF h1.2 h1.1 hls h2).mono ?_
      rintro e w' ⟨rfl, a1, a2, a3, a4⟩
      exact ⟨rfl, ⟨Nat.le_refl _, a1⟩, a2, a3, a4⟩
    refine (delRel_any hR eg_ack1 cap l sp (B := W0.heap.size) ⟨Nat.le_refl _, hI⟩ (Nat.le_refl _) hA (by omega) hc1).mono ?_
    rintro e w' ⟨rfl, cs, hcs, hcl, hct, B', _, _, hI'⟩
    obtain ⟨v, hv, hrow, _⟩ := hI'.out
    refine ⟨_, cap, rfl, .inr ⟨q, 0, cs, rfl, hcs, by rw [List.drop_zero]; exact hct, by rw [hcl, hlen]; omega, ?_, hc2⟩, fun g hg => by cases hg; exact hq, ⟨v, hv, row_rebase hrow hB⟩, hI'.kp.mono fun i hi => ⟨hi.2, by omega⟩⟩
    exact Nat.le_trans (List.length_filter_le _ _) hc1
end Go.Proofs.Ytghefmppjdneoaa
