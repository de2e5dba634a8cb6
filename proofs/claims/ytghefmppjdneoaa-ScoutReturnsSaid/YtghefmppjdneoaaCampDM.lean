/- Layer 12: a camp is pitched. -/
import Derived.Test.YtghefmppjdneoaaCampCM
namespace Go.Proofs.Ytghefmppjdneoaa
open Go.Proofs Stab Go.Shelf Go.RowKit Go.Lib Go.Sort Go.Maps

theorem info_ptrS : (Try.prog.info? 31).map (fun i => (i.zero, i.size, i.bytes)) = some (some (.pointer none), 1, 8) := by kernel_rfl
theorem row_kept2 {w w' : World} {B : Nat} {e : TypeId} {size n : Nat} {v : Value} {xs : List Value} (h : w.ownsRow B e size v n xs) (hk : ∀ g, v.ownBlock = some g → w'.heap[g]? = w.heap[g]?) : w'.ownsRow B e size v n xs := by
  refine ⟨h.1, ?_⟩
  rcases h.2 with h1 | ⟨g, cap, cur, rfl, h2, h3, h4⟩
  · exact .inl h1
  · exact .inr ⟨g, cap, cur, rfl, h2, (hk g rfl).trans h3, h4⟩
def ptrsV (sp : Nat → Nat) (i : Nat) : List Value := .pointer none :: (List.range i).map fun j => .pointer (some ⟨sp (j + 1), 0, none⟩)
theorem ptrsV_succ (sp : Nat → Nat) (i : Nat) : ptrsV sp (i + 1) = ptrsV sp i ++ [.pointer (some ⟨sp (i + 1), 0, none⟩)] := by
  unfold ptrsV
  rw [List.range_succ, List.map_append, List.map_cons, List.map_nil, List.cons_append]
theorem ptrsV_len (sp : Nat → Nat) (i : Nat) : (ptrsV sp i).length = i + 1 := by
  unfold ptrsV
  rw [List.length_cons, List.length_map, List.length_range]
theorem ptrsV_congr {sp sp' : Nat → Nat} {i : Nat} (h : ∀ j, j ≤ i → sp j = sp' j) : ptrsV sp i = ptrsV sp' i := by
  unfold ptrsV
  congr 1
  refine List.map_congr_left fun j hj => ?_
  rw [h (j + 1) (by have := List.mem_range.1 hj; omega)]
/-- so many scouts are there -/
structure PitAt (w0 w : World) (p n i : Nat) (v : Value) (sp : Nat → Nat) (OS : Nat → Nat → Prop) : Prop where
  hd : At w p 35 [v, .slice none 0 0]
  row : w.ownsRow w0.heap.size 31 1 v (i + 1) (ptrsV sp i)
  rowo : ∀ g, v.ownBlock = some g → g ≠ p ∧ ∀ j, 1 ≤ j → j ≤ i → ¬ OS j g
  sc : ∀ j : Nat, 1 ≤ j → j ≤ i → OwnS Unit w (OS j) 0 (sp j) (Sct.fresh j n)
  dis : ∀ a b : Nat, 1 ≤ a → a ≤ i → 1 ≤ b → b ≤ i → a ≠ b → ∀ x, OS a x → ¬ OS b x
  off : ∀ j : Nat, 1 ≤ j → j ≤ i → ¬ OS j p
  new : ∀ j : Nat, 1 ≤ j → j ≤ i → ∀ b, OS j b → w0.heap.size ≤ b
  newp : w0.heap.size ≤ p
  below : Below w0.heap.size w0 w
section
variable {w0 w w' : World} {p n i : Nat} {v : Value} {sp : Nat → Nat} {OS : Nat → Nat → Prop}
theorem PitAt.up (h : PitAt w0 w p n i v sp OS) (hb : Below w.heap.size w w') : PitAt w0 w' p n i v sp OS :=
  ⟨h.hd.below hb h.hd.lt, row_below3 h.row hb, h.rowo, fun j h1 h2 => (h.sc j h1 h2).below hb, h.dis, h.off, h.new, h.newp, h.below.trans (hb.mono h.below.size)⟩
/-- one more -/
theorem PitAt.more (h : PitAt w0 w p n i v sp OS) {s : Nat} {O : Nat → Prop} {w1 w2 : World} {v' : Value} (hb : Below w.heap.size w w1) (hS : OwnS Unit w1 O 0 s (Sct.fresh ((i + 1 : Nat) : Int) n)) (hO : ∀ b, O b → w.heap.size ≤ b)
    (hr : w2.ownsRow w0.heap.size 31 1 v' (i + 1 + 1) (ptrsV sp i ++ [.pointer (some ⟨s, 0, none⟩)])) (hg : w1.grownBy w2 v.ownBlock) (hv : v'.ownBlock = v.ownBlock ∨ v'.ownBlock = some w1.heap.size) :
    PitAt w0 (w2.setCell ⟨p, 0, none⟩ v') p n (i + 1) v' (fun j => if j = i + 1 then s else sp j) (fun j b => if j = i + 1 then O b else OS j b) := by
  have h1 := h.up hb
  have hgr : w2.grownBy (w2.setCell ⟨p, 0, none⟩ v') (some p) := grown_setCell (World.grownBy.refl _ _) (.inl rfl) _
  have hpv : ∀ g, v.ownBlock = some g → g ≠ p := fun g e => (h.rowo g e).1
  have hpv' : v'.ownBlock ≠ some p := fun e => by
    rcases hv with e2 | e2
    · exact hpv p (e2.symm.trans e) rfl
    · rw [e] at e2
      injection e2 with e2
      have := h1.hd.lt
      omega
  have hnO : ∀ b, O b → b ≠ p ∧ v.ownBlock ≠ some b := fun b hb' => by
    have := hO b hb'
    refine ⟨fun e => by have := h.hd.lt; omega, fun e => by have := (h.row.lt b e).2; omega⟩
  have hK : ∀ (Z : Nat → Prop), (∀ b, Z b → b ≠ p ∧ v.ownBlock ≠ some b) → Keeps Z w1 (w2.setCell ⟨p, 0, none⟩ v') := fun Z hZ => (Keeps.grown hg fun k hk hz => (hZ k hz).2 hk).trans (Keeps.ofGrown hgr fun hz => (hZ p hz).1 rfl)
  have hold : ∀ j, 1 ≤ j → j ≤ i → ∀ b, OS j b → b ≠ p ∧ v.ownBlock ≠ some b := fun j j1 j2 b hb' => ⟨fun e => h.off j j1 j2 (e ▸ hb'), fun e => (h.rowo b e).2 j j1 j2 hb'⟩
  refine ⟨?_, ?_, fun g hg' => ?_, fun j j1 j2 => ?_, fun a b a1 a2 b1 b2 hab x hx hx2 => ?_, fun j j1 j2 => ?_, fun j j1 j2 b hb' => ?_, h.newp, ?_⟩
  · exact (h1.hd.grown hg fun e => (hpv p e.symm) rfl).set 0 v'
  · have e : ptrsV (fun j => if j = i + 1 then s else sp j) (i + 1) = ptrsV sp i ++ [.pointer (some ⟨s, 0, none⟩)] := by
      rw [ptrsV_succ, ptrsV_congr (sp' := sp) fun j hj => if_neg (by omega)]
      simp
    rw [e]
    exact row_kept2 hr fun g hg' => hgr.block g (hr.lt g hg').2 (by intro e; injection e with e; subst e; exact hpv' hg')
  · refine ⟨fun e => hpv' (e ▸ hg'), fun j j1 j2 ho => ?_⟩
    have ho : if j = i + 1 then O g else OS j g := ho
    have hgv : v.ownBlock = some g ∨ g = w1.heap.size := by
      rcases hv with e | e
      · exact .inl (e.symm.trans hg')
      · rw [hg'] at e
        injection e with e
        exact .inr e
    by_cases e : j = i + 1
    · rw [if_pos e] at ho
      rcases hgv with e2 | e2
      · exact (hnO g ho).2 e2
      · have := hS.bound g ho
        omega
    · rw [if_neg e] at ho
      rcases hgv with e2 | e2
      · exact (h.rowo g e2).2 j j1 (by omega) ho
      · have := (h1.sc j j1 (by omega)).bound g ho
        omega
  · by_cases e : j = i + 1
    · subst e
      have e1 : (fun b => if i + 1 = i + 1 then O b else OS (i + 1) b) = O := by funext b; rw [if_pos rfl]
      show OwnS Unit _ (fun b => if i + 1 = i + 1 then O b else OS (i + 1) b) 0 (if i + 1 = i + 1 then s else sp (i + 1)) _
      rw [e1, if_pos rfl]
      exact hS.keep (hK O hnO)
    · have e1 : (fun b => if j = i + 1 then O b else OS j b) = OS j := by funext b; rw [if_neg e]
      show OwnS Unit _ (fun b => if j = i + 1 then O b else OS j b) 0 (if j = i + 1 then s else sp j) _
      rw [e1, if_neg e]
      exact (h1.sc j j1 (by omega)).keep (hK _ (hold j j1 (by omega)))
  · have hx : if a = i + 1 then O x else OS a x := hx
    have hx2 : if b = i + 1 then O x else OS b x := hx2
    by_cases ea : a = i + 1
    · rw [if_pos ea] at hx
      rw [if_neg (by omega)] at hx2
      have := (h.sc b b1 (by omega)).bound x hx2
      have := hO x hx
      omega
    · rw [if_neg ea] at hx
      by_cases eb : b = i + 1
      · rw [if_pos eb] at hx2
        have := (h.sc a a1 (by omega)).bound x hx
        have := hO x hx2
        omega
      · rw [if_neg eb] at hx2
        exact h.dis a b a1 (by omega) b1 (by omega) hab x hx hx2
  · show ¬ (if j = i + 1 then O p else OS j p)
    by_cases e : j = i + 1
    · rw [if_pos e]
      exact fun ho => (hnO p ho).1 rfl
    · rw [if_neg e]
      exact h.off j j1 (by omega)
  · have hb' : if j = i + 1 then O b else OS j b := hb'
    by_cases e : j = i + 1
    · rw [if_pos e] at hb'
      exact Nat.le_trans h.below.size (hO b hb')
    · rw [if_neg e] at hb'
      exact h.new j j1 (by omega) b hb'
  · exact h1.below.trans ((hK (fun b => b < w0.heap.size) (fun b hb' => ⟨by have := h.newp; omega, fun e => by have := (h.row.lt b e).1; omega⟩)).below (fun b hb' => hb') h1.below.size)
end
theorem info_boolT : (Try.prog.info? 4).map (fun i => (i.zero, i.size, i.bytes)) = some (some (.bool false), 1, 1) := by kernel_rfl
theorem exec_make1 {ρ : Operand → Value} {o : Oper} (x y : Operand) (ho : o.op = .makeSlice 32 x y) (hx : ρ x = .int .i64 1) (hy : ρ y = .int .i64 1) (w : World) : (execOp ρ o).run Try.prog w = .ok (.value (.slice (some ⟨w.heap.size, 0, none⟩) 1 1)) (w.alloc (.cells #[.pointer none] 31)) := by
  obtain ⟨i0, hi, hz0, hz1, hz2⟩ := info_parts info_ptrS
  have h := run_makeSlice (P := Try.prog) (w := w) 32 31 i0 _ Try.underlying32 hi hz0 .i64 .i64 1 1 (by omega) (by omega) (by rw [hz1]; decide) (by rw [hz2]; decide) (by omega)
  rw [hz1, show madeCells (Value.pointer none).cells (Int.toNat 1 * 1) = #[.pointer none] from by kernel_rfl] at h
  unfold execOp
  simp only [ho, hx, hy, Sem.run_bind, h, Result.andThen_ok, Sem.run_pure]
  rfl
theorem exec_make7 {ρ : Operand → Value} {o : Oper} (x y : Operand) (ho : o.op = .makeSlice 28 x y) (hx : ρ x = .int .i64 7) (hy : ρ y = .int .i64 7) (w : World) : (execOp ρ o).run Try.prog w = .ok (.value (.slice (some ⟨w.heap.size, 0, none⟩) 7 7)) (w.alloc (.cells #[.bool false, .bool false, .bool false, .bool false, .bool false, .bool false, .bool false] 4)) := by
  obtain ⟨i0, hi, hz0, hz1, hz2⟩ := info_parts info_boolT
  have h := run_makeSlice (P := Try.prog) (w := w) 28 4 i0 _ Try.underlying28 hi hz0 .i64 .i64 7 7 (by omega) (by omega) (by rw [hz1]; decide) (by rw [hz2]; decide) (by omega)
  rw [hz1, show madeCells (Value.bool false).cells (Int.toNat 7 * 1) = #[.bool false, .bool false, .bool false, .bool false, .bool false, .bool false, .bool false] from by kernel_rfl] at h
  unfold execOp
  simp only [ho, hx, hy, Sem.run_bind, h, Result.andThen_ok, Sem.run_pure]
  rfl
theorem exec_loadSS {ρ : Operand → Value} {o : Oper} (y : Operand) (ho : o.op = .load 32 y) (g off : Nat) (hy : ρ y = .pointer (some ⟨g, off, none⟩)) {w : World} {v : Value} (hc : w.cell? ⟨g, off, none⟩ = some v) : (execOp ρ o).run Try.prog w = .ok (.value v) w := by
  unfold execOp
  simp only [ho, hy, Sem.run_bind, run_load_slice Try.underlying32 hc, Result.andThen_ok, Sem.run_pure]
theorem exec_one_ptr {ρ : Operand → Value} {o : Oper} (x : Operand) (s : Nat) (ho : o.op = .buildSlice 32 1 #[(0, x)]) (hx : ρ x = .pointer (some ⟨s, 0, none⟩)) (w : World) :
    (execOp ρ o).run Try.prog w = .ok (.value (.slice (some ⟨w.heap.size, 0, none⟩) 1 1)) (w.alloc (.cells #[.pointer (some ⟨s, 0, none⟩)] 31)) := by
  unfold execOp
  simp only [ho, List.map_toArray, List.map_cons, List.map_nil, hx]
  go_simp
theorem turn_app_ptr {ops : Array Oper} {Q : Exit → Act → World → Prop} {S : World → Prop} {W : Act → World → Prop} {i : Nat} {a : Act} {w : World} {o : Oper} (ho : ops.toList[i]? = some o) (hw : Region.wanted o (yielded ops a.tmps) = true) (y z : Operand) (hop : o.op = .call { callee := .builtin .append, args := #[y, z], argTypes := #[32, 32] }) {B n g s c : Nat} {v : Value} {xs : List Value} (hx : a.eval y = v) (hy : a.eval z = .slice (some ⟨g, 0, none⟩) 1 c)
    (hO : w.ownsRow B 31 1 v n xs) (hB : B ≤ w.heap.size) (hg : w.cell? ⟨g, 0, none⟩ = some (.pointer (some ⟨s, 0, none⟩))) (hl : n ≤ 1000)
    (h : ∀ v' w', w'.ownsRow B 31 1 v' (n + 1) (xs ++ [.pointer (some ⟨s, 0, none⟩)]) → w.grownBy w' v.ownBlock → (v'.ownBlock = v.ownBlock ∨ v'.ownBlock = some w.heap.size) → S w' ∧ W (a.put o.dst v') w') : turnT Try.prog ops S Q W i a w := by
  obtain ⟨i0, hi, hz0, hz1, hz2⟩ := info_parts info_ptrS
  obtain ⟨v', w', h1, h2, h3, _, h5⟩ := run_append_own_at (P := Try.prog) w B 32 o.type 31 i0 _ 1 8 Try.underlying32 hi hz0 hz1 hz2 rfl (by omega) v n xs hO ⟨g, 0, none⟩ 1 c [.pointer (some ⟨s, 0, none⟩)] rfl (fun j u hu => by
    match j, hu with
    | 0, hu =>
      have hu : Value.pointer (some ⟨s, 0, none⟩) = u := by simpa using hu
      rw [← hu]
      exact hg) (fun u hu => by rw [List.mem_singleton.1 hu]; rfl) (by unfold maxLen; omega) (by omega) hB
  obtain ⟨hS, hW⟩ := h v' w' h2 h3 h5
  refine turn_put v' w' ho hw ?_ hS hW
  unfold execOp
  simp only [hop, resolve, invoke, builtin, Sem.run_bind, Sem.run_pure, Result.andThen_ok, List.map_toArray, List.map_cons, List.map_nil, hx, hy, h1]
set_option maxRecDepth 100000 in
set_option maxHeartbeats 4000000 in
theorem pitched_any {n : Nat} (hn : 1 ≤ n ∧ n ≤ 6) (w : World) : Calls Try.prog 8 #[.int .i64 n] w fun e w' => ∃ p v sp OS, e = .returned (.pointer (some ⟨p, 0, none⟩)) ∧ PitAt w w' p n n v sp OS := by
  go_enter Try.func8, Try.ntmps8
  obtain ⟨wa, hwa⟩ : ∃ wa, wa = w.alloc (.cells #[.pointer none] 31) := ⟨_, rfl⟩
  have HWA := Lib.hid hwa
  clear hwa
  go_wp2_with (first
    | (with_reducible refine wpList_to (.slice (some ⟨w.heap.size, 0, none⟩) 1 1) wa (by with_unfolding_all rfl) (by rw [HWA.out]; exact exec_make1 _ _ (by with_unfolding_all rfl) (by with_unfolding_all rfl) (by with_unfolding_all rfl) _) ?_))
  obtain ⟨wb, hwb⟩ : ∃ wb, wb = wa.alloc (.cells #[.slice (some ⟨w.heap.size, 0, none⟩) 1 1, .slice none 0 0] 35) := ⟨_, rfl⟩
  rw [← hwb]
  have hba : Below w.heap.size w wa := by rw [HWA.out]; exact (Below.refl _ _).alloc (Nat.le_refl _) _
  have hbb : Below wa.heap.size wa wb := by rw [hwb]; exact (Below.refl _ _).alloc (Nat.le_refl _) _
  have hsa : wa.heap.size = w.heap.size + 1 := by rw [HWA.out]; simp
  have hr0 : At wa w.heap.size 31 [.pointer none] := by rw [HWA.out]; exact At.newA _ _ rfl
  have hP0 : PitAt w wb wa.heap.size n 0 (.slice (some ⟨w.heap.size, 0, none⟩) 1 1) (fun _ => 0) (fun _ _ => False) := by
    refine ⟨by rw [hwb]; exact At.newA _ _ rfl, ⟨rfl, .inr ⟨w.heap.size, 1, #[.pointer none], rfl, Nat.le_refl _, ?_, Nat.le_refl _, by decide, rfl, rfl⟩⟩, fun g hg => ⟨?_, fun j h1 h2 => (by omega)⟩, fun j h1 h2 => (by omega), fun a b h1 h2 => (by omega), fun j h1 h2 => (by omega), fun j h1 h2 => (by omega), by omega, hba.trans (hbb.mono (by omega))⟩
    · exact (hbb.block _ (by omega)).trans hr0
    · have : w.heap.size = g := by injection hg
      omega
  obtain ⟨p, hp⟩ : ∃ p, p = wa.heap.size := ⟨_, rfl⟩
  rw [← hp] at hP0 ⊢
  have HP0 := Lib.hid hP0
  clear hP0 hr0 hsa hbb hba hwb hp HWA
  go_loopw [4] (fun i wr => ∃ j : Nat, j ≤ n ∧ i = .int .i64 ((j + 1 : Nat) : Int) ∧ ∃ v sp OS, PitAt w wr p n j v sp OS) (fun i _ => n + 1 - (RowKit.intOf i).toNat)
  case atStart => exact ⟨0, by omega, rfl, _, _, _, HP0.out⟩
  case round =>
    clear HP0
    obtain ⟨j, hj, rfl, v, sp, OS, hP⟩ := hrel
    have HP := Lib.hid hP
    have hj0 : (0 : Int) ≤ (j : Int) := by omega
    clear hP
    by_cases hlt : j < n
    · have hltz : (j : Int) + 1 ≤ (n : Int) := by omega
      have hPd := HP.out.up (w' := wr.drew) (Below.refl _ _).drew
      have HPd := Lib.hid hPd
      have HB1 := Lib.hid (show wr.drew.cell? ⟨p, 0, none⟩ = some v from hPd.hd.cell' rfl)
      have HNW := Lib.hid (show Calls Try.prog 11 #[.int .i64 ((j : Int) + 1), .int .i64 n] wr.drew fun e w3 => ∃ v, e = .returned v ∧ True ∧ ∃ s O, v = .pointer (some ⟨s, 0, none⟩) ∧ OwnS Unit w3 O 0 s (Sct.fresh ((j + 1 : Nat) : Int) n) ∧ Below wr.drew.heap.size wr.drew w3 ∧ ∀ b, O b → wr.drew.heap.size ≤ b from
        (own_new (H := Unit) (me := ((j + 1 : Nat) : Int)) (nodes := n) (by omega)).mono fun e w3 ⟨s, O, he, h1, h2, h3⟩ => ⟨_, he, trivial, s, O, rfl, h1, h2, h3⟩)
      clear hPd
      go_wp2_with fail
      refine wp_region_tree (.quiet 0 (.quiet 1 (.quiet 5 (.quiet 6 (.quiet 2 (.quiet 3 (.two 4 (.one 7 (.one 8 (.one 9 (.quiet 10 (.quiet 11 (.one 12 .done)))))) 7 (.two 4 (.one 8 (.one 9 (.quiet 10 (.quiet 11 (.one 12 .done))))) 8 (.one 4 (.one 9 (.quiet 10 (.quiet 11 (.one 12 .done))))))))))))) (fun _ => True) (by kernel_rfl) (by kernel_rfl) (fun _ _ d _ _ h => by cases d <;> exact h) (by kernel_rfl) (by decide) trivial ?_
      iterate 6 (
        first
          | (refine wpT_val (.pointer (some ⟨p, 0, none⟩)) (by with_unfolding_all rfl) (by with_unfolding_all rfl) (fun w _ => exec_nil _ (by with_unfolding_all rfl) p 0 (by with_unfolding_all rfl) w) ?_; simp only [Act.put, List.setIfInBounds_toArray, List.set_cons_zero, List.set_cons_succ])
          | (refine wpT_q (by with_unfolding_all rfl) (by kernel_rfl) ?_
             first
              | go_big_quiet_skip
              | (go_big_quiet_step (exact fun _ => rfl))
             refine wpT_qnil ?_))
      refine ⟨?_, ?_⟩
      · skip
        refine turn_put v wr.drew (by with_unfolding_all rfl) (by with_unfolding_all rfl) (exec_loadSS _ (by with_unfolding_all rfl) p 0 (by with_unfolding_all rfl) HB1.out) trivial ?_
        simp only [Act.put, List.setIfInBounds_toArray, List.set_cons_zero, List.set_cons_succ]
        refine turn_call 11 [.int .i64 ((j : Int) + 1), .int .i64 n] (fun v w3 => ∃ s O, v = .pointer (some ⟨s, 0, none⟩) ∧ OwnS Unit w3 O 0 s (Sct.fresh ((j + 1 : Nat) : Int) n) ∧ Below wr.drew.heap.size wr.drew w3 ∧ ∀ b, O b → wr.drew.heap.size ≤ b) (by with_unfolding_all rfl) (by with_unfolding_all rfl) (by with_unfolding_all rfl) HNW.out ?_
        rintro v3 w3 hS3 ⟨s, O, rfl, hO3, hb3, hO4⟩
        simp only [Act.put, List.setIfInBounds_toArray, List.set_cons_zero, List.set_cons_succ]
        obtain ⟨w4, hw4⟩ : ∃ w4, w4 = w3.alloc (.cells #[.pointer (some ⟨s, 0, none⟩)] 31) := ⟨_, rfl⟩
        have hb4 : Below w3.heap.size w3 w4 := by rw [hw4]; exact (Below.refl _ _).alloc (Nat.le_refl _) _
        have hA4 : At w4 w3.heap.size 31 [.pointer (some ⟨s, 0, none⟩)] := by rw [hw4]; exact At.newA _ _ rfl
        have hB4 := hb3.trans (hb4.mono hb3.size)
        have HO3 := Lib.hid (hO3.below hb4)
        have HO4 := Lib.hid hO4
        have HB3 := Lib.hid hb3
        have HW4 := Lib.hid hw4
        have HA4 := Lib.hid hA4
        have HB4 := Lib.hid hB4
        clear hO3 hO4 hb3 hw4 hb4 hA4 hB4 hS3
        refine turn_put (.slice (some ⟨w3.heap.size, 0, none⟩) 1 1) w4 (by with_unfolding_all rfl) (by with_unfolding_all rfl) (by rw [HW4.out]; exact exec_one_ptr (.tmp 20) s (by with_unfolding_all rfl) (by with_unfolding_all rfl) _) trivial ?_
        simp only [Act.put, List.setIfInBounds_toArray, List.set_cons_zero, List.set_cons_succ]
        refine turn_app_ptr (by with_unfolding_all rfl) (by with_unfolding_all rfl) (.tmp 17) (.tmp 21) (by with_unfolding_all rfl) (by with_unfolding_all rfl) (by with_unfolding_all rfl) (HPd.out.up HB4.out).row (HPd.out.up HB4.out).below.size (HA4.out.cell' rfl) (by omega) ?_
        intro v5 w5 hR5 hg5 hv5
        have hP5 := HPd.out.more (w1 := w4) HB4.out HO3.out HO4.out hR5 hg5 hv5
        have hpc : (w5.cell? ⟨p, 0, none⟩).isSome = true ∧ w5.frozen? ⟨p, 0, none⟩ = false := by
          have h := (HPd.out.up HB4.out).hd.grown hg5 (fun e => (HPd.out.rowo p e.symm).1 rfl)
          exact ⟨by rw [h.cell' (i := 0) rfl]; rfl, h.frozen 0⟩
        have hsl : ∃ A n c, v5 = .slice A n c := by
          rcases hR5.2 with ⟨e, _⟩ | ⟨g, cap, cur, e, _⟩
          · exact ⟨_, _, _, e⟩
          · exact ⟨_, _, _, e⟩
        have HP5 := Lib.hid hP5
        have HPC := Lib.hid (And.intro hpc hsl)
        clear hP5 hpc hsl hR5 hg5 hv5
        refine ⟨trivial, ?_⟩
        simp only [Act.put, List.setIfInBounds_toArray, List.set_cons_zero, List.set_cons_succ]
        iterate 2 (
          first
            | (refine wpT_val (.pointer (some ⟨p, 0, none⟩)) (by with_unfolding_all rfl) (by with_unfolding_all rfl) (fun w _ => exec_nil _ (by with_unfolding_all rfl) p 0 (by with_unfolding_all rfl) w) ?_; simp only [Act.put, List.setIfInBounds_toArray, List.set_cons_zero, List.set_cons_succ])
            | (refine wpT_q (by with_unfolding_all rfl) (by kernel_rfl) ?_
               first
                | go_big_quiet_skip
                | (go_big_quiet_step (exact fun _ => rfl))
               refine wpT_qnil ?_))
        refine turn_store1 v5 (by with_unfolding_all rfl) (by with_unfolding_all rfl) 32 _ _ (by with_unfolding_all rfl) p 0 (by with_unfolding_all rfl) (by with_unfolding_all rfl) (.inr (.inl HPC.out.2)) (by kernel_rfl) HPC.out.1 trivial ?_
        simp only [Act.put]
        refine wpT_done ?_
        have hP6 := HP5.out
        generalize w5.setCell ⟨p, 0, none⟩ v5 = w6 at hP6 ⊢
        have HP6 := Lib.hid hP6
        clear hP6 HP5 HPC
        go_wp2_with fail
        go_roundw
        case rel => exact ⟨j + 1, by omega, by go_num, v5, _, _, HP6.out⟩
        case measure => simp [RowKit.intOf]; omega
      · skip
        refine turn_call 11 [.int .i64 ((j : Int) + 1), .int .i64 n] (fun v w3 => ∃ s O, v = .pointer (some ⟨s, 0, none⟩) ∧ OwnS Unit w3 O 0 s (Sct.fresh ((j + 1 : Nat) : Int) n) ∧ Below wr.drew.heap.size wr.drew w3 ∧ ∀ b, O b → wr.drew.heap.size ≤ b) (by with_unfolding_all rfl) (by with_unfolding_all rfl) (by with_unfolding_all rfl) HNW.out ?_
        rintro v3 w3 hS3 ⟨s, O, rfl, hO3, hb3, hO4⟩
        simp only [Act.put, List.setIfInBounds_toArray, List.set_cons_zero, List.set_cons_succ]
        obtain ⟨w4, hw4⟩ : ∃ w4, w4 = w3.alloc (.cells #[.pointer (some ⟨s, 0, none⟩)] 31) := ⟨_, rfl⟩
        have hb4 : Below w3.heap.size w3 w4 := by rw [hw4]; exact (Below.refl _ _).alloc (Nat.le_refl _) _
        have hA4 : At w4 w3.heap.size 31 [.pointer (some ⟨s, 0, none⟩)] := by rw [hw4]; exact At.newA _ _ rfl
        have hB4 := hb3.trans (hb4.mono hb3.size)
        have HO3 := Lib.hid (hO3.below hb4)
        have HO4 := Lib.hid hO4
        have HB3 := Lib.hid hb3
        have HW4 := Lib.hid hw4
        have HA4 := Lib.hid hA4
        have HB4 := Lib.hid hB4
        clear hO3 hO4 hb3 hw4 hb4 hA4 hB4 hS3
        refine ⟨?_, ?_⟩
        · skip
          refine turn_put v w3 (by with_unfolding_all rfl) (by with_unfolding_all rfl) (exec_loadSS _ (by with_unfolding_all rfl) p 0 (by with_unfolding_all rfl) ((HPd.out.up HB3.out).hd.cell' rfl)) trivial ?_
          simp only [Act.put, List.setIfInBounds_toArray, List.set_cons_zero, List.set_cons_succ]
          refine turn_put (.slice (some ⟨w3.heap.size, 0, none⟩) 1 1) w4 (by with_unfolding_all rfl) (by with_unfolding_all rfl) (by rw [HW4.out]; exact exec_one_ptr (.tmp 20) s (by with_unfolding_all rfl) (by with_unfolding_all rfl) _) trivial ?_
          simp only [Act.put, List.setIfInBounds_toArray, List.set_cons_zero, List.set_cons_succ]
          refine turn_app_ptr (by with_unfolding_all rfl) (by with_unfolding_all rfl) (.tmp 17) (.tmp 21) (by with_unfolding_all rfl) (by with_unfolding_all rfl) (by with_unfolding_all rfl) (HPd.out.up HB4.out).row (HPd.out.up HB4.out).below.size (HA4.out.cell' rfl) (by omega) ?_
          intro v5 w5 hR5 hg5 hv5
          have hP5 := HPd.out.more (w1 := w4) HB4.out HO3.out HO4.out hR5 hg5 hv5
          have hpc : (w5.cell? ⟨p, 0, none⟩).isSome = true ∧ w5.frozen? ⟨p, 0, none⟩ = false := by
            have h := (HPd.out.up HB4.out).hd.grown hg5 (fun e => (HPd.out.rowo p e.symm).1 rfl)
            exact ⟨by rw [h.cell' (i := 0) rfl]; rfl, h.frozen 0⟩
          have hsl : ∃ A n c, v5 = .slice A n c := by
            rcases hR5.2 with ⟨e, _⟩ | ⟨g, cap, cur, e, _⟩
            · exact ⟨_, _, _, e⟩
            · exact ⟨_, _, _, e⟩
          have HP5 := Lib.hid hP5
          have HPC := Lib.hid (And.intro hpc hsl)
          clear hP5 hpc hsl hR5 hg5 hv5
          refine ⟨trivial, ?_⟩
          simp only [Act.put, List.setIfInBounds_toArray, List.set_cons_zero, List.set_cons_succ]
          iterate 2 (
            first
              | (refine wpT_val (.pointer (some ⟨p, 0, none⟩)) (by with_unfolding_all rfl) (by with_unfolding_all rfl) (fun w _ => exec_nil _ (by with_unfolding_all rfl) p 0 (by with_unfolding_all rfl) w) ?_; simp only [Act.put, List.setIfInBounds_toArray, List.set_cons_zero, List.set_cons_succ])
              | (refine wpT_q (by with_unfolding_all rfl) (by kernel_rfl) ?_
                 first
                  | go_big_quiet_skip
                  | (go_big_quiet_step (exact fun _ => rfl))
                 refine wpT_qnil ?_))
          refine turn_store1 v5 (by with_unfolding_all rfl) (by with_unfolding_all rfl) 32 _ _ (by with_unfolding_all rfl) p 0 (by with_unfolding_all rfl) (by with_unfolding_all rfl) (.inr (.inl HPC.out.2)) (by kernel_rfl) HPC.out.1 trivial ?_
          simp only [Act.put]
          refine wpT_done ?_
          have hP6 := HP5.out
          generalize w5.setCell ⟨p, 0, none⟩ v5 = w6 at hP6 ⊢
          have HP6 := Lib.hid hP6
          clear hP6 HP5 HPC
          go_wp2_with fail
          go_roundw
          case rel => exact ⟨j + 1, by omega, by go_num, v5, _, _, HP6.out⟩
          case measure => simp [RowKit.intOf]; omega
        · skip
          refine turn_put (.slice (some ⟨w3.heap.size, 0, none⟩) 1 1) w4 (by with_unfolding_all rfl) (by with_unfolding_all rfl) (by rw [HW4.out]; exact exec_one_ptr (.tmp 20) s (by with_unfolding_all rfl) (by with_unfolding_all rfl) _) trivial ?_
          simp only [Act.put, List.setIfInBounds_toArray, List.set_cons_zero, List.set_cons_succ]
          refine turn_put v w4 (by with_unfolding_all rfl) (by with_unfolding_all rfl) (exec_loadSS _ (by with_unfolding_all rfl) p 0 (by with_unfolding_all rfl) ((HPd.out.up HB4.out).hd.cell' rfl)) trivial ?_
          simp only [Act.put, List.setIfInBounds_toArray, List.set_cons_zero, List.set_cons_succ]
          refine turn_app_ptr (by with_unfolding_all rfl) (by with_unfolding_all rfl) (.tmp 17) (.tmp 21) (by with_unfolding_all rfl) (by with_unfolding_all rfl) (by with_unfolding_all rfl) (HPd.out.up HB4.out).row (HPd.out.up HB4.out).below.size (HA4.out.cell' rfl) (by omega) ?_
          intro v5 w5 hR5 hg5 hv5
          have hP5 := HPd.out.more (w1 := w4) HB4.out HO3.out HO4.out hR5 hg5 hv5
          have hpc : (w5.cell? ⟨p, 0, none⟩).isSome = true ∧ w5.frozen? ⟨p, 0, none⟩ = false := by
            have h := (HPd.out.up HB4.out).hd.grown hg5 (fun e => (HPd.out.rowo p e.symm).1 rfl)
            exact ⟨by rw [h.cell' (i := 0) rfl]; rfl, h.frozen 0⟩
          have hsl : ∃ A n c, v5 = .slice A n c := by
            rcases hR5.2 with ⟨e, _⟩ | ⟨g, cap, cur, e, _⟩
            · exact ⟨_, _, _, e⟩
            · exact ⟨_, _, _, e⟩
          have HP5 := Lib.hid hP5
          have HPC := Lib.hid (And.intro hpc hsl)
          clear hP5 hpc hsl hR5 hg5 hv5
          refine ⟨trivial, ?_⟩
          simp only [Act.put, List.setIfInBounds_toArray, List.set_cons_zero, List.set_cons_succ]
          iterate 2 (
            first
              | (refine wpT_val (.pointer (some ⟨p, 0, none⟩)) (by with_unfolding_all rfl) (by with_unfolding_all rfl) (fun w _ => exec_nil _ (by with_unfolding_all rfl) p 0 (by with_unfolding_all rfl) w) ?_; simp only [Act.put, List.setIfInBounds_toArray, List.set_cons_zero, List.set_cons_succ])
              | (refine wpT_q (by with_unfolding_all rfl) (by kernel_rfl) ?_
                 first
                  | go_big_quiet_skip
                  | (go_big_quiet_step (exact fun _ => rfl))
                 refine wpT_qnil ?_))
          refine turn_store1 v5 (by with_unfolding_all rfl) (by with_unfolding_all rfl) 32 _ _ (by with_unfolding_all rfl) p 0 (by with_unfolding_all rfl) (by with_unfolding_all rfl) (.inr (.inl HPC.out.2)) (by kernel_rfl) HPC.out.1 trivial ?_
          simp only [Act.put]
          refine wpT_done ?_
          have hP6 := HP5.out
          generalize w5.setCell ⟨p, 0, none⟩ v5 = w6 at hP6 ⊢
          have HP6 := Lib.hid hP6
          clear hP6 HP5 HPC
          go_wp2_with fail
          go_roundw
          case rel => exact ⟨j + 1, by omega, by go_num, v5, _, _, HP6.out⟩
          case measure => simp [RowKit.intOf]; omega
    · have hnlt : ¬ (j : Int) + 1 ≤ (n : Int) := by omega
      have hje : j = n := by omega
      have HJE := Lib.hid hje
      clear hje
      go_wp2_with fail
      go_ret
      have h := HP.out
      rw [HJE.out] at h
      exact ⟨p, rfl, v, sp, OS, h⟩
end Go.Proofs.Ytghefmppjdneoaa
