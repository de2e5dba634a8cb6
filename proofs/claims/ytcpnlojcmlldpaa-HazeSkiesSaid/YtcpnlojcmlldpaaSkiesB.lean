/- The reference's sky: its struct of arrays; Put, Drop. -/
import Derived.Test.YtcpnlojcmlldpaaRefHE
namespace Go.Proofs.Ytcpnlojcmlldpaa
open Go.RowKit Go.Maps Go.Sort

section
variable {P : Program} {ops : Array Oper} {C : World → Prop} {Q : Act → Prop} {a : Act} {o : Oper} {rest : List Oper}
theorem run_load_bool {ty : TypeId} (hu : P.underlying ty = some .bool) {w : World} {b off : Nat} {v : Value} (hc : w.cell? ⟨b, off, none⟩ = some v) :
    (Instr.loadAt ty (.pointer (some ⟨b, off, none⟩))).run P w = .ok v w := by
  simp [Instr.loadAt, Instr.sureAddr, loadVar, isAgg, run_underlying hu, hc]
theorem run_load_slice {ty e : TypeId} (hu : P.underlying ty = some (.slice e)) {w : World} {b off : Nat} {v : Value} (hc : w.cell? ⟨b, off, none⟩ = some v) :
    (Instr.loadAt ty (.pointer (some ⟨b, off, none⟩))).run P w = .ok v w := by
  simp [Instr.loadAt, Instr.sureAddr, loadVar, isAgg, run_underlying hu, hc]
theorem wpQuiet_loadS (v : Value) (hw : Region.wanted o (yielded ops a.tmps) = true) (ty e : TypeId) (x : Operand) (ho : o.op = .load ty x) (hu : P.underlying ty = some (.slice e)) (b off : Nat) (hx : a.eval x = .pointer (some ⟨b, off, none⟩))
    (hS : ∀ w, C w → w.cell? ⟨b, off, none⟩ = some v) (h : wpQuiet P ops C Q rest (a.put o.dst v)) : wpQuiet P ops C Q (o :: rest) a :=
  wpQuiet_val v hw (fun w hC => by
    unfold execOp
    simp only [ho, hx, Sem.run_bind, Sem.run_pure, run_load_slice hu (hS w hC), Result.andThen_ok]) h
theorem wpQuiet_loadB (v : Value) (hw : Region.wanted o (yielded ops a.tmps) = true) (ty : TypeId) (x : Operand) (ho : o.op = .load ty x) (hu : P.underlying ty = some .bool) (b off : Nat) (hx : a.eval x = .pointer (some ⟨b, off, none⟩))
    (hS : ∀ w, C w → w.cell? ⟨b, off, none⟩ = some v) (h : wpQuiet P ops C Q rest (a.put o.dst v)) : wpQuiet P ops C Q (o :: rest) a :=
  wpQuiet_val v hw (fun w hC => by
    unfold execOp
    simp only [ho, hx, Sem.run_bind, Sem.run_pure, run_load_bool hu (hS w hC), Result.andThen_ok]) h
end
theorem wpList_storeB {P : Program} {ops : Array Oper} {rest : List Oper} {o : Oper} {a : Act} {w : World} {Q : Exit → Act → World → Prop} (hgd : o.guard = none) (ty : TypeId) (x y : Operand) (ho : o.op = .store ty x y) (b off : Nat) (bv : Bool)
    (hx : a.eval x = .pointer (some ⟨b, off, none⟩)) (hy : a.eval y = .bool bv) (hi : (P.info? ty).map (·.size) = some 1) (hc : (w.cell? ⟨b, off, none⟩).isSome = true ∧ w.frozen? ⟨b, off, none⟩ = false)
    (h : wpList P ops Q rest (a.put o.dst undef) (w.setCell ⟨b, off, none⟩ (.bool bv))) : wpList P ops Q (o :: rest) a w :=
  wpList_plain hgd fun _ hK => by
    unfold Oper.wp execOp
    have hr : (Instr.storeAt ty (.pointer (some ⟨b, off, none⟩)) (.bool bv)).run P w = .ok () (w.setCell ⟨b, off, none⟩ (.bool bv)) := by
      cases hq : P.info? ty with
      | none => simp [hq] at hi
      | some i =>
        have hs : i.size = 1 := by simpa [hq] using hi
        obtain ⟨v0, hv0⟩ := Option.isSome_iff_exists.1 hc.1
        simp [Instr.storeAt, Instr.sureAddr, storeVar, sizeOf, typeInfo, hq, hs, hv0, hc.2, Value.cells, storeCells, go_sem]
    simp only [ho, hx, hy, Sem.run_bind, Sem.run_pure, hr, Result.andThen_ok]
    exact hK _ _ h
theorem splice_get {α : Type} (cs vs : List α) (o i : Nat) (h : o + vs.length ≤ cs.length) : (cs.take o ++ vs ++ cs.drop (o + vs.length))[i]? = if o ≤ i ∧ i < o + vs.length then vs[i - o]? else cs[i]? := by
  have hl : (cs.take o).length = o := by rw [List.length_take]; omega
  by_cases h1 : i < o
  · rw [if_neg (by omega), List.append_assoc, List.getElem?_append_left (by omega), List.getElem?_take, if_pos h1]
  · by_cases h2 : i < o + vs.length
    · rw [if_pos ⟨by omega, h2⟩, List.append_assoc, List.getElem?_append_right (by omega), hl, List.getElem?_append_left (by omega)]
    · rw [if_neg (by omega), List.getElem?_append_right (by rw [List.length_append, hl]; omega), List.length_append, hl, List.getElem?_drop]
      congr 1
      omega
/-- what the reference's sky holds: the summaries, their times, whether a node is known -/
def SkyCells (cs : List Value) (f : Clouds) : Prop := cs.length = 462 ∧ ∀ n : Nat, n < 7 → cs[455 + n]? = some (.bool (f n).isSome) ∧ ∀ c, f n = some c → c.h.length = 64 ∧ cs[448 + n]? = some (.int .i64 c.t) ∧ ∀ j v, (u8s c.h)[j]? = some v → cs[n * 64 + j]? = some v
def RSky (w : World) (p : Nat) (f : Clouds) : Prop := ∃ cs, At w p 39 cs ∧ SkyCells cs f
theorem RSky.below {w w' : World} {p : Nat} {f : Clouds} (h : RSky w p f) (hb : Below w.heap.size w w') : RSky w' p f := by
  obtain ⟨cs, h1, h2⟩ := h
  exact ⟨cs, h1.below hb h1.lt, h2⟩
theorem RSky.grown {w w' : World} {p : Nat} {f : Clouds} {row : Option Nat} (h : RSky w p f) (hg : w.grownBy w' row) (hp : some p ≠ row) : RSky w' p f := by
  obtain ⟨cs, h1, h2⟩ := h
  exact ⟨cs, h1.grown hg hp, h2⟩
theorem RSky.lt {w : World} {p : Nat} {f : Clouds} (h : RSky w p f) : p < w.heap.size := by
  obtain ⟨cs, h1, _⟩ := h
  exact h1.lt
theorem skyCells_put {cs : List Value} {f : Clouds} (h : SkyCells cs f) {nd : Nat} (hnd : nd < 7) {hh : List UInt8} (hl : hh.length = 64) (t : Int) :
    SkyCells (((cs.take (nd * 64) ++ u8s hh ++ cs.drop (nd * 64 + (u8s hh).length)).set (448 + nd) (.int .i64 t)).set (455 + nd) (.bool true)) (Sk.upd f (nd : Int) ⟨hh, t⟩) := by
  obtain ⟨hlen, hc⟩ := h
  have h64 : (u8s hh).length = 64 := by rw [u8s_len, hl]
  have hsp : ∀ i, (cs.take (nd * 64) ++ u8s hh ++ cs.drop (nd * 64 + (u8s hh).length))[i]? = if nd * 64 ≤ i ∧ i < nd * 64 + 64 then (u8s hh)[i - nd * 64]? else cs[i]? := fun i => by
    have := splice_get cs (u8s hh) (nd * 64) i (by rw [h64, hlen]; omega)
    rwa [h64] at this ⊢
  have hsl : (cs.take (nd * 64) ++ u8s hh ++ cs.drop (nd * 64 + (u8s hh).length)).length = 462 := by
    rw [List.length_append, List.length_append, List.length_take, List.length_drop, h64, hlen]
    omega
  refine ⟨by rw [List.length_set, List.length_set, hsl], fun n hn => ?_⟩
  by_cases he : n = nd
  · subst he
    have hf : Sk.upd f (n : Int) ⟨hh, t⟩ (n : Int) = some ⟨hh, t⟩ := by unfold Sk.upd; rw [if_pos rfl]
    rw [hf]
    refine ⟨by rw [List.getElem?_set_self (by rw [List.length_set, hsl]; omega)]; rfl, fun c hcc => ?_⟩
    cases hcc
    refine ⟨hl, by rw [List.getElem?_set_ne (by omega), List.getElem?_set_self (by rw [hsl]; omega)], fun j v hv => ?_⟩
    have hj : j < 64 := by
      have := (List.getElem?_eq_some_iff.1 hv).1
      rwa [h64] at this
    rw [List.getElem?_set_ne (by omega), List.getElem?_set_ne (by omega), hsp, if_pos (by omega), Nat.add_sub_cancel_left]
    exact hv
  · have hf : Sk.upd f (nd : Int) ⟨hh, t⟩ (n : Int) = f n := by unfold Sk.upd; rw [if_neg (by omega)]
    rw [hf]
    obtain ⟨h1, h2⟩ := hc n hn
    refine ⟨by rw [List.getElem?_set_ne (by omega), List.getElem?_set_ne (by omega), hsp, if_neg (by omega)]; exact h1, fun c hcc => ?_⟩
    obtain ⟨h0, h3, h4⟩ := h2 c hcc
    refine ⟨h0, by rw [List.getElem?_set_ne (by omega), List.getElem?_set_ne (by omega), hsp, if_neg (by omega)]; exact h3, fun j v hv => ?_⟩
    have hj : j < 64 := by
      have := (List.getElem?_eq_some_iff.1 hv).1
      rwa [u8s_len, h0] at this
    rw [List.getElem?_set_ne (by omega), List.getElem?_set_ne (by omega), hsp, if_neg (by omega)]
    exact h4 j v hv
theorem skyCells_drop {cs : List Value} {f : Clouds} (h : SkyCells cs f) {nd : Nat} (hnd : nd < 7) : SkyCells (cs.set (455 + nd) (.bool false)) (Sk.del f (nd : Int)) := by
  obtain ⟨hlen, hc⟩ := h
  refine ⟨by rw [List.length_set, hlen], fun n hn => ?_⟩
  obtain ⟨h1, h2⟩ := hc n hn
  by_cases he : n = nd
  · subst he
    have hf : Sk.del f (n : Int) (n : Int) = none := by unfold Sk.del; simp
    rw [hf]
    exact ⟨by rw [List.getElem?_set_self (by omega)]; rfl, fun c hcc => by cases hcc⟩
  · have hf : Sk.del f (nd : Int) (n : Int) = f n := by unfold Sk.del; simp; omega
    rw [hf]
    refine ⟨by rw [List.getElem?_set_ne (by omega)]; exact h1, fun c hcc => ?_⟩
    obtain ⟨h0, h3, h4⟩ := h2 c hcc
    refine ⟨h0, by rw [List.getElem?_set_ne (by omega)]; exact h3, fun j v hv => ?_⟩
    have hj : j < 64 := by
      have := (List.getElem?_eq_some_iff.1 hv).1
      rwa [u8s_len, h0] at this
    rw [List.getElem?_set_ne (by omega)]
    exact h4 j v hv
theorem del_out {f : Clouds} (hf : ∀ k, ¬ (1 ≤ k ∧ k ≤ 6) → f k = none) {node : Int} (h : ¬ (1 ≤ node ∧ node ≤ 6)) : Sk.del f node = f := by
  funext k
  unfold Sk.del
  by_cases hk : k = node
  · rw [hk, hf node h]
    simp
  · simp [hk]
theorem grown_drewN {w0 w : World} {row : Option Nat} (h : w0.grownBy w row) (n : Nat) : w0.grownBy (w.drewN n) row := ⟨h.os, h.tape, h.output, h.size, h.block⟩
theorem RSky.some {w : World} {p : Nat} {cs : List Value} (h : At w p 39 cs) (hl : cs.length = 462) {i : Nat} (hi : i < 462) : (w.cell? ⟨p, i, none⟩).isSome = true ∧ w.frozen? ⟨p, i, none⟩ = false := h.some (by omega)
set_option maxRecDepth 100000 in
set_option maxHeartbeats 400000 in
theorem refdrop_any {w : World} {p : Nat} {f : Clouds} (hs : RSky w p f) (hf : ∀ k, ¬ (1 ≤ k ∧ k ≤ 6) → f k = none) (node : Int) :
    Calls Try.prog 17 #[.pointer (some ⟨p, 0, none⟩), .int .i64 node] w fun e w' => e = .returned (.tuple #[]) ∧ RSky w' p (Sk.del f node) ∧ w.grownBy w' (some p) := by
  have HS := Lib.hid hs
  have HF := Lib.hid hf
  clear hs hf
  go_enter Try.func17, Try.ntmps17
  by_cases h1 : 1 ≤ node
  · by_cases h2 : node ≤ 6
    · obtain ⟨nd, rfl⟩ : ∃ nd : Nat, node = nd := ⟨node.toNat, by omega⟩
      have hn7 : nd < 7 := by omega
      obtain ⟨cs, hat, hc⟩ := HS.out
      have HAT := Lib.hid hat
      have HC := Lib.hid hc
      have hcell := RSky.some hat hc.1 (i := 455 + nd) (by omega)
      have c0 := hat.cell' ((hc.2 nd hn7).1)
      have f0 := hcell.2
      have i1 : (0 : Int) ≤ (nd : Int) := by omega
      have i2 : (nd : Int) < 7 := by omega
      clear hat hc hcell
      go_wp2_with fail
      go_end0
      refine ⟨rfl, ⟨_, HAT.out.set (455 + nd) (.bool false), skyCells_drop HC.out hn7⟩, ?_⟩
      exact grown_setCell (World.grownBy.refl _ _) (.inl rfl) _
    · have HD := Lib.hid (del_out HF.out (node := node) (by omega))
      go_wp2_with fail
      go_end0
      exact ⟨rfl, by rw [HD.out]; exact HS.out, World.grownBy.refl _ _⟩
  · have HD := Lib.hid (del_out HF.out (node := node) (by omega))
    go_wp2_with fail
    go_end0
    exact ⟨rfl, by rw [HD.out]; exact HS.out, World.grownBy.refl _ _⟩
set_option maxRecDepth 100000 in
set_option maxHeartbeats 400000 in
theorem refput_any {w : World} {p : Nat} {f : Clouds} (hs : RSky w p f) (node : Int) (h : List UInt8) (hh : h.length = 64) (now : Int) :
    Calls Try.prog 15 #[.pointer (some ⟨p, 0, none⟩), .int .i64 node, hzV h, .int .i64 now] w fun e w' => e = .returned (.tuple #[]) ∧ RSky w' p (putS f node h now) ∧ w.grownBy w' (some p) := by
  have hih : (Try.prog.info? 26).map (·.size) = some (u8s h).toArray.size := by
    rw [List.size_toArray, u8s_len, hh]
    kernel_rfl
  have HS := Lib.hid hs
  have HHL := Lib.hid hh
  have HUH := Lib.hid Try.underlying26
  have HIH := Lib.hid (HaveHzInfo hh)
  have hb0 : Below w.heap.size w (w.alloc (.cells (u8s h).toArray 26)) := (Below.refl _ _).alloc (Nat.le_refl _) _
  have HS0 := Lib.hid (HS.out.below hb0)
  have HG0 := Lib.hid (show w.grownBy (w.alloc (.cells (u8s h).toArray 26)) (some p) from grown_alloc (World.grownBy.refl _ _) _)
  have HA0 := Lib.hid (show At (w.alloc (.cells (u8s h).toArray 26)) w.heap.size 26 (u8s h) from At.newA w _ rfl)
  clear hs hh hb0
  go_enter Try.func15, Try.ntmps15
  by_cases hall : 1 ≤ node ∧ node ≤ 6 ∧ 0 ≤ now ∧ now ≤ 1099511627776
  · have HP := Lib.hid (show putS f node h now = Sk.upd f node ⟨h, now⟩ by unfold putS; rw [if_pos hall])
    obtain ⟨h1, h2, h3, h4⟩ := hall
    obtain ⟨nd, rfl⟩ : ∃ nd : Nat, node = nd := ⟨node.toNat, by omega⟩
    have hn7 : nd < 7 := by omega
    have i1 : (0 : Int) ≤ (nd : Int) := by omega
    have i2 : (nd : Int) < 7 := by omega
    go_wp2_with fail
    obtain ⟨q, hq⟩ : ∃ q, q = w.heap.size := ⟨_, rfl⟩
    rw [← hq]
    have hA := HA0.out
    rw [← hq] at hA
    have hpl := HS.out.lt
    have hpq : p ≠ q := by omega
    clear HA0 hq hih
    generalize w.alloc (.cells (u8s h).toArray 26) = w2 at hA HS0 HG0 ⊢
    have HRg := Lib.hid (show ∀ w', (∃ n, w' = w2.drewN n) → w'.rangeAt q 0 (u8s h) from fun w' ⟨n, e⟩ => by
      rw [e]
      exact behind_range hA (below_drewN (Below.refl _ _) n))
    obtain ⟨cs, hat, hc⟩ := HS0.out
    have HAT := Lib.hid hat
    have HC := Lib.hid hc
    clear hat hc hA
    refine wp_region_then (fun w' => ∃ n, w' = w2.drewN n) 6 (by kernel_rfl) (by kernel_rfl) (by kernel_rfl) (by kernel_rfl) (by decide) ⟨1, rfl⟩ ?_
    simp only [List.take_succ_cons, List.take_zero, List.drop_succ_cons, List.drop_zero]
    iterate 6 (first
      | (with_reducible refine wpQuiet_loadAll (by with_unfolding_all rfl) 26 (.tmp 6) (by with_unfolding_all rfl) q 0 (by with_unfolding_all rfl) (u8s h) _ (fun w' h => HRg.out w' h) HUH.out (by with_unfolding_all rfl) HIH.out ?_; simp only [Act.put, List.setIfInBounds_toArray, List.set_cons_zero, List.set_cons_succ])
      | (go_big_quiet_step (fail)))
    refine wpQuiet_nil ?_
    intro _ hw'
    obtain ⟨nq, rfl⟩ := hw'
    have hatq : At (w2.drewN nq) p 39 cs := HAT.out.below (below_drewN (Below.refl _ _) nq) HAT.out.lt
    have h64 : (u8s h).length = 64 := by rw [u8s_len, HHL.out]
    refine wpList_store_mid rfl 26 (.tmp 27) (.tmp 24) rfl p (nd * 64) (u8s h).toArray rfl rfl (hatq.there _ _ (by rw [List.size_toArray, h64, HC.out.1]; omega)) (by simpa using HIH.out) (all_oneCell_toArray (u8s_one h)) ?_
    have hat3 : At ((w2.drewN nq).setCells p (nd * 64) (u8s h)) p 39 _ := hatq.setCells (u8s h) (nd * 64) (by rw [h64, HC.out.1]; omega)
    have hg3 : w2.grownBy ((w2.drewN nq).setCells p (nd * 64) (u8s h)) (some p) := grown_setCells p (u8s h) (nd * 64) w2 _ (grown_drewN (World.grownBy.refl _ _) nq)
    have hcl := (skyCells_put HC.out hn7 HHL.out now).1
    rw [List.length_set, List.length_set] at hcl
    have hq := (show (u8s h).toArray.toList = u8s h from rfl)
    rw [hq]
    generalize (w2.drewN nq).setCells p (nd * 64) (u8s h) = w3 at hat3 hg3 ⊢
    have HAT3 := Lib.hid hat3
    have HG3 := Lib.hid hg3
    have k1 := RSky.some hat3 hcl (i := 448 + nd) (by omega)
    have k2 := RSky.some hat3 hcl (i := 455 + nd) (by omega)
    have c1 := k1.1
    have f1 := k1.2
    have c2 := k2.1
    have f2 := k2.2
    obtain ⟨v1, c1⟩ := Option.isSome_iff_exists.1 c1
    obtain ⟨v2, c2⟩ := Option.isSome_iff_exists.1 c2
    clear hat3 hg3 hcl hatq h64 k1 k2 hq HRg
    simp only [Act.put]
    refine wpList_nil ?_
    go_wp2_with fail
    go_end0
    refine ⟨rfl, ⟨_, (HAT3.out.set (448 + nd) (.int .i64 now)).set (455 + nd) (.bool true), by rw [HP.out]; exact skyCells_put HC.out hn7 HHL.out now⟩, ?_⟩
    exact grown_setCell (grown_setCell (grown_trans HG0.out HG3.out) (.inl rfl) _) (.inl rfl) _
  · have HP := Lib.hid (show putS f node h now = f by unfold putS; rw [if_neg hall])
    by_cases h1 : 1 ≤ node
    · by_cases h2 : node ≤ 6
      · by_cases h3 : 0 ≤ now
        · have h4 : ¬ now ≤ 1099511627776 := fun h4 => hall ⟨h1, h2, h3, h4⟩
          clear hall
          go_wp2_with fail
          go_end0
          exact ⟨rfl, by rw [HP.out]; exact HS0.out, HG0.out⟩
        · clear hall
          go_wp2_with fail
          go_end0
          exact ⟨rfl, by rw [HP.out]; exact HS0.out, HG0.out⟩
      · clear hall
        go_wp2_with fail
        go_end0
        exact ⟨rfl, by rw [HP.out]; exact HS0.out, HG0.out⟩
    · clear hall
      go_wp2_with fail
      go_end0
      exact ⟨rfl, by rw [HP.out]; exact HS0.out, HG0.out⟩
end Go.Proofs.Ytcpnlojcmlldpaa
