/- RankOrders, the walk: it answers true for every three members. -/
import Derived.Test.YtlihhnjinakpfaaRankI
namespace Go.Proofs.Ytlihhnjinakpfaa
open Go.RowKit

abbrev memA (m : Mem) : Value := .agg #[.int .i64 m.n, .int .i64 m.i, .int .i64 m.s]
/-- three members, one block each, behind a world -/
structure Trio (w1 w' : World) (p : Nat) (a b c : Mem) : Prop where
  below : Below w1.heap.size w1 w'
  a0 : w'.cell? ⟨p, 0, none⟩ = some (.int .i64 a.n)
  a1 : w'.cell? ⟨p, 1, none⟩ = some (.int .i64 a.i)
  a2 : w'.cell? ⟨p, 2, none⟩ = some (.int .i64 a.s)
  b0 : w'.cell? ⟨p + 1, 0, none⟩ = some (.int .i64 b.n)
  b1 : w'.cell? ⟨p + 1, 1, none⟩ = some (.int .i64 b.i)
  b2 : w'.cell? ⟨p + 1, 2, none⟩ = some (.int .i64 b.s)
  c0 : w'.cell? ⟨p + 1 + 1, 0, none⟩ = some (.int .i64 c.n)
  c1 : w'.cell? ⟨p + 1 + 1, 1, none⟩ = some (.int .i64 c.i)
  c2 : w'.cell? ⟨p + 1 + 1, 2, none⟩ = some (.int .i64 c.s)
theorem trio_new (w w1 : World) (a b c : Mem) (h : w1 = ((w.alloc (.cells #[.int .i64 a.n, .int .i64 a.i, .int .i64 a.s] 28)).alloc (.cells #[.int .i64 b.n, .int .i64 b.i, .int .i64 b.s] 28)).alloc (.cells #[.int .i64 c.n, .int .i64 c.i, .int .i64 c.s] 28)) :
    (∀ w', Below w1.heap.size w1 w' → Trio w1 w' w.heap.size a b c) ∧ Below w.heap.size w w1 ∧ w1.heap.size = w.heap.size + 1 + 1 + 1 := by
  have hs1 : w1.heap.size = w.heap.size + 1 + 1 + 1 := by rw [h]; simp
  have hA : At w1 w.heap.size 28 (cellsM a) := by rw [h]; exact ((memAt w a).alloc _).alloc _
  have hB : At w1 (w.heap.size + 1) 28 (cellsM b) := by
    have h' := memAt (w.alloc (.cells #[.int .i64 a.n, .int .i64 a.i, .int .i64 a.s] 28)) b
    rw [World.size_alloc] at h'
    rw [h]; exact h'.alloc _
  have hC : At w1 (w.heap.size + 1 + 1) 28 (cellsM c) := by
    have h' := memAt ((w.alloc (.cells #[.int .i64 a.n, .int .i64 a.i, .int .i64 a.s] 28)).alloc (.cells #[.int .i64 b.n, .int .i64 b.i, .int .i64 b.s] 28)) c
    rw [World.size_alloc, World.size_alloc] at h'
    rw [h]; exact h'
  refine ⟨fun w' hb => ?_, by rw [h]; exact (((Below.refl _ _).alloc (Nat.le_refl _) _).alloc (by simp) _).alloc (by simp; omega) _, hs1⟩
  have A := hA.below hb hA.lt
  have B := hB.below hb hB.lt
  have C := hC.below hb hC.lt
  exact ⟨hb, A.cell' rfl, A.cell' rfl, A.cell' rfl, B.cell' rfl, B.cell' rfl, B.cell' rfl, C.cell' rfl, C.cell' rfl, C.cell' rfl⟩
theorem Trio.next {w1 w' w'' : World} {p : Nat} {a b c : Mem} (H : ∀ w', Below w1.heap.size w1 w' → Trio w1 w' p a b c) (h : Trio w1 w' p a b c) (hb : Below w'.heap.size w' w'') : Trio w1 w'' p a b c :=
  H _ (h.below.trans (hb.mono h.below.size))
theorem range_three {w : World} {p : Nat} {m : Mem} (h0 : w.cell? ⟨p, 0, none⟩ = some (.int .i64 m.n)) (h1 : w.cell? ⟨p, 1, none⟩ = some (.int .i64 m.i)) (h2 : w.cell? ⟨p, 2, none⟩ = some (.int .i64 m.s)) : w.rangeAt p 0 (cellsM m) := fun j v hv => by
  match j with
  | 0 => rw [← Option.some.inj hv]; exact h0
  | 1 => rw [← Option.some.inj hv]; exact h1
  | 2 => rw [← Option.some.inj hv]; exact h2
  | j + 3 => simp [cellsM] at hv
theorem Trio.drew {w1 w' : World} {p : Nat} {a b c : Mem} (H : ∀ w', Below w1.heap.size w1 w' → Trio w1 w' p a b c) (h : Trio w1 w' p a b c) : Trio w1 w'.drew p a b c := H _ h.below.drew

theorem run_eqGuard_mem (w : World) (op : BinOp) (x y : Operand) (a b : Mem) : (eqGuard op 28 x y (memA a) (memA b)).run Try.prog w = .ok () w :=
  run_eqGuard_agg w op 28 x y _ _ (by kernel_rfl)

-- WALKS
set_option maxRecDepth 100000 in
set_option maxHeartbeats 1000000 in
/-- the first one stands above the second one, that one above the third one -/
theorem orders_up_t (a b c : Mem) (h1 : a.above b = true) (h2 : b.above a = false) (h3 : b.above c = true) (h4 : a.above c = true) (ga : a.good = true) (gb : b.good = true) (hn : (a.n == b.n) = true) (hq : ∀ w, (binOp .eql 28 (memA a) (memA b)).run Try.prog w = .ok (.bool false) w) (w : World) :
    Calls Try.prog 6 #[memA a, memA b, memA c] w fun e w' => e = .returned (.bool true) ∧ Below w.heap.size w w' := by
  have HN := Lib.hid hn
  have HQ := Lib.hid hq
  clear hn hq
  go_enter Try.func6, Try.ntmps6
  go_wp2_with fail
  obtain ⟨w1, hw1⟩ : ∃ w1, w1 = ((w.alloc (.cells #[.int .i64 a.n, .int .i64 a.i, .int .i64 a.s] 28)).alloc (.cells #[.int .i64 b.n, .int .i64 b.i, .int .i64 b.s] 28)).alloc (.cells #[.int .i64 c.n, .int .i64 c.i, .int .i64 c.s] 28) := ⟨_, rfl⟩
  rw [← hw1]
  obtain ⟨hT, hb1, hs1⟩ := trio_new w w1 a b c hw1
  have HT := Lib.hid hT
  have HB1 := Lib.hid hb1
  have HU := Lib.hid Try.underlying28
  have HI := Lib.hid (show (Try.prog.info? 28).map (·.size) = some 3 by kernel_rfl)
  clear hw1 hT hb1
  refine (awake_any _).mono ?_
  rintro e w2 ⟨rfl, hb⟩
  have H2 := Lib.hid (HT.out _ hb)
  clear hb
  obtain ⟨_, a0, a1, a2, b0', b1', b2', c0, c1, c2⟩ := H2.out
  go_wp2_with fail
  refine (above_at a a false (Mem.above_irrefl a) _).mono ?_
  rintro e w3 ⟨rfl, hb⟩
  have H3 := Lib.hid (Trio.next HT.out H2.out hb)
  clear hb a0 a1 a2 b0' b1' b2' c0 c1 c2
  obtain ⟨_, a0, a1, a2, b0', b1', b2', c0, c1, c2⟩ := H3.out
  go_wp2_with fail
  refine (above_at a b true h1 _).mono ?_
  rintro e w4 ⟨rfl, hb⟩
  have H4 := Lib.hid (Trio.next HT.out H3.out hb)
  clear hb a0 a1 a2 b0' b1' b2' c0 c1 c2
  obtain ⟨_, a0, a1, a2, b0', b1', b2', c0, c1, c2⟩ := H4.out
  go_wp2_with fail
  refine (above_at b a false h2 _).mono ?_
  rintro e w5 ⟨rfl, hb⟩
  have H5 := Lib.hid (Trio.next HT.out H4.out hb)
  clear hb a0 a1 a2 b0' b1' b2' c0 c1 c2
  obtain ⟨_, a0, a1, a2, b0', b1', b2', c0, c1, c2⟩ := H5.out
  go_wp2_with fail
  refine (above_at a b true h1 _).mono ?_
  rintro e w6 ⟨rfl, hb⟩
  have H6 := Lib.hid (Trio.next HT.out H5.out hb)
  clear hb a0 a1 a2 b0' b1' b2' c0 c1 c2
  obtain ⟨_, a0, a1, a2, b0', b1', b2', c0, c1, c2⟩ := H6.out
  go_wp2_with fail
  refine (above_at b c true h3 _).mono ?_
  rintro e w7 ⟨rfl, hb⟩
  have H7 := Lib.hid (Trio.next HT.out H6.out hb)
  clear hb a0 a1 a2 b0' b1' b2' c0 c1 c2
  obtain ⟨_, a0, a1, a2, b0', b1', b2', c0, c1, c2⟩ := H7.out
  go_wp2_with fail
  refine (above_at a c true h4 _).mono ?_
  rintro e w8 ⟨rfl, hb⟩
  have H8 := Lib.hid (Trio.next HT.out H7.out hb)
  clear hb a0 a1 a2 b0' b1' b2' c0 c1 c2
  obtain ⟨_, a0, a1, a2, b0', b1', b2', c0, c1, c2⟩ := H8.out
  go_wp2_with fail
  refine (good_at a true ga _).mono ?_
  rintro e w9 ⟨rfl, hb⟩
  have H9 := Lib.hid (Trio.next HT.out H8.out hb)
  clear hb a0 a1 a2 b0' b1' b2' c0 c1 c2
  obtain ⟨_, a0, a1, a2, b0', b1', b2', c0, c1, c2⟩ := H9.out
  go_wp2_with fail
  refine (good_at b true gb _).mono ?_
  rintro e w10 ⟨rfl, hb⟩
  have H10 := Lib.hid (Trio.next HT.out H9.out hb)
  clear hb a0 a1 a2 b0' b1' b2' c0 c1 c2
  obtain ⟨_, a0, a1, a2, b0', b1', b2', c0, c1, c2⟩ := H10.out
  go_wp2_with fail
  rw [HN.out]
  refine wp_region_class (fun w' => Trio w1 w' w.heap.size a b c) (by kernel_rfl) (by kernel_rfl) (Trio.drew HT.out H10.out) ?_
  iterate 32 (first
    | (with_reducible refine wpQuiet_not (by with_unfolding_all rfl) ?_; simp only [Act.put, List.setIfInBounds_toArray, List.set_cons_zero, List.set_cons_succ])
    | (refine wpQuiet_loadAll rfl 28 _ rfl (w.heap.size) 0 rfl (cellsM a) _ (fun w h => range_three h.a0 h.a1 h.a2) HU.out rfl HI.out ?_; simp only [Act.put, List.setIfInBounds_toArray, List.set_cons_zero, List.set_cons_succ])
    | (refine wpQuiet_loadAll rfl 28 _ rfl (w.heap.size + 1) 0 rfl (cellsM b) _ (fun w h => range_three h.b0 h.b1 h.b2) HU.out rfl HI.out ?_; simp only [Act.put, List.setIfInBounds_toArray, List.set_cons_zero, List.set_cons_succ])
    | (refine wpQuiet_call 20 [memA a, memA b] (.bool _) rfl _ _ rfl rfl (fun _ => by kernel_rfl) (fun w' h => (above_at a b _ h1 _).mono fun e w'' ⟨he, hbx⟩ => ⟨he, Trio.next HT.out h hbx⟩) ?_; simp only [Act.put, List.setIfInBounds_toArray, List.set_cons_zero, List.set_cons_succ])
    | (refine wpQuiet_call 20 [memA b, memA a] (.bool _) rfl _ _ rfl rfl (fun _ => by kernel_rfl) (fun w' h => (above_at b a _ h2 _).mono fun e w'' ⟨he, hbx⟩ => ⟨he, Trio.next HT.out h hbx⟩) ?_; simp only [Act.put, List.setIfInBounds_toArray, List.set_cons_zero, List.set_cons_succ])
    | (refine wpQuiet_bin rfl .eql 28 _ _ _ rfl (memA a) (memA b) (.bool _) rfl rfl (fun w => run_eqGuard_mem w _ _ _ a b) (fun w => HQ.out w) ?_; simp only [Act.put, List.setIfInBounds_toArray, List.set_cons_zero, List.set_cons_succ])
    | (refine wpQuiet_val (.bool true) rfl (fun w' _ => rfl) ?_; simp only [Act.put, List.setIfInBounds_toArray, List.set_cons_zero, List.set_cons_succ])
    | (refine wpQuiet_val (.bool false) rfl (fun w' _ => rfl) ?_; simp only [Act.put, List.setIfInBounds_toArray, List.set_cons_zero, List.set_cons_succ]))
  with_reducible refine wpQuiet_nil ?_
  intro w' h
  have HH := Lib.hid h
  clear h
  go_wp2_with fail
  go_ret
  exact ⟨rfl, HB1.out.trans (HH.out.below.mono (by omega))⟩
set_option maxRecDepth 100000 in
set_option maxHeartbeats 1000000 in
/-- the first one stands above the second one, that one not above the third one -/
theorem orders_up_f (a b c : Mem) (h1 : a.above b = true) (h2 : b.above a = false) (h3 : b.above c = false) (ga : a.good = true) (gb : b.good = true) (hn : (a.n == b.n) = true) (hq : ∀ w, (binOp .eql 28 (memA a) (memA b)).run Try.prog w = .ok (.bool false) w) (w : World) :
    Calls Try.prog 6 #[memA a, memA b, memA c] w fun e w' => e = .returned (.bool true) ∧ Below w.heap.size w w' := by
  have HN := Lib.hid hn
  have HQ := Lib.hid hq
  clear hn hq
  go_enter Try.func6, Try.ntmps6
  go_wp2_with fail
  obtain ⟨w1, hw1⟩ : ∃ w1, w1 = ((w.alloc (.cells #[.int .i64 a.n, .int .i64 a.i, .int .i64 a.s] 28)).alloc (.cells #[.int .i64 b.n, .int .i64 b.i, .int .i64 b.s] 28)).alloc (.cells #[.int .i64 c.n, .int .i64 c.i, .int .i64 c.s] 28) := ⟨_, rfl⟩
  rw [← hw1]
  obtain ⟨hT, hb1, hs1⟩ := trio_new w w1 a b c hw1
  have HT := Lib.hid hT
  have HB1 := Lib.hid hb1
  have HU := Lib.hid Try.underlying28
  have HI := Lib.hid (show (Try.prog.info? 28).map (·.size) = some 3 by kernel_rfl)
  clear hw1 hT hb1
  refine (awake_any _).mono ?_
  rintro e w2 ⟨rfl, hb⟩
  have H2 := Lib.hid (HT.out _ hb)
  clear hb
  obtain ⟨_, a0, a1, a2, b0', b1', b2', c0, c1, c2⟩ := H2.out
  go_wp2_with fail
  refine (above_at a a false (Mem.above_irrefl a) _).mono ?_
  rintro e w3 ⟨rfl, hb⟩
  have H3 := Lib.hid (Trio.next HT.out H2.out hb)
  clear hb a0 a1 a2 b0' b1' b2' c0 c1 c2
  obtain ⟨_, a0, a1, a2, b0', b1', b2', c0, c1, c2⟩ := H3.out
  go_wp2_with fail
  refine (above_at a b true h1 _).mono ?_
  rintro e w4 ⟨rfl, hb⟩
  have H4 := Lib.hid (Trio.next HT.out H3.out hb)
  clear hb a0 a1 a2 b0' b1' b2' c0 c1 c2
  obtain ⟨_, a0, a1, a2, b0', b1', b2', c0, c1, c2⟩ := H4.out
  go_wp2_with fail
  refine (above_at b a false h2 _).mono ?_
  rintro e w5 ⟨rfl, hb⟩
  have H5 := Lib.hid (Trio.next HT.out H4.out hb)
  clear hb a0 a1 a2 b0' b1' b2' c0 c1 c2
  obtain ⟨_, a0, a1, a2, b0', b1', b2', c0, c1, c2⟩ := H5.out
  go_wp2_with fail
  refine (above_at a b true h1 _).mono ?_
  rintro e w6 ⟨rfl, hb⟩
  have H6 := Lib.hid (Trio.next HT.out H5.out hb)
  clear hb a0 a1 a2 b0' b1' b2' c0 c1 c2
  obtain ⟨_, a0, a1, a2, b0', b1', b2', c0, c1, c2⟩ := H6.out
  go_wp2_with fail
  refine (above_at b c false h3 _).mono ?_
  rintro e w7 ⟨rfl, hb⟩
  have H7 := Lib.hid (Trio.next HT.out H6.out hb)
  clear hb a0 a1 a2 b0' b1' b2' c0 c1 c2
  obtain ⟨_, a0, a1, a2, b0', b1', b2', c0, c1, c2⟩ := H7.out
  go_wp2_with fail
  refine (good_at a true ga _).mono ?_
  rintro e w8 ⟨rfl, hb⟩
  have H8 := Lib.hid (Trio.next HT.out H7.out hb)
  clear hb a0 a1 a2 b0' b1' b2' c0 c1 c2
  obtain ⟨_, a0, a1, a2, b0', b1', b2', c0, c1, c2⟩ := H8.out
  go_wp2_with fail
  refine (good_at b true gb _).mono ?_
  rintro e w9 ⟨rfl, hb⟩
  have H9 := Lib.hid (Trio.next HT.out H8.out hb)
  clear hb a0 a1 a2 b0' b1' b2' c0 c1 c2
  obtain ⟨_, a0, a1, a2, b0', b1', b2', c0, c1, c2⟩ := H9.out
  go_wp2_with fail
  rw [HN.out]
  refine wp_region_class (fun w' => Trio w1 w' w.heap.size a b c) (by kernel_rfl) (by kernel_rfl) (Trio.drew HT.out H9.out) ?_
  iterate 32 (first
    | (with_reducible refine wpQuiet_not (by with_unfolding_all rfl) ?_; simp only [Act.put, List.setIfInBounds_toArray, List.set_cons_zero, List.set_cons_succ])
    | (refine wpQuiet_loadAll rfl 28 _ rfl (w.heap.size) 0 rfl (cellsM a) _ (fun w h => range_three h.a0 h.a1 h.a2) HU.out rfl HI.out ?_; simp only [Act.put, List.setIfInBounds_toArray, List.set_cons_zero, List.set_cons_succ])
    | (refine wpQuiet_loadAll rfl 28 _ rfl (w.heap.size + 1) 0 rfl (cellsM b) _ (fun w h => range_three h.b0 h.b1 h.b2) HU.out rfl HI.out ?_; simp only [Act.put, List.setIfInBounds_toArray, List.set_cons_zero, List.set_cons_succ])
    | (refine wpQuiet_call 20 [memA a, memA b] (.bool _) rfl _ _ rfl rfl (fun _ => by kernel_rfl) (fun w' h => (above_at a b _ h1 _).mono fun e w'' ⟨he, hbx⟩ => ⟨he, Trio.next HT.out h hbx⟩) ?_; simp only [Act.put, List.setIfInBounds_toArray, List.set_cons_zero, List.set_cons_succ])
    | (refine wpQuiet_call 20 [memA b, memA a] (.bool _) rfl _ _ rfl rfl (fun _ => by kernel_rfl) (fun w' h => (above_at b a _ h2 _).mono fun e w'' ⟨he, hbx⟩ => ⟨he, Trio.next HT.out h hbx⟩) ?_; simp only [Act.put, List.setIfInBounds_toArray, List.set_cons_zero, List.set_cons_succ])
    | (refine wpQuiet_bin rfl .eql 28 _ _ _ rfl (memA a) (memA b) (.bool _) rfl rfl (fun w => run_eqGuard_mem w _ _ _ a b) (fun w => HQ.out w) ?_; simp only [Act.put, List.setIfInBounds_toArray, List.set_cons_zero, List.set_cons_succ])
    | (refine wpQuiet_val (.bool true) rfl (fun w' _ => rfl) ?_; simp only [Act.put, List.setIfInBounds_toArray, List.set_cons_zero, List.set_cons_succ])
    | (refine wpQuiet_val (.bool false) rfl (fun w' _ => rfl) ?_; simp only [Act.put, List.setIfInBounds_toArray, List.set_cons_zero, List.set_cons_succ]))
  with_reducible refine wpQuiet_nil ?_
  intro w' h
  have HH := Lib.hid h
  clear h
  go_wp2_with fail
  go_ret
  exact ⟨rfl, HB1.out.trans (HH.out.below.mono (by omega))⟩
set_option maxRecDepth 100000 in
set_option maxHeartbeats 1000000 in
/-- the second one stands above the first one -/
theorem orders_down (a b c : Mem) (h1 : a.above b = false) (h2 : b.above a = true) (ga : a.good = true) (gb : b.good = true) (hn : (a.n == b.n) = true) (hq : ∀ w, (binOp .eql 28 (memA a) (memA b)).run Try.prog w = .ok (.bool false) w) (w : World) :
    Calls Try.prog 6 #[memA a, memA b, memA c] w fun e w' => e = .returned (.bool true) ∧ Below w.heap.size w w' := by
  have HN := Lib.hid hn
  have HQ := Lib.hid hq
  clear hn hq
  go_enter Try.func6, Try.ntmps6
  go_wp2_with fail
  obtain ⟨w1, hw1⟩ : ∃ w1, w1 = ((w.alloc (.cells #[.int .i64 a.n, .int .i64 a.i, .int .i64 a.s] 28)).alloc (.cells #[.int .i64 b.n, .int .i64 b.i, .int .i64 b.s] 28)).alloc (.cells #[.int .i64 c.n, .int .i64 c.i, .int .i64 c.s] 28) := ⟨_, rfl⟩
  rw [← hw1]
  obtain ⟨hT, hb1, hs1⟩ := trio_new w w1 a b c hw1
  have HT := Lib.hid hT
  have HB1 := Lib.hid hb1
  have HU := Lib.hid Try.underlying28
  have HI := Lib.hid (show (Try.prog.info? 28).map (·.size) = some 3 by kernel_rfl)
  clear hw1 hT hb1
  refine (awake_any _).mono ?_
  rintro e w2 ⟨rfl, hb⟩
  have H2 := Lib.hid (HT.out _ hb)
  clear hb
  obtain ⟨_, a0, a1, a2, b0', b1', b2', c0, c1, c2⟩ := H2.out
  go_wp2_with fail
  refine (above_at a a false (Mem.above_irrefl a) _).mono ?_
  rintro e w3 ⟨rfl, hb⟩
  have H3 := Lib.hid (Trio.next HT.out H2.out hb)
  clear hb a0 a1 a2 b0' b1' b2' c0 c1 c2
  obtain ⟨_, a0, a1, a2, b0', b1', b2', c0, c1, c2⟩ := H3.out
  go_wp2_with fail
  refine (above_at a b false h1 _).mono ?_
  rintro e w4 ⟨rfl, hb⟩
  have H4 := Lib.hid (Trio.next HT.out H3.out hb)
  clear hb a0 a1 a2 b0' b1' b2' c0 c1 c2
  obtain ⟨_, a0, a1, a2, b0', b1', b2', c0, c1, c2⟩ := H4.out
  go_wp2_with fail
  refine (above_at a b false h1 _).mono ?_
  rintro e w5 ⟨rfl, hb⟩
  have H5 := Lib.hid (Trio.next HT.out H4.out hb)
  clear hb a0 a1 a2 b0' b1' b2' c0 c1 c2
  obtain ⟨_, a0, a1, a2, b0', b1', b2', c0, c1, c2⟩ := H5.out
  go_wp2_with fail
  refine (good_at a true ga _).mono ?_
  rintro e w6 ⟨rfl, hb⟩
  have H6 := Lib.hid (Trio.next HT.out H5.out hb)
  clear hb a0 a1 a2 b0' b1' b2' c0 c1 c2
  obtain ⟨_, a0, a1, a2, b0', b1', b2', c0, c1, c2⟩ := H6.out
  go_wp2_with fail
  refine (good_at b true gb _).mono ?_
  rintro e w7 ⟨rfl, hb⟩
  have H7 := Lib.hid (Trio.next HT.out H6.out hb)
  clear hb a0 a1 a2 b0' b1' b2' c0 c1 c2
  obtain ⟨_, a0, a1, a2, b0', b1', b2', c0, c1, c2⟩ := H7.out
  go_wp2_with fail
  rw [HN.out]
  refine wp_region_class (fun w' => Trio w1 w' w.heap.size a b c) (by kernel_rfl) (by kernel_rfl) (Trio.drew HT.out H7.out) ?_
  iterate 32 (first
    | (with_reducible refine wpQuiet_not (by with_unfolding_all rfl) ?_; simp only [Act.put, List.setIfInBounds_toArray, List.set_cons_zero, List.set_cons_succ])
    | (refine wpQuiet_loadAll rfl 28 _ rfl (w.heap.size) 0 rfl (cellsM a) _ (fun w h => range_three h.a0 h.a1 h.a2) HU.out rfl HI.out ?_; simp only [Act.put, List.setIfInBounds_toArray, List.set_cons_zero, List.set_cons_succ])
    | (refine wpQuiet_loadAll rfl 28 _ rfl (w.heap.size + 1) 0 rfl (cellsM b) _ (fun w h => range_three h.b0 h.b1 h.b2) HU.out rfl HI.out ?_; simp only [Act.put, List.setIfInBounds_toArray, List.set_cons_zero, List.set_cons_succ])
    | (refine wpQuiet_call 20 [memA a, memA b] (.bool _) rfl _ _ rfl rfl (fun _ => by kernel_rfl) (fun w' h => (above_at a b _ h1 _).mono fun e w'' ⟨he, hbx⟩ => ⟨he, Trio.next HT.out h hbx⟩) ?_; simp only [Act.put, List.setIfInBounds_toArray, List.set_cons_zero, List.set_cons_succ])
    | (refine wpQuiet_call 20 [memA b, memA a] (.bool _) rfl _ _ rfl rfl (fun _ => by kernel_rfl) (fun w' h => (above_at b a _ h2 _).mono fun e w'' ⟨he, hbx⟩ => ⟨he, Trio.next HT.out h hbx⟩) ?_; simp only [Act.put, List.setIfInBounds_toArray, List.set_cons_zero, List.set_cons_succ])
    | (refine wpQuiet_bin rfl .eql 28 _ _ _ rfl (memA a) (memA b) (.bool _) rfl rfl (fun w => run_eqGuard_mem w _ _ _ a b) (fun w => HQ.out w) ?_; simp only [Act.put, List.setIfInBounds_toArray, List.set_cons_zero, List.set_cons_succ])
    | (refine wpQuiet_val (.bool true) rfl (fun w' _ => rfl) ?_; simp only [Act.put, List.setIfInBounds_toArray, List.set_cons_zero, List.set_cons_succ])
    | (refine wpQuiet_val (.bool false) rfl (fun w' _ => rfl) ?_; simp only [Act.put, List.setIfInBounds_toArray, List.set_cons_zero, List.set_cons_succ]))
  with_reducible refine wpQuiet_nil ?_
  intro w' h
  have HH := Lib.hid h
  clear h
  go_wp2_with fail
  go_ret
  exact ⟨rfl, HB1.out.trans (HH.out.below.mono (by omega))⟩
set_option maxRecDepth 100000 in
set_option maxHeartbeats 1000000 in
/-- the first one is not good -/
theorem orders_no_a (gq : Bool) (a b c : Mem) (h1 : a.above b = false) (h2 : b.above a = false) (ga : a.good = false) (hn : True) (hq : ∀ w, (binOp .eql 28 (memA a) (memA b)).run Try.prog w = .ok (.bool gq) w) (w : World) :
    Calls Try.prog 6 #[memA a, memA b, memA c] w fun e w' => e = .returned (.bool true) ∧ Below w.heap.size w w' := by
  have HN := Lib.hid hn
  have HQ := Lib.hid hq
  clear hn hq
  go_enter Try.func6, Try.ntmps6
  go_wp2_with fail
  obtain ⟨w1, hw1⟩ : ∃ w1, w1 = ((w.alloc (.cells #[.int .i64 a.n, .int .i64 a.i, .int .i64 a.s] 28)).alloc (.cells #[.int .i64 b.n, .int .i64 b.i, .int .i64 b.s] 28)).alloc (.cells #[.int .i64 c.n, .int .i64 c.i, .int .i64 c.s] 28) := ⟨_, rfl⟩
  rw [← hw1]
  obtain ⟨hT, hb1, hs1⟩ := trio_new w w1 a b c hw1
  have HT := Lib.hid hT
  have HB1 := Lib.hid hb1
  have HU := Lib.hid Try.underlying28
  have HI := Lib.hid (show (Try.prog.info? 28).map (·.size) = some 3 by kernel_rfl)
  clear hw1 hT hb1
  refine (awake_any _).mono ?_
  rintro e w2 ⟨rfl, hb⟩
  have H2 := Lib.hid (HT.out _ hb)
  clear hb
  obtain ⟨_, a0, a1, a2, b0', b1', b2', c0, c1, c2⟩ := H2.out
  go_wp2_with fail
  refine (above_at a a false (Mem.above_irrefl a) _).mono ?_
  rintro e w3 ⟨rfl, hb⟩
  have H3 := Lib.hid (Trio.next HT.out H2.out hb)
  clear hb a0 a1 a2 b0' b1' b2' c0 c1 c2
  obtain ⟨_, a0, a1, a2, b0', b1', b2', c0, c1, c2⟩ := H3.out
  go_wp2_with fail
  refine (above_at a b false h1 _).mono ?_
  rintro e w4 ⟨rfl, hb⟩
  have H4 := Lib.hid (Trio.next HT.out H3.out hb)
  clear hb a0 a1 a2 b0' b1' b2' c0 c1 c2
  obtain ⟨_, a0, a1, a2, b0', b1', b2', c0, c1, c2⟩ := H4.out
  go_wp2_with fail
  refine (above_at a b false h1 _).mono ?_
  rintro e w5 ⟨rfl, hb⟩
  have H5 := Lib.hid (Trio.next HT.out H4.out hb)
  clear hb a0 a1 a2 b0' b1' b2' c0 c1 c2
  obtain ⟨_, a0, a1, a2, b0', b1', b2', c0, c1, c2⟩ := H5.out
  go_wp2_with fail
  refine (good_at a false ga _).mono ?_
  rintro e w6 ⟨rfl, hb⟩
  have H6 := Lib.hid (Trio.next HT.out H5.out hb)
  clear hb a0 a1 a2 b0' b1' b2' c0 c1 c2
  obtain ⟨_, a0, a1, a2, b0', b1', b2', c0, c1, c2⟩ := H6.out
  go_wp2_with fail
  refine wp_region_class (fun w' => Trio w1 w' w.heap.size a b c) (by kernel_rfl) (by kernel_rfl) (Trio.drew HT.out H6.out) ?_
  iterate 32 (first
    | (with_reducible refine wpQuiet_not (by with_unfolding_all rfl) ?_; simp only [Act.put, List.setIfInBounds_toArray, List.set_cons_zero, List.set_cons_succ])
    | (refine wpQuiet_loadAll rfl 28 _ rfl (w.heap.size) 0 rfl (cellsM a) _ (fun w h => range_three h.a0 h.a1 h.a2) HU.out rfl HI.out ?_; simp only [Act.put, List.setIfInBounds_toArray, List.set_cons_zero, List.set_cons_succ])
    | (refine wpQuiet_loadAll rfl 28 _ rfl (w.heap.size + 1) 0 rfl (cellsM b) _ (fun w h => range_three h.b0 h.b1 h.b2) HU.out rfl HI.out ?_; simp only [Act.put, List.setIfInBounds_toArray, List.set_cons_zero, List.set_cons_succ])
    | (refine wpQuiet_call 20 [memA a, memA b] (.bool _) rfl _ _ rfl rfl (fun _ => by kernel_rfl) (fun w' h => (above_at a b _ h1 _).mono fun e w'' ⟨he, hbx⟩ => ⟨he, Trio.next HT.out h hbx⟩) ?_; simp only [Act.put, List.setIfInBounds_toArray, List.set_cons_zero, List.set_cons_succ])
    | (refine wpQuiet_call 20 [memA b, memA a] (.bool _) rfl _ _ rfl rfl (fun _ => by kernel_rfl) (fun w' h => (above_at b a _ h2 _).mono fun e w'' ⟨he, hbx⟩ => ⟨he, Trio.next HT.out h hbx⟩) ?_; simp only [Act.put, List.setIfInBounds_toArray, List.set_cons_zero, List.set_cons_succ])
    | (refine wpQuiet_bin rfl .eql 28 _ _ _ rfl (memA a) (memA b) (.bool _) rfl rfl (fun w => run_eqGuard_mem w _ _ _ a b) (fun w => HQ.out w) ?_; simp only [Act.put, List.setIfInBounds_toArray, List.set_cons_zero, List.set_cons_succ])
    | (refine wpQuiet_val (.bool true) rfl (fun w' _ => rfl) ?_; simp only [Act.put, List.setIfInBounds_toArray, List.set_cons_zero, List.set_cons_succ])
    | (refine wpQuiet_val (.bool false) rfl (fun w' _ => rfl) ?_; simp only [Act.put, List.setIfInBounds_toArray, List.set_cons_zero, List.set_cons_succ]))
  with_reducible refine wpQuiet_nil ?_
  intro w' h
  have HH := Lib.hid h
  clear h
  go_wp2_with fail
  go_ret
  exact ⟨rfl, HB1.out.trans (HH.out.below.mono (by omega))⟩
set_option maxRecDepth 100000 in
set_option maxHeartbeats 1000000 in
/-- the second one is not good -/
theorem orders_no_b (gq : Bool) (a b c : Mem) (h1 : a.above b = false) (h2 : b.above a = false) (ga : a.good = true) (gb : b.good = false) (hn : True) (hq : ∀ w, (binOp .eql 28 (memA a) (memA b)).run Try.prog w = .ok (.bool gq) w) (w : World) :
    Calls Try.prog 6 #[memA a, memA b, memA c] w fun e w' => e = .returned (.bool true) ∧ Below w.heap.size w w' := by
  have HN := Lib.hid hn
  have HQ := Lib.hid hq
  clear hn hq
  go_enter Try.func6, Try.ntmps6
  go_wp2_with fail
  obtain ⟨w1, hw1⟩ : ∃ w1, w1 = ((w.alloc (.cells #[.int .i64 a.n, .int .i64 a.i, .int .i64 a.s] 28)).alloc (.cells #[.int .i64 b.n, .int .i64 b.i, .int .i64 b.s] 28)).alloc (.cells #[.int .i64 c.n, .int .i64 c.i, .int .i64 c.s] 28) := ⟨_, rfl⟩
  rw [← hw1]
  obtain ⟨hT, hb1, hs1⟩ := trio_new w w1 a b c hw1
  have HT := Lib.hid hT
  have HB1 := Lib.hid hb1
  have HU := Lib.hid Try.underlying28
  have HI := Lib.hid (show (Try.prog.info? 28).map (·.size) = some 3 by kernel_rfl)
  clear hw1 hT hb1
  refine (awake_any _).mono ?_
  rintro e w2 ⟨rfl, hb⟩
  have H2 := Lib.hid (HT.out _ hb)
  clear hb
  obtain ⟨_, a0, a1, a2, b0', b1', b2', c0, c1, c2⟩ := H2.out
  go_wp2_with fail
  refine (above_at a a false (Mem.above_irrefl a) _).mono ?_
  rintro e w3 ⟨rfl, hb⟩
  have H3 := Lib.hid (Trio.next HT.out H2.out hb)
  clear hb a0 a1 a2 b0' b1' b2' c0 c1 c2
  obtain ⟨_, a0, a1, a2, b0', b1', b2', c0, c1, c2⟩ := H3.out
  go_wp2_with fail
  refine (above_at a b false h1 _).mono ?_
  rintro e w4 ⟨rfl, hb⟩
  have H4 := Lib.hid (Trio.next HT.out H3.out hb)
  clear hb a0 a1 a2 b0' b1' b2' c0 c1 c2
  obtain ⟨_, a0, a1, a2, b0', b1', b2', c0, c1, c2⟩ := H4.out
  go_wp2_with fail
  refine (above_at a b false h1 _).mono ?_
  rintro e w5 ⟨rfl, hb⟩
  have H5 := Lib.hid (Trio.next HT.out H4.out hb)
  clear hb a0 a1 a2 b0' b1' b2' c0 c1 c2
  obtain ⟨_, a0, a1, a2, b0', b1', b2', c0, c1, c2⟩ := H5.out
  go_wp2_with fail
  refine (good_at a true ga _).mono ?_
  rintro e w6 ⟨rfl, hb⟩
  have H6 := Lib.hid (Trio.next HT.out H5.out hb)
  clear hb a0 a1 a2 b0' b1' b2' c0 c1 c2
  obtain ⟨_, a0, a1, a2, b0', b1', b2', c0, c1, c2⟩ := H6.out
  go_wp2_with fail
  refine (good_at b false gb _).mono ?_
  rintro e w7 ⟨rfl, hb⟩
  have H7 := Lib.hid (Trio.next HT.out H6.out hb)
  clear hb a0 a1 a2 b0' b1' b2' c0 c1 c2
  obtain ⟨_, a0, a1, a2, b0', b1', b2', c0, c1, c2⟩ := H7.out
  go_wp2_with fail
  refine wp_region_class (fun w' => Trio w1 w' w.heap.size a b c) (by kernel_rfl) (by kernel_rfl) (Trio.drew HT.out H7.out) ?_
  iterate 32 (first
    | (with_reducible refine wpQuiet_not (by with_unfolding_all rfl) ?_; simp only [Act.put, List.setIfInBounds_toArray, List.set_cons_zero, List.set_cons_succ])
    | (refine wpQuiet_loadAll rfl 28 _ rfl (w.heap.size) 0 rfl (cellsM a) _ (fun w h => range_three h.a0 h.a1 h.a2) HU.out rfl HI.out ?_; simp only [Act.put, List.setIfInBounds_toArray, List.set_cons_zero, List.set_cons_succ])
    | (refine wpQuiet_loadAll rfl 28 _ rfl (w.heap.size + 1) 0 rfl (cellsM b) _ (fun w h => range_three h.b0 h.b1 h.b2) HU.out rfl HI.out ?_; simp only [Act.put, List.setIfInBounds_toArray, List.set_cons_zero, List.set_cons_succ])
    | (refine wpQuiet_call 20 [memA a, memA b] (.bool _) rfl _ _ rfl rfl (fun _ => by kernel_rfl) (fun w' h => (above_at a b _ h1 _).mono fun e w'' ⟨he, hbx⟩ => ⟨he, Trio.next HT.out h hbx⟩) ?_; simp only [Act.put, List.setIfInBounds_toArray, List.set_cons_zero, List.set_cons_succ])
    | (refine wpQuiet_call 20 [memA b, memA a] (.bool _) rfl _ _ rfl rfl (fun _ => by kernel_rfl) (fun w' h => (above_at b a _ h2 _).mono fun e w'' ⟨he, hbx⟩ => ⟨he, Trio.next HT.out h hbx⟩) ?_; simp only [Act.put, List.setIfInBounds_toArray, List.set_cons_zero, List.set_cons_succ])
    | (refine wpQuiet_bin rfl .eql 28 _ _ _ rfl (memA a) (memA b) (.bool _) rfl rfl (fun w => run_eqGuard_mem w _ _ _ a b) (fun w => HQ.out w) ?_; simp only [Act.put, List.setIfInBounds_toArray, List.set_cons_zero, List.set_cons_succ])
    | (refine wpQuiet_val (.bool true) rfl (fun w' _ => rfl) ?_; simp only [Act.put, List.setIfInBounds_toArray, List.set_cons_zero, List.set_cons_succ])
    | (refine wpQuiet_val (.bool false) rfl (fun w' _ => rfl) ?_; simp only [Act.put, List.setIfInBounds_toArray, List.set_cons_zero, List.set_cons_succ]))
  with_reducible refine wpQuiet_nil ?_
  intro w' h
  have HH := Lib.hid h
  clear h
  go_wp2_with fail
  go_ret
  exact ⟨rfl, HB1.out.trans (HH.out.below.mono (by omega))⟩
set_option maxRecDepth 100000 in
set_option maxHeartbeats 1000000 in
/-- they are of unlike nodes -/
theorem orders_no_n (gq : Bool) (a b c : Mem) (h1 : a.above b = false) (h2 : b.above a = false) (ga : a.good = true) (gb : b.good = true) (hn : (a.n == b.n) = false) (hq : ∀ w, (binOp .eql 28 (memA a) (memA b)).run Try.prog w = .ok (.bool gq) w) (w : World) :
    Calls Try.prog 6 #[memA a, memA b, memA c] w fun e w' => e = .returned (.bool true) ∧ Below w.heap.size w w' := by
  have HN := Lib.hid hn
  have HQ := Lib.hid hq
  clear hn hq
  go_enter Try.func6, Try.ntmps6
  go_wp2_with fail
  obtain ⟨w1, hw1⟩ : ∃ w1, w1 = ((w.alloc (.cells #[.int .i64 a.n, .int .i64 a.i, .int .i64 a.s] 28)).alloc (.cells #[.int .i64 b.n, .int .i64 b.i, .int .i64 b.s] 28)).alloc (.cells #[.int .i64 c.n, .int .i64 c.i, .int .i64 c.s] 28) := ⟨_, rfl⟩
  rw [← hw1]
  obtain ⟨hT, hb1, hs1⟩ := trio_new w w1 a b c hw1
  have HT := Lib.hid hT
  have HB1 := Lib.hid hb1
  have HU := Lib.hid Try.underlying28
  have HI := Lib.hid (show (Try.prog.info? 28).map (·.size) = some 3 by kernel_rfl)
  clear hw1 hT hb1
  refine (awake_any _).mono ?_
  rintro e w2 ⟨rfl, hb⟩
  have H2 := Lib.hid (HT.out _ hb)
  clear hb
  obtain ⟨_, a0, a1, a2, b0', b1', b2', c0, c1, c2⟩ := H2.out
  go_wp2_with fail
  refine (above_at a a false (Mem.above_irrefl a) _).mono ?_
  rintro e w3 ⟨rfl, hb⟩
  have H3 := Lib.hid (Trio.next HT.out H2.out hb)
  clear hb a0 a1 a2 b0' b1' b2' c0 c1 c2
  obtain ⟨_, a0, a1, a2, b0', b1', b2', c0, c1, c2⟩ := H3.out
  go_wp2_with fail
  refine (above_at a b false h1 _).mono ?_
  rintro e w4 ⟨rfl, hb⟩
  have H4 := Lib.hid (Trio.next HT.out H3.out hb)
  clear hb a0 a1 a2 b0' b1' b2' c0 c1 c2
  obtain ⟨_, a0, a1, a2, b0', b1', b2', c0, c1, c2⟩ := H4.out
  go_wp2_with fail
  refine (above_at a b false h1 _).mono ?_
  rintro e w5 ⟨rfl, hb⟩
  have H5 := Lib.hid (Trio.next HT.out H4.out hb)
  clear hb a0 a1 a2 b0' b1' b2' c0 c1 c2
  obtain ⟨_, a0, a1, a2, b0', b1', b2', c0, c1, c2⟩ := H5.out
  go_wp2_with fail
  refine (good_at a true ga _).mono ?_
  rintro e w6 ⟨rfl, hb⟩
  have H6 := Lib.hid (Trio.next HT.out H5.out hb)
  clear hb a0 a1 a2 b0' b1' b2' c0 c1 c2
  obtain ⟨_, a0, a1, a2, b0', b1', b2', c0, c1, c2⟩ := H6.out
  go_wp2_with fail
  refine (good_at b true gb _).mono ?_
  rintro e w7 ⟨rfl, hb⟩
  have H7 := Lib.hid (Trio.next HT.out H6.out hb)
  clear hb a0 a1 a2 b0' b1' b2' c0 c1 c2
  obtain ⟨_, a0, a1, a2, b0', b1', b2', c0, c1, c2⟩ := H7.out
  go_wp2_with fail
  rw [HN.out]
  refine wp_region_class (fun w' => Trio w1 w' w.heap.size a b c) (by kernel_rfl) (by kernel_rfl) (Trio.drew HT.out H7.out) ?_
  iterate 32 (first
    | (with_reducible refine wpQuiet_not (by with_unfolding_all rfl) ?_; simp only [Act.put, List.setIfInBounds_toArray, List.set_cons_zero, List.set_cons_succ])
    | (refine wpQuiet_loadAll rfl 28 _ rfl (w.heap.size) 0 rfl (cellsM a) _ (fun w h => range_three h.a0 h.a1 h.a2) HU.out rfl HI.out ?_; simp only [Act.put, List.setIfInBounds_toArray, List.set_cons_zero, List.set_cons_succ])
    | (refine wpQuiet_loadAll rfl 28 _ rfl (w.heap.size + 1) 0 rfl (cellsM b) _ (fun w h => range_three h.b0 h.b1 h.b2) HU.out rfl HI.out ?_; simp only [Act.put, List.setIfInBounds_toArray, List.set_cons_zero, List.set_cons_succ])
    | (refine wpQuiet_call 20 [memA a, memA b] (.bool _) rfl _ _ rfl rfl (fun _ => by kernel_rfl) (fun w' h => (above_at a b _ h1 _).mono fun e w'' ⟨he, hbx⟩ => ⟨he, Trio.next HT.out h hbx⟩) ?_; simp only [Act.put, List.setIfInBounds_toArray, List.set_cons_zero, List.set_cons_succ])
    | (refine wpQuiet_call 20 [memA b, memA a] (.bool _) rfl _ _ rfl rfl (fun _ => by kernel_rfl) (fun w' h => (above_at b a _ h2 _).mono fun e w'' ⟨he, hbx⟩ => ⟨he, Trio.next HT.out h hbx⟩) ?_; simp only [Act.put, List.setIfInBounds_toArray, List.set_cons_zero, List.set_cons_succ])
    | (refine wpQuiet_bin rfl .eql 28 _ _ _ rfl (memA a) (memA b) (.bool _) rfl rfl (fun w => run_eqGuard_mem w _ _ _ a b) (fun w => HQ.out w) ?_; simp only [Act.put, List.setIfInBounds_toArray, List.set_cons_zero, List.set_cons_succ])
    | (refine wpQuiet_val (.bool true) rfl (fun w' _ => rfl) ?_; simp only [Act.put, List.setIfInBounds_toArray, List.set_cons_zero, List.set_cons_succ])
    | (refine wpQuiet_val (.bool false) rfl (fun w' _ => rfl) ?_; simp only [Act.put, List.setIfInBounds_toArray, List.set_cons_zero, List.set_cons_succ]))
  with_reducible refine wpQuiet_nil ?_
  intro w' h
  have HH := Lib.hid h
  clear h
  go_wp2_with fail
  go_ret
  exact ⟨rfl, HB1.out.trans (HH.out.below.mono (by omega))⟩
set_option maxRecDepth 100000 in
set_option maxHeartbeats 1000000 in
/-- they are one -/
theorem orders_same (a b c : Mem) (h1 : a.above b = false) (h2 : b.above a = false) (ga : a.good = true) (gb : b.good = true) (hn : (a.n == b.n) = true) (hq : ∀ w, (binOp .eql 28 (memA a) (memA b)).run Try.prog w = .ok (.bool true) w) (w : World) :
    Calls Try.prog 6 #[memA a, memA b, memA c] w fun e w' => e = .returned (.bool true) ∧ Below w.heap.size w w' := by
  have HN := Lib.hid hn
  have HQ := Lib.hid hq
  clear hn hq
  go_enter Try.func6, Try.ntmps6
  go_wp2_with fail
  obtain ⟨w1, hw1⟩ : ∃ w1, w1 = ((w.alloc (.cells #[.int .i64 a.n, .int .i64 a.i, .int .i64 a.s] 28)).alloc (.cells #[.int .i64 b.n, .int .i64 b.i, .int .i64 b.s] 28)).alloc (.cells #[.int .i64 c.n, .int .i64 c.i, .int .i64 c.s] 28) := ⟨_, rfl⟩
  rw [← hw1]
  obtain ⟨hT, hb1, hs1⟩ := trio_new w w1 a b c hw1
  have HT := Lib.hid hT
  have HB1 := Lib.hid hb1
  have HU := Lib.hid Try.underlying28
  have HI := Lib.hid (show (Try.prog.info? 28).map (·.size) = some 3 by kernel_rfl)
  clear hw1 hT hb1
  refine (awake_any _).mono ?_
  rintro e w2 ⟨rfl, hb⟩
  have H2 := Lib.hid (HT.out _ hb)
  clear hb
  obtain ⟨_, a0, a1, a2, b0', b1', b2', c0, c1, c2⟩ := H2.out
  go_wp2_with fail
  refine (above_at a a false (Mem.above_irrefl a) _).mono ?_
  rintro e w3 ⟨rfl, hb⟩
  have H3 := Lib.hid (Trio.next HT.out H2.out hb)
  clear hb a0 a1 a2 b0' b1' b2' c0 c1 c2
  obtain ⟨_, a0, a1, a2, b0', b1', b2', c0, c1, c2⟩ := H3.out
  go_wp2_with fail
  refine (above_at a b false h1 _).mono ?_
  rintro e w4 ⟨rfl, hb⟩
  have H4 := Lib.hid (Trio.next HT.out H3.out hb)
  clear hb a0 a1 a2 b0' b1' b2' c0 c1 c2
  obtain ⟨_, a0, a1, a2, b0', b1', b2', c0, c1, c2⟩ := H4.out
  go_wp2_with fail
  refine (above_at a b false h1 _).mono ?_
  rintro e w5 ⟨rfl, hb⟩
  have H5 := Lib.hid (Trio.next HT.out H4.out hb)
  clear hb a0 a1 a2 b0' b1' b2' c0 c1 c2
  obtain ⟨_, a0, a1, a2, b0', b1', b2', c0, c1, c2⟩ := H5.out
  go_wp2_with fail
  refine (good_at a true ga _).mono ?_
  rintro e w6 ⟨rfl, hb⟩
  have H6 := Lib.hid (Trio.next HT.out H5.out hb)
  clear hb a0 a1 a2 b0' b1' b2' c0 c1 c2
  obtain ⟨_, a0, a1, a2, b0', b1', b2', c0, c1, c2⟩ := H6.out
  go_wp2_with fail
  refine (good_at b true gb _).mono ?_
  rintro e w7 ⟨rfl, hb⟩
  have H7 := Lib.hid (Trio.next HT.out H6.out hb)
  clear hb a0 a1 a2 b0' b1' b2' c0 c1 c2
  obtain ⟨_, a0, a1, a2, b0', b1', b2', c0, c1, c2⟩ := H7.out
  go_wp2_with fail
  rw [HN.out]
  refine wp_region_class (fun w' => Trio w1 w' w.heap.size a b c) (by kernel_rfl) (by kernel_rfl) (Trio.drew HT.out H7.out) ?_
  iterate 32 (first
    | (with_reducible refine wpQuiet_not (by with_unfolding_all rfl) ?_; simp only [Act.put, List.setIfInBounds_toArray, List.set_cons_zero, List.set_cons_succ])
    | (refine wpQuiet_loadAll rfl 28 _ rfl (w.heap.size) 0 rfl (cellsM a) _ (fun w h => range_three h.a0 h.a1 h.a2) HU.out rfl HI.out ?_; simp only [Act.put, List.setIfInBounds_toArray, List.set_cons_zero, List.set_cons_succ])
    | (refine wpQuiet_loadAll rfl 28 _ rfl (w.heap.size + 1) 0 rfl (cellsM b) _ (fun w h => range_three h.b0 h.b1 h.b2) HU.out rfl HI.out ?_; simp only [Act.put, List.setIfInBounds_toArray, List.set_cons_zero, List.set_cons_succ])
    | (refine wpQuiet_call 20 [memA a, memA b] (.bool _) rfl _ _ rfl rfl (fun _ => by kernel_rfl) (fun w' h => (above_at a b _ h1 _).mono fun e w'' ⟨he, hbx⟩ => ⟨he, Trio.next HT.out h hbx⟩) ?_; simp only [Act.put, List.setIfInBounds_toArray, List.set_cons_zero, List.set_cons_succ])
    | (refine wpQuiet_call 20 [memA b, memA a] (.bool _) rfl _ _ rfl rfl (fun _ => by kernel_rfl) (fun w' h => (above_at b a _ h2 _).mono fun e w'' ⟨he, hbx⟩ => ⟨he, Trio.next HT.out h hbx⟩) ?_; simp only [Act.put, List.setIfInBounds_toArray, List.set_cons_zero, List.set_cons_succ])
    | (refine wpQuiet_bin rfl .eql 28 _ _ _ rfl (memA a) (memA b) (.bool _) rfl rfl (fun w => run_eqGuard_mem w _ _ _ a b) (fun w => HQ.out w) ?_; simp only [Act.put, List.setIfInBounds_toArray, List.set_cons_zero, List.set_cons_succ])
    | (refine wpQuiet_val (.bool true) rfl (fun w' _ => rfl) ?_; simp only [Act.put, List.setIfInBounds_toArray, List.set_cons_zero, List.set_cons_succ])
    | (refine wpQuiet_val (.bool false) rfl (fun w' _ => rfl) ?_; simp only [Act.put, List.setIfInBounds_toArray, List.set_cons_zero, List.set_cons_succ]))
  with_reducible refine wpQuiet_nil ?_
  intro w' h
  have HH := Lib.hid h
  clear h
  go_wp2_with fail
  go_ret
  exact ⟨rfl, HB1.out.trans (HH.out.below.mono (by omega))⟩
theorem orders_any (a b c : Mem) (w : World) :
    Calls Try.prog 6 #[memV a, memV b, memV c] w fun e w' => e = .returned (.bool true) ∧ Below w.heap.size w w' := by
  have hq : ∀ w, (binOp .eql 28 (memA a) (memA b)).run Try.prog w = .ok (.bool (decide (a = b))) w := fun w => run_eql_mem w a b
  show Calls Try.prog 6 #[memA a, memA b, memA c] w _
  cases h1 : a.above b with
  | true =>
    have h2 := Mem.above_asymm h1
    have h := (Mem.above_iff a b).1 h1
    have hne : a ≠ b := fun e => by rw [e, Mem.above_irrefl] at h1; cases h1
    have hq' : ∀ w, (binOp .eql 28 (memA a) (memA b)).run Try.prog w = .ok (.bool false) w := fun w => by rw [hq, decide_eq_false hne]
    have hn : (a.n == b.n) = true := by rw [h.2.2.1]; simp
    cases h3 : b.above c with
    | true => exact orders_up_t a b c h1 h2 h3 (Mem.above_trans h1 h3) h.1 h.2.1 hn hq' w
    | false => exact orders_up_f a b c h1 h2 h3 h.1 h.2.1 hn hq' w
  | false =>
    cases h2 : b.above a with
    | true =>
      have h := (Mem.above_iff b a).1 h2
      have hne : a ≠ b := fun e => by rw [e, Mem.above_irrefl] at h2; cases h2
      have hq' : ∀ w, (binOp .eql 28 (memA a) (memA b)).run Try.prog w = .ok (.bool false) w := fun w => by rw [hq, decide_eq_false hne]
      exact orders_down a b c h1 h2 h.2.1 h.1 (by rw [h.2.2.1]; simp) hq' w
    | false =>
      cases ga : a.good with
      | false => exact orders_no_a _ a b c h1 h2 ga trivial hq w
      | true =>
        cases gb : b.good with
        | false => exact orders_no_b _ a b c h1 h2 ga gb trivial hq w
        | true =>
          cases hn : a.n == b.n with
          | false => exact orders_no_n _ a b c h1 h2 ga gb hn hq w
          | true =>
            have he : a = b := by
              rcases Mem.above_total ga gb (by simpa using hn) with h | h | h
              · rw [h1] at h; cases h
              · rw [h2] at h; cases h
              · exact h
            exact orders_same a b c h1 h2 ga gb hn (fun w => by rw [hq, decide_eq_true he]) w
end Go.Proofs.Ytlihhnjinakpfaa
