/- Layer 11: Push; what a call keeps of other blocks. -/
import Derived.Test.YtepnepgjlnoabaaHumE
import Derived.Test.YtepnepgjlnoabaaMixQ
import Derived.Deep.RegionHeld3
import Derived.BigQuiet
namespace Go.Proofs.Ytepnepgjlnoabaa
open Go.RowKit Go.Maps

/-- the blocks of A stand as before -/
structure Keeps (A : Nat → Prop) (w w' : World) : Prop where
  os : w'.os = w.os
  tape : w'.tape = w.tape
  output : w'.output = w.output
  size : w.heap.size ≤ w'.heap.size
  block : ∀ k, A k → k < w.heap.size → w'.heap[k]? = w.heap[k]?
section
variable {A A' : Nat → Prop} {w w' w'' : World}
theorem Keeps.refl (A : Nat → Prop) (w : World) : Keeps A w w := ⟨rfl, rfl, rfl, Nat.le_refl _, fun _ _ _ => rfl⟩
theorem Keeps.trans (h : Keeps A w w') (k : Keeps A w' w'') : Keeps A w w'' :=
  ⟨k.os.trans h.os, k.tape.trans h.tape, k.output.trans h.output, Nat.le_trans h.size k.size, fun i hA hi => (k.block i hA (Nat.lt_of_lt_of_le hi h.size)).trans (h.block i hA hi)⟩
theorem Keeps.ofBelow (h : Below w.heap.size w w') : Keeps A w w' := ⟨h.os, h.tape, h.output, h.size, fun i _ hi => h.block i hi⟩
theorem Keeps.ofGrown {b : Nat} (h : w.grownBy w' (some b)) (hb : ¬ A b) : Keeps A w w' := ⟨h.os, h.tape, h.output, h.size, fun i hA hi => h.block i hi (by intro e; injection e with e; subst e; exact hb hA)⟩
theorem Keeps.grown {row : Option Nat} (h : w.grownBy w' row) (hn : ∀ k, row = some k → ¬ A k) : Keeps A w w' := ⟨h.os, h.tape, h.output, h.size, fun i hA hi => h.block i hi (fun e => hn i e.symm hA)⟩
theorem Keeps.below' {B : Nat} (h : Below B w w') (hA : ∀ i, A i → i < B) : Keeps A w w' := ⟨h.os, h.tape, h.output, h.size, fun i hi _ => h.block i (hA i hi)⟩
theorem Keeps.mono (h : Keeps A w w') (hA : ∀ i, A' i → A i) : Keeps A' w w' := ⟨h.os, h.tape, h.output, h.size, fun i hi => h.block i (hA i hi)⟩
theorem Keeps.below (h : Keeps A w w') {B : Nat} (hA : ∀ i, i < B → A i) (hB : B ≤ w.heap.size) : Below B w w' := ⟨h.os, h.tape, h.output, h.size, fun i hi => h.block i (hA i hi) (Nat.lt_of_lt_of_le hi hB)⟩
theorem At.keeps {b : Nat} {t : TypeId} {cs : List Value} (h : At w b t cs) (hk : Keeps A w w') (hA : A b) : At w' b t cs := (hk.block b hA h.lt).trans h
end
def cellsM (m : Mem) : List Value := [.int .i64 m.n, .int .i64 m.i, .int .i64 m.s]
/-- the slice value holds these members -/
def MemsIn (w : World) (A : Option Addr) (l : List Mem) : Prop :=
  0 < l.length → ∃ g off, A = some ⟨g, off, none⟩ ∧ g < w.heap.size ∧ ∀ i (h : i < l.length), w.rangeAt g (off + i * 3) (cellsM l[i])
theorem MemsIn.keep {w w' : World} {A : Option Addr} {l : List Mem} (h : MemsIn w A l) (hs : w.heap.size ≤ w'.heap.size) (hk : ∀ g off, A = some ⟨g, off, none⟩ → g < w.heap.size → w'.heap[g]? = w.heap[g]?) : MemsIn w' A l := fun h0 => by
  obtain ⟨g, off, rfl, hlt, hc⟩ := h h0
  exact ⟨g, off, rfl, Nat.lt_of_lt_of_le hlt hs, fun i hi j v hv => (World.cell?_of_block (w := w) (hk g off rfl hlt)).trans (hc i hi j v hv)⟩
theorem MemsIn.below {w w' : World} {A : Option Addr} {l : List Mem} (h : MemsIn w A l) (hb : Below w.heap.size w w') : MemsIn w' A l := h.keep hb.size fun g _ _ hg => hb.block g hg
theorem MemsIn.nil {w : World} {A : Option Addr} : MemsIn w A [] := fun h => absurd h (Nat.lt_irrefl 0)
theorem MemsIn.cells {w w' : World} {A : Option Addr} {l : List Mem} (h : MemsIn w A l) (hg : ∀ g off, A = some ⟨g, off, none⟩ → g < w.heap.size → w'.heap[g]? = w.heap[g]?) {k : Nat} (hk : k < l.length) :
    ∃ g off, A = some ⟨g, off, none⟩ ∧ g < w.heap.size ∧ w'.cell? ⟨g, off + k * 3, none⟩ = some (.int .i64 l[k].n) ∧ w'.cell? ⟨g, off + k * 3 + 1, none⟩ = some (.int .i64 l[k].i) ∧ w'.cell? ⟨g, off + k * 3 + 2, none⟩ = some (.int .i64 l[k].s) := by
  obtain ⟨g, off, rfl, hlt, hc⟩ := h (by omega)
  have hb := hg g off rfl hlt
  refine ⟨g, off, rfl, hlt, ?_, ?_, ?_⟩
  · rw [World.cell?_of_block (w := w) hb]
    exact hc k hk 0 _ rfl
  · rw [World.cell?_of_block (w := w) hb]
    exact hc k hk 1 _ rfl
  · rw [World.cell?_of_block (w := w) hb]
    exact hc k hk 2 _ rfl
theorem info_mem3 : (Try.prog.info? 41).map (·.size) = some 3 := by kernel_rfl
theorem info_mem : (Try.prog.info? 41).map (fun i => (i.zero, i.size, i.bytes)) = some (some (memV Mem.zero), 3, 24) := by kernel_rfl
theorem info_memC {m : Mem} : (Try.prog.info? 41).map (·.size) = some (cellsM m).length := info_mem3
/-- the rumours alone -/
def rums (F : Int → Option (Nat × Rum)) : Hm.St := fun x => (F x).map (·.2)
theorem rums_put (F : Int → Option (Nat × Rum)) (g : Nat) (t : Int) {m : Mem} (hm : m.good = true) : rums (Sk.upd F m.n (g, ⟨m, t⟩)) = Hm.push1 t (rums F) m := by
  funext x
  unfold rums Sk.upd Hm.push1
  rw [if_pos hm]
  by_cases hx : x = m.n
  · simp [hx]
  · simp [hx]
theorem HumAt.mono {H : Type} {w : World} {p b N N' : Nat} {t : Int} {F : Int → Option (Nat × Rum)} (h : HumAt H w p b N t F) (hN : N ≤ N') : HumAt H w p b N' t F := ⟨h.hd, h.map.mono hN, h.sane, h.at_, h.inj, h.ne⟩
theorem HumAt.blt {H : Type} {w : World} {p b N : Nat} {t : Int} {F : Int → Option (Nat × Rum)} (h : HumAt H w p b N t F) : b < w.heap.size := h.map.lt
theorem HumAt.put {H : Type} {w w2 w3 : World} {p b N g : Nat} {t : Int} {F : Int → Option (Nat × Rum)} (h : HumAt H w p b N t F) {m : Mem} (hm : m.good = true) (ht : 1 ≤ t) (hb : Below w.heap.size w w2)
    (hg : At w2 g 48 (rumC ⟨m, t⟩)) (hgs : w.heap.size ≤ g) (hown : w3.ownsMap Try.prog 3 readP b (N + 1) ((Sk.mapD (H := H) ptrD fun x => (F x).map (·.1)).put (.int .i64 m.n) (ptrD g))) (hgr : w2.grownBy w3 (some b)) :
    HumAt H w3 p b (N + 1) t (Sk.upd F m.n (g, ⟨m, t⟩)) := by
  have hpl := h.hd.lt
  have hbl := h.blt
  have hn := (Mem.good_iff _).1 hm
  have hgb : g ≠ b := by omega
  refine ⟨(h.hd.below hb hpl).grown hgr (by intro e; injection e with e; exact h.ne.1 e), ?_, ?_, fun x gx r hx => ?_, fun x y gx r u hx hy => ?_, h.ne.1, fun x gx r hx => ?_⟩
  · rw [Sk.put_mapD _ g (Sk.node_mem (by omega) (by omega))] at hown
    have e : (fun x => (Sk.upd F m.n (g, (⟨m, t⟩ : Rum)) x).map (·.1)) = Sk.upd (fun x => (F x).map (·.1)) m.n g := by
      funext x
      unfold Sk.upd
      by_cases hx : x = m.n
      · simp [hx]
      · simp [hx]
    rw [e]
    exact hown
  · have := Hm.sane_push1 ht h.sane m
    rw [← show rums F = fun x => (F x).map (·.2) from rfl, ← rums_put F g t hm] at this
    exact this
  · unfold Sk.upd at hx
    split at hx
    · cases hx
      exact hg.grown hgr (by intro e; injection e with e; exact hgb e)
    · exact ((h.at_ x gx r hx).below hb (h.at_ x gx r hx).lt).grown hgr (by intro e; injection e with e; exact (h.ne.2 x gx r hx).2 e)
  · unfold Sk.upd at hx hy
    split at hx
    · rename_i e1
      split at hy
      · rename_i e2; rw [e1, e2]
      · cases hx
        have := (h.at_ y g u hy).lt
        omega
    · split at hy
      · cases hy
        have := (h.at_ x g r hx).lt
        omega
      · exact h.inj x y gx r u hx hy
  · unfold Sk.upd at hx
    split at hx
    · cases hx
      exact ⟨by omega, hgb⟩
    · exact h.ne.2 x gx r hx
/-- rumours in memory, apart from the blocks of A -/
structure HumSt (H : Type) (w : World) (A : Nat → Prop) (p b N : Nat) (t : Int) (f : Hm.St) : Prop where
  st : ∃ F, HumAt H w p b N t F ∧ rums F = f ∧ ∀ x g r, F x = some (g, r) → ¬ A g
  np : ¬ A p
  nb : ¬ A b
  lt : ∀ i, A i → i < w.heap.size
theorem HumSt.below {H : Type} {w w' : World} {A : Nat → Prop} {p b N : Nat} {t : Int} {f : Hm.St} (h : HumSt H w A p b N t f) (hb : Below w.heap.size w w') : HumSt H w' A p b N t f := by
  obtain ⟨⟨F, h1, h2, h3⟩, h4, h5, h6⟩ := h
  exact ⟨⟨F, h1.below hb, h2, h3⟩, h4, h5, fun i hi => Nat.lt_of_lt_of_le (h6 i hi) hb.size⟩
/-- more blocks stand apart: laid since -/
theorem HumSt.more {H : Type} {w w' : World} {A A' : Nat → Prop} {p b N : Nat} {t : Int} {f : Hm.St} (h : HumSt H w A p b N t f) (hb : Below w.heap.size w w') (hA : ∀ i, A' i → A i ∨ (w.heap.size ≤ i ∧ i < w'.heap.size)) : HumSt H w' A' p b N t f := by
  obtain ⟨⟨F, h1, h2, h3⟩, h4, h5, h6⟩ := h
  refine ⟨⟨F, h1.below hb, h2, fun x g r hF hg => ?_⟩, fun hp => ?_, fun hp => ?_, fun i hi => ?_⟩
  · rcases hA g hg with h | h
    · exact h3 x g r hF h
    · have := (h1.at_ x g r hF).lt; omega
  · rcases hA p hp with h | h
    · exact h4 h
    · have := h1.hd.lt; omega
  · rcases hA b hp with h | h
    · exact h5 h
    · have := h1.blt; omega
  · rcases hA i hi with h | h
    · exact Nat.lt_of_lt_of_le (h6 i h) hb.size
    · exact h.2
theorem HumSt.less {H : Type} {w : World} {A A' : Nat → Prop} {p b N : Nat} {t : Int} {f : Hm.St} (h : HumSt H w A p b N t f) (hA : ∀ i, A' i → A i) : HumSt H w A' p b N t f := by
  obtain ⟨⟨F, h1, h2, h3⟩, h4, h5, h6⟩ := h
  exact ⟨⟨F, h1, h2, fun x g r hF hg => h3 x g r hF (hA g hg)⟩, fun hp => h4 (hA p hp), fun hp => h5 (hA b hp), fun i hi => h6 i (hA i hi)⟩
theorem push_snoc (t : Int) (f : Hm.St) (l : List Mem) (k : Nat) (hk : k < l.length) : Hm.push t f (l.take (k + 1)) = Hm.push1 t (Hm.push t f (l.take k)) l[k] := by
  unfold Hm.push
  rw [take_snoc l k hk, List.foldl_append]
  rfl
theorem exec_build {P : Program} {a : Act} {o : Oper} (t : TypeId) (parts : Array (Nat × Operand)) (cells : Array Value) (ho : o.op = .build t parts) (h : P.built t (parts.map fun (i, x) => (i, a.eval x)).toList = some cells) (w : World) :
    (execOp a.eval o).run P w = .ok (.value (.agg cells)) w := by
  unfold execOp
  simp only [ho, Sem.run_bind, run_build w t _ cells h, Result.andThen_ok, Sem.run_pure]
theorem wpList_boxN {P : Program} {Q : Exit → Act → World → Prop} {ops : Array Oper} {rest : List Oper} {o : Oper} {a : Act} {w : World} (hg : o.guard = none) (t : TypeId) (x : Operand) (ho : o.op = .box t x) (cells : Array Value) (hx : (a.eval x).cells = cells)
    (h : wpList P ops Q rest (a.put o.dst (.pointer (some ⟨w.heap.size, 0, none⟩))) (w.alloc (.cells cells t))) : wpList P ops Q (o :: rest) a w := by
  subst hx
  refine wpList_plain hg fun K hK => ?_
  unfold Oper.wp execOp
  simp only [ho, Sem.run_bind, Instr.box, newVar, newRow, run_newObj_alloc, Sem.run_pure, Result.andThen_ok]
  exact hK _ _ h
theorem built_rum (m : Mem) (t : Int) : Try.prog.built 48 [(0, memV m), (1, .int .i64 t)] = some (rumC ⟨m, t⟩).toArray := by kernel_rfl
theorem exec_nil {P : Program} {a : Act} {o : Oper} (x : Operand) (ho : o.op = .nilCheck x) (g off : Nat) (hx : a.eval x = .pointer (some ⟨g, off, none⟩)) (w : World) : (execOp a.eval o).run P w = .ok (.value (.pointer (some ⟨g, off, none⟩))) w := by
  unfold execOp
  simp only [ho, hx, Sem.run_pure]
theorem run_load_map {P : Program} {ty : TypeId} {k e : TypeId} (hu : P.underlying ty = some (.map k e)) {w : World} {b off : Nat} {v : Value} (hc : w.cell? ⟨b, off, none⟩ = some v) :
    (Instr.loadAt ty (.pointer (some ⟨b, off, none⟩))).run P w = .ok v w := by
  simp [Instr.loadAt, Instr.sureAddr, loadVar, isAgg, run_underlying hu, hc]
theorem wpQuiet_loadM {P : Program} {ops : Array Oper} {C : World → Prop} {Q : Act → Prop} {a : Act} {o : Oper} {rest : List Oper} (v : Value) (hw : Region.wanted o (yielded ops a.tmps) = true) (ty k e : TypeId) (x : Operand) (ho : o.op = .load ty x) (hu : P.underlying ty = some (.map k e)) (b off : Nat) (hx : a.eval x = .pointer (some ⟨b, off, none⟩))
    (hS : ∀ w, C w → w.cell? ⟨b, off, none⟩ = some v) (h : wpQuiet P ops C Q rest (a.put o.dst v)) : wpQuiet P ops C Q (o :: rest) a :=
  wpQuiet_val v hw (fun w hC => by
    unfold execOp
    simp only [ho, hx, Sem.run_bind, Sem.run_pure, run_load_map hu (hS w hC), Result.andThen_ok]) h
theorem wpMix_mapUpdate {H : Type} {P : Program} {ops : Array Oper} {Q : Exit → Act → World → Prop} {S : World → Prop} {i : Nat} {a : Act} {w : World} {o : Oper} {r : List (Nat × Bool)} (hoi : ops.toList[i]? = some o) (hw : Region.wanted o (yielded ops a.tmps) = true) (m x v : Operand) (t : TypeId) (hop : o.op = Op.mapUpdate t m x v)
    (k e : TypeId) (K : Keyed P k) (ht : P.underlying t = some (.map k e)) (R : Value → Option (DataW H × List MemPlace)) (b n : Nat) (D : DataW H)
    (hm : a.eval m = .map (some b)) (hown : w.ownsMap P k R b n D) (hn : n < maxLen) (key val : Value) (kl : Lit) (hx : a.eval x = key) (hv : a.eval v = val) (hkey : keyOf P k key = some kl)
    (d : DataW H) (ps : List MemPlace) (hval : R val = some (d, ps)) (hS : ∀ w', w.grownBy w' (some b) → S w')
    (h : ∀ w', w'.ownsMap P k R b (n + 1) (D.put kl d) → w.grownBy w' (some b) → wpMix P ops S Q r (a.put o.dst undef) w') : wpMix P ops S Q ((i, false) :: r) a w :=
  wpMix_step hoi hw fun K' hK' => by
    obtain ⟨w', hrun, r1, r2⟩ := hown.update K ht hn hkey hval
    unfold Oper.wp
    simp [execOp, hop, hm, hx, hv, hrun, Result.andThen]
    exact hK' _ _ (hS _ r2) (h w' r1 r2)
theorem exec_box {P : Program} {a : Act} {o : Oper} {w : World} (t : TypeId) (x : Operand) (ho : o.op = .box t x) (cells : Array Value) (hx : (a.eval x).cells = cells) : (execOp a.eval o).run P w = .ok (.value (.pointer (some ⟨w.heap.size, 0, none⟩))) (w.alloc (.cells cells t)) := by
  subst hx
  unfold execOp
  simp only [ho, Sem.run_bind, Instr.box, newVar, newRow, run_newObj_alloc, Sem.run_pure, Result.andThen_ok]
/-- what Push's last region reads -/
def PushS (p b q : Nat) (t : Int) (m : Mem) (w : World) : Prop := At w p 51 [.int .i64 t, .map (some b)] ∧ At w q 41 (cellsM m)
theorem PushS.range {p b q : Nat} {t : Int} {m : Mem} {w : World} (h : PushS p b q t m w) : w.rangeAt q 0 (cellsM m) := fun j v hv => by
  rw [Nat.zero_add]
  exact h.2.cell' hv
theorem PushS.map_ {p b q : Nat} {t : Int} {m : Mem} {w : World} (h : PushS p b q t m w) : w.cell? ⟨p, 1, none⟩ = some (.map (some b)) := h.1.cell' rfl
theorem PushS.times {p b q : Nat} {t : Int} {m : Mem} {w : World} (h : PushS p b q t m w) : w.cell? ⟨p, 0, none⟩ = some (.int .i64 t) := h.1.cell' rfl
theorem PushS.node {p b q : Nat} {t : Int} {m : Mem} {w : World} (h : PushS p b q t m w) : w.cell? ⟨q, 0, none⟩ = some (.int .i64 m.n) := h.2.cell' rfl
theorem push_none (v : Value) (w : World) : Calls Try.prog 9 #[.pointer none, v] w fun e w' => e = .returned (.tuple #[]) ∧ w' = w := by
  go_enter Try.func9, Try.ntmps9
  go_wp2_with fail
  exact bodyPost_ret (results_none (by kernel_rfl) _ _ _) (by with_unfolding_all rfl) ⟨rfl, rfl⟩
set_option maxRecDepth 100000 in
set_option maxHeartbeats 4000000 in
theorem push_any {H : Type} {w : World} {S : Nat → Prop} {p b N : Nat} {t : Int} {f : Hm.St} (h : HumSt H w S p b N t f) (ht : 1 ≤ t) (A : Option Addr) (c : Nat) (l : List Mem) (hl : MemsIn w A l) (hA : ∀ g off, 0 < l.length → A = some ⟨g, off, none⟩ → g ≠ b) (hN : N + l.length < 1099511627776) :
    Calls Try.prog 9 #[.pointer (some ⟨p, 0, none⟩), .slice A l.length c] w fun e w' => e = .returned (.tuple #[]) ∧ HumSt H w' S p b (N + l.length) t (Hm.push t f l) ∧ w.grownBy w' (some b) := by
  have HV := Lib.hid h
  have HL := Lib.hid hl
  have HA := Lib.hid hA
  have HT := Lib.hid ht
  clear h hl hA ht
  go_enter Try.func9, Try.ntmps9
  go_wp2_with fail
  go_loopw [10] (fun i wr => ∃ k : Nat, k ≤ l.length ∧ i = .int .i64 k ∧ HumSt H wr S p b (N + k) t (Hm.push t f (l.take k)) ∧ w.grownBy wr (some b)) (fun i _ => l.length - (RowKit.intOf i).toNat)
  case atStart => exact ⟨0, by omega, rfl, HV.out, World.grownBy.refl w _⟩
  case round =>
    obtain ⟨k, hk, rfl, hV, hg⟩ := hrel
    by_cases hlt : k < l.length
    · obtain ⟨g, off, rfl, hgl, c0, c1, c2⟩ := HL.out.cells (w' := wr) (fun g off e hlt' => hg.block g hlt' (by intro e2; injection e2 with e2; exact HA.out g off (by omega) e e2)) hlt
      obtain ⟨m, hm⟩ : ∃ m, m = l[k] := ⟨_, rfl⟩
      rw [← hm] at c0 c1 c2
      have HM := Lib.hid hm
      obtain ⟨F, hF, hFf, hFn⟩ := hV.st
      have HV2 := Lib.hid hV
      have HG := Lib.hid hg
      have HF := Lib.hid hF
      have HFf := Lib.hid hFf
      have HFn := Lib.hid hFn
      clear hm hV hg hF hFf hFn
      have i1 : (0 : Int) ≤ (k : Int) := by omega
      have i2 : (k : Int) < (l.length : Int) := by omega
      obtain ⟨w5, hw5⟩ : ∃ w5, w5 = wr.alloc (.cells #[.int .i64 m.n, .int .i64 m.i, .int .i64 m.s] 41) := ⟨_, rfl⟩
      have HA5 := Lib.hid (show At w5 wr.heap.size 41 (cellsM m) by rw [hw5]; exact memAt wr m)
      have HB5 := Lib.hid (show Below wr.heap.size wr w5 by rw [hw5]; exact (Below.refl _ _).alloc (Nat.le_refl _) _)
      have HW5 := Lib.hid hw5
      clear hw5
      go_wp2_with fail
      rw [← HW5.out]
      obtain ⟨gd, hgd⟩ : ∃ gd, m.good = gd := ⟨_, rfl⟩
      have HGD := Lib.hid hgd
      clear hgd c0 c1 c2
      refine (good_at m gd HGD.out w5).mono ?_
      rintro e w7 ⟨rfl, hb7⟩
      have HB7 := Lib.hid (HB5.out.trans (hb7.mono HB5.out.size))
      have HA7 := Lib.hid (HA5.out.below hb7 HA5.out.lt)
      clear hb7 HA5 HB5 HW5
      cases gd
      · go_wp2_with fail
        go_roundw
        case rel =>
          refine ⟨k + 1, by omega, by go_num, ?_, grown_below HG.out HB7.out⟩
          have h := HV2.out.below HB7.out
          rw [push_snoc t f l k hlt, ← HM.out]
          unfold Hm.push1
          rw [HGD.out]
          simp only [Bool.false_eq_true, if_false]
          obtain ⟨⟨F, h1, h2, h3⟩, h4, h5, h6⟩ := h
          exact ⟨⟨F, h1.mono (by omega), h2, h3⟩, h4, h5, h6⟩
        case measure => simp [RowKit.intOf]; omega
      · have HF7 := Lib.hid (HF.out.below HB7.out)
        have hpw := HF7.out.hd.lt
        have hbw := HF7.out.blt
        have hqb : wr.heap.size ≠ b := by have := HF.out.blt; omega
        have hpb := HF7.out.ne.1
        go_wp2_with fail
        refine wp_region_mix [(0, true), (4, true), (5, true), (6, true), (7, true), (1, true), (2, true), (3, true), (8, true), (9, true), (10, true), (11, true), (12, false), (13, false)] (PushS p b wr.heap.size t m)
          (by kernel_rfl) (by kernel_rfl) (fun _ _ d _ _ h => by cases d <;> exact h) (by kernel_rfl) (by decide) ⟨HF7.out.hd, HA7.out⟩ ?_
        iterate 5 (
          refine wpMix_q (by with_unfolding_all rfl) (by kernel_rfl) ?_
          first
            | go_big_quiet_skip
            | ((with_reducible refine wpQuiet_loadM (.map (some b)) (by with_unfolding_all rfl) 49 _ _ _ (by with_unfolding_all rfl) Try.underlying49 p 1 (by with_unfolding_all rfl) (fun w h => PushS.map_ h) ?_); simp only [Act.put, List.setIfInBounds_toArray, List.set_cons_zero, List.set_cons_succ])
            | ((with_reducible refine wpQuiet_load1 (.int .i64 m.n) (by with_unfolding_all rfl) 3 _ (by with_unfolding_all rfl) .i64 Try.underlying3 wr.heap.size 0 (by with_unfolding_all rfl) (fun w h => PushS.node h) ?_); simp only [Act.put, List.setIfInBounds_toArray, List.set_cons_zero, List.set_cons_succ])
            | ((with_reducible refine wpQuiet_load1 (.int .i64 t) (by with_unfolding_all rfl) 3 _ (by with_unfolding_all rfl) .i64 Try.underlying3 p 0 (by with_unfolding_all rfl) (fun w h => PushS.times h) ?_); simp only [Act.put, List.setIfInBounds_toArray, List.set_cons_zero, List.set_cons_succ])
            | ((with_reducible refine wpQuiet_loadAll (by with_unfolding_all rfl) 41 (.tmp 5) (by with_unfolding_all rfl) wr.heap.size 0 (by with_unfolding_all rfl) (cellsM m) _ (fun w h => PushS.range h) Try.underlying41 (by with_unfolding_all rfl) info_memC ?_); simp only [Act.put, List.setIfInBounds_toArray, List.set_cons_zero, List.set_cons_succ])
            | (go_big_quiet_step (exact fun _ => rfl))
          refine wpMix_qnil ?_)
        refine wpMix_val (.pointer (some ⟨p, 0, none⟩)) (by with_unfolding_all rfl) (by with_unfolding_all rfl) (fun w _ => exec_nil _ (by with_unfolding_all rfl) p 0 (by with_unfolding_all rfl) w) ?_
        simp only [Act.put, List.setIfInBounds_toArray, List.set_cons_zero, List.set_cons_succ]
        iterate 2 (
          refine wpMix_q (by with_unfolding_all rfl) (by kernel_rfl) ?_
          first
            | go_big_quiet_skip
            | ((with_reducible refine wpQuiet_loadM (.map (some b)) (by with_unfolding_all rfl) 49 _ _ _ (by with_unfolding_all rfl) Try.underlying49 p 1 (by with_unfolding_all rfl) (fun w h => PushS.map_ h) ?_); simp only [Act.put, List.setIfInBounds_toArray, List.set_cons_zero, List.set_cons_succ])
            | ((with_reducible refine wpQuiet_load1 (.int .i64 m.n) (by with_unfolding_all rfl) 3 _ (by with_unfolding_all rfl) .i64 Try.underlying3 wr.heap.size 0 (by with_unfolding_all rfl) (fun w h => PushS.node h) ?_); simp only [Act.put, List.setIfInBounds_toArray, List.set_cons_zero, List.set_cons_succ])
            | ((with_reducible refine wpQuiet_load1 (.int .i64 t) (by with_unfolding_all rfl) 3 _ (by with_unfolding_all rfl) .i64 Try.underlying3 p 0 (by with_unfolding_all rfl) (fun w h => PushS.times h) ?_); simp only [Act.put, List.setIfInBounds_toArray, List.set_cons_zero, List.set_cons_succ])
            | ((with_reducible refine wpQuiet_loadAll (by with_unfolding_all rfl) 41 (.tmp 5) (by with_unfolding_all rfl) wr.heap.size 0 (by with_unfolding_all rfl) (cellsM m) _ (fun w h => PushS.range h) Try.underlying41 (by with_unfolding_all rfl) info_memC ?_); simp only [Act.put, List.setIfInBounds_toArray, List.set_cons_zero, List.set_cons_succ])
            | (go_big_quiet_step (exact fun _ => rfl))
          refine wpMix_qnil ?_)
        refine wpMix_val (.pointer (some ⟨p, 0, none⟩)) (by with_unfolding_all rfl) (by with_unfolding_all rfl) (fun w _ => exec_nil _ (by with_unfolding_all rfl) p 0 (by with_unfolding_all rfl) w) ?_
        simp only [Act.put, List.setIfInBounds_toArray, List.set_cons_zero, List.set_cons_succ]
        iterate 2 (
          refine wpMix_q (by with_unfolding_all rfl) (by kernel_rfl) ?_
          first
            | go_big_quiet_skip
            | ((with_reducible refine wpQuiet_loadM (.map (some b)) (by with_unfolding_all rfl) 49 _ _ _ (by with_unfolding_all rfl) Try.underlying49 p 1 (by with_unfolding_all rfl) (fun w h => PushS.map_ h) ?_); simp only [Act.put, List.setIfInBounds_toArray, List.set_cons_zero, List.set_cons_succ])
            | ((with_reducible refine wpQuiet_load1 (.int .i64 m.n) (by with_unfolding_all rfl) 3 _ (by with_unfolding_all rfl) .i64 Try.underlying3 wr.heap.size 0 (by with_unfolding_all rfl) (fun w h => PushS.node h) ?_); simp only [Act.put, List.setIfInBounds_toArray, List.set_cons_zero, List.set_cons_succ])
            | ((with_reducible refine wpQuiet_load1 (.int .i64 t) (by with_unfolding_all rfl) 3 _ (by with_unfolding_all rfl) .i64 Try.underlying3 p 0 (by with_unfolding_all rfl) (fun w h => PushS.times h) ?_); simp only [Act.put, List.setIfInBounds_toArray, List.set_cons_zero, List.set_cons_succ])
            | ((with_reducible refine wpQuiet_loadAll (by with_unfolding_all rfl) 41 (.tmp 5) (by with_unfolding_all rfl) wr.heap.size 0 (by with_unfolding_all rfl) (cellsM m) _ (fun w h => PushS.range h) Try.underlying41 (by with_unfolding_all rfl) info_memC ?_); simp only [Act.put, List.setIfInBounds_toArray, List.set_cons_zero, List.set_cons_succ])
            | (go_big_quiet_step (exact fun _ => rfl))
          refine wpMix_qnil ?_)
        refine wpMix_val (.agg (rumC ⟨m, t⟩).toArray) (by with_unfolding_all rfl) (by with_unfolding_all rfl) (fun w' _ => exec_build 48 #[(0, .tmp 22), (1, .tmp 26)] _ (by with_unfolding_all rfl) (by simp only [List.map_toArray, List.map_cons, List.map_nil]; with_unfolding_all exact built_rum m t) w') ?_
        simp only [Act.put, List.setIfInBounds_toArray, List.set_cons_zero, List.set_cons_succ]
        have hB8 : Below w7.heap.size w7 (w7.drew.alloc (.cells (rumC ⟨m, t⟩).toArray 48)) := (Below.refl _ _).drew.alloc (Nat.le_refl _) _
        have hA8 : At (w7.drew.alloc (.cells (rumC ⟨m, t⟩).toArray 48)) w7.drew.heap.size 48 (rumC ⟨m, t⟩) := At.newA _ _ rfl
        have hS8 : PushS p b wr.heap.size t m (w7.drew.alloc (.cells (rumC ⟨m, t⟩).toArray 48)) := ⟨HF7.out.hd.below hB8 hpw, HA7.out.below hB8 HA7.out.lt⟩
        refine wpMix_put (.pointer (some ⟨w7.drew.heap.size, 0, none⟩)) (w7.drew.alloc (.cells (rumC ⟨m, t⟩).toArray 48)) (by with_unfolding_all rfl) (by with_unfolding_all rfl) (exec_box 48 (.tmp 27) (by with_unfolding_all rfl) _ (by with_unfolding_all rfl)) hS8 ?_
        simp only [Act.put, List.setIfInBounds_toArray, List.set_cons_zero, List.set_cons_succ]
        obtain ⟨gq, hgq⟩ : ∃ gq, gq = w7.drew.heap.size := ⟨_, rfl⟩
        have hgq2 : gq = w7.heap.size := hgq
        rw [← hgq] at hA8 ⊢
        clear hgq
        generalize w7.drew.alloc (.cells (rumC ⟨m, t⟩).toArray 48) = w8 at hB8 hA8 hS8 ⊢
        have hF8 := HF7.out.below hB8
        have hn := (Mem.good_iff m).1 HGD.out
        have hNk : N + k < maxLen := by unfold maxLen; omega
        refine wpMix_mapUpdate (H := H) (by with_unfolding_all rfl) (by with_unfolding_all rfl) (.tmp 19) (.tmp 21) (.tmp 28) 49 (by with_unfolding_all rfl) 3 55 hum_keyed Try.underlying49 readP b (N + k) (Sk.mapD ptrD fun x => (F x).map (·.1)) (by with_unfolding_all rfl) hF8.map hNk (.int .i64 m.n) (ptrV gq) (.int .i64 m.n) (by with_unfolding_all rfl) (by with_unfolding_all rfl) (hum_key (by omega) (by omega)) (ptrD gq) [] (readP_ptr gq) (fun w' hg => ⟨hS8.1.grown hg (by intro e; injection e with e; exact hpb e), hS8.2.grown hg (by intro e; injection e with e; exact hqb e)⟩) ?_
        intro w9 hown hg9
        simp only [Act.put]
        refine wpMix_nil ?_
        have hs7 := HB7.out.size
        have hP := HF7.out.put HGD.out HT.out hB8 hA8 (by omega) hown hg9
        have HP := Lib.hid hP
        have HG9 := Lib.hid ((grown_below HG.out (HB7.out.trans (hB8.mono HB7.out.size))).trans hg9)
        have HGq := Lib.hid (And.intro hgq2 (Nat.le_trans HB7.out.size (Nat.le_trans hB8.size hg9.size)))
        clear hP hown hg9 hF8 hA8 hB8 hS8 hn hNk hgq2 hs7 hpw hbw hqb hpb
        go_wp2_with fail
        go_roundw
        case rel =>
          refine ⟨k + 1, by omega, by go_num, ⟨⟨_, HP.out.mono (by omega), ?_, ?_⟩, HV2.out.np, HV2.out.nb, fun i hi => Nat.lt_of_lt_of_le (HV2.out.lt i hi) ?_⟩, HG9.out⟩
          · rw [rums_put _ _ _ HGD.out, push_snoc t f l k hlt, ← HM.out, HFf.out]
          · intro x gx r hx hs
            unfold Sk.upd at hx
            split at hx
            · cases hx
              have h1 := HV2.out.lt _ hs
              have h2 := HB7.out.size
              have h3 := HGq.out.1
              omega
            · exact HFn.out x gx r hx hs
          · exact HGq.out.2
        case measure => simp [RowKit.intOf]; omega
    · have hkl : k = l.length := by omega
      subst hkl
      rw [List.take_length] at hV
      have HV3 := Lib.hid hV
      have HG3 := Lib.hid hg
      clear hV hg
      go_wp2_with fail
      go_end0
      exact ⟨rfl, HV3.out, HG3.out⟩
end Go.Proofs.Ytepnepgjlnoabaa
