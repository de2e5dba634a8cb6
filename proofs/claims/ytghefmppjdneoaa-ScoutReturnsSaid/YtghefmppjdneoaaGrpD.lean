/- Layer 12, the texts MixT to HumH joined: what the functions that a scout reaches do with memory, each told once. -/
import Derived.Test.YtghefmppjdneoaaGrpC
import Derived.BigQuiet
import Derived.Deep.RegionHeld3
import Derived.Ground.SlsfProg
import Derived.Shelf.SlSortCmp.Insertion1
import Derived.Lib.OwnBridge
namespace Go.Proofs.Ytghefmppjdneoaa
open Go.RowKit

/-- which operation comes next: a quiet one; one alone; either of two -/
inductive Sched where
  | done : Sched
  | quiet : Nat → Sched → Sched
  | one : Nat → Sched → Sched
  | two : Nat → Sched → Nat → Sched → Sched
  | three : Nat → Sched → Nat → Sched → Nat → Sched → Sched
namespace Sched
def len : Sched → Nat
  | done => 0
  | quiet _ s => s.len + 1
  | one _ s => s.len + 1
  | two _ s _ t => max s.len t.len + 1
  | three _ s _ t _ u => max s.len (max t.len u.len) + 1
/-- the operations one behind the other: (index, quiet) -/
def row : List (Nat × Bool) → Sched → Sched
  | [], s => s
  | (i, true) :: r, s => quiet i (row r s)
  | (i, false) :: r, s => one i (row r s)
def ok (md : Region.Mode) (ops : Array Oper) : Sched → Array Bool → Bool
  | done, L => (Region.ready md ops L).isEmpty
  | quiet i s, L => Region.free md ops L i && (Region.ready md ops L).contains i && ok md ops s (L.setIfInBounds i true)
  | one i s, L => (Region.ready md ops L == [i]) && ok md ops s (L.setIfInBounds i true)
  | two i s j t, L => (Region.ready md ops L == [i, j]) && ok md ops s (L.setIfInBounds i true) && ok md ops t (L.setIfInBounds j true)
  | three i s j t k u, L => (Region.ready md ops L == [i, j, k]) && ok md ops s (L.setIfInBounds i true) && ok md ops t (L.setIfInBounds j true) && ok md ops u (L.setIfInBounds k true)
end Sched
section
variable {P : Program} {ops : Array Oper} {Q : Exit → Act → World → Prop} {S : World → Prop}
def turnT (P : Program) (ops : Array Oper) (S : World → Prop) (Q : Exit → Act → World → Prop) (W : Act → World → Prop) (i : Nat) (a : Act) (w : World) : Prop :=
  ∃ o, ops[i]? = some o ∧ ∀ K : Act → World → Prop, (∀ a w, S w → W a w → K a w) → if Region.wanted o (yielded ops a.tmps) then o.wp P a w K Q else K (a.put o.dst undef) w
def wpT (P : Program) (ops : Array Oper) (S : World → Prop) (Q : Exit → Act → World → Prop) : Sched → Act → World → Prop
  | .done, a, w => Q .normal a w
  | .quiet i s, a, w => ∃ o v, ops[i]? = some o ∧ YieldsIf P ops S o v a ∧ wpT P ops S Q s (a.put o.dst v) w
  | .one i s, a, w => turnT P ops S Q (wpT P ops S Q s) i a w
  | .two i s j t, a, w => turnT P ops S Q (wpT P ops S Q s) i a w ∧ turnT P ops S Q (wpT P ops S Q t) j a w
  | .three i s j t k u, a, w => turnT P ops S Q (wpT P ops S Q s) i a w ∧ turnT P ops S Q (wpT P ops S Q t) j a w ∧ turnT P ops S Q (wpT P ops S Q u) k a w
theorem wpAnyH_of_tree {md : Region.Mode} (hs : Region.noSelect ops = true) (hQ : ∀ c a d v w, Q (.panic c) (Act.put a d v) w → Q (.panic c) a w) : ∀ (s : Sched) (fuel : Nat) (L : Array Bool) (a : Act) (w : World),
    s.ok md ops L = true → s.len ≤ fuel → S w → wpT P ops S Q s a w → wpAnyH P md ops Q S fuel L a w
  | .done, fuel, L, a, w, hm, _, _, h => wpAnyH_done (by simpa [Sched.ok, List.isEmpty_iff] using hm) h fuel
  | .quiet i s, 0, L, a, w, _, hf, _, _ => absurd hf (by simp [Sched.len])
  | .one i s, 0, L, a, w, _, hf, _, _ => absurd hf (by simp [Sched.len])
  | .two i s j t, 0, L, a, w, _, hf, _, _ => absurd hf (by simp [Sched.len])
  | .three i s j t k u, 0, L, a, w, _, hf, _, _ => absurd hf (by simp [Sched.len])
  | .quiet i s, fuel + 1, L, a, w, hm, hf, hS, h => by
    obtain ⟨o, v, ho, hy, hr⟩ := h
    simp only [Sched.ok, Bool.and_eq_true] at hm
    exact wpAnyH_take ho hs hm.1.1 hm.1.2 (fun c a w h => hQ c a _ _ w h) hy hS (wpAnyH_of_tree hs hQ s fuel _ _ _ hm.2 (by simpa [Sched.len] using hf) hS hr)
  | .one i s, fuel + 1, L, a, w, hm, hf, hS, h => by
    obtain ⟨o, ho, hr⟩ := h
    simp only [Sched.ok, Bool.and_eq_true, beq_iff_eq] at hm
    refine wpAnyH_ready (rs := [i]) hm.1 (by simp) (AllReadyH.cons ho (fun K hK => ?_) AllReadyH.nil)
    exact hr K (fun a' w' hS' h' => hK.out a' w' hS' (fun hS' => wpAnyH_of_tree hs hQ s fuel _ _ _ hm.2 (by simpa [Sched.len] using hf) hS' h'))
  | .two i s j t, fuel + 1, L, a, w, hm, hf, hS, h => by
    obtain ⟨⟨o, ho, hr⟩, o2, ho2, hr2⟩ := h
    simp only [Sched.ok, Bool.and_eq_true, beq_iff_eq] at hm
    simp only [Sched.len] at hf
    refine wpAnyH_ready (rs := [i, j]) hm.1.1 (by simp) (AllReadyH.cons ho (fun K hK => ?_) (AllReadyH.cons ho2 (fun K hK => ?_) AllReadyH.nil))
    · exact hr K (fun a' w' hS' h' => hK.out a' w' hS' (fun hS' => wpAnyH_of_tree hs hQ s fuel _ _ _ hm.1.2 (by omega) hS' h'))
    · exact hr2 K (fun a' w' hS' h' => hK.out a' w' hS' (fun hS' => wpAnyH_of_tree hs hQ t fuel _ _ _ hm.2 (by omega) hS' h'))
  | .three i s j t k u, fuel + 1, L, a, w, hm, hf, hS, h => by
    obtain ⟨⟨o, ho, hr⟩, ⟨o2, ho2, hr2⟩, o3, ho3, hr3⟩ := h
    simp only [Sched.ok, Bool.and_eq_true, beq_iff_eq] at hm
    simp only [Sched.len] at hf
    refine wpAnyH_ready (rs := [i, j, k]) hm.1.1.1 (by simp) (AllReadyH.cons ho (fun K hK => ?_) (AllReadyH.cons ho2 (fun K hK => ?_) (AllReadyH.cons ho3 (fun K hK => ?_) AllReadyH.nil)))
    · exact hr K (fun a' w' hS' h' => hK.out a' w' hS' (fun hS' => wpAnyH_of_tree hs hQ s fuel _ _ _ hm.1.1.2 (by omega) hS' h'))
    · exact hr2 K (fun a' w' hS' h' => hK.out a' w' hS' (fun hS' => wpAnyH_of_tree hs hQ t fuel _ _ _ hm.1.2 (by omega) hS' h'))
    · exact hr3 K (fun a' w' hS' h' => hK.out a' w' hS' (fun hS' => wpAnyH_of_tree hs hQ u fuel _ _ _ hm.2 (by omega) hS' h'))
theorem wp_region_tree {id : Nat} {a : Act} {w : World} (s : Sched) (S : World → Prop) (hm : P.follows .mixedOrders = true) (hs : Region.noSelect ops = true) (hQ : ∀ c a d v w, Q (.panic c) (Act.put a d v) w → Q (.panic c) a w)
    (ho : s.ok .any ops (Array.replicate ops.size false) = true) (hl : s.len ≤ ops.size) (hS : S w.drew) (h : wpT P ops S Q s a w.drew) : (Code.region id ops true).wp P Q a w :=
  wp_region_held_drew (S := S) hm hS (fun _ => wpAnyH_of_tree hs hQ s _ _ _ _ ho hl hS h)
variable {i : Nat} {s : Sched} {a : Act} {w : World} {o : Oper} {W : Act → World → Prop}
theorem wpT_done (h : Q .normal a w) : wpT P ops S Q .done a w := h
/-- quiet operations -/
theorem wpT_val (v : Value) (ho : ops.toList[i]? = some o) (hw : Region.wanted o (yielded ops a.tmps) = true) (hv : ∀ w, S w → (execOp a.eval o).run P w = .ok (.value v) w) (h : wpT P ops S Q s (a.put o.dst v) w) : wpT P ops S Q (.quiet i s) a w :=
  ⟨o, v, nth ho, .inl ⟨hw, hv⟩, h⟩
theorem wpT_not (ho : ops.toList[i]? = some o) (hw : Region.wanted o (yielded ops a.tmps) = false) (h : wpT P ops S Q s (a.put o.dst undef) w) : wpT P ops S Q (.quiet i s) a w :=
  ⟨o, undef, nth ho, .inr ⟨hw, rfl⟩, h⟩
theorem wpT_loadAll (ho : ops.toList[i]? = some o) (hw : Region.wanted o (yielded ops a.tmps) = true) (ty : TypeId) (x : Operand) (hop : o.op = .load ty x) (b off : Nat) (hx : a.eval x = .pointer (some ⟨b, off, none⟩)) (cs : List Value) (d : TypeDesc)
    (hS : ∀ w, S w → w.rangeAt b off cs) (hu : P.underlying ty = some d) (hd : d.isRow = true) (hi : (P.info? ty).map (·.size) = some cs.length)
    (h : wpT P ops S Q s (a.put o.dst (.agg cs.toArray)) w) : wpT P ops S Q (.quiet i s) a w :=
  ⟨o, _, nth ho, yieldsIf_load_mid hw ty x hop b off hx cs d hS hu hd hi, h⟩
theorem wpT_load1 (v : Value) (ho : ops.toList[i]? = some o) (hw : Region.wanted o (yielded ops a.tmps) = true) (ty : TypeId) (x : Operand) (hop : o.op = .load ty x) (k : IntKind) (hu : P.underlying ty = some (.int k)) (b off : Nat) (hx : a.eval x = .pointer (some ⟨b, off, none⟩))
    (hS : ∀ w, S w → w.cell? ⟨b, off, none⟩ = some v) (h : wpT P ops S Q s (a.put o.dst v) w) : wpT P ops S Q (.quiet i s) a w :=
  wpT_val v ho hw (fun w hC => by
    unfold execOp
    simp only [hop, hx, Sem.run_bind, Sem.run_pure, run_load_int hu (hS w hC), Result.andThen_ok]) h
theorem wpT_bin (ho : ops.toList[i]? = some o) (hw : Region.wanted o (yielded ops a.tmps) = true) (op : BinOp) (ty : TypeId) (x y : Operand) (yt : TypeId) (hop : o.op = .binOp op ty x y yt) (vx vy v : Value) (hx : a.eval x = vx) (hy : a.eval y = vy)
    (hg : ∀ w, (eqGuard op ty x y vx vy).run P w = .ok () w) (hb : ∀ w, (binOp op ty vx vy).run P w = .ok v w) (h : wpT P ops S Q s (a.put o.dst v) w) : wpT P ops S Q (.quiet i s) a w :=
  wpT_val v ho hw (fun w _ => by
    unfold execOp
    simp only [hop, hx, hy, Sem.run_bind, Sem.run_pure, hg, Result.andThen_ok, hb]) h
/-- operations that come up by themselves -/
theorem turn_step (ho : ops.toList[i]? = some o) (hw : Region.wanted o (yielded ops a.tmps) = true) (h : ∀ K : Act → World → Prop, (∀ a w, S w → W a w → K a w) → o.wp P a w K Q) : turnT P ops S Q W i a w :=
  ⟨o, nth ho, fun K hK => by rw [if_pos hw]; exact h K hK⟩
theorem turn_skip (ho : ops.toList[i]? = some o) (hw : Region.wanted o (yielded ops a.tmps) = false) (hS : S w) (h : W (a.put o.dst undef) w) : turnT P ops S Q W i a w :=
  ⟨o, nth ho, fun K hK => by rw [if_neg (by rw [hw]; simp)]; exact hK _ _ hS h⟩
theorem turn_put (v : Value) (w' : World) (ho : ops.toList[i]? = some o) (hw : Region.wanted o (yielded ops a.tmps) = true) (hv : (execOp a.eval o).run P w = .ok (.value v) w') (hS : S w') (h : W (a.put o.dst v) w') : turnT P ops S Q W i a w :=
  turn_step ho hw fun K hK => by
    unfold Oper.wp
    rw [hv]
    exact hK _ _ hS h
theorem turn_call (f : FuncId) (args : List Value) (R : Value → World → Prop) (ho : ops.toList[i]? = some o) (hw : Region.wanted o (yielded ops a.tmps) = true) (hv : (execOp a.eval o).run P w = .ok (.enter f args.toArray) w)
    (hc : Calls P f args.toArray w fun e w' => ∃ v, e = .returned v ∧ S w' ∧ R v w') (h : ∀ v w', S w' → R v w' → W (a.put o.dst v) w') : turnT P ops S Q W i a w :=
  turn_step ho hw fun K hK => by
    unfold Oper.wp
    rw [hv]
    exact hc.mono fun e w' ⟨v, he, hS, hR⟩ => by
      subst he
      exact hK _ _ hS (h v w' hS hR)
end
end Go.Proofs.Ytghefmppjdneoaa

namespace Go.Proofs.Ytghefmppjdneoaa
open Go.RowKit

/-- operations that yield a value and enter nothing -/
def plainOp (o : Oper) : Bool :=
  match o.op with
  | .move _ | .assign _ | .pick _ _ _ | .load _ _ | .binOp _ _ _ _ _ | .unOp _ _ _ | .convert _ _ _ | .fieldAddr _ _ _ | .field _ _ _ | .indexAddr _ _ _ | .index _ _ _ | .slice _ _ _ _ _ | .lookup _ _ _ _ | .extract _ _ | .build _ _ => true
  | .call c => match c.callee with
    | .builtin .len | .builtin .cap | .builtin .min | .builtin .max => true
    | _ => false
  | _ => false
theorem run_value {P : Program} {s : Sem Value} {w w' : World} {n : Next} (h : (do pure (Next.value (← s)) : Sem Next).run P w = .ok n w') : ∃ v, n = .value v := by
  rw [Sem.run_bind] at h
  cases hs : s.run P w with
  | ok v w1 =>
    rw [hs, Result.andThen_ok, Sem.run_pure] at h
    injection h with h1 h2
    exact ⟨v, h1.symm⟩
  | halt x w1 =>
    rw [hs] at h
    cases h
theorem plain_value {P : Program} {ρ : Operand → Value} {o : Oper} (hp : plainOp o = true) {w w' : World} {n : Next} (h : (execOp ρ o).run P w = .ok n w') : ∃ v, n = .value v := by
  unfold plainOp at hp
  unfold execOp at h
  split at hp
  all_goals try (rename_i he; simp only [he] at h)
  case h_1 | h_2 =>
    rw [Sem.run_pure] at h
    injection h with h1 h2
    exact ⟨_, h1.symm⟩
  case h_3 =>
    rw [Sem.run_bind] at h
    rename_i c x y
    cases hs : (asBool (ρ c)).run P w with
    | ok v w1 =>
      rw [hs, Result.andThen_ok, Sem.run_pure] at h
      injection h with h1 h2
      exact ⟨_, h1.symm⟩
    | halt x w1 =>
      rw [hs] at h
      cases h
  case h_16 =>
    rename_i c
    have hb : ∃ b, c.callee = .builtin b ∧ (b = .len ∨ b = .cap ∨ b = .min ∨ b = .max) := by
      split at hp
      · rename_i hc; exact ⟨_, hc, .inl rfl⟩
      · rename_i hc; exact ⟨_, hc, .inr (.inl rfl)⟩
      · rename_i hc; exact ⟨_, hc, .inr (.inr (.inl rfl))⟩
      · rename_i hc; exact ⟨_, hc, .inr (.inr (.inr rfl))⟩
      · cases hp
    obtain ⟨b, hc, hb⟩ := hb
    unfold resolve at h
    simp only [hc, Sem.run_bind, Sem.run_pure, Result.andThen_ok] at h
    unfold invoke at h
    simp only at h
    unfold builtin at h
    rcases hb with rfl | rfl | rfl | rfl <;> exact run_value h
  case h_17 => cases hp
  all_goals exact run_value h
theorem val_of_quiet {P : Program} {o : Oper} {a : Act} {C : World → Prop} {w : World} {v : Value} (hp : plainOp o = true) (h : o.quietAt P a C w v) : (execOp a.eval o).run P w = .ok (.value v) w := by
  unfold Oper.quietAt at h
  cases hr : (execOp a.eval o).run P w with
  | ok n w' =>
    obtain ⟨u, rfl⟩ := plain_value hp hr
    rw [hr] at h
    obtain ⟨e1, e2⟩ := h
    rw [e1, e2]
  | halt x w' =>
    rw [hr] at h
    exact h.elim
section
variable {P : Program} {ops : Array Oper} {Q : Exit → Act → World → Prop} {S : World → Prop} {i : Nat} {a : Act} {w : World} {o : Oper}
theorem yieldsIf_of_quiet {K : Act → Prop} (hp : plainOp o = true) (h : wpQuiet P ops S K [o] a) : ∃ v, YieldsIf P ops S o v a ∧ K (a.put o.dst v) := by
  unfold wpQuiet at h
  by_cases hw : Region.wanted o (yielded ops a.tmps) = true
  · rw [if_pos hw] at h
    obtain ⟨v, h1, h2⟩ := h
    exact ⟨v, .inl ⟨hw, fun w hS => val_of_quiet hp (h1 w hS)⟩, h2⟩
  · rw [if_neg hw] at h
    exact ⟨undef, .inr ⟨by simpa using hw, rfl⟩, h⟩
theorem wpMix_q {r : List (Nat × Bool)} (ho : ops.toList[i]? = some o) (hp : plainOp o = true) (h : wpQuiet P ops S (fun a' => wpMix P ops S Q r a' w) [o] a) : wpMix P ops S Q ((i, true) :: r) a w := by
  obtain ⟨v, hy, hK⟩ := yieldsIf_of_quiet hp h
  exact ⟨o, v, nth ho, hy, hK⟩
theorem wpMix_qnil {r : List (Nat × Bool)} (h : wpMix P ops S Q r a w) : wpQuiet P ops S (fun a' => wpMix P ops S Q r a' w) [] a := h
theorem wpT_q {s : Sched} (ho : ops.toList[i]? = some o) (hp : plainOp o = true) (h : wpQuiet P ops S (fun a' => wpT P ops S Q s a' w) [o] a) : wpT P ops S Q (.quiet i s) a w := by
  obtain ⟨v, hy, hK⟩ := yieldsIf_of_quiet hp h
  exact ⟨o, v, nth ho, hy, hK⟩
theorem wpT_qnil {s : Sched} (h : wpT P ops S Q s a w) : wpQuiet P ops S (fun a' => wpT P ops S Q s a' w) [] a := h
end
end Go.Proofs.Ytghefmppjdneoaa

namespace Go.Proofs.Ytghefmppjdneoaa
open Go.RowKit Go.Maps

/-- the blocks of A stand as before -/
structure Keeps (A : Nat → Prop) (w w' : World) : Prop where
  os : w'.os = w.os
  tape : w'.tape = w.tape
  output : w'.output = w.output
  size : w.heap.size ≤ w'.heap.size
  block : ∀ k, A k → k < w.heap.size → w'.heap[k]? = w.heap[k]?
section
variable {A A' : Nat → Prop} {w w' w'' : World}
theorem Keeps.refl (A : Nat → Prop) (w : World) : Keeps A w w := ⟨rfl, rfl, rfl, Nat.le_refl _, fun _ _ _ => rfl⟩
theorem Keeps.trans (h : Keeps A w w') (k : Keeps A w' w'') : Keeps A w w'' :=
  ⟨k.os.trans h.os, k.tape.trans h.tape, k.output.trans h.output, Nat.le_trans h.size k.size, fun i hA hi => (k.block i hA (Nat.lt_of_lt_of_le hi h.size)).trans (h.block i hA hi)⟩
theorem Keeps.ofBelow (h : Below w.heap.size w w') : Keeps A w w' := ⟨h.os, h.tape, h.output, h.size, fun i _ hi => h.block i hi⟩
theorem Keeps.ofGrown {b : Nat} (h : w.grownBy w' (some b)) (hb : ¬ A b) : Keeps A w w' := ⟨h.os, h.tape, h.output, h.size, fun i hA hi => h.block i hi (by intro e; injection e with e; subst e; exact hb hA)⟩
theorem Keeps.grown {row : Option Nat} (h : w.grownBy w' row) (hn : ∀ k, row = some k → ¬ A k) : Keeps A w w' := ⟨h.os, h.tape, h.output, h.size, fun i hA hi => h.block i hi (fun e => hn i e.symm hA)⟩
theorem Keeps.below' {B : Nat} (h : Below B w w') (hA : ∀ i, A i → i < B) : Keeps A w w' := ⟨h.os, h.tape, h.output, h.size, fun i hi _ => h.block i (hA i hi)⟩
theorem Keeps.mono (h : Keeps A w w') (hA : ∀ i, A' i → A i) : Keeps A' w w' := ⟨h.os, h.tape, h.output, h.size, fun i hi => h.block i (hA i hi)⟩
theorem Keeps.below (h : Keeps A w w') {B : Nat} (hA : ∀ i, i < B → A i) (hB : B ≤ w.heap.size) : Below B w w' := ⟨h.os, h.tape, h.output, h.size, fun i hi => h.block i (hA i hi) (Nat.lt_of_lt_of_le hi hB)⟩
theorem At.keeps {b : Nat} {t : TypeId} {cs : List Value} (h : At w b t cs) (hk : Keeps A w w') (hA : A b) : At w' b t cs := (hk.block b hA h.lt).trans h
end
def cellsM (m : Mem) : List Value := [.int .i64 m.n, .int .i64 m.i, .int .i64 m.s]
/-- the slice value holds these members -/
def MemsIn (w : World) (A : Option Addr) (l : List Mem) : Prop :=
  0 < l.length → ∃ g off, A = some ⟨g, off, none⟩ ∧ g < w.heap.size ∧ ∀ i (h : i < l.length), w.rangeAt g (off + i * 3) (cellsM l[i])
theorem MemsIn.keep {w w' : World} {A : Option Addr} {l : List Mem} (h : MemsIn w A l) (hs : w.heap.size ≤ w'.heap.size) (hk : ∀ g off, A = some ⟨g, off, none⟩ → g < w.heap.size → w'.heap[g]? = w.heap[g]?) : MemsIn w' A l := fun h0 => by
  obtain ⟨g, off, rfl, hlt, hc⟩ := h h0
  exact ⟨g, off, rfl, Nat.lt_of_lt_of_le hlt hs, fun i hi j v hv => (World.cell?_of_block (w := w) (hk g off rfl hlt)).trans (hc i hi j v hv)⟩
theorem MemsIn.below {w w' : World} {A : Option Addr} {l : List Mem} (h : MemsIn w A l) (hb : Below w.heap.size w w') : MemsIn w' A l := h.keep hb.size fun g _ _ hg => hb.block g hg
theorem MemsIn.nil {w : World} {A : Option Addr} : MemsIn w A [] := fun h => absurd h (Nat.lt_irrefl 0)
theorem MemsIn.cells {w w' : World} {A : Option Addr} {l : List Mem} (h : MemsIn w A l) (hg : ∀ g off, A = some ⟨g, off, none⟩ → g < w.heap.size → w'.heap[g]? = w.heap[g]?) {k : Nat} (hk : k < l.length) :
    ∃ g off, A = some ⟨g, off, none⟩ ∧ g < w.heap.size ∧ w'.cell? ⟨g, off + k * 3, none⟩ = some (.int .i64 l[k].n) ∧ w'.cell? ⟨g, off + k * 3 + 1, none⟩ = some (.int .i64 l[k].i) ∧ w'.cell? ⟨g, off + k * 3 + 2, none⟩ = some (.int .i64 l[k].s) := by
  obtain ⟨g, off, rfl, hlt, hc⟩ := h (by omega)
  have hb := hg g off rfl hlt
  refine ⟨g, off, rfl, hlt, ?_, ?_, ?_⟩
  · rw [World.cell?_of_block (w := w) hb]
    exact hc k hk 0 _ rfl
  · rw [World.cell?_of_block (w := w) hb]
    exact hc k hk 1 _ rfl
  · rw [World.cell?_of_block (w := w) hb]
    exact hc k hk 2 _ rfl
theorem info_mem3 : (Try.prog.info? 38).map (·.size) = some 3 := by kernel_rfl
theorem info_mem : (Try.prog.info? 38).map (fun i => (i.zero, i.size, i.bytes)) = some (some (memV Mem.zero), 3, 24) := by kernel_rfl
theorem info_memC {m : Mem} : (Try.prog.info? 38).map (·.size) = some (cellsM m).length := info_mem3
/-- the rumours alone -/
def rums (F : Int → Option (Nat × Rum)) : Hm.St := fun x => (F x).map (·.2)
theorem rums_put (F : Int → Option (Nat × Rum)) (g : Nat) (t : Int) {m : Mem} (hm : m.good = true) : rums (Sk.upd F m.n (g, ⟨m, t⟩)) = Hm.push1 t (rums F) m := by
  funext x
  unfold rums Sk.upd Hm.push1
  rw [if_pos hm]
  by_cases hx : x = m.n
  · simp [hx]
  · simp [hx]
theorem HumAt.mono {H : Type} {w : World} {p b N N' : Nat} {t : Int} {F : Int → Option (Nat × Rum)} (h : HumAt H w p b N t F) (hN : N ≤ N') : HumAt H w p b N' t F := ⟨h.hd, h.map.mono hN, h.sane, h.at_, h.inj, h.ne⟩
theorem HumAt.blt {H : Type} {w : World} {p b N : Nat} {t : Int} {F : Int → Option (Nat × Rum)} (h : HumAt H w p b N t F) : b < w.heap.size := h.map.lt
theorem HumAt.put {H : Type} {w w2 w3 : World} {p b N g : Nat} {t : Int} {F : Int → Option (Nat × Rum)} (h : HumAt H w p b N t F) {m : Mem} (hm : m.good = true) (ht : 1 ≤ t) (hb : Below w.heap.size w w2)
    (hg : At w2 g 111 (rumC ⟨m, t⟩)) (hgs : w.heap.size ≤ g) (hown : w3.ownsMap Try.prog 3 readP b (N + 1) ((Sk.mapD (H := H) ptrD fun x => (F x).map (·.1)).put (.int .i64 m.n) (ptrD g))) (hgr : w2.grownBy w3 (some b)) :
    HumAt H w3 p b (N + 1) t (Sk.upd F m.n (g, ⟨m, t⟩)) := by
  have hpl := h.hd.lt
  have hbl := h.blt
  have hn := (Mem.good_iff _).1 hm
  have hgb : g ≠ b := by omega
  refine ⟨(h.hd.below hb hpl).grown hgr (by intro e; injection e with e; exact h.ne.1 e), ?_, ?_, fun x gx r hx => ?_, fun x y gx r u hx hy => ?_, h.ne.1, fun x gx r hx => ?_⟩
  · rw [Sk.put_mapD _ g (Sk.node_mem (by omega) (by omega))] at hown
    have e : (fun x => (Sk.upd F m.n (g, (⟨m, t⟩ : Rum)) x).map (·.1)) = Sk.upd (fun x => (F x).map (·.1)) m.n g := by
      funext x
      unfold Sk.upd
      by_cases hx : x = m.n
      · simp [hx]
      · simp [hx]
    rw [e]
    exact hown
  · have := Hm.sane_push1 ht h.sane m
    rw [← show rums F = fun x => (F x).map (·.2) from rfl, ← rums_put F g t hm] at this
    exact this
  · unfold Sk.upd at hx
    split at hx
    · cases hx
      exact hg.grown hgr (by intro e; injection e with e; exact hgb e)
    · exact ((h.at_ x gx r hx).below hb (h.at_ x gx r hx).lt).grown hgr (by intro e; injection e with e; exact (h.ne.2 x gx r hx).2 e)
  · unfold Sk.upd at hx hy
    split at hx
    · rename_i e1
      split at hy
      · rename_i e2; rw [e1, e2]
      · cases hx
        have := (h.at_ y g u hy).lt
        omega
    · split at hy
      · cases hy
        have := (h.at_ x g r hx).lt
        omega
      · exact h.inj x y gx r u hx hy
  · unfold Sk.upd at hx
    split at hx
    · cases hx
      exact ⟨by omega, hgb⟩
    · exact h.ne.2 x gx r hx
/-- rumours in memory, apart from the blocks of A -/
structure HumSt (H : Type) (w : World) (A : Nat → Prop) (p b N : Nat) (t : Int) (f : Hm.St) : Prop where
  st : ∃ F, HumAt H w p b N t F ∧ rums F = f ∧ ∀ x g r, F x = some (g, r) → ¬ A g
  np : ¬ A p
  nb : ¬ A b
  lt : ∀ i, A i → i < w.heap.size
theorem HumSt.below {H : Type} {w w' : World} {A : Nat → Prop} {p b N : Nat} {t : Int} {f : Hm.St} (h : HumSt H w A p b N t f) (hb : Below w.heap.size w w') : HumSt H w' A p b N t f := by
  obtain ⟨⟨F, h1, h2, h3⟩, h4, h5, h6⟩ := h
  exact ⟨⟨F, h1.below hb, h2, h3⟩, h4, h5, fun i hi => Nat.lt_of_lt_of_le (h6 i hi) hb.size⟩
/-- more blocks stand apart: laid since -/
theorem HumSt.more {H : Type} {w w' : World} {A A' : Nat → Prop} {p b N : Nat} {t : Int} {f : Hm.St} (h : HumSt H w A p b N t f) (hb : Below w.heap.size w w') (hA : ∀ i, A' i → A i ∨ (w.heap.size ≤ i ∧ i < w'.heap.size)) : HumSt H w' A' p b N t f := by
  obtain ⟨⟨F, h1, h2, h3⟩, h4, h5, h6⟩ := h
  refine ⟨⟨F, h1.below hb, h2, fun x g r hF hg => ?_⟩, fun hp => ?_, fun hp => ?_, fun i hi => ?_⟩
  · rcases hA g hg with h | h
    · exact h3 x g r hF h
    · have := (h1.at_ x g r hF).lt; omega
  · rcases hA p hp with h | h
    · exact h4 h
    · have := h1.hd.lt; omega
  · rcases hA b hp with h | h
    · exact h5 h
    · have := h1.blt; omega
  · rcases hA i hi with h | h
    · exact Nat.lt_of_lt_of_le (h6 i h) hb.size
    · exact h.2
theorem HumSt.less {H : Type} {w : World} {A A' : Nat → Prop} {p b N : Nat} {t : Int} {f : Hm.St} (h : HumSt H w A p b N t f) (hA : ∀ i, A' i → A i) : HumSt H w A' p b N t f := by
  obtain ⟨⟨F, h1, h2, h3⟩, h4, h5, h6⟩ := h
  exact ⟨⟨F, h1, h2, fun x g r hF hg => h3 x g r hF (hA g hg)⟩, fun hp => h4 (hA p hp), fun hp => h5 (hA b hp), fun i hi => h6 i (hA i hi)⟩
theorem push_snoc (t : Int) (f : Hm.St) (l : List Mem) (k : Nat) (hk : k < l.length) : Hm.push t f (l.take (k + 1)) = Hm.push1 t (Hm.push t f (l.take k)) l[k] := by
  unfold Hm.push
  rw [take_snoc l k hk, List.foldl_append]
  rfl
theorem exec_build {P : Program} {a : Act} {o : Oper} (t : TypeId) (parts : Array (Nat × Operand)) (cells : Array Value) (ho : o.op = .build t parts) (h : P.built t (parts.map fun (i, x) => (i, a.eval x)).toList = some cells) (w : World) :
    (execOp a.eval o).run P w = .ok (.value (.agg cells)) w := by
  unfold execOp
  simp only [ho, Sem.run_bind, run_build w t _ cells h, Result.andThen_ok, Sem.run_pure]
theorem wpList_boxN {P : Program} {Q : Exit → Act → World → Prop} {ops : Array Oper} {rest : List Oper} {o : Oper} {a : Act} {w : World} (hg : o.guard = none) (t : TypeId) (x : Operand) (ho : o.op = .box t x) (cells : Array Value) (hx : (a.eval x).cells = cells)
    (h : wpList P ops Q rest (a.put o.dst (.pointer (some ⟨w.heap.size, 0, none⟩))) (w.alloc (.cells cells t))) : wpList P ops Q (o :: rest) a w := by
  subst hx
  refine wpList_plain hg fun K hK => ?_
  unfold Oper.wp execOp
  simp only [ho, Sem.run_bind, Instr.box, newVar, newRow, run_newObj_alloc, Sem.run_pure, Result.andThen_ok]
  exact hK _ _ h
theorem built_rum (m : Mem) (t : Int) : Try.prog.built 111 [(0, memV m), (1, .int .i64 t)] = some (rumC ⟨m, t⟩).toArray := by kernel_rfl
theorem exec_nil {P : Program} {a : Act} {o : Oper} (x : Operand) (ho : o.op = .nilCheck x) (g off : Nat) (hx : a.eval x = .pointer (some ⟨g, off, none⟩)) (w : World) : (execOp a.eval o).run P w = .ok (.value (.pointer (some ⟨g, off, none⟩))) w := by
  unfold execOp
  simp only [ho, hx, Sem.run_pure]
theorem run_load_map {P : Program} {ty : TypeId} {k e : TypeId} (hu : P.underlying ty = some (.map k e)) {w : World} {b off : Nat} {v : Value} (hc : w.cell? ⟨b, off, none⟩ = some v) :
    (Instr.loadAt ty (.pointer (some ⟨b, off, none⟩))).run P w = .ok v w := by
  simp [Instr.loadAt, Instr.sureAddr, loadVar, isAgg, run_underlying hu, hc]
theorem wpQuiet_loadM {P : Program} {ops : Array Oper} {C : World → Prop} {Q : Act → Prop} {a : Act} {o : Oper} {rest : List Oper} (v : Value) (hw : Region.wanted o (yielded ops a.tmps) = true) (ty k e : TypeId) (x : Operand) (ho : o.op = .load ty x) (hu : P.underlying ty = some (.map k e)) (b off : Nat) (hx : a.eval x = .pointer (some ⟨b, off, none⟩))
    (hS : ∀ w, C w → w.cell? ⟨b, off, none⟩ = some v) (h : wpQuiet P ops C Q rest (a.put o.dst v)) : wpQuiet P ops C Q (o :: rest) a :=
  wpQuiet_val v hw (fun w hC => by
    unfold execOp
    simp only [ho, hx, Sem.run_bind, Sem.run_pure, run_load_map hu (hS w hC), Result.andThen_ok]) h
theorem wpMix_mapUpdate {H : Type} {P : Program} {ops : Array Oper} {Q : Exit → Act → World → Prop} {S : World → Prop} {i : Nat} {a : Act} {w : World} {o : Oper} {r : List (Nat × Bool)} (hoi : ops.toList[i]? = some o) (hw : Region.wanted o (yielded ops a.tmps) = true) (m x v : Operand) (t : TypeId) (hop : o.op = Op.mapUpdate t m x v)
    (k e : TypeId) (K : Keyed P k) (ht : P.underlying t = some (.map k e)) (R : Value → Option (DataW H × List MemPlace)) (b n : Nat) (D : DataW H)
    (hm : a.eval m = .map (some b)) (hown : w.ownsMap P k R b n D) (hn : n < maxLen) (key val : Value) (kl : Lit) (hx : a.eval x = key) (hv : a.eval v = val) (hkey : keyOf P k key = some kl)
    (d : DataW H) (ps : List MemPlace) (hval : R val = some (d, ps)) (hS : ∀ w', w.grownBy w' (some b) → S w')
    (h : ∀ w', w'.ownsMap P k R b (n + 1) (D.put kl d) → w.grownBy w' (some b) → wpMix P ops S Q r (a.put o.dst undef) w') : wpMix P ops S Q ((i, false) :: r) a w :=
  wpMix_step hoi hw fun K' hK' => by
    obtain ⟨w', hrun, r1, r2⟩ := hown.update K ht hn hkey hval
    unfold Oper.wp
    simp [execOp, hop, hm, hx, hv, hrun, Result.andThen]
    exact hK' _ _ (hS _ r2) (h w' r1 r2)
theorem exec_box {P : Program} {a : Act} {o : Oper} {w : World} (t : TypeId) (x : Operand) (ho : o.op = .box t x) (cells : Array Value) (hx : (a.eval x).cells = cells) : (execOp a.eval o).run P w = .ok (.value (.pointer (some ⟨w.heap.size, 0, none⟩))) (w.alloc (.cells cells t)) := by
  subst hx
  unfold execOp
  simp only [ho, Sem.run_bind, Instr.box, newVar, newRow, run_newObj_alloc, Sem.run_pure, Result.andThen_ok]
/-- what Push's last region reads -/
def PushS (p b q : Nat) (t : Int) (m : Mem) (w : World) : Prop := At w p 105 [.int .i64 t, .map (some b)] ∧ At w q 38 (cellsM m)
theorem PushS.range {p b q : Nat} {t : Int} {m : Mem} {w : World} (h : PushS p b q t m w) : w.rangeAt q 0 (cellsM m) := fun j v hv => by
  rw [Nat.zero_add]
  exact h.2.cell' hv
theorem PushS.map_ {p b q : Nat} {t : Int} {m : Mem} {w : World} (h : PushS p b q t m w) : w.cell? ⟨p, 1, none⟩ = some (.map (some b)) := h.1.cell' rfl
theorem PushS.times {p b q : Nat} {t : Int} {m : Mem} {w : World} (h : PushS p b q t m w) : w.cell? ⟨p, 0, none⟩ = some (.int .i64 t) := h.1.cell' rfl
theorem PushS.node {p b q : Nat} {t : Int} {m : Mem} {w : World} (h : PushS p b q t m w) : w.cell? ⟨q, 0, none⟩ = some (.int .i64 m.n) := h.2.cell' rfl
theorem push_none (v : Value) (w : World) : Calls Try.prog 33 #[.pointer none, v] w fun e w' => e = .returned (.tuple #[]) ∧ w' = w := by
  go_enter Try.func33, Try.ntmps33
  go_wp2_with fail
  exact bodyPost_ret (results_none (by kernel_rfl) _ _ _) (by with_unfolding_all rfl) ⟨rfl, rfl⟩
set_option maxRecDepth 100000 in
set_option maxHeartbeats 4000000 in
theorem push_any {H : Type} {w : World} {S : Nat → Prop} {p b N : Nat} {t : Int} {f : Hm.St} (h : HumSt H w S p b N t f) (ht : 1 ≤ t) (A : Option Addr) (c : Nat) (l : List Mem) (hl : MemsIn w A l) (hA : ∀ g off, 0 < l.length → A = some ⟨g, off, none⟩ → g ≠ b) (hN : N + l.length < 1099511627776) :
    Calls Try.prog 33 #[.pointer (some ⟨p, 0, none⟩), .slice A l.length c] w fun e w' => e = .returned (.tuple #[]) ∧ HumSt H w' S p b (N + l.length) t (Hm.push t f l) ∧ w.grownBy w' (some b) := by
  have HV := Lib.hid h
  have HL := Lib.hid hl
  have HA := Lib.hid hA
  have HT := Lib.hid ht
  clear h hl hA ht
  go_enter Try.func33, Try.ntmps33
  go_wp2_with fail
  go_loopw [10] (fun i wr => ∃ k : Nat, k ≤ l.length ∧ i = .int .i64 k ∧ HumSt H wr S p b (N + k) t (Hm.push t f (l.take k)) ∧ w.grownBy wr (some b)) (fun i _ => l.length - (RowKit.intOf i).toNat)
  case atStart => exact ⟨0, by omega, rfl, HV.out, World.grownBy.refl w _⟩
  case round =>
    obtain ⟨k, hk, rfl, hV, hg⟩ := hrel
    by_cases hlt : k < l.length
    · obtain ⟨g, off, rfl, hgl, c0, c1, c2⟩ := HL.out.cells (w' := wr) (fun g off e hlt' => hg.block g hlt' (by intro e2; injection e2 with e2; exact HA.out g off (by omega) e e2)) hlt
      obtain ⟨m, hm⟩ : ∃ m, m = l[k] := ⟨_, rfl⟩
      rw [← hm] at c0 c1 c2
      have HM := Lib.hid hm
      obtain ⟨F, hF, hFf, hFn⟩ := hV.st
      have HV2 := Lib.hid hV
      have HG := Lib.hid hg
      have HF := Lib.hid hF
      have HFf := Lib.hid hFf
      have HFn := Lib.hid hFn
      clear hm hV hg hF hFf hFn
      have i1 : (0 : Int) ≤ (k : Int) := by omega
      have i2 : (k : Int) < (l.length : Int) := by omega
      obtain ⟨w5, hw5⟩ : ∃ w5, w5 = wr.alloc (.cells #[.int .i64 m.n, .int .i64 m.i, .int .i64 m.s] 38) := ⟨_, rfl⟩
      have HA5 := Lib.hid (show At w5 wr.heap.size 38 (cellsM m) by rw [hw5]; exact memAt wr m)
      have HB5 := Lib.hid (show Below wr.heap.size wr w5 by rw [hw5]; exact (Below.refl _ _).alloc (Nat.le_refl _) _)
      have HW5 := Lib.hid hw5
      clear hw5
      go_wp2_with fail
      rw [← HW5.out]
      obtain ⟨gd, hgd⟩ : ∃ gd, m.good = gd := ⟨_, rfl⟩
      have HGD := Lib.hid hgd
      clear hgd c0 c1 c2
      refine (good_at m gd HGD.out w5).mono ?_
      rintro e w7 ⟨rfl, hb7⟩
      have HB7 := Lib.hid (HB5.out.trans (hb7.mono HB5.out.size))
      have HA7 := Lib.hid (HA5.out.below hb7 HA5.out.lt)
      clear hb7 HA5 HB5 HW5
      cases gd
      · go_wp2_with fail
        go_roundw
        case rel =>
          refine ⟨k + 1, by omega, by go_num, ?_, grown_below HG.out HB7.out⟩
          have h := HV2.out.below HB7.out
          rw [push_snoc t f l k hlt, ← HM.out]
          unfold Hm.push1
          rw [HGD.out]
          simp only [Bool.false_eq_true, if_false]
          obtain ⟨⟨F, h1, h2, h3⟩, h4, h5, h6⟩ := h
          exact ⟨⟨F, h1.mono (by omega), h2, h3⟩, h4, h5, h6⟩
        case measure => simp [RowKit.intOf]; omega
      · have HF7 := Lib.hid (HF.out.below HB7.out)
        have hpw := HF7.out.hd.lt
        have hbw := HF7.out.blt
        have hqb : wr.heap.size ≠ b := by have := HF.out.blt; omega
        have hpb := HF7.out.ne.1
        go_wp2_with fail
        refine wp_region_mix [(0, true), (4, true), (5, true), (6, true), (7, true), (1, true), (2, true), (3, true), (8, true), (9, true), (10, true), (11, true), (12, false), (13, false)] (PushS p b wr.heap.size t m)
          (by kernel_rfl) (by kernel_rfl) (fun _ _ d _ _ h => by cases d <;> exact h) (by kernel_rfl) (by decide) ⟨HF7.out.hd, HA7.out⟩ ?_
        iterate 5 (
          refine wpMix_q (by with_unfolding_all rfl) (by kernel_rfl) ?_
          first
            | go_big_quiet_skip
            | ((with_reducible refine wpQuiet_loadM (.map (some b)) (by with_unfolding_all rfl) 103 _ _ _ (by with_unfolding_all rfl) Try.underlying103 p 1 (by with_unfolding_all rfl) (fun w h => PushS.map_ h) ?_); simp only [Act.put, List.setIfInBounds_toArray, List.set_cons_zero, List.set_cons_succ])
            | ((with_reducible refine wpQuiet_load1 (.int .i64 m.n) (by with_unfolding_all rfl) 3 _ (by with_unfolding_all rfl) .i64 Try.underlying3 wr.heap.size 0 (by with_unfolding_all rfl) (fun w h => PushS.node h) ?_); simp only [Act.put, List.setIfInBounds_toArray, List.set_cons_zero, List.set_cons_succ])
            | ((with_reducible refine wpQuiet_load1 (.int .i64 t) (by with_unfolding_all rfl) 3 _ (by with_unfolding_all rfl) .i64 Try.underlying3 p 0 (by with_unfolding_all rfl) (fun w h => PushS.times h) ?_); simp only [Act.put, List.setIfInBounds_toArray, List.set_cons_zero, List.set_cons_succ])
            | ((with_reducible refine wpQuiet_loadAll (by with_unfolding_all rfl) 38 (.tmp 5) (by with_unfolding_all rfl) wr.heap.size 0 (by with_unfolding_all rfl) (cellsM m) _ (fun w h => PushS.range h) Try.underlying38 (by with_unfolding_all rfl) info_memC ?_); simp only [Act.put, List.setIfInBounds_toArray, List.set_cons_zero, List.set_cons_succ])
            | (go_big_quiet_step (exact fun _ => rfl))
          refine wpMix_qnil ?_)
        refine wpMix_val (.pointer (some ⟨p, 0, none⟩)) (by with_unfolding_all rfl) (by with_unfolding_all rfl) (fun w _ => exec_nil _ (by with_unfolding_all rfl) p 0 (by with_unfolding_all rfl) w) ?_
        simp only [Act.put, List.setIfInBounds_toArray, List.set_cons_zero, List.set_cons_succ]
        iterate 2 (
          refine wpMix_q (by with_unfolding_all rfl) (by kernel_rfl) ?_
          first
            | go_big_quiet_skip
            | ((with_reducible refine wpQuiet_loadM (.map (some b)) (by with_unfolding_all rfl) 103 _ _ _ (by with_unfolding_all rfl) Try.underlying103 p 1 (by with_unfolding_all rfl) (fun w h => PushS.map_ h) ?_); simp only [Act.put, List.setIfInBounds_toArray, List.set_cons_zero, List.set_cons_succ])
            | ((with_reducible refine wpQuiet_load1 (.int .i64 m.n) (by with_unfolding_all rfl) 3 _ (by with_unfolding_all rfl) .i64 Try.underlying3 wr.heap.size 0 (by with_unfolding_all rfl) (fun w h => PushS.node h) ?_); simp only [Act.put, List.setIfInBounds_toArray, List.set_cons_zero, List.set_cons_succ])
            | ((with_reducible refine wpQuiet_load1 (.int .i64 t) (by with_unfolding_all rfl) 3 _ (by with_unfolding_all rfl) .i64 Try.underlying3 p 0 (by with_unfolding_all rfl) (fun w h => PushS.times h) ?_); simp only [Act.put, List.setIfInBounds_toArray, List.set_cons_zero, List.set_cons_succ])
            | ((with_reducible refine wpQuiet_loadAll (by with_unfolding_all rfl) 38 (.tmp 5) (by with_unfolding_all rfl) wr.heap.size 0 (by with_unfolding_all rfl) (cellsM m) _ (fun w h => PushS.range h) Try.underlying38 (by with_unfolding_all rfl) info_memC ?_); simp only [Act.put, List.setIfInBounds_toArray, List.set_cons_zero, List.set_cons_succ])
            | (go_big_quiet_step (exact fun _ => rfl))
          refine wpMix_qnil ?_)
        refine wpMix_val (.pointer (some ⟨p, 0, none⟩)) (by with_unfolding_all rfl) (by with_unfolding_all rfl) (fun w _ => exec_nil _ (by with_unfolding_all rfl) p 0 (by with_unfolding_all rfl) w) ?_
        simp only [Act.put, List.setIfInBounds_toArray, List.set_cons_zero, List.set_cons_succ]
        iterate 2 (
          refine wpMix_q (by with_unfolding_all rfl) (by kernel_rfl) ?_
          first
            | go_big_quiet_skip
            | ((with_reducible refine wpQuiet_loadM (.map (some b)) (by with_unfolding_all rfl) 103 _ _ _ (by with_unfolding_all rfl) Try.underlying103 p 1 (by with_unfolding_all rfl) (fun w h => PushS.map_ h) ?_); simp only [Act.put, List.setIfInBounds_toArray, List.set_cons_zero, List.set_cons_succ])
            | ((with_reducible refine wpQuiet_load1 (.int .i64 m.n) (by with_unfolding_all rfl) 3 _ (by with_unfolding_all rfl) .i64 Try.underlying3 wr.heap.size 0 (by with_unfolding_all rfl) (fun w h => PushS.node h) ?_); simp only [Act.put, List.setIfInBounds_toArray, List.set_cons_zero, List.set_cons_succ])
            | ((with_reducible refine wpQuiet_load1 (.int .i64 t) (by with_unfolding_all rfl) 3 _ (by with_unfolding_all rfl) .i64 Try.underlying3 p 0 (by with_unfolding_all rfl) (fun w h => PushS.times h) ?_); simp only [Act.put, List.setIfInBounds_toArray, List.set_cons_zero, List.set_cons_succ])
            | ((with_reducible refine wpQuiet_loadAll (by with_unfolding_all rfl) 38 (.tmp 5) (by with_unfolding_all rfl) wr.heap.size 0 (by with_unfolding_all rfl) (cellsM m) _ (fun w h => PushS.range h) Try.underlying38 (by with_unfolding_all rfl) info_memC ?_); simp only [Act.put, List.setIfInBounds_toArray, List.set_cons_zero, List.set_cons_succ])
            | (go_big_quiet_step (exact fun _ => rfl))
          refine wpMix_qnil ?_)
        refine wpMix_val (.agg (rumC ⟨m, t⟩).toArray) (by with_unfolding_all rfl) (by with_unfolding_all rfl) (fun w' _ => exec_build 111 #[(0, .tmp 22), (1, .tmp 26)] _ (by with_unfolding_all rfl) (by simp only [List.map_toArray, List.map_cons, List.map_nil]; with_unfolding_all exact built_rum m t) w') ?_
        simp only [Act.put, List.setIfInBounds_toArray, List.set_cons_zero, List.set_cons_succ]
        have hB8 : Below w7.heap.size w7 (w7.drew.alloc (.cells (rumC ⟨m, t⟩).toArray 111)) := (Below.refl _ _).drew.alloc (Nat.le_refl _) _
        have hA8 : At (w7.drew.alloc (.cells (rumC ⟨m, t⟩).toArray 111)) w7.drew.heap.size 111 (rumC ⟨m, t⟩) := At.newA _ _ rfl
        have hS8 : PushS p b wr.heap.size t m (w7.drew.alloc (.cells (rumC ⟨m, t⟩).toArray 111)) := ⟨HF7.out.hd.below hB8 hpw, HA7.out.below hB8 HA7.out.lt⟩
        refine wpMix_put (.pointer (some ⟨w7.drew.heap.size, 0, none⟩)) (w7.drew.alloc (.cells (rumC ⟨m, t⟩).toArray 111)) (by with_unfolding_all rfl) (by with_unfolding_all rfl) (exec_box 111 (.tmp 27) (by with_unfolding_all rfl) _ (by with_unfolding_all rfl)) hS8 ?_
        simp only [Act.put, List.setIfInBounds_toArray, List.set_cons_zero, List.set_cons_succ]
        obtain ⟨gq, hgq⟩ : ∃ gq, gq = w7.drew.heap.size := ⟨_, rfl⟩
        have hgq2 : gq = w7.heap.size := hgq
        rw [← hgq] at hA8 ⊢
        clear hgq
        generalize w7.drew.alloc (.cells (rumC ⟨m, t⟩).toArray 111) = w8 at hB8 hA8 hS8 ⊢
        have hF8 := HF7.out.below hB8
        have hn := (Mem.good_iff m).1 HGD.out
        have hNk : N + k < maxLen := by unfold maxLen; omega
        refine wpMix_mapUpdate (H := H) (by with_unfolding_all rfl) (by with_unfolding_all rfl) (.tmp 19) (.tmp 21) (.tmp 28) 103 (by with_unfolding_all rfl) 3 109 hum_keyed Try.underlying103 readP b (N + k) (Sk.mapD ptrD fun x => (F x).map (·.1)) (by with_unfolding_all rfl) hF8.map hNk (.int .i64 m.n) (ptrV gq) (.int .i64 m.n) (by with_unfolding_all rfl) (by with_unfolding_all rfl) (hum_key (by omega) (by omega)) (ptrD gq) [] (readP_ptr gq) (fun w' hg => ⟨hS8.1.grown hg (by intro e; injection e with e; exact hpb e), hS8.2.grown hg (by intro e; injection e with e; exact hqb e)⟩) ?_
        intro w9 hown hg9
        simp only [Act.put]
        refine wpMix_nil ?_
        have hs7 := HB7.out.size
        have hP := HF7.out.put HGD.out HT.out hB8 hA8 (by omega) hown hg9
        have HP := Lib.hid hP
        have HG9 := Lib.hid ((grown_below HG.out (HB7.out.trans (hB8.mono HB7.out.size))).trans hg9)
        have HGq := Lib.hid (And.intro hgq2 (Nat.le_trans HB7.out.size (Nat.le_trans hB8.size hg9.size)))
        clear hP hown hg9 hF8 hA8 hB8 hS8 hn hNk hgq2 hs7 hpw hbw hqb hpb
        go_wp2_with fail
        go_roundw
        case rel =>
          refine ⟨k + 1, by omega, by go_num, ⟨⟨_, HP.out.mono (by omega), ?_, ?_⟩, HV2.out.np, HV2.out.nb, fun i hi => Nat.lt_of_lt_of_le (HV2.out.lt i hi) ?_⟩, HG9.out⟩
          · rw [rums_put _ _ _ HGD.out, push_snoc t f l k hlt, ← HM.out, HFf.out]
          · intro x gx r hx hs
            unfold Sk.upd at hx
            split at hx
            · cases hx
              have h1 := HV2.out.lt _ hs
              have h2 := HB7.out.size
              have h3 := HGq.out.1
              omega
            · exact HFn.out x gx r hx hs
          · exact HGq.out.2
        case measure => simp [RowKit.intOf]; omega
    · have hkl : k = l.length := by omega
      subst hkl
      rw [List.take_length] at hV
      have HV3 := Lib.hid hV
      have HG3 := Lib.hid hg
      clear hV hg
      go_wp2_with fail
      go_end0
      exact ⟨rfl, HV3.out, HG3.out⟩
end Go.Proofs.Ytghefmppjdneoaa

namespace Go.Proofs
open Go.RowKit Go.Sort Go.Shelf
shelf_lay_g SlLaysF.n20 Slsf 20 at Try 79 as Try.insR
end Go.Proofs
namespace Go.Proofs.Ytghefmppjdneoaa
open Go.Proofs Stab Go.Shelf Go.RowKit Go.Lib Go.Sort Go.Maps

theorem nan_any (n : Int) (w : World) : Calls Try.prog 74 #[.int .i64 n] w fun e w' => e = .returned (.bool false) ∧ w = w' := by
  go_enter Try.func74, Try.ntmps74
  go_wp2_with fail
  go_ret
  exact ⟨by first | rfl | simp, rfl⟩
def cmpZ (a b : Int) : Int := if a < b then -1 else if b < a then 1 else 0
theorem compare_any11 (a b : Int) (w : World) : Calls Try.prog 60 #[.int .i64 a, .int .i64 b] w fun e w' => e = .returned (.int .i64 (cmpZ a b)) ∧ w = w' := by
  have HN := Lib.hid nan_any
  have hc : (a < b ∧ cmpZ a b = -1) ∨ (¬ a < b ∧ b < a ∧ cmpZ a b = 1) ∨ (¬ a < b ∧ ¬ b < a ∧ cmpZ a b = 0) := by
    unfold cmpZ
    by_cases h1 : a < b
    · simp [h1]
    · by_cases h2 : b < a <;> simp [h1, h2]
  rcases hc with ⟨h1, he⟩ | ⟨h1, h2, he⟩ | ⟨h1, h2, he⟩ <;> rw [he] <;> clear he
  · go_enter Try.func60, Try.ntmps60
    go_wp2_with (go_at_call 74; refine Calls.mono (HN.out _ _) ?_; rintro e w' ⟨rfl, rfl⟩)
    go_ret
    exact ⟨rfl, rfl⟩
  · go_enter Try.func60, Try.ntmps60
    go_wp2_with (go_at_call 74; refine Calls.mono (HN.out _ _) ?_; rintro e w' ⟨rfl, rfl⟩)
    go_ret
    exact ⟨rfl, rfl⟩
  · go_enter Try.func60, Try.ntmps60
    go_wp2_with (go_at_call 74; refine Calls.mono (HN.out _ _) ?_; rintro e w' ⟨rfl, rfl⟩)
    go_ret
    exact ⟨rfl, rfl⟩
theorem cmpZ_cfR (a b : Rum) : cmpZ b.k a.k = Hm.cfR a b := rfl
set_option maxRecDepth 100000 in
set_option maxHeartbeats 1000000 in
theorem cmp_rum {a b : Nat} {x y : Rum} {w : World} (ha : At w a 111 (rumC x)) (hb : At w b 111 (rumC y)) :
    Calls Try.prog 59 #[.pointer (some ⟨a, 0, none⟩), .pointer (some ⟨b, 0, none⟩)] w fun e w' => e = .returned (.int .i64 (Hm.cfR x y)) ∧ w' = w.drew := by
  have c0 := ha.cell' (i := 3) (v := .int .i64 x.k) rfl
  have c1 := hb.cell' (i := 3) (v := .int .i64 y.k) rfl
  have HC := Lib.hid (compare_any11 y.k x.k)
  clear ha hb
  rw [← cmpZ_cfR]
  go_enter Try.func59, Try.ntmps59
  go_wp2_with fail
  refine wp_region_mix [(0, true), (4, true), (1, true), (2, true), (3, true), (5, true), (6, true), (7, true), (8, false), (9, true)] (fun w' => ∃ n, w' = w.drewN n)
    (by kernel_rfl) (by kernel_rfl) (fun _ _ d _ _ h => by cases d <;> exact h) (by kernel_rfl) (by decide) ⟨1, rfl⟩ ?_
  iterate 2 (
    refine wpMix_q (by with_unfolding_all rfl) (by kernel_rfl) ?_
    go_big_quiet_step (exact fun _ => rfl)
    refine wpMix_qnil ?_)
  refine wpMix_val (.pointer (some ⟨b, 0, none⟩)) (by with_unfolding_all rfl) (by with_unfolding_all rfl) (fun w _ => exec_nil _ (by with_unfolding_all rfl) b 0 (by with_unfolding_all rfl) w) ?_
  simp only [Act.put, List.setIfInBounds_toArray, List.set_cons_zero, List.set_cons_succ]
  iterate 2 (
    refine wpMix_q (by with_unfolding_all rfl) (by kernel_rfl) ?_
    go_big_quiet_step (exact fun _ => rfl)
    refine wpMix_qnil ?_)
  refine wpMix_val (.pointer (some ⟨a, 0, none⟩)) (by with_unfolding_all rfl) (by with_unfolding_all rfl) (fun w _ => exec_nil _ (by with_unfolding_all rfl) a 0 (by with_unfolding_all rfl) w) ?_
  simp only [Act.put, List.setIfInBounds_toArray, List.set_cons_zero, List.set_cons_succ]
  iterate 2 (
    refine wpMix_q (by with_unfolding_all rfl) (by kernel_rfl) ?_
    go_big_quiet_step (exact fun _ => rfl)
    refine wpMix_qnil ?_)
  refine wpMix_call 60 [.int .i64 y.k, .int .i64 x.k] (fun v w' => v = .int .i64 (cmpZ y.k x.k) ∧ w' = w.drew) (by with_unfolding_all rfl) (by with_unfolding_all rfl) (by with_unfolding_all rfl) ((HC.out _).mono (fun e w' ⟨he, hb⟩ => ⟨_, he, ⟨1, hb.symm⟩, rfl, hb.symm⟩)) ?_
  rintro v z1 _ ⟨rfl, rfl⟩
  simp only [Act.put, List.setIfInBounds_toArray, List.set_cons_zero, List.set_cons_succ]
  refine wpMix_q (by with_unfolding_all rfl) (by kernel_rfl) ?_
  go_big_quiet_step (exact fun _ => rfl)
  refine wpMix_qnil ?_
  refine wpMix_nil ?_
  go_wp2_with fail
  go_ret
  exact ⟨rfl, rfl⟩
end Go.Proofs.Ytghefmppjdneoaa

namespace Go.Proofs.Ytghefmppjdneoaa
open Go.Proofs Stab Go.Shelf Go.RowKit Go.Lib Go.Sort Go.Maps

/-- what a library function has written into a row -/
theorem grown_put {α : Type} [Inhabited α] {enc : α → Value} {w : World} {g n : Nat} {os : Array Obj} (d : Array α) : w.grownBy (grow (putRow enc (Sort.ahead w n) g 0 d) os) (some g) := by
  refine ⟨rfl, rfl, rfl, by simp [grow, putRow, mapBlock, Sort.ahead], fun k hk hne => ?_⟩
  rw [heap_grow_old _ _ (by simpa [putRow, mapBlock, Sort.ahead] using hk)]
  have : g ≠ k := fun e => hne (by rw [e])
  simp [putRow, mapBlock, Sort.ahead, Array.getElem?_modify, this]
theorem own_putI {α : Type} [Inhabited α] {enc : α → Value} {w : World} {base g cap n q k : Nat} {e : TypeId} {os : Array Obj} {xs : List Value} {ys : List α} (h : w.ownsRow base e 1 (.slice (some ⟨g, 0, none⟩) n cap) n xs) (hy : ys.length = n) (hk : k ≤ n) :
    (grow (putRow enc (Sort.ahead w q) g 0 ys.toArray) os).ownsRow base e 1 (.slice (some ⟨g, 0, none⟩) k cap) k ((ys.take k).map enc) := by
  rcases h.2 with ⟨e0, _⟩ | ⟨g', cap', cur, e0, hb, hg, hn, hm, hs, ht⟩
  · cases e0
  · injection e0 with e1 _ e3
    injection e1 with e1
    injection e1 with e1 _
    subst e1 e3
    have hgl : g < w.heap.size := (Array.getElem?_eq_some_iff.1 hg).1
    refine ⟨by simp; omega, .inr ⟨g, cap, putCells enc 0 ys.toArray cur, rfl, hb, ?_, by omega, hm, by simp [putCells, hs], ?_⟩⟩
    · rw [heap_grow_old _ _ (by simpa [putRow, mapBlock, Sort.ahead] using hgl)]
      simp [putRow, mapBlock, Sort.ahead, Array.getElem?_modify, hg, onCells]
    · rw [Nat.mul_one]
      apply List.ext_getElem?
      intro j
      by_cases hj : j < k
      · rw [List.getElem?_take_of_lt hj, Array.getElem?_toList]
        have hjc : j < cur.size := by omega
        have hjy : j < ys.length := by omega
        simp [putCells, hjc, hjy, hj]
      · rw [List.getElem?_take_eq_none (by omega), List.getElem?_eq_none (by simp; omega)]
theorem merge_cong {α : Type} {le le' : α → α → Bool} : ∀ (a b : List α), (∀ x ∈ a, ∀ y ∈ b, le x y = le' x y) → List.merge a b le = List.merge a b le'
  | [], b, _ => by rw [List.nil_merge, List.nil_merge]
  | a, [], _ => by rw [List.merge_right, List.merge_right]
  | x :: a, y :: b, h => by
    rw [List.cons_merge_cons, List.cons_merge_cons, h x List.mem_cons_self y List.mem_cons_self]
    rw [merge_cong a (y :: b) fun x' hx' y' hy' => h x' (List.mem_cons_of_mem _ hx') y' hy', merge_cong (x :: a) b fun x' hx' y' hy' => h x' hx' y' (List.mem_cons_of_mem _ hy')]
theorem S_cong {α : Type} {le le' : α → α → Bool} (l : List α) : (∀ x ∈ l, ∀ y ∈ l, le x y = le' x y) → S le l = S le' l := by
  induction l using snoc_ind with
  | h0 => intro _; rfl
  | h1 l x ih =>
    intro h
    rw [S_snoc, S_snoc, ih fun a ha b hb => h a (by simp [ha]) b (by simp [hb])]
    refine merge_cong _ _ fun a ha b hb => h a ?_ b (by simp [List.mem_singleton.1 hb])
    rw [List.mem_append]
    exact .inl ((S_perm _ l).mem_iff.1 ha)

instance : Inhabited Rum := ⟨⟨Mem.zero, 0⟩⟩
abbrev Cell := Nat × Rum
def cfB (x y : Cell) : Int := Hm.cfR x.2 y.2
variable {w : World} {B n : Nat} {v : Value} {l : List Cell} {F : Int → Option Cell} {q0 : Cell}
/-- the two kinds of rows -/
theorem row_cases (h : w.ownsRow B 109 1 v n (l.map ptrC)) : (v = .slice none 0 0 ∧ n = 0 ∧ l = []) ∨ ∃ g cap, v = .slice (some ⟨g, 0, none⟩) n cap ∧ B ≤ g ∧ g < w.heap.size ∧ n ≤ cap ∧ cap ≤ maxLen ∧ l.length = n ∧ Holds ptrC w g 0 l.toArray := by
  by_cases hv : v = .slice none 0 0
  · have hn : n = 0 := by
      rcases h.2 with ⟨_, e⟩ | ⟨g, cap, cur, e, _⟩
      · exact e
      · rw [hv] at e; cases e
    have h1 := h.1
    rw [hn] at h1
    exact .inl ⟨hv, hn, List.length_eq_zero_iff.1 (by simpa using h1)⟩
  · exact .inr (Lib.holds_of_ownsRow h hv)
/-- a rumour that is known, whatever comes -/
noncomputable def cl (F : Int → Option Cell) (q0 q : Cell) : Cell := if F q.2.m.n = some q then q else q0
theorem cl_known (h0 : F q0.2.m.n = some q0) (q : Cell) : F (cl F q0 q).2.m.n = some (cl F q0 q) := by
  unfold cl
  split
  · assumption
  · exact h0
theorem cl_id {q : Cell} (h : F q.2.m.n = some q) : cl F q0 q = q := if_pos h
noncomputable def encC (F : Int → Option Cell) (q0 q : Cell) : Value := ptrC (cl F q0 q)
noncomputable def cfC (F : Int → Option Cell) (q0 x y : Cell) : Int := cfB (cl F q0 x) (cl F q0 y)
theorem swoB : SWO (ltOf cfB) where
  irrefl x := Hm.swoR.irrefl x.2
  trans x y z h1 h2 := Hm.swoR.trans x.2 y.2 z.2 h1 h2
  ntrans x y z h1 h2 := Hm.swoR.ntrans x.2 y.2 z.2 h1 h2
theorem swoC (F : Int → Option Cell) (q0 : Cell) : SWO (ltOf (cfC F q0)) where
  irrefl x := swoB.irrefl (cl F q0 x)
  trans x y z h1 h2 := swoB.trans (cl F q0 x) (cl F q0 y) (cl F q0 z) h1 h2
  ntrans x y z h1 h2 := swoB.ntrans (cl F q0 x) (cl F q0 y) (cl F q0 z) h1 h2
theorem eg_take1 : ∀ args w, (callFunc 59 args).run Try.prog w = .ok (.enter 59 args) w := enters_of Try.func59 (by kernel_rfl) rfl
theorem ins_nil (A : Option Addr) (c : Nat) (fv : Value) (w : World) : Calls Try.prog 79 #[.slice A 0 c, .int .i64 0, .int .i64 0, fv] w fun e w' => e = .returned (.tuple #[]) ∧ w' = w := by
  go_enter Try.func79, Try.ntmps79
  go_wp2_with fail
  go_loopg [8] 0 (fun kx s8 wr => s8 = .int .i64 1 ∧ wr = w)
  case atStart => exact ⟨rfl, rfl⟩
  case round =>
    obtain ⟨rfl, rfl⟩ := hrel
    go_wp2_with fail
    go_end0
    exact ⟨rfl, rfl⟩
/-- where every known rumour lies in its block -/
def Lies (w : World) (F : Int → Option Cell) : Prop := ∀ x q, F x = some q → At w q.1 111 (rumC q.2)
theorem ins_r (hl6 : ∀ q ∈ l, F q.2.m.n = some q) (h : w.ownsRow B 109 1 v n (l.map ptrC)) (hF : Lies w F) (hfar : ∀ x q, F x = some q → q.1 < B) (hs : n < 1000) :
    Calls Try.prog 79 #[v, .int .i64 0, .int .i64 n, .func (.func 59) #[] #[]] w fun e w' => e = .returned (.tuple #[]) ∧ w'.ownsRow B 109 1 v n ((S (leC cfB) l).map ptrC) ∧ w.grownBy w' v.ownBlock := by
  rcases row_cases h with ⟨rfl, rfl, rfl⟩ | ⟨g, cap, rfl, hB, hg, hnc, hcm, hl, hH⟩
  · refine (ins_nil _ _ _ w).mono ?_
    rintro e w' ⟨rfl, rfl⟩
    exact ⟨rfl, ⟨rfl, .inl ⟨rfl, rfl⟩⟩, World.grownBy.refl _ _⟩
  · subst hl
    by_cases hl0 : l = []
    · subst hl0
      refine (ins_nil _ _ _ w).mono ?_
      rintro e w' ⟨rfl, rfl⟩
      exact ⟨rfl, h, World.grownBy.refl _ _⟩
    obtain ⟨q0, hq0⟩ : ∃ q0, q0 ∈ l := List.exists_mem_of_ne_nil l hl0
    have h0 := hl6 q0 hq0
    have hHC : Holds (encC F q0) w g 0 l.toArray := fun j hj => by
      have h1 := hH j hj
      have hjl : j < l.length := by simpa using hj
      have e : encC F q0 l.toArray[j]! = ptrC l.toArray[j]! := by
        unfold encC
        rw [cl_id]
        have : l.toArray[j]! = l[j] := by simp [hjl]
        rw [this]
        exact hl6 _ (List.getElem_mem hjl)
      rw [e]
      exact h1
    have hC : CmpLays1 Try.prog 59 #[] (encC F q0) (cfC F q0) g 0 l.toArray.size w := fun m os dk _ x y => by
      have hg2 : w.grownBy (sortWorld (encC F q0) w g 0 m dk os) (some g) := grown_put dk
      have hx := cl_known h0 x
      have hy := cl_known h0 y
      have ax := (hF _ _ hx).grown hg2 (by intro e; injection e with e; have := hfar _ _ hx; omega)
      have ay := (hF _ _ hy).grown hg2 (by intro e; injection e with e; have := hfar _ _ hy; omega)
      refine (cmp_rum ax ay).mono ?_
      rintro e w' ⟨rfl, rfl⟩
      exact ⟨rfl, 1, #[], by rw [grow_empty]; rfl⟩
    have hI := Any.insertionSortCmpFunc_s (ρ := Try.insR_ren) Try.insR (encC F q0) (cfC F q0) 59 #[] g 0 cap 0 l.length l.toArray l.toArray w w eg_take1 hC ⟨fun _ => rfl, hHC, hg⟩ rfl (SW.start hHC) (Nat.zero_le _) (by simp) (by simp; omega)
    have e1 : l.toArray.size = l.length := by simp
    rw [e1] at hI
    refine hI.mono ?_
    rintro e w' ⟨rfl, q, os, rfl⟩
    have hS := insertionSort_S (swoC F q0) [] l [] l.toArray (by simp)
    rw [List.length_nil, Nat.zero_add, List.nil_append, List.append_nil] at hS
    obtain ⟨d, hd⟩ : ∃ d, d = Sort.insertionSort (ltOf (cfC F q0)) l.toArray 0 l.length := ⟨_, rfl⟩
    rw [← hd] at hS ⊢
    have hda : d = (S (leC (cfC F q0)) l).toArray := by rw [← hS]
    have hcong : S (leC (cfC F q0)) l = S (leC cfB) l := S_cong l fun x hx y hy => by
      have : leC (cfC F q0) x y = leC cfB (cl F q0 x) (cl F q0 y) := rfl
      rw [this, cl_id (hl6 x hx), cl_id (hl6 y hy)]
    rw [hcong] at hda
    subst hda
    have h2 := own_putI (enc := encC F q0) (q := q) (os := os) (k := l.length) (ys := S (leC cfB) l) h (by rw [S_len]) (Nat.le_refl _)
    rw [List.take_of_length_le (by rw [S_len]; exact Nat.le_refl _)] at h2
    have h3 : (S (leC cfB) l).map (encC F q0) = (S (leC cfB) l).map ptrC := List.map_congr_left fun x hx => by
      unfold encC
      rw [cl_id (hl6 x ((S_perm _ l).mem_iff.1 hx))]
    rw [h3] at h2
    exact ⟨rfl, h2, grown_put _⟩
set_option maxHeartbeats 1000000 in
theorem stab_r (hl6 : ∀ q ∈ l, F q.2.m.n = some q) (h : w.ownsRow B 109 1 v n (l.map ptrC)) (hF : Lies w F) (hfar : ∀ x q, F x = some q → q.1 < B) (hs : n ≤ 6) :
    Calls Try.prog 73 #[v, .int .i64 n, .func (.func 59) #[] #[]] w fun e w' => e = .returned (.tuple #[]) ∧ w'.ownsRow B 109 1 v n ((S (leC cfB) l).map ptrC) ∧ w.grownBy w' v.ownBlock := by
  have HI := Lib.hid (ins_r hl6 h hF hfar (by omega))
  clear hF hfar hl6 h
  go_enter Try.func73, Try.ntmps73
  have hz : ¬ (20 : Int) ≤ (n : Int) := by omega
  have hz2 : ¬ (20 : Int) < (n : Int) := by omega
  go_wp2_with fail
  go_loopg [7, 8] 0 (fun gg s7 s8 wr => s7 = .int .i64 0 ∧ s8 = .int .i64 20 ∧ wr = w)
  case atStart => exact ⟨rfl, rfl, rfl⟩
  case round =>
    obtain ⟨rfl, rfl, rfl⟩ := hrel
    go_wp2_with (go_at_call 79; refine Calls.mono HI.out ?_; rintro e w2 ⟨rfl, ho, hg⟩; have HO := Lib.hid ho; have HG := Lib.hid hg; clear ho hg)
    go_loopg [6] 0 (fun gg s6 wr => s6 = .int .i64 20 ∧ wr = w2)
    case atStart => exact ⟨rfl, rfl⟩
    case round =>
      obtain ⟨rfl, rfl⟩ := hrel
      go_wp2_with fail
      go_end0
      exact ⟨rfl, HO.out, HG.out⟩
theorem stable_r (hl6 : ∀ q ∈ l, F q.2.m.n = some q) (h : w.ownsRow B 109 1 v n (l.map ptrC)) (hF : Lies w F) (hfar : ∀ x q, F x = some q → q.1 < B) (hs : n ≤ 6) :
    Calls Try.prog 58 #[v, .func (.func 59) #[] #[]] w fun e w' => e = .returned (.tuple #[]) ∧ w'.ownsRow B 109 1 v n ((S (leC cfB) l).map ptrC) ∧ w.grownBy w' v.ownBlock := by
  have HI := Lib.hid (stab_r hl6 h hF hfar hs)
  obtain ⟨A, c, hv⟩ : ∃ A c, v = .slice A n c := by
    rcases row_cases h with ⟨rfl, rfl, _⟩ | ⟨g, cap, rfl, _⟩
    · exact ⟨none, 0, rfl⟩
    · exact ⟨_, _, rfl⟩
  subst hv
  clear hF hfar hl6 h
  go_enter Try.func58, Try.ntmps58
  go_wp2_with (go_at_call 73; refine Calls.mono HI.out ?_; rintro e w2 ⟨rfl, ho, hg⟩; have HO := Lib.hid ho; have HG := Lib.hid hg; clear ho hg)
  go_end0
  exact ⟨rfl, HO.out, HG.out⟩
end Go.Proofs.Ytghefmppjdneoaa
