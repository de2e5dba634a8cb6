/- Rows of layer 12: what every statement's row of this seat shares: arguments opened, the last step. -/
import Derived.Test.YtghefmppjdneoaaGrpS
import Derived.WalkKit
import Derived.ProofKit
import Derived.OpenShut
import Derived.Carry
import Derived.SliceStrings
import Derived.Deep.Slices
import Derived.Deep.Strs
import Derived.Deep.DeepHandedRow
namespace Go.Proofs.Ytghefmppjdneoaa
open Go.ChangeShapes Go.WideShapes Go.ChangeAt Go.RowKit

theorem own : ownKnob Try.prog.godebug = none := by kernel_rfl
theorem laidOut : laidOutB Try.prog = true := by kernel_rfl
section
variable {H : Type} {enc : TypeId × Value → H} {P : Program}
/-- arguments that only were read: they read as before, in a world that has only grown -/
theorem below_trodAll (hl : laidOutB P = true) {W W' : World} (hb : Below W.heap.size W W') : ∀ {ts : List TypeId} {vs : List Value} {ds : List (DataW H)} {ps : List MemPlace},
    ts.all (fun t => P.readableRec t && decide (t < P.types.size)) = true → DataW.TrodAll enc P W 0 (fun _ => true) true ts vs ds ps → (∀ x ∈ ps, x.block < W.heap.size) →
    DataW.TrodAll enc P W' 0 (fun b => decide (b < W.heap.size)) true ts vs ds ps
  | [], vs, ds, ps, _, h, _ => by
    obtain ⟨rfl, rfl, rfl⟩ := trodAll_nil h
    exact trodAll_mk0
  | t :: ts, vs, ds, ps, hr, h, hlt => by
    obtain ⟨v, vs', d, ds', p, q, rfl, rfl, rfl, h0, r0⟩ := trodAll_cons h
    rw [List.all_cons, Bool.and_eq_true, Bool.and_eq_true, decide_eq_true_eq] at hr
    exact trodAll_cons_mk (Below.trod hl hr.1.1 hr.1.2 h0 hb (fun x hx => hlt x (List.mem_append_left _ hx)))
      (below_trodAll hl hb hr.2 r0 (fun x hx => hlt x (List.mem_append_right _ hx)))

/-- the last step of a row that answers true, names no variable, and where only memory has grown -/
theorem done_true {f : Func} {s : ChangeSpec} {W W' : World} {args : Array Value} {ds gs : List (DataW H)} {before : List MemPlace} {tb : TypeId}
    (hW : DataW.Whole enc P f.params.toList s.vars false W args.toList ds gs before) (hv : s.vars = []) (hf : s.fn H (ds ++ gs) = { results := [.lit (.bool true)], args := ds })
    (hl : laidOutB P = true) (hr : f.params.toList.all (fun t => P.readableRec t && decide (t < P.types.size)) = true) (hrt : f.resultTypes = #[tb]) (htb : P.underlying tb = some .bool)
    (hb : Below W.heap.size W W') : s.post enc P f false true false false W args (.bool true) W' := by
  have hlt := hW.lt
  obtain ⟨p, q, hA, hV, rfl, hfz, hnd⟩ := id hW
  have hk : W.keptBut W' (· ∈ ([] : List MemPlace)) := hb.frame _
  refine ⟨ds, gs, p ++ q, [], p, [], hW, ?_, ?_, ?_, World.keptBut_mono (fun p hp => by cases hp) hk, fun h => by cases h⟩
  · rw [hf, hrt]
    exact trodAll_cons_mk (shut_bool htb _) trodAll_mk0
  · rw [hf]
    exact below_trodAll hl hb hr hA (fun x hx => hlt x (List.mem_append_left _ hx))
  · rw [hf, hv]
    rfl

def Mem.Wf (m : Mem) : Prop := (-9223372036854775808 ≤ m.n ∧ m.n ≤ 9223372036854775807) ∧ (-9223372036854775808 ≤ m.i ∧ m.i ≤ 9223372036854775807) ∧ (-9223372036854775808 ≤ m.s ∧ m.s ≤ 9223372036854775807)
/-- how a struct of three integers lies -/
structure Three (P : Program) (t : TypeId) (f0 f1 f2 : Field) : Prop where
  under : P.underlying t = some (.struct #[f0, f1, f2])
  cells : P.cellsOf t = 3
  u0 : P.underlying f0.type = some (.int .i64)
  u1 : P.underlying f1.type = some (.int .i64)
  u2 : P.underlying f2.type = some (.int .i64)
  c0 : P.cellsOf f0.type = 1
  c1 : P.cellsOf f1.type = 1
  c2 : P.cellsOf f2.type = 1
  o0 : f0.offset = 0
  o1 : f1.offset = 1
  o2 : f2.offset = 2

theorem mem_of_trod {t : TypeId} {f0 f1 f2 : Field} (h3 : Three P t f0 f1 f2) {W : World} {b0 : Nat} {sp : Nat → Bool} {held : Bool} {n : Nat} {cs : List Value} {x : DataW H × List MemPlace} (h : DataW.trod enc P W b0 sp held n t cs = some x) :
    ∃ m : Mem, cs = cellsM m ∧ m.Wf := by
  obtain ⟨y0, y1, y2, k, _, hl, h0, h1, h2⟩ := Go.Deep.trod_struct3 h3.under h
  rw [h3.cells] at hl
  rw [h3.o0, h3.c0] at h0
  rw [h3.o1, h3.c1] at h1
  rw [h3.o2, h3.c2] at h2
  obtain ⟨n0, e0, _, w0⟩ := DataW.trod_int h3.u0 h0
  obtain ⟨n1, e1, _, w1⟩ := DataW.trod_int h3.u1 h1
  obtain ⟨n2, e2, _, w2⟩ := DataW.trod_int h3.u2 h2
  match cs, hl with
  | [a, b, c], _ =>
    simp only [List.drop_succ_cons, List.drop_zero, List.take_succ_cons, List.take_zero, List.cons.injEq, and_true] at e0 e1 e2
    subst e0 e1 e2
    exact ⟨⟨n0, n1, n2⟩, rfl, bounds_i64 w0, bounds_i64 w1, bounds_i64 w2⟩

/-- a row of things of any kind, opened -/
theorem rows_of_trod {α : Type} (en : α → List Value) (Q : α → Prop) {sz : Nat} (hk : ∀ x, Q x → (en x).length = sz) (hsz : 0 < sz) {t e : TypeId} (ht : P.underlying t = some (.slice e)) (hce : P.cellsOf e = sz) (z : α) {W : World}
    (each' : ∀ (n : Nat) (cs : List Value) (x : DataW H × List MemPlace), DataW.trod enc P W 0 (fun _ => true) true n e cs = some x → (∀ p ∈ x.2, p.block < W.heap.size) → ∃ m : α, cs = en m ∧ Q m)
    {n : Nat} {cs : List Value} {x : DataW H × List MemPlace} (h : DataW.trod enc P W 0 (fun _ => true) true n t cs = some x)
    (hlt : ∀ p ∈ x.2, p.block < W.heap.size) : ∃ (A : Option Addr) (c : Nat) (l : List α), cs = [.slice A l.length c] ∧ (0 < l.length → ∃ g off, A = some ⟨g, off, none⟩ ∧ g < W.heap.size ∧ ∀ i (h : i < l.length), W.rangeAt g (off + i * sz) (en l[i])) ∧ (∀ m ∈ l, Q m) ∧ l.length ≤ c ∧ c ≤ maxLen ∧ (A = none → c = 0) := by
  rcases Go.Deep.open_slice ht h with ⟨rfl, _⟩ | ⟨a, len, cap, m, n, D, Pl, rfl, _, hl, hm, hmm, rfl, hx⟩
  · exact ⟨none, 0, [], rfl, fun h => absurd h (by simp), fun m hm => by simp at hm, by simp, by simp, fun _ => rfl⟩
  · rw [hce] at hx hlt
    simp only [if_true] at hmm
    subst hmm
    have each : ∀ i, i < m → ∃ y : α, W.cells? 0 (a.add (i * sz)) sz = some (en y) ∧ Q y := by
      intro i hi
      obtain ⟨cs', h1, h2⟩ := hx i hi
      obtain ⟨y, rfl, hy⟩ := each' _ _ _ h2 (fun p hp => hlt p (List.mem_append_right _ (List.mem_flatMap.2 ⟨i, List.mem_range.2 hi, hp⟩)))
      exact ⟨y, h1, hy⟩
    obtain ⟨l, hll, hle⟩ : ∃ l : List α, l.length = len ∧ ∀ i (h : i < l.length), W.cells? 0 (a.add (i * sz)) sz = some (en l[i]) ∧ Q l[i] := by
      refine ⟨(List.range len).map fun i => if h : i < m then (each i h).choose else z, by simp, fun i hi => ?_⟩
      have hin : i < len := by simpa using hi
      have hi' : i < m := by omega
      have := (each i hi').choose_spec
      simpa [hi'] using this
    refine ⟨some a, m, l, by rw [hll], fun h0 => ?_, fun y hy => ?_, by omega, hm, fun h => by cases h⟩
    · have hs := World.cells?_some (hle 0 h0).1
      have hs0 := hs.2.2 0 hsz
      rw [Nat.zero_mul] at hs0
      have hz : (a.add 0).add 0 = a := rfl
      obtain ⟨v0, hv0⟩ : ∃ v0, (en l[0])[0]? = some v0 := by
        have h0' : 0 < (en l[0]).length := by rw [hk _ (hle 0 h0).2]; exact hsz
        exact ⟨_, List.getElem?_eq_getElem h0'⟩
      rw [hz, hv0] at hs0
      have hsp : a.spot = none := World.cell?_spot hs0
      obtain ⟨g, off, sp⟩ := a
      simp only at hsp
      subst hsp
      refine ⟨g, off, rfl, ?_, fun i hi j v hv => ?_⟩
      · have hp : MemPlace.cell g (off + 0) ∈ MemPlace.row ⟨g, off, none⟩ (m * sz) := MemPlace.mem_row.2 ⟨0, Nat.mul_pos (by omega) hsz, rfl⟩
        exact hlt _ (List.mem_append_left _ hp)
      · have hj : j < sz := by
          have := (List.getElem?_eq_some_iff.1 hv).1
          rwa [hk _ (hle i hi).2] at this
        have hc := (World.cells?_some (hle i hi).1).2.2 j hj
        rw [hv, Go.Deep.add_add] at hc
        have e : (⟨g, off, none⟩ : Addr).add (i * sz + j) = ⟨g, off + i * sz + j, none⟩ := by
          unfold Addr.add
          split
          · rename_i h0
            have h1 : i * sz = 0 := by omega
            have : j = 0 := by omega
            simp_all
          · simp [Nat.add_assoc]
        rw [e] at hc
        exact hc
    · obtain ⟨i, hi, rfl⟩ := List.mem_iff_getElem.1 hy
      exact (hle i hi).2
theorem mems_of_trod {t e : TypeId} {f0 f1 f2 : Field} (ht : P.underlying t = some (.slice e)) (h3 : Three P e f0 f1 f2) {W : World} {n : Nat} {cs : List Value} {x : DataW H × List MemPlace} (h : DataW.trod enc P W 0 (fun _ => true) true n t cs = some x)
    (hlt : ∀ p ∈ x.2, p.block < W.heap.size) : ∃ (A : Option Addr) (c : Nat) (l : List Mem), cs = [.slice A l.length c] ∧ MemsIn W A l ∧ (∀ m ∈ l, m.Wf) ∧ l.length ≤ c ∧ c ≤ maxLen ∧ (A = none → c = 0) :=
  rows_of_trod cellsM Mem.Wf (fun _ _ => rfl) (by omega) ht h3.cells Mem.zero (fun _ _ _ h _ => mem_of_trod h3 h) h hlt
end
theorem three : Three Try.prog 38 { name := "Node", type := 3, offset := 0, embedded := false, tag := "", pkgPath := "", byteOffset := 0 } { name := "Inc", type := 3, offset := 1, embedded := false, tag := "", pkgPath := "", byteOffset := 8 } { name := "State", type := 3, offset := 2, embedded := false, tag := "", pkgPath := "", byteOffset := 16 } where
  under := Try.underlying38
  cells := by kernel_rfl
  u0 := by kernel_rfl
  u1 := by kernel_rfl
  u2 := by kernel_rfl
  c0 := by kernel_rfl
  c1 := by kernel_rfl
  c2 := by kernel_rfl
  o0 := rfl
  o1 := rfl
  o2 := rfl
theorem cellsInt : Try.prog.cellsOf 3 = 1 := by kernel_rfl
section
variable {H : Type} {enc : TypeId × Value → H}
set_option maxRecDepth 100000 in
/-- a row of draws, opened -/
theorem open_draws {W : World} {b1 : Nat} {v : Value} {d : DataW H} {ps : List MemPlace} (hok : Value.okWide Try.prog W .any b1 23 v) (h : DataW.Trod enc Try.prog W 0 (fun _ => true) true 23 v d ps) (hlt : ∀ p ∈ ps, p.block < W.heap.size) :
    ∃ (A : Option Addr) (c : Nat) (l : List Int), v = .slice A l.length c ∧ DRow W A l ∧ c ≤ maxLen := by
  obtain ⟨a0, len, cap, rfl⟩ := Go.WideShapes.okWide_slice Try.underlying23 hok
  obtain ⟨fuel, hf⟩ := h
  obtain ⟨A, c, l, hc, h1, h2, h3, h4, _⟩ := rows_of_trod (sz := 1) (fun n : Int => [.int .i64 n]) (fun n => -9223372036854775808 ≤ n ∧ n ≤ 9223372036854775807) (fun _ _ => rfl) (by omega) Try.underlying23 cellsInt 0
    (fun _ _ _ h _ => by obtain ⟨n, hn, _, hw⟩ := DataW.trod_int Try.underlying3 h; exact ⟨n, hn, bounds_i64 hw⟩) hf hlt
  simp only [Value.cells, List.cons.injEq, and_true] at hc
  refine ⟨A, c, l, hc, ⟨h2, Nat.le_trans h3 h4, fun h0 => ?_⟩, h4⟩
  obtain ⟨g, off, e, hg, hr⟩ := h1 h0
  refine ⟨g, off, e, hg, fun k hk w' hw' => (World.cell?_of_block (w := W) hw').trans ?_⟩
  have := hr k hk 0 _ rfl
  rw [Nat.mul_one, Nat.add_zero] at this
  exact this
end
end Go.Proofs.Ytghefmppjdneoaa
