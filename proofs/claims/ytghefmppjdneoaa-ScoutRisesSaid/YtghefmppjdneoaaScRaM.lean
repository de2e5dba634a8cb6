/- Rows of layer 12: a row of what happens to a scout, with raw frames, opened. -/
import Derived.Test.YtghefmppjdneoaaScRwM
namespace Go.Proofs.Ytghefmppjdneoaa
open Go.ChangeShapes Go.WideShapes Go.ChangeAt Go.RowKit

/-- fields that lie one behind the other from o on: where they end -/
def laidF (P : Program) : Nat → List Field → Option Nat
  | o, [] => some o
  | o, f :: r => if f.offset = o then laidF P (o + P.cellsOf f.type) r else none
/-- a type all of whose cells are cells of plain things -/
def plainB (P : Program) : Nat → TypeId → Bool
  | 0, _ => false
  | k + 1, t => match P.underlying t with
    | some .bool => true
    | some (.int _) => true
    | some .string => true
    | some (.slice _) => true
    | some (.struct fs) => decide (laidF P 0 fs.toList = some (P.cellsOf t)) && fs.toList.all fun f => plainB P k f.type
    | some (.array n e) => decide (P.cellsOf t = n * P.cellsOf e) && plainB P k e
    | _ => false
theorem cover_list {Pr : Value → Prop} {P : Program} {cs : List Value} : ∀ (fs : List Field) (o e : Nat), laidF P o fs = some e → (∀ f ∈ fs, ∀ u ∈ (cs.drop f.offset).take (P.cellsOf f.type), Pr u) → o ≤ e ∧ ∀ u ∈ (cs.drop o).take (e - o), Pr u
  | [], o, e, h, _ => by
    unfold laidF at h
    cases h
    exact ⟨Nat.le_refl _, fun u hu => by rw [Nat.sub_self, List.take_zero] at hu; cases hu⟩
  | f :: r, o, e, h, hf => by
    unfold laidF at h
    split at h
    · rename_i ho
      obtain ⟨h1, h2⟩ := cover_list r _ e h fun f hf' => hf f (List.mem_cons_of_mem _ hf')
      refine ⟨by omega, fun u hu => ?_⟩
      rw [show e - o = P.cellsOf f.type + (e - (o + P.cellsOf f.type)) by omega, List.take_add, List.drop_drop, List.mem_append] at hu
      rcases hu with hu | hu
      · exact hf f List.mem_cons_self u (by rw [ho]; exact hu)
      · exact h2 u hu
    · cases h
section
variable {H : Type} {enc : TypeId × Value → H} {P : Program}
theorem plain_one {W : World} {b0 : Nat} {sp : Nat → Bool} {held : Bool} : ∀ (k : Nat) (t : TypeId), plainB P k t = true → ∀ (n : Nat) (cs : List Value) (x : DataW H × List MemPlace), DataW.trod enc P W b0 sp held n t cs = some x → ∀ u ∈ cs, u.oneCell' = true
  | 0, _, h => by cases h
  | k + 1, t, h => by
    intro n cs x hx u hu
    unfold plainB at h
    split at h
    · rename_i ht
      obtain ⟨_, rfl, _⟩ := DataW.trod_bool ht hx
      rw [List.mem_singleton.1 hu]; rfl
    · rename_i ht
      obtain ⟨_, rfl, _⟩ := DataW.trod_int ht hx
      rw [List.mem_singleton.1 hu]; rfl
    · rename_i ht
      obtain ⟨_, rfl, _⟩ := DataW.trod_string ht hx
      rw [List.mem_singleton.1 hu]; rfl
    · rename_i ht
      rcases DataW.trod_slice ht hx with ⟨rfl, _⟩ | ⟨_, _, _, _, _, _, _, rfl, _⟩
      · rw [List.mem_singleton.1 hu]; rfl
      · rw [List.mem_singleton.1 hu]; rfl
    · rename_i fs ht
      rw [Bool.and_eq_true, decide_eq_true_eq] at h
      obtain ⟨xs, m, _, _, hl, hlen, hf⟩ := DataW.trod_struct ht hx
      have hc := cover_list (Pr := fun u => u.oneCell' = true) (cs := cs) fs.toList 0 _ h.1 fun f hf' u hu => by
        obtain ⟨i, hi, rfl⟩ := List.mem_iff_getElem.1 hf'
        have h1 := hf i fs.toList[i] (by rw [← Array.getElem?_toList]; exact List.getElem?_eq_getElem hi)
        have hi' : i < xs.length := by rw [hlen, ← Array.length_toList]; exact hi
        rw [List.getElem?_eq_getElem hi'] at h1
        exact plain_one k _ (List.all_eq_true.1 h.2 _ hf') _ _ _ h1 u hu
      refine hc.2 u ?_
      rw [List.drop_zero, Nat.sub_zero, ← hl, List.take_length]
      exact hu
    · rename_i c e ht
      rw [Bool.and_eq_true, decide_eq_true_eq] at h
      obtain ⟨xs, m, _, _, hl, hxl, hx⟩ := DataW.trod_array ht hx
      obtain ⟨j, hj, rfl⟩ := List.mem_iff_getElem.1 hu
      have hj2 : j < c * P.cellsOf e := by rw [← h.1, ← hl]; exact hj
      have hsz : 0 < P.cellsOf e := Nat.pos_of_ne_zero fun h0 => by rw [h0, Nat.mul_zero] at hj2; exact Nat.not_lt_zero _ hj2
      have hi : j / P.cellsOf e < c := Nat.div_lt_of_lt_mul (by rw [Nat.mul_comm]; exact hj2)
      have h1 := hx (j / P.cellsOf e) hi
      rw [List.getElem?_eq_getElem (by omega)] at h1
      refine plain_one k e h.2 _ _ _ h1 _ ?_
      have hm := Nat.mod_lt j hsz
      have hd := Nat.div_add_mod j (P.cellsOf e)
      rw [Nat.mul_comm] at hd
      refine List.mem_of_getElem? (i := j % P.cellsOf e) ?_
      rw [List.getElem?_take, if_pos hm, List.getElem?_drop, hd]
      exact List.getElem?_eq_getElem hj
    · cases h
end
theorem take_one {cs : List Value} {k : Nat} {v : Value} (h : (cs.drop k).take 1 = [v]) : cs[k]? = some v := by
  have : ((cs.drop k).take 1)[0]? = some v := by rw [h]; rfl
  rw [List.getElem?_take, if_pos Nat.zero_lt_one, List.getElem?_drop] at this
  exact this
/-- how a frame lies -/
theorem frame_lies : ∃ fs : Array Field, Try.prog.underlying 57 = some (.struct fs) ∧ ∃ f0 f1 f2 f3 f14 : Field, (fs[0]? = some f0 ∧ f0.type = 3 ∧ f0.offset = 0) ∧ (fs[1]? = some f1 ∧ f1.type = 3 ∧ f1.offset = 1) ∧ (fs[2]? = some f2 ∧ f2.type = 3 ∧ f2.offset = 2) ∧ (fs[3]? = some f3 ∧ f3.type = 3 ∧ f3.offset = 3) ∧ (fs[14]? = some f14 ∧ f14.type = 30 ∧ f14.offset = 236) ∧ fs.size = 15 :=
  ⟨_, Try.underlying57, _, _, _, _, _, ⟨rfl, rfl, rfl⟩, ⟨rfl, rfl, rfl⟩, ⟨rfl, rfl, rfl⟩, ⟨rfl, rfl, rfl⟩, ⟨rfl, rfl, rfl⟩, rfl⟩
theorem act_lies : ∃ f0 f1 f2 : Field, Try.prog.underlying 63 = some (.struct #[f0, f1, f2]) ∧ (f0.type = 3 ∧ f0.offset = 0) ∧ (f1.type = 3 ∧ f1.offset = 1) ∧ (f2.type = 57 ∧ f2.offset = 2) :=
  ⟨_, _, _, Try.underlying63, ⟨rfl, rfl⟩, ⟨rfl, rfl⟩, ⟨rfl, rfl⟩⟩
theorem cells_act : Try.prog.cellsOf 63 = 239 := by kernel_rfl
theorem cells_frame : Try.prog.cellsOf 57 = 237 := by kernel_rfl
theorem cells_mems : Try.prog.cellsOf 30 = 1 := by kernel_rfl
theorem frame_plain : plainB Try.prog 6 57 = true := by kernel_rfl
/-- what happens to a scout -/
structure SAct where
  kind : Int
  n : Int
  x : Fr
  F : List Value
  A : Option Addr
  c : Nat
def actC (a : SAct) : List Value := .int .i64 a.kind :: .int .i64 a.n :: a.F
structure SAct.Ok (W : World) (a : SAct) : Prop where
  fr : FrIs a.F a.x a.A a.c
  mems : MemsIn W a.A a.x.rum
  wf : ∀ m ∈ a.x.rum, m.Wf
  n64 : -9223372036854775808 ≤ a.n ∧ a.n ≤ 9223372036854775807
  f64 : -9223372036854775808 ≤ a.x.frm ∧ a.x.frm ≤ 9223372036854775807
  k64 : -9223372036854775808 ≤ a.kind ∧ a.kind ≤ 9223372036854775807
  x64 : -9223372036854775808 ≤ a.x.kind ∧ a.x.kind ≤ 9223372036854775807
  len : a.x.rum.length ≤ maxLen
def zFr : Fr := ⟨0, 0, 0, 0, 0, []⟩
def zAct : SAct := ⟨0, 0, zFr, [], none, 0⟩
theorem actC_len {W : World} (a : SAct) (h : a.Ok W) : (actC a).length = 239 := by
  unfold actC
  rw [List.length_cons, List.length_cons, h.fr.len]
section
variable {H : Type} {enc : TypeId × Value → H}
theorem frame_of_trod {W : World} {n : Nat} {cs : List Value} {x : DataW H × List MemPlace} (h : DataW.trod enc Try.prog W 0 (fun _ => true) true n 57 cs = some x) (hlt : ∀ p ∈ x.2, p.block < W.heap.size) :
    ∃ (y : Fr) (A : Option Addr) (c : Nat), FrIs cs y A c ∧ MemsIn W A y.rum ∧ (∀ m ∈ y.rum, m.Wf) ∧ (-9223372036854775808 ≤ y.frm ∧ y.frm ≤ 9223372036854775807) ∧ (-9223372036854775808 ≤ y.kind ∧ y.kind ≤ 9223372036854775807) ∧ y.rum.length ≤ maxLen := by
  obtain ⟨fs, hu, f0, f1, f2, f3, f14, ⟨g0, t0, o0⟩, ⟨g1, t1, o1⟩, ⟨g2, t2, o2⟩, ⟨g3, t3, o3⟩, ⟨g4, t4, o4⟩, hsz⟩ := frame_lies
  have hone := plain_one 6 57 frame_plain n cs x h
  obtain ⟨xs, k, _, rfl, hl, hlen, hf⟩ := DataW.trod_struct hu h
  rw [cells_frame] at hl
  rw [hsz] at hlen
  have h0 := hf 0 f0 g0
  have h1 := hf 1 f1 g1
  have h2 := hf 2 f2 g2
  have h3 := hf 3 f3 g3
  have h4 := hf 14 f14 g4
  rw [t0, o0, cellsInt, List.getElem?_eq_getElem (by omega)] at h0
  rw [t1, o1, cellsInt, List.getElem?_eq_getElem (by omega)] at h1
  rw [t2, o2, cellsInt, List.getElem?_eq_getElem (by omega)] at h2
  rw [t3, o3, cellsInt, List.getElem?_eq_getElem (by omega)] at h3
  rw [t4, o4, cells_mems, List.getElem?_eq_getElem (by omega)] at h4
  obtain ⟨n0, e0, _, w0⟩ := DataW.trod_int Try.underlying3 h0
  obtain ⟨n1, e1, _, w1⟩ := DataW.trod_int Try.underlying3 h1
  obtain ⟨n2, e2, _, w2⟩ := DataW.trod_int Try.underlying3 h2
  obtain ⟨n3, e3, _, w3⟩ := DataW.trod_int Try.underlying3 h3
  obtain ⟨A, c, l, e4, hM, hW, hl1, hl2, _⟩ := mems_of_trod Try.underlying30 three h4 (fun p hp => hlt p (List.mem_flatMap.2 ⟨_, List.getElem_mem _, hp⟩))
  exact ⟨⟨0, n0, n1, n2, n3, l⟩, A, c, ⟨hl, take_one e0, take_one e1, take_one e2, take_one e3, take_one e4, hone⟩, hM, hW, bounds_i64 w1, bounds_i64 w0, Nat.le_trans hl1 hl2⟩
set_option maxRecDepth 100000 in
theorem act_of_trod {W : World} {n : Nat} {cs : List Value} {x : DataW H × List MemPlace} (h : DataW.trod enc Try.prog W 0 (fun _ => true) true n 63 cs = some x) (hlt : ∀ p ∈ x.2, p.block < W.heap.size) :
    ∃ m : SAct, cs = actC m ∧ m.Ok W := by
  obtain ⟨f0, f1, f2, hu, ⟨t0, o0⟩, ⟨t1, o1⟩, ⟨t2, o2⟩⟩ := act_lies
  obtain ⟨xs, k, _, rfl, hl, hlen, hf⟩ := DataW.trod_struct hu h
  rw [cells_act] at hl
  match xs, hlen with
  | [y0, y1, y2], _ =>
    have h0 := hf 0 f0 rfl
    have h1 := hf 1 f1 rfl
    have h2 := hf 2 f2 rfl
    rw [t0, o0, cellsInt] at h0
    rw [t1, o1, cellsInt] at h1
    rw [t2, o2, cells_frame] at h2
    obtain ⟨n0, e0, _, w0⟩ := DataW.trod_int Try.underlying3 h0
    obtain ⟨n1, e1, _, w1⟩ := DataW.trod_int Try.underlying3 h1
    obtain ⟨y, A, c, hF, hM, hW, hb, hx, hr⟩ := frame_of_trod h2 (fun p hp => hlt p (by simp [hp]))
    refine ⟨⟨n0, n1, y, (cs.drop 2).take 237, A, c⟩, ?_, hF, hM, hW, bounds_i64 w1, hb, bounds_i64 w0, hx, hr⟩
    match cs, hl with
    | a :: b :: r, hl =>
      simp only [List.drop_zero, List.drop_succ_cons, List.take_succ_cons, List.take_zero, List.cons.injEq, and_true] at e0 e1
      subst e0 e1
      unfold actC
      simp only [List.drop_succ_cons, List.drop_zero]
      rw [List.take_of_length_le (by simp only [List.length_cons] at hl; omega)]
/-- a row of these, as it lies -/
def ActsIn (W : World) (A : Option Addr) (l : List SAct) : Prop := 0 < l.length → ∃ g off, A = some ⟨g, off, none⟩ ∧ g < W.heap.size ∧ ∀ i (h : i < l.length), W.rangeAt g (off + i * 239) (actC l[i])
set_option maxRecDepth 100000 in
theorem open_acts {W : World} {b1 : Nat} {v : Value} {d : DataW H} {ps : List MemPlace}
    (hok : Value.okWide Try.prog W .any b1 61 v) (h : DataW.Trod enc Try.prog W 0 (fun _ => true) true 61 v d ps) (hlt : ∀ p ∈ ps, p.block < W.heap.size) :
    ∃ (A : Option Addr) (c : Nat) (l : List SAct), v = .slice A l.length c ∧ ActsIn W A l ∧ (∀ a ∈ l, a.Ok W) ∧ l.length ≤ maxLen := by
  obtain ⟨a0, len, cap, rfl⟩ := Go.WideShapes.okWide_slice Try.underlying61 hok
  obtain ⟨fuel, hf⟩ := h
  obtain ⟨A, c, l, hc, h1, h2, h3, h4, _⟩ := rows_of_trod (sz := 239) actC (SAct.Ok W) actC_len (by omega) Try.underlying61 cells_act zAct (fun _ _ _ h hlt => act_of_trod h hlt) hf hlt
  simp only [Value.cells, List.cons.injEq, and_true] at hc
  exact ⟨A, c, l, hc, h1, h2, Nat.le_trans h3 h4⟩
end
end Go.Proofs.Ytghefmppjdneoaa
