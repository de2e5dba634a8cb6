/- Rows of layers 15 and 16: arguments opened. -/
import Derived.Test.YtefbllhpibfojaaDoorGrpA
import Derived.Test.YtefbllhpibfojaaDoorGrpB
import Derived.WalkKit
import Derived.ProofKit
import Derived.OpenShut
import Derived.Carry
import Derived.SliceStrings
import Derived.Deep.DeepHandedRow
import Derived.Lib.LaidTab
import Derived.Test.YtefbllhpibfojaaDoorGrpJ
import Derived.Deep.Slices
import Derived.Deep.Strs
namespace Go.Proofs.YtefbllhpibfojaaDoor
open Go.ChangeShapes Go.WideShapes Go.ChangeAt Go.RowKit

theorem own : ownKnob Tryd.prog.godebug = none := by kernel_rfl
theorem laidOut : laidOutB Tryd.prog = true := by kernel_rfl
theorem gTab : Tryd.prog.globalNamed "apiary/stamp.words" = some 0 := by kernel_rfl
theorem gTabType : (Tryd.prog.globals[0]?).map (·.type) = some 121 := by kernel_rfl
theorem cellsTab : Tryd.prog.cellsOf 121 = 64 := by kernel_rfl
theorem cellsU32 : Tryd.prog.cellsOf 106 = 1 := by kernel_rfl

section
variable {H : Type} {enc : TypeId × Value → H} {P : Program}
/-- arguments that only were read: they read as before, in a world that has only grown -/
theorem below_trodAll (hl : laidOutB P = true) {W W' : World} (hb : Below W.heap.size W W') : ∀ {ts : List TypeId} {vs : List Value} {ds : List (DataW H)} {ps : List MemPlace},
    ts.all (fun t => P.readableRec t && decide (t < P.types.size)) = true → DataW.TrodAll enc P W 0 (fun _ => true) true ts vs ds ps → (∀ x ∈ ps, x.block < W.heap.size) →
    DataW.TrodAll enc P W' 0 (fun b => decide (b < W.heap.size)) true ts vs ds ps
  | [], vs, ds, ps, _, h, _ => by
    obtain ⟨rfl, rfl, rfl⟩ := trodAll_nil h
    exact trodAll_mk0
  | t :: ts, vs, ds, ps, hr, h, hlt => by
    obtain ⟨v, vs', d, ds', p, q, rfl, rfl, rfl, h0, r0⟩ := trodAll_cons h
    rw [List.all_cons, Bool.and_eq_true, Bool.and_eq_true, decide_eq_true_eq] at hr
    exact trodAll_cons_mk (Below.trod hl hr.1.1 hr.1.2 h0 hb (fun x hx => hlt x (List.mem_append_left _ hx)))
      (below_trodAll hl hb hr.2 r0 (fun x hx => hlt x (List.mem_append_right _ hx)))

/-- the last step of a row that answers true, names no variable, and where only memory has grown -/
theorem done_true {f : Func} {s : ChangeSpec} {W W' : World} {args : Array Value} {ds gs : List (DataW H)} {before : List MemPlace} {tb : TypeId}
    (hW : DataW.Whole enc P f.params.toList s.vars false W args.toList ds gs before) (hv : s.vars = []) (hf : s.fn H (ds ++ gs) = { results := [.lit (.bool true)], args := ds })
    (hl : laidOutB P = true) (hr : f.params.toList.all (fun t => P.readableRec t && decide (t < P.types.size)) = true) (hrt : f.resultTypes = #[tb]) (htb : P.underlying tb = some .bool)
    (hb : Below W.heap.size W W') : s.post enc P f false true false false W args (.bool true) W' := by
  have hlt := hW.lt
  obtain ⟨p, q, hA, hV, rfl, hfz, hnd⟩ := id hW
  have hk : W.keptBut W' (· ∈ ([] : List MemPlace)) := hb.frame _
  refine ⟨ds, gs, p ++ q, [], p, [], hW, ?_, ?_, ?_, World.keptBut_mono (fun p hp => by cases hp) hk, fun h => by cases h⟩
  · rw [hf, hrt]
    exact trodAll_cons_mk (shut_bool htb _) trodAll_mk0
  · rw [hf]
    exact below_trodAll hl hb hr hA (fun x hx => hlt x (List.mem_append_left _ hx))
  · rw [hf, hv]
    rfl

/-- an array of bytes, opened -/
theorem open_bytes {n : Nat} {t e : TypeId} {W : World} {b0 b1 : Nat} {sp : Nat → Bool} {held : Bool} {v : Value} {d : DataW H} {ps : List MemPlace} (ht : P.underlying t = some (.array n e)) (he : P.underlying e = some (.int .u8)) (hce : P.cellsOf e = 1)
    (hct : P.cellsOf t = n) (hok : Value.okWide P W .any b1 t v) (h : DataW.Trod enc P W b0 sp held t v d ps) : ∃ a : List UInt8, v = .agg (u8s a).toArray ∧ a.length = n := by
  simp only [Value.okWide, ht] at hok
  obtain ⟨cs, rfl, hsz, _⟩ := hok
  obtain ⟨fuel, hf⟩ := h
  obtain ⟨xs, m, _, _, hl, hxl, hx⟩ := DataW.trod_array ht hf
  simp only [Value.cells] at hl hx
  rw [hct] at hl
  have each : ∀ i (hi : i < n), ∃ b : UInt8, cs.toList[i]? = some (.int .u8 (b.toNat : Int)) := by
    intro i hi
    have h1 := hx i hi
    rw [hce, Nat.mul_one, List.getElem?_eq_getElem (by omega)] at h1
    obtain ⟨k, hk, _, hw⟩ := DataW.trod_int he h1
    have hb := bounds_u8 hw
    refine ⟨UInt8.ofNat k.toNat, ?_⟩
    have hi2 : i < cs.toList.length := by omega
    rw [List.drop_eq_getElem_cons hi2, List.take_succ_cons, List.take_zero] at hk
    rw [List.getElem?_eq_getElem hi2, List.head_eq_of_cons_eq hk]
    have : (UInt8.ofNat k.toNat).toNat = k.toNat := by simp; omega
    rw [this]
    congr 2
    omega
  have hex : ∃ a : List UInt8, a.length = n ∧ ∀ i (hi : i < a.length), cs.toList[i]? = some (.int .u8 (a[i].toNat : Int)) := by
    refine ⟨(List.range n).map fun i => if h : i < n then (each i h).choose else 0, by simp, fun i hi => ?_⟩
    have hin : i < n := by simpa using hi
    have := (each i hin).choose_spec
    simpa [hin] using this
  obtain ⟨a, ha, hc⟩ := hex
  refine ⟨a, ?_, ha⟩
  congr 1
  apply Array.ext'
  apply List.ext_getElem?
  intro i
  by_cases hi : i < a.length
  · rw [hc i hi]
    simp [u8s, hi]
  · rw [List.getElem?_eq_none (by omega), List.getElem?_eq_none (by simp [u8s]; omega)]
end
end Go.Proofs.YtefbllhpibfojaaDoor

namespace Go.Proofs.YtefbllhpibfojaaDoor
open Go.ChangeShapes Go.WideShapes Go.ChangeAt Go.RowKit

theorem cellsDg : Tryd.prog.cellsOf 24 = 32 := by kernel_rfl
theorem cellsU8 : Tryd.prog.cellsOf 5 = 1 := by kernel_rfl
theorem cellsInt : Tryd.prog.cellsOf 3 = 1 := by kernel_rfl
theorem cellsErr : Tryd.prog.cellsOf 29 = 1 := by kernel_rfl
theorem cellsRec : Tryd.prog.cellsOf 38 = 65 := by kernel_rfl
theorem cellsRng : Tryd.prog.cellsOf 26 = 35 := by kernel_rfl
theorem cut3 {cs : List Value} (h : cs.length = 65) : cs = (cs.drop 0).take 32 ++ ((cs.drop 32).take 1 ++ (cs.drop 33).take 32) := by
  have h1 : cs.drop 33 = (cs.drop 33).take 32 := (List.take_of_length_le (by rw [List.length_drop]; omega)).symm
  have h2 : cs.drop 32 = (cs.drop 32).take 1 ++ cs.drop 33 := by
    have := (List.take_append_drop 1 (cs.drop 32)).symm
    rwa [List.drop_drop] at this
  have h3 : cs.drop 0 = (cs.drop 0).take 32 ++ cs.drop 32 := by
    have := (List.take_append_drop 32 (cs.drop 0)).symm
    rwa [List.drop_drop] at this
  rw [← h1, ← h2, ← h3]
  rfl
theorem cut4 {cs : List Value} (h : cs.length = 35) : cs = (cs.drop 0).take 1 ++ ((cs.drop 1).take 1 ++ ((cs.drop 2).take 1 ++ (cs.drop 3).take 32)) := by
  have h1 : cs.drop 3 = (cs.drop 3).take 32 := (List.take_of_length_le (by rw [List.length_drop]; omega)).symm
  have h2 : cs.drop 2 = (cs.drop 2).take 1 ++ cs.drop 3 := by
    have := (List.take_append_drop 1 (cs.drop 2)).symm
    rwa [List.drop_drop] at this
  have h3 : cs.drop 1 = (cs.drop 1).take 1 ++ cs.drop 2 := by
    have := (List.take_append_drop 1 (cs.drop 1)).symm
    rwa [List.drop_drop] at this
  have h4 : cs.drop 0 = (cs.drop 0).take 1 ++ cs.drop 1 := by
    have := (List.take_append_drop 1 (cs.drop 0)).symm
    rwa [List.drop_drop] at this
  rw [← h1, ← h2, ← h3, ← h4]
  rfl
theorem rec_lies : ∃ f0 f1 f2 : Field, Tryd.prog.underlying 38 = some (.struct #[f0, f1, f2]) ∧ (f0.type = 24 ∧ f0.offset = 0) ∧ (f1.type = 29 ∧ f1.offset = 32) ∧ (f2.type = 24 ∧ f2.offset = 33) :=
  ⟨_, _, _, Tryd.underlying38, ⟨rfl, rfl⟩, ⟨rfl, rfl⟩, ⟨rfl, rfl⟩⟩
theorem rng_lies : ∃ f0 f1 f2 f3 : Field, Tryd.prog.underlying 26 = some (.struct #[f0, f1, f2, f3]) ∧ (f0.type = 3 ∧ f0.offset = 0) ∧ (f1.type = 3 ∧ f1.offset = 1) ∧ (f2.type = 3 ∧ f2.offset = 2) ∧ (f3.type = 24 ∧ f3.offset = 3) :=
  ⟨_, _, _, _, Tryd.underlying26, ⟨rfl, rfl⟩, ⟨rfl, rfl⟩, ⟨rfl, rfl⟩, ⟨rfl, rfl⟩⟩
section
variable {H : Type} {enc : TypeId × Value → H}
theorem bytes_of_trod {P : Program} {n : Nat} {t e : TypeId} {W : World} {b0 : Nat} {sp : Nat → Bool} {held : Bool} {k : Nat} {cs : List Value} {x : DataW H × List MemPlace} (ht : P.underlying t = some (.array n e)) (he : P.underlying e = some (.int .u8)) (hce : P.cellsOf e = 1)
    (hct : P.cellsOf t = n) (h : DataW.trod enc P W b0 sp held k t cs = some x) : ∃ a : List UInt8, cs = u8s a ∧ a.length = n := by
  obtain ⟨xs, m, _, _, hl, hxl, hx⟩ := DataW.trod_array ht h
  rw [hct] at hl
  have each : ∀ i (hi : i < n), ∃ b : UInt8, cs[i]? = some (.int .u8 (b.toNat : Int)) := by
    intro i hi
    have h1 := hx i hi
    rw [hce, Nat.mul_one, List.getElem?_eq_getElem (by omega)] at h1
    obtain ⟨k, hk, _, hw⟩ := DataW.trod_int he h1
    have hb := bounds_u8 hw
    refine ⟨UInt8.ofNat k.toNat, ?_⟩
    have hi2 : i < cs.length := by omega
    rw [List.drop_eq_getElem_cons hi2, List.take_succ_cons, List.take_zero] at hk
    rw [List.getElem?_eq_getElem hi2, List.head_eq_of_cons_eq hk]
    have : (UInt8.ofNat k.toNat).toNat = k.toNat := by simp; omega
    rw [this]
    congr 2
    omega
  have hex : ∃ a : List UInt8, a.length = n ∧ ∀ i (hi : i < a.length), cs[i]? = some (.int .u8 (a[i].toNat : Int)) := by
    refine ⟨(List.range n).map fun i => if h : i < n then (each i h).choose else 0, by simp, fun i hi => ?_⟩
    have hin : i < n := by simpa using hi
    have := (each i hin).choose_spec
    simpa [hin] using this
  obtain ⟨a, ha, hc⟩ := hex
  refine ⟨a, ?_, ha⟩
  apply List.ext_getElem?
  intro i
  by_cases hi : i < a.length
  · rw [hc i hi]
    simp [u8s, hi]
  · rw [List.getElem?_eq_none (by omega), List.getElem?_eq_none (by simp [u8s]; omega)]
theorem rec_of_trod {W : World} {b0 : Nat} {sp : Nat → Bool} {held : Bool} {n : Nat} {cs : List Value} {x : DataW H × List MemPlace} (h : DataW.trod enc Tryd.prog W b0 sp held n 38 cs = some x) :
    ∃ m : Rec, cs = encR m := by
  obtain ⟨f0, f1, f2, hu, ⟨t0, o0⟩, ⟨t1, o1⟩, ⟨t2, o2⟩⟩ := rec_lies
  obtain ⟨xs, k, _, _, hl, hlen, hf⟩ := DataW.trod_struct hu h
  rw [cellsRec] at hl
  match xs, hlen with
  | [y0, y1, y2], _ =>
    have h0 := hf 0 f0 rfl
    have h1 := hf 1 f1 rfl
    have h2 := hf 2 f2 rfl
    rw [t0, o0, cellsDg] at h0
    rw [t1, o1, cellsErr] at h1
    rw [t2, o2, cellsDg] at h2
    obtain ⟨k0, e0, l0⟩ := bytes_of_trod Tryd.underlying24 Tryd.underlying5 cellsU8 cellsDg h0
    obtain ⟨n1, e1, _, w1⟩ := DataW.trod_int Tryd.underlying29 h1
    obtain ⟨k2, e2, l2⟩ := bytes_of_trod Tryd.underlying24 Tryd.underlying5 cellsU8 cellsDg h2
    refine ⟨⟨k0, n1, k2, l0, l2, bounds_i64 w1⟩, ?_⟩
    rw [cut3 hl, e0, e1, e2]
    rfl
theorem rng_of_trod {W : World} {b0 : Nat} {sp : Nat → Bool} {held : Bool} {n : Nat} {cs : List Value} {x : DataW H × List MemPlace} (h : DataW.trod enc Tryd.prog W b0 sp held n 26 cs = some x) :
    ∃ m : Rng, cs = encG m := by
  obtain ⟨f0, f1, f2, f3, hu, ⟨t0, o0⟩, ⟨t1, o1⟩, ⟨t2, o2⟩, ⟨t3, o3⟩⟩ := rng_lies
  obtain ⟨xs, k, _, _, hl, hlen, hf⟩ := DataW.trod_struct hu h
  rw [cellsRng] at hl
  match xs, hlen with
  | [y0, y1, y2, y3], _ =>
    have h0 := hf 0 f0 rfl
    have h1 := hf 1 f1 rfl
    have h2 := hf 2 f2 rfl
    have h3 := hf 3 f3 rfl
    rw [t0, o0, cellsInt] at h0
    rw [t1, o1, cellsInt] at h1
    rw [t2, o2, cellsInt] at h2
    rw [t3, o3, cellsDg] at h3
    obtain ⟨n0, e0, _, w0⟩ := DataW.trod_int Tryd.underlying3 h0
    obtain ⟨n1, e1, _, w1⟩ := DataW.trod_int Tryd.underlying3 h1
    obtain ⟨n2, e2, _, w2⟩ := DataW.trod_int Tryd.underlying3 h2
    obtain ⟨k3, e3, l3⟩ := bytes_of_trod Tryd.underlying24 Tryd.underlying5 cellsU8 cellsDg h3
    refine ⟨⟨n0, n1, n2, k3, l3, bounds_i64 w0, bounds_i64 w1, bounds_i64 w2⟩, ?_⟩
    rw [cut4 hl, e0, e1, e2, e3]
    rfl
/-- a row of things, opened -/
theorem encs_of_trod {α : Type} {en : α → List Value} {sz : Nat} (hk : ∀ x, (en x).length = sz) {t e : TypeId} (hsz : 0 < sz) (ht : Tryd.prog.underlying t = some (.slice e)) (hce : Tryd.prog.cellsOf e = sz) (z : α)
    (each' : ∀ (W : World) (n : Nat) (cs : List Value) (x : DataW H × List MemPlace), DataW.trod enc Tryd.prog W 0 (fun _ => true) true n e cs = some x → ∃ m : α, cs = en m)
    {W : World} {n : Nat} {cs : List Value} {x : DataW H × List MemPlace} (h : DataW.trod enc Tryd.prog W 0 (fun _ => true) true n t cs = some x)
    (hlt : ∀ p ∈ x.2, p.block < W.heap.size) : ∃ (A : Option Addr) (c : Nat) (l : List α), cs = [.slice A l.length c] ∧ EncIn en sz W A l ∧ l.length ≤ c ∧ c ≤ maxLen ∧ (A = none → c = 0) := by
  rcases Go.Deep.open_slice ht h with ⟨rfl, _⟩ | ⟨a, len, cap, m, n, D, Pl, rfl, _, hl, hm, hmm, rfl, hx⟩
  · exact ⟨none, 0, [], rfl, fun h => absurd h (by simp), by simp, by simp, fun _ => rfl⟩
  · rw [hce] at hx hlt
    simp only [if_true] at hmm
    subst hmm
    have each : ∀ i, i < m → ∃ y : α, W.cells? 0 (a.add (i * sz)) sz = some (en y) := by
      intro i hi
      obtain ⟨cs', h1, h2⟩ := hx i hi
      obtain ⟨y, rfl⟩ := each' _ _ _ _ h2
      exact ⟨y, h1⟩
    obtain ⟨l, hll, hle⟩ : ∃ l : List α, l.length = len ∧ ∀ i (h : i < l.length), W.cells? 0 (a.add (i * sz)) sz = some (en l[i]) := by
      refine ⟨(List.range len).map fun i => if h : i < m then (each i h).choose else z, by simp, fun i hi => ?_⟩
      have hin : i < len := by simpa using hi
      have hi' : i < m := by omega
      have := (each i hi').choose_spec
      simpa [hi'] using this
    refine ⟨some a, m, l, by rw [hll], fun h0 => ?_, by omega, hm, fun h => by cases h⟩
    have hs := World.cells?_some (hle 0 h0)
    have hs0 := hs.2.2 0 hsz
    rw [Nat.zero_mul] at hs0
    have hz : (a.add 0).add 0 = a := rfl
    obtain ⟨v0, hv0⟩ : ∃ v0, (en l[0])[0]? = some v0 := by
      have h0' : 0 < (en l[0]).length := by rw [hk]; exact hsz
      exact ⟨_, List.getElem?_eq_getElem h0'⟩
    rw [hz, hv0] at hs0
    have hsp : a.spot = none := World.cell?_spot hs0
    obtain ⟨g, off, sp⟩ := a
    simp only at hsp
    subst hsp
    refine ⟨g, off, rfl, ?_, fun i hi j v hv => ?_⟩
    · have hp : MemPlace.cell g (off + 0) ∈ MemPlace.row ⟨g, off, none⟩ (m * sz) := MemPlace.mem_row.2 ⟨0, Nat.mul_pos (by omega) hsz, rfl⟩
      exact hlt _ (List.mem_append_left _ hp)
    · have hj : j < sz := by
        have := (List.getElem?_eq_some_iff.1 hv).1
        rwa [hk] at this
      have hc := (World.cells?_some (hle i hi)).2.2 j hj
      rw [hv, Go.Deep.add_add] at hc
      have e : (⟨g, off, none⟩ : Addr).add (i * sz + j) = ⟨g, off + i * sz + j, none⟩ := by
        unfold Addr.add
        split
        · rename_i h0
          have h1 : i * sz = 0 := by omega
          have : j = 0 := by omega
          simp_all
        · simp [Nat.add_assoc]
      rw [e] at hc
      exact hc
set_option maxRecDepth 100000 in
theorem open_recs {W : World} {b1 : Nat} {v : Value} {d : DataW H} {ps : List MemPlace} (hok : Value.okWide Tryd.prog W .any b1 22 v) (h : DataW.Trod enc Tryd.prog W 0 (fun _ => true) true 22 v d ps) (hlt : ∀ p ∈ ps, p.block < W.heap.size) :
    ∃ (A : Option Addr) (c : Nat) (l : List Rec), v = .slice A l.length c ∧ EncIn encR 65 W A l ∧ l.length ≤ c ∧ c ≤ maxLen ∧ (A = none → c = 0) := by
  obtain ⟨a0, len, cap, rfl⟩ := Go.WideShapes.okWide_slice Tryd.underlying22 hok
  obtain ⟨fuel, hf⟩ := h
  obtain ⟨A, c, l, hc, h1, h2, h3, h4⟩ := encs_of_trod encR_len (by omega) Tryd.underlying22 cellsRec Rec.zero (fun W n cs x h => rec_of_trod h) hf hlt
  simp only [Value.cells, List.cons.injEq, and_true] at hc
  exact ⟨A, c, l, hc, h1, h2, h3, h4⟩
set_option maxRecDepth 100000 in
theorem open_rngs {W : World} {b1 : Nat} {v : Value} {d : DataW H} {ps : List MemPlace} (hok : Value.okWide Tryd.prog W .any b1 45 v) (h : DataW.Trod enc Tryd.prog W 0 (fun _ => true) true 45 v d ps) (hlt : ∀ p ∈ ps, p.block < W.heap.size) :
    ∃ (A : Option Addr) (c : Nat) (l : List Rng), v = .slice A l.length c ∧ EncIn encG 35 W A l ∧ l.length ≤ c ∧ c ≤ maxLen ∧ (A = none → c = 0) := by
  obtain ⟨a0, len, cap, rfl⟩ := Go.WideShapes.okWide_slice Tryd.underlying45 hok
  obtain ⟨fuel, hf⟩ := h
  obtain ⟨A, c, l, hc, h1, h2, h3, h4⟩ := encs_of_trod encG_len (by omega) Tryd.underlying45 cellsRng Rng.zero (fun W n cs x h => rng_of_trod h) hf hlt
  simp only [Value.cells, List.cons.injEq, and_true] at hc
  exact ⟨A, c, l, hc, h1, h2, h3, h4⟩
set_option maxRecDepth 100000 in
theorem open_rec {W : World} {b0 b1 : Nat} {sp : Nat → Bool} {held : Bool} {v : Value} {d : DataW H} {ps : List MemPlace} (hok : Value.okWide Tryd.prog W .any b1 38 v) (h : DataW.Trod enc Tryd.prog W b0 sp held 38 v d ps) : ∃ x : Rec, v = .agg (encR x).toArray := by
  simp only [Value.okWide, Tryd.underlying38] at hok
  obtain ⟨cs, rfl, hsz, _⟩ := hok
  obtain ⟨fuel, hf⟩ := h
  obtain ⟨x, hx⟩ := rec_of_trod hf
  refine ⟨x, ?_⟩
  congr 1
  apply Array.ext'
  simpa [Value.cells] using hx
set_option maxRecDepth 100000 in
theorem open_rng {W : World} {b0 b1 : Nat} {sp : Nat → Bool} {held : Bool} {v : Value} {d : DataW H} {ps : List MemPlace} (hok : Value.okWide Tryd.prog W .any b1 26 v) (h : DataW.Trod enc Tryd.prog W b0 sp held 26 v d ps) : ∃ x : Rng, v = .agg (encG x).toArray := by
  simp only [Value.okWide, Tryd.underlying26] at hok
  obtain ⟨cs, rfl, hsz, _⟩ := hok
  obtain ⟨fuel, hf⟩ := h
  obtain ⟨x, hx⟩ := rng_of_trod hf
  refine ⟨x, ?_⟩
  congr 1
  apply Array.ext'
  simpa [Value.cells] using hx
end
end Go.Proofs.YtefbllhpibfojaaDoor
