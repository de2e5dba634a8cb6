/- Rows of layer 14: what every statement's row of this seat shares: arguments opened (an array of bytes, a row of these), the last step. -/
import Derived.Test.YtcpnlojcmlldpaaHazeI
import Derived.WalkKit
import Derived.ProofKit
import Derived.OpenShut
import Derived.Carry
import Derived.SliceStrings
import Derived.Deep.Slices
import Derived.Deep.Strs
import Derived.Deep.DeepHandedRow
namespace Go.Proofs.Ytcpnlojcmlldpaa
open Go.ChangeShapes Go.WideShapes Go.ChangeAt Go.RowKit

theorem own : ownKnob Try.prog.godebug = none := by kernel_rfl
theorem laidOut : laidOutB Try.prog = true := by kernel_rfl

section
variable {H : Type} {enc : TypeId × Value → H} {P : Program}
/-- arguments that only were read: they read as before, in a world that has only grown -/
theorem below_trodAll (hl : laidOutB P = true) {W W' : World} (hb : Below W.heap.size W W') : ∀ {ts : List TypeId} {vs : List Value} {ds : List (DataW H)} {ps : List MemPlace},
    ts.all (fun t => P.readableRec t && decide (t < P.types.size)) = true → DataW.TrodAll enc P W 0 (fun _ => true) true ts vs ds ps → (∀ x ∈ ps, x.block < W.heap.size) →
    DataW.TrodAll enc P W' 0 (fun b => decide (b < W.heap.size)) true ts vs ds ps
  | [], vs, ds, ps, _, h, _ => by
    obtain ⟨rfl, rfl, rfl⟩ := trodAll_nil h
    exact trodAll_mk0
  | t :: ts, vs, ds, ps, hr, h, hlt => by
    obtain ⟨v, vs', d, ds', p, q, rfl, rfl, rfl, h0, r0⟩ := trodAll_cons h
    rw [List.all_cons, Bool.and_eq_true, Bool.and_eq_true, decide_eq_true_eq] at hr
    exact trodAll_cons_mk (Below.trod hl hr.1.1 hr.1.2 h0 hb (fun x hx => hlt x (List.mem_append_left _ hx)))
      (below_trodAll hl hb hr.2 r0 (fun x hx => hlt x (List.mem_append_right _ hx)))

/-- the last step of a row that answers true, names no variable, and where only memory has grown -/
theorem done_true {f : Func} {s : ChangeSpec} {W W' : World} {args : Array Value} {ds gs : List (DataW H)} {before : List MemPlace} {tb : TypeId}
    (hW : DataW.Whole enc P f.params.toList s.vars false W args.toList ds gs before) (hv : s.vars = []) (hf : s.fn H (ds ++ gs) = { results := [.lit (.bool true)], args := ds })
    (hl : laidOutB P = true) (hr : f.params.toList.all (fun t => P.readableRec t && decide (t < P.types.size)) = true) (hrt : f.resultTypes = #[tb]) (htb : P.underlying tb = some .bool)
    (hb : Below W.heap.size W W') : s.post enc P f false true false false W args (.bool true) W' := by
  have hlt := hW.lt
  obtain ⟨p, q, hA, hV, rfl, hfz, hnd⟩ := id hW
  have hk : W.keptBut W' (· ∈ ([] : List MemPlace)) := hb.frame _
  refine ⟨ds, gs, p ++ q, [], p, [], hW, ?_, ?_, ?_, World.keptBut_mono (fun p hp => by cases hp) hk, fun h => by cases h⟩
  · rw [hf, hrt]
    exact trodAll_cons_mk (shut_bool htb _) trodAll_mk0
  · rw [hf]
    exact below_trodAll hl hb hr hA (fun x hx => hlt x (List.mem_append_left _ hx))
  · rw [hf, hv]
    rfl

theorem bytes_of_trod {n : Nat} {t e : TypeId} {W : World} {b0 : Nat} {sp : Nat → Bool} {held : Bool} {k : Nat} {cs : List Value} {x : DataW H × List MemPlace} (ht : P.underlying t = some (.array n e)) (he : P.underlying e = some (.int .u8)) (hce : P.cellsOf e = 1)
    (hct : P.cellsOf t = n) (h : DataW.trod enc P W b0 sp held k t cs = some x) : ∃ a : List UInt8, cs = u8s a ∧ a.length = n := by
  obtain ⟨xs, m, _, _, hl, hxl, hx⟩ := DataW.trod_array ht h
  rw [hct] at hl
  have each : ∀ i (hi : i < n), ∃ b : UInt8, cs[i]? = some (.int .u8 (b.toNat : Int)) := by
    intro i hi
    have h1 := hx i hi
    rw [hce, Nat.mul_one, List.getElem?_eq_getElem (by omega)] at h1
    obtain ⟨k, hk, _, hw⟩ := DataW.trod_int he h1
    have hb := bounds_u8 hw
    refine ⟨UInt8.ofNat k.toNat, ?_⟩
    have hi2 : i < cs.length := by omega
    rw [List.drop_eq_getElem_cons hi2, List.take_succ_cons, List.take_zero] at hk
    rw [List.getElem?_eq_getElem hi2, List.head_eq_of_cons_eq hk]
    have : (UInt8.ofNat k.toNat).toNat = k.toNat := by simp; omega
    rw [this]
    congr 2
    omega
  have hex : ∃ a : List UInt8, a.length = n ∧ ∀ i (hi : i < a.length), cs[i]? = some (.int .u8 (a[i].toNat : Int)) := by
    refine ⟨(List.range n).map fun i => if h : i < n then (each i h).choose else 0, by simp, fun i hi => ?_⟩
    have hin : i < n := by simpa using hi
    have := (each i hin).choose_spec
    simpa [hin] using this
  obtain ⟨a, ha, hc⟩ := hex
  refine ⟨a, ?_, ha⟩
  apply List.ext_getElem?
  intro i
  by_cases hi : i < a.length
  · rw [hc i hi]
    simp [u8s, hi]
  · rw [List.getElem?_eq_none (by omega), List.getElem?_eq_none (by simp [u8s]; omega)]
/-- an array of bytes, opened -/
theorem open_bytes {n : Nat} {t e : TypeId} {W : World} {b0 b1 : Nat} {sp : Nat → Bool} {held : Bool} {v : Value} {d : DataW H} {ps : List MemPlace} (ht : P.underlying t = some (.array n e)) (he : P.underlying e = some (.int .u8)) (hce : P.cellsOf e = 1)
    (hct : P.cellsOf t = n) (hok : Value.okWide P W .any b1 t v) (h : DataW.Trod enc P W b0 sp held t v d ps) : ∃ a : List UInt8, v = .agg (u8s a).toArray ∧ a.length = n := by
  simp only [Value.okWide, ht] at hok
  obtain ⟨cs, rfl, hsz, _⟩ := hok
  obtain ⟨fuel, hf⟩ := h
  obtain ⟨a, hc, hl⟩ := bytes_of_trod ht he hce hct hf
  refine ⟨a, ?_, hl⟩
  congr 1
  apply Array.ext'
  simpa [Value.cells] using hc

theorem bytess_of_trod {t e z : TypeId} {sz : Nat} (hsz : 0 < sz) (ht : P.underlying t = some (.slice e)) (he : P.underlying e = some (.array sz z)) (hz : P.underlying z = some (.int .u8)) (hcz : P.cellsOf z = 1) (hce : P.cellsOf e = sz) {W : World} {n : Nat} {cs : List Value} {x : DataW H × List MemPlace} (h : DataW.trod enc P W 0 (fun _ => true) true n t cs = some x)
    (hlt : ∀ p ∈ x.2, p.block < W.heap.size) : ∃ (A : Option Addr) (c : Nat) (l : List (List UInt8)), cs = [.slice A l.length c] ∧ BytesIn W A sz l ∧ (∀ m ∈ l, m.length = sz) ∧ l.length ≤ c ∧ c ≤ maxLen ∧ (A = none → c = 0) := by
  rcases Go.Deep.open_slice ht h with ⟨rfl, _⟩ | ⟨a, len, cap, m, n, D, Pl, rfl, _, hl, hm, hmm, rfl, hx⟩
  · exact ⟨none, 0, [], rfl, fun h => absurd h (by simp), fun m hm => by simp at hm, by simp, by simp, fun _ => rfl⟩
  · rw [hce] at hx hlt
    simp only [if_true] at hmm
    subst hmm
    have each : ∀ i, i < m → ∃ y : List UInt8, W.cells? 0 (a.add (i * sz)) sz = some (u8s y) ∧ y.length = sz := by
      intro i hi
      obtain ⟨cs', h1, h2⟩ := hx i hi
      obtain ⟨y, rfl, hy⟩ := bytes_of_trod he hz hcz hce h2
      exact ⟨y, h1, hy⟩
    obtain ⟨l, hll, hle⟩ : ∃ l : List (List UInt8), l.length = len ∧ ∀ i (h : i < l.length), W.cells? 0 (a.add (i * sz)) sz = some (u8s l[i]) ∧ l[i].length = sz := by
      refine ⟨(List.range len).map fun i => if h : i < m then (each i h).choose else [], by simp, fun i hi => ?_⟩
      have hin : i < len := by simpa using hi
      have hi' : i < m := by omega
      have := (each i hi').choose_spec
      simpa [hi'] using this
    refine ⟨some a, m, l, by rw [hll], fun h0 => ?_, fun y hy => ?_, by omega, hm, fun h => by cases h⟩
    · have hs := World.cells?_some (hle 0 h0).1
      have hs0 := hs.2.2 0 (by omega)
      rw [Nat.zero_mul] at hs0
      have hz : (a.add 0).add 0 = a := rfl
      rw [hz, u8s_get (by rw [(hle 0 h0).2]; exact hsz)] at hs0
      have hsp : a.spot = none := World.cell?_spot hs0
      obtain ⟨g, off, sp⟩ := a
      simp only at hsp
      subst hsp
      refine ⟨g, off, rfl, ?_, fun i hi j v hv => ?_⟩
      · have hp : MemPlace.cell g (off + 0) ∈ MemPlace.row ⟨g, off, none⟩ (m * sz) := MemPlace.mem_row.2 ⟨0, Nat.mul_pos (by omega) hsz, rfl⟩
        exact hlt _ (List.mem_append_left _ hp)
      · have hj : j < sz := by
          have := (List.getElem?_eq_some_iff.1 hv).1
          rw [u8s_len, (hle i hi).2] at this
          exact this
        have hc := (World.cells?_some (hle i hi).1).2.2 j hj
        rw [hv, Go.Deep.add_add] at hc
        have e : (⟨g, off, none⟩ : Addr).add (i * sz + j) = ⟨g, off + i * sz + j, none⟩ := by
          unfold Addr.add
          split
          · rename_i h0
            have h1 : i * sz = 0 := by omega
            have : j = 0 := by omega
            simp_all
          · simp [Nat.add_assoc]
        rw [e] at hc
        exact hc
    · obtain ⟨i, hi, rfl⟩ := List.mem_iff_getElem.1 hy
      exact (hle i hi).2
/-- a row of arrays of bytes, opened -/
theorem open_bytess {t e z : TypeId} {sz : Nat} (hsz : 0 < sz) (ht : P.underlying t = some (.slice e)) (he : P.underlying e = some (.array sz z)) (hz : P.underlying z = some (.int .u8)) (hcz : P.cellsOf z = 1) (hce : P.cellsOf e = sz) {W : World} {b1 : Nat} {v : Value} {d : DataW H} {ps : List MemPlace}
    (hok : Value.okWide P W .any b1 t v) (h : DataW.Trod enc P W 0 (fun _ => true) true t v d ps) (hlt : ∀ p ∈ ps, p.block < W.heap.size) :
    ∃ (A : Option Addr) (c : Nat) (l : List (List UInt8)), v = .slice A l.length c ∧ BytesIn W A sz l ∧ (∀ m ∈ l, m.length = sz) ∧ l.length ≤ c ∧ c ≤ maxLen ∧ (A = none → c = 0) := by
  obtain ⟨a0, len, cap, rfl⟩ := Go.WideShapes.okWide_slice ht hok
  obtain ⟨fuel, hf⟩ := h
  obtain ⟨A, c, l, hc, h1, h2, h3', h4, h5⟩ := bytess_of_trod hsz ht he hz hcz hce hf hlt
  simp only [Value.cells, List.cons.injEq, and_true] at hc
  exact ⟨A, c, l, hc, h1, h2, h3', h4, h5⟩
end
theorem cells_u8 : Try.prog.cellsOf 5 = 1 := by kernel_rfl
theorem cells_dg : Try.prog.cellsOf 23 = 32 := by kernel_rfl
theorem cells_hz : Try.prog.cellsOf 26 = 64 := by kernel_rfl
end Go.Proofs.Ytcpnlojcmlldpaa
