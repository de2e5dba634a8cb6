/- A row of strings among the arguments: what it holds, opened; joined, and the press that is nil. -/
import Derived.Test.YthfkbdhfnoilgaaDoorStampJ
import Derived.Test.YthfkbdhfnoilgaaDoorRowLib
namespace Go.Proofs.YthfkbdhfnoilgaaDoor
open Go.RowKit

/-- the slice value holds these strings -/
def StrsIn (w : World) (A : Option Addr) (ss : List ByteArray) : Prop :=
  0 < ss.length → ∃ ad, A = some ad ∧ ad.block < w.heap.size ∧ ∀ i (h : i < ss.length), w.cell? (ad.add i) = some (.string ss[i])
theorem StrsIn.below {w w' : World} {A : Option Addr} {ss : List ByteArray} (h : StrsIn w A ss) (hb : Below w.heap.size w w') : StrsIn w' A ss := fun h0 => by
  obtain ⟨ad, rfl, hlt, hc⟩ := h h0
  refine ⟨ad, rfl, Nat.lt_of_lt_of_le hlt hb.size, fun i hi => ?_⟩
  have hbk : (ad.add i).block = ad.block := by unfold Addr.add; split <;> rfl
  rw [hb.cell (by rw [hbk]; exact hlt)]
  exact hc i hi
theorem StrsIn.at {w w' : World} {A : Option Addr} {ss : List ByteArray} (h : StrsIn w A ss) (hb : Below w.heap.size w w') {p : Nat} (hp : w.heap.size ≤ p) : StrsAt w' A ss p := fun h0 => by
  obtain ⟨ad, rfl, hlt, hc⟩ := h h0
  obtain ⟨ad', e, hlt', hc'⟩ := h.below hb h0
  cases e
  exact ⟨ad, rfl, by omega, hlt', hc'⟩
theorem StrsIn.cell {w w' : World} {A : Option Addr} {ss : List ByteArray} (h : StrsIn w A ss) (hb : Below w.heap.size w w') {k : Nat} (hk : k < ss.length) : ∃ ad, A = some ad ∧ w'.cell? (ad.add k) = some (.string ss[k]) := by
  obtain ⟨ad, e, _, hc⟩ := h.below hb (by omega)
  exact ⟨ad, e, hc k hk⟩

theorem open_strs {H : Type} {enc : TypeId × Value → H} {P : Program} {t e : TypeId} {W : World} {b1 : Nat} {v : Value} {d : DataW H} {ps : List MemPlace} (ht : P.underlying t = some (.slice e)) (he : P.underlying e = some .string) (hce : P.cellsOf e = 1)
    (hok : Value.okWide P W .any b1 t v) (h : DataW.Trod enc P W 0 (fun _ => true) true t v d ps) (hlt : ∀ x ∈ ps, x.block < W.heap.size) :
    ∃ (A : Option Addr) (c : Nat) (ss : List ByteArray), v = .slice A ss.length c ∧ StrsIn W A ss ∧ ss.length ≤ maxLen ∧ (∀ s ∈ ss, s.size ≤ maxLen) ∧ ss.length ≤ c ∧ c ≤ maxLen ∧ (A = none → c = 0) := by
  obtain ⟨a0, len, cap, rfl⟩ := Go.WideShapes.okWide_slice ht hok
  obtain ⟨fuel, hf⟩ := h
  rcases Go.ChangeShapes.open_strings ht he hce hf with ⟨hcs, _⟩ | ⟨a, len', cap', ss, hcs, _, hl, hm, hz, hx, hcell, hsz⟩
  · simp only [Value.cells, List.cons.injEq, Value.slice.injEq, and_true] at hcs
    obtain ⟨rfl, rfl, rfl⟩ := hcs
    exact ⟨none, 0, [], rfl, fun h => by simp at h, by simp, by simp, by simp, by simp, fun _ => rfl⟩
  · simp only [Value.cells, List.cons.injEq, Value.slice.injEq, and_true] at hcs
    obtain ⟨rfl, rfl, rfl⟩ := hcs
    simp only [if_true] at hz
    have hsl : (ss.take len).length = len := by rw [List.length_take]; omega
    refine ⟨some a, cap, ss.take len, by rw [hsl], fun h0 => ⟨a, rfl, ?_, fun i hi => ?_⟩, by omega, fun s hs => hsz s (List.mem_of_mem_take hs), by omega, hm, fun h => by cases h⟩
    · have hp : MemPlace.cell a.block (a.off + 0) ∈ MemPlace.row a ss.length := by
        refine MemPlace.mem_row.2 ⟨0, by omega, ?_⟩
        rfl
      have hps : ps = MemPlace.row a ss.length := congrArg Prod.snd hx
      exact hlt _ (by rw [hps]; exact hp)
    · have hi2 : i < ss.length := by rw [List.length_take] at hi; omega
      rw [hcell i hi2, List.getElem_take]
      simp [hi2]

theorem flat_le {ss : List ByteArray} {B : Nat} (h : ∀ s ∈ ss, s.size ≤ B) : (flat ss).length ≤ B * ss.length := by
  induction ss with
  | nil => simp [flat]
  | cons s r ih =>
    have h1 := h s List.mem_cons_self
    have h2 := ih (fun x hx => h x (List.mem_cons_of_mem _ hx))
    simp only [flat, List.flatMap_cons, List.length_append, bytes_length, List.length_cons] at h2 ⊢
    rw [Nat.mul_add]
    omega
theorem flat_snoc {ss : List ByteArray} {k : Nat} (hk : k < ss.length) : flat (ss.take (k + 1)) = flat (ss.take k) ++ ss[k].data.toList := by
  rw [take_snoc _ k hk]
  simp only [flat, List.flatMap_append, List.flatMap_cons, List.flatMap_nil, List.append_nil]
theorem flat_prefix {ss : List ByteArray} (k : Nat) : (flat ss).take (flat (ss.take k)).length = flat (ss.take k) := by
  have e : flat ss = flat (ss.take k) ++ flat (ss.drop k) := by
    conv => lhs; rw [← List.take_append_drop k ss]
    simp only [flat, List.flatMap_append]
  rw [e]
  simp

/-- what joined answers true to -/
def Small (ss : List ByteArray) : Prop := ss.length ≤ 100 ∧ ∀ s ∈ ss, s.size ≤ 4096
set_option maxRecDepth 100000 in
theorem joined_any (A : Option Addr) (c : Nat) (ss : List ByteArray) (w : World) (hs : StrsIn w A ss) (hn : ss.length ≤ maxLen) :
    Calls Tryd.prog 10 #[.slice A ss.length c] w fun e w' =>
      (e = .returned (.tuple #[.string ByteArray.empty, .bool false]) ∨ ∃ S : ByteArray, e = .returned (.tuple #[.string S, .bool true]) ∧ Small ss ∧ S.data.toList = flat ss) ∧ Below w.heap.size w w' := by
  have HS := Lib.hid hs
  clear hs
  have hn' : ss.length ≤ 9223372036854775807 := hn
  go_enter Tryd.func10, Tryd.ntmps10
  by_cases h100 : 100 < ss.length
  · go_wp2_with fail
    (try simp only [Exit.inBlock, Exit.then])
    refine bodyPost_ret (results_tmp2 rfl _ _ _) rfl ?_
    exact ⟨.inl rfl, Below.refl _ _⟩
  · go_wp2_with fail
    go_loopw [4, 5] (fun s i wr => ∃ (k : Nat) (S : ByteArray), k ≤ ss.length ∧ i = .int .i64 k ∧ s = .string S ∧ S.data.toList = flat (ss.take k) ∧ (∀ x ∈ ss.take k, x.size ≤ 4096) ∧ Below w.heap.size w wr) (fun _ i _ => ss.length - (intOf i).toNat)
    case atStart => exact ⟨0, ByteArray.empty, by omega, rfl, rfl, rfl, by simp, Below.refl _ _⟩
    case round =>
      obtain ⟨k, S, hk, rfl, rfl, hS, hsm, hb⟩ := hrel
      have HB := Lib.hid hb
      clear hb
      by_cases hlt : k < ss.length
      · obtain ⟨ad, rfl, hc⟩ := HS.out.cell HB.out hlt
        obtain ⟨x, hx⟩ : ∃ x, x = ss[k] := ⟨_, rfl⟩
        rw [← hx] at hc
        have HX := Lib.hid hx
        clear hx
        by_cases hbig : 4096 < x.size
        · go_wp2_with fail
          (try simp only [Exit.inBlock, Exit.then])
          refine bodyPost_ret (results_tmp2 rfl _ _ _) rfl ?_
          exact ⟨.inl rfl, HB.out⟩
        · have hSs : S.size ≤ 409600 := by
            have h1 := flat_le hsm
            rw [← hS, bytes_length, List.length_take] at h1
            have h2 : min k ss.length ≤ 100 := by omega
            calc S.size ≤ 4096 * min k ss.length := h1
              _ ≤ 4096 * 100 := Nat.mul_le_mul_left _ h2
          have hnc : ¬ 9223372036854775807 < S.size + x.size := by omega
          have HSS := Lib.hid (And.intro hS (And.intro hsm HX.out))
          clear hS hsm
          go_wp2_with fail
          go_roundw
          case rel =>
            refine ⟨k + 1, S ++ x, by omega, by go_num, rfl, ?_, ?_, HB.out⟩
            · rw [flat_snoc hlt, ← HSS.out.1, ← HSS.out.2.2]
              simp [ByteArray.data_append]
            · intro y hy
              rw [take_snoc _ k hlt, List.mem_append, List.mem_singleton] at hy
              rcases hy with hy | hy
              · exact HSS.out.2.1 y hy
              · rw [hy, ← HSS.out.2.2]
                omega
          case measure => simp [intOf]; omega
      · have hkn : k = ss.length := by omega
        have HSS := Lib.hid (And.intro hS (And.intro hsm hkn))
        clear hS hsm hkn
        go_wp2_with fail
        (try simp only [Exit.inBlock, Exit.then])
        refine bodyPost_ret (results_tmp2 rfl _ _ _) rfl ?_
        refine ⟨.inr ⟨S, rfl, ⟨by omega, ?_⟩, ?_⟩, HB.out⟩
        · have := HSS.out.2.1
          rwa [HSS.out.2.2, List.take_length] at this
        · rw [HSS.out.1, HSS.out.2.2, List.take_length]
end Go.Proofs.YthfkbdhfnoilgaaDoor
