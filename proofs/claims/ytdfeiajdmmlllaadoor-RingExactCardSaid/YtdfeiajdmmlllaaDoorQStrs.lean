/- A row of strings among the arguments: what it holds, opened; joined, and the press that is nil. -/
import Derived.Test.YtdfeiajdmmlllaaDoorStampH
import Derived.Test.YtdfeiajdmmlllaaDoorRowLib
namespace Go.Proofs.YtdfeiajdmmlllaaDoor
open Go.RowKit

/-- the slice value holds these strings -/
theorem sha_length (l : List UInt8) : (Sha.sha l).length = 32 := digest_length _
def StrsIn (w : World) (A : Option Addr) (ss : List ByteArray) : Prop :=
  0 < ss.length → ∃ ad, A = some ad ∧ ad.block < w.heap.size ∧ ∀ i (h : i < ss.length), w.cell? (ad.add i) = some (.string ss[i])
theorem StrsIn.below {w w' : World} {A : Option Addr} {ss : List ByteArray} (h : StrsIn w A ss) (hb : Below w.heap.size w w') : StrsIn w' A ss := fun h0 => by
  obtain ⟨ad, rfl, hlt, hc⟩ := h h0
  refine ⟨ad, rfl, Nat.lt_of_lt_of_le hlt hb.size, fun i hi => ?_⟩
  have hbk : (ad.add i).block = ad.block := by unfold Addr.add; split <;> rfl
  rw [hb.cell (by rw [hbk]; exact hlt)]
  exact hc i hi
theorem StrsIn.at {w w' : World} {A : Option Addr} {ss : List ByteArray} (h : StrsIn w A ss) (hb : Below w.heap.size w w') {p : Nat} (hp : w.heap.size ≤ p) : StrsAt w' A ss p := fun h0 => by
  obtain ⟨ad, rfl, hlt, hc⟩ := h h0
  obtain ⟨ad', e, hlt', hc'⟩ := h.below hb h0
  cases e
  exact ⟨ad, rfl, by omega, hlt', hc'⟩
theorem StrsIn.cell {w w' : World} {A : Option Addr} {ss : List ByteArray} (h : StrsIn w A ss) (hb : Below w.heap.size w w') {k : Nat} (hk : k < ss.length) : ∃ ad, A = some ad ∧ w'.cell? (ad.add k) = some (.string ss[k]) := by
  obtain ⟨ad, e, _, hc⟩ := h.below hb (by omega)
  exact ⟨ad, e, hc k hk⟩
theorem open_strs {H : Type} {enc : TypeId × Value → H} {P : Program} {t e : TypeId} {W : World} {b1 : Nat} {v : Value} {d : DataW H} {ps : List MemPlace} (ht : P.underlying t = some (.slice e)) (he : P.underlying e = some .string) (hce : P.cellsOf e = 1)
    (hok : Value.okWide P W .any b1 t v) (h : DataW.Trod enc P W 0 (fun _ => true) true t v d ps) (hlt : ∀ x ∈ ps, x.block < W.heap.size) :
    ∃ (A : Option Addr) (c : Nat) (ss : List ByteArray), v = .slice A ss.length c ∧ StrsIn W A ss ∧ ss.length ≤ maxLen ∧ (∀ s ∈ ss, s.size ≤ maxLen) ∧ ss.length ≤ c ∧ c ≤ maxLen ∧ (A = none → c = 0) := by
  obtain ⟨a0, len, cap, rfl⟩ := Go.WideShapes.okWide_slice ht hok
  obtain ⟨fuel, hf⟩ := h
  rcases Go.ChangeShapes.open_strings ht he hce hf with ⟨hcs, _⟩ | ⟨a, len', cap', ss, hcs, _, hl, hm, hz, hx, hcell, hsz⟩
  · simp only [Value.cells, List.cons.injEq, Value.slice.injEq, and_true] at hcs
    obtain ⟨rfl, rfl, rfl⟩ := hcs
    exact ⟨none, 0, [], rfl, fun h => by simp at h, by simp, by simp, by simp, by simp, fun _ => rfl⟩
  · simp only [Value.cells, List.cons.injEq, Value.slice.injEq, and_true] at hcs
    obtain ⟨rfl, rfl, rfl⟩ := hcs
    simp only [if_true] at hz
    have hsl : (ss.take len).length = len := by rw [List.length_take]; omega
    refine ⟨some a, cap, ss.take len, by rw [hsl], fun h0 => ⟨a, rfl, ?_, fun i hi => ?_⟩, by omega, fun s hs => hsz s (List.mem_of_mem_take hs), by omega, hm, fun h => by cases h⟩
    · have hp : MemPlace.cell a.block (a.off + 0) ∈ MemPlace.row a ss.length := by
        refine MemPlace.mem_row.2 ⟨0, by omega, ?_⟩
        rfl
      have hps : ps = MemPlace.row a ss.length := congrArg Prod.snd hx
      exact hlt _ (by rw [hps]; exact hp)
    · have hi2 : i < ss.length := by rw [List.length_take] at hi; omega
      rw [hcell i hi2, List.getElem_take]
      simp [hi2]
theorem flat_le {ss : List ByteArray} {B : Nat} (h : ∀ s ∈ ss, s.size ≤ B) : (flat ss).length ≤ B * ss.length := by
  induction ss with
  | nil => simp [flat]
  | cons s r ih =>
    have h1 := h s List.mem_cons_self
    have h2 := ih (fun x hx => h x (List.mem_cons_of_mem _ hx))
    simp only [flat, List.flatMap_cons, List.length_append, bytes_length, List.length_cons] at h2 ⊢
    rw [Nat.mul_add]
    omega
theorem flat_snoc {ss : List ByteArray} {k : Nat} (hk : k < ss.length) : flat (ss.take (k + 1)) = flat (ss.take k) ++ ss[k].data.toList := by
  rw [take_snoc _ k hk]
  simp only [flat, List.flatMap_append, List.flatMap_cons, List.flatMap_nil, List.append_nil]
theorem flat_prefix {ss : List ByteArray} (k : Nat) : (flat ss).take (flat (ss.take k)).length = flat (ss.take k) := by
  have e : flat ss = flat (ss.take k) ++ flat (ss.drop k) := by
    conv => lhs; rw [← List.take_append_drop k ss]
    simp only [flat, List.flatMap_append]
  rw [e]
  simp
/-- what joined answers true to -/
def Small (ss : List ByteArray) : Prop := ss.length ≤ 100 ∧ ∀ s ∈ ss, s.size ≤ 4096
end Go.Proofs.YtdfeiajdmmlllaaDoor
