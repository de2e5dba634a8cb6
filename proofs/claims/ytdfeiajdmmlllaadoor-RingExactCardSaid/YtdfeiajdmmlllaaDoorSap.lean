/- Layer 1: a text's bytes, a row's: what Text and Row compute; and layer 2's Row. -/
import Derived.Test.YtdfeiajdmmlllaaDoorSapNum
import Derived.Test.YtdfeiajdmmlllaaDoorBuilder
import Derived.Test.YtdfeiajdmmlllaaDoorStampG
namespace Go.Proofs.YtdfeiajdmmlllaaDoor
open Go.RowKit

namespace Sap
def text (l : List UInt8) : List UInt8 := num l.length ++ l
def row (ls : List (List UInt8)) : List UInt8 := num ls.length ++ ls.flatMap text
theorem num_length (n : Int) : (num n).length ≤ 9 := by
  have := width_le 8 (mag n)
  simp [num, Sha.bytes_length]
  omega
theorem num_ne (n : Int) : num n ≠ [] := by simp [num]
end Sap
theorem str_append (l : List UInt8) (s : ByteArray) : (⟨l.toArray⟩ : ByteArray) ++ s = ⟨(l ++ s.data.toList).toArray⟩ := by
  apply ByteArray.ext
  simp [ByteArray.data_append]
theorem str_size (l : List UInt8) : (⟨l.toArray⟩ : ByteArray).size = l.length := by simp [ByteArray.size]

theorem text_any (s : ByteArray) (hs : s.size < 1152921504606846976) (w : World) :
    Calls Tryd.prog 45 #[.string s] w fun e w' => e = .returned (.string ⟨(Sap.text s.data.toList).toArray⟩) ∧ Below w.heap.size w w' := by
  go_enter Tryd.func45, Tryd.ntmps45
  go_wp2_with fail
  refine (num_any (s.size : Int) (by omega) (by omega) _).mono ?_
  rintro e w1 ⟨rfl, hb⟩
  obtain ⟨nb, hnb⟩ : ∃ nb, nb = Sap.num (s.size : Int) := ⟨_, rfl⟩
  have hl := Sap.num_length (s.size : Int)
  rw [← hnb] at hl ⊢
  have HN := Lib.hid hnb
  have hcat : ¬ 9223372036854775807 < nb.length + s.size := by omega
  clear hnb
  go_wp2_with fail
  go_ret
  refine ⟨?_, hb⟩
  rw [Sap.text, bytes_length, ← HN.out, ← str_append]
  rfl

theorem bld_below {B b : Nat} {msg : List UInt8} {w w' : World} (h : Bld B b msg w) (hb : Below w.heap.size w w') : Bld B b msg w' := by
  have key : ∀ p, Lib.BuilderAtF 72 5 B b p (Lib.byteCells msg) w → Lib.BuilderAtF 72 5 B b p (Lib.byteCells msg) w' := by
    intro p h
    have hlt := h.lt
    obtain ⟨hB, v, hbk, hown, hne⟩ := h
    refine ⟨hB, v, (hb.block b hlt).trans hbk, hown.kept (row := none) ⟨hb.os, hb.tape, hb.output, hb.size, fun i hi _ => hb.block i hi⟩ ?_, hne⟩
    cases v.ownBlock <;> simp
  rcases h with h | h
  · exact .inl (key _ h)
  · exact .inr (key _ h)
theorem bld_new (w : World) : Bld w.heap.size w.heap.size [] (w.alloc (.cells #[.pointer none, .slice none 0 0] 72)) :=
  Lib.IsBuilderF.of (Lib.fresh_isBuilder 72 5 w)
def lists (ss : List ByteArray) : List (List UInt8) := ss.map fun s => s.data.toList

theorem text_length (l : List UInt8) : (Sap.text l).length ≤ 9 + l.length := by
  have := Sap.num_length (l.length : Int)
  rw [Sap.text, List.length_append]
  omega
theorem texts_length (ss : List ByteArray) : ((lists ss).flatMap Sap.text).length ≤ 9 * ss.length + (flat ss).length := by
  induction ss with
  | nil => simp [lists, flat]
  | cons s ss ih =>
    have := text_length s.data.toList
    simp only [lists, flat, List.map_cons, List.flatMap_cons, List.length_append, List.length_cons] at ih ⊢
    omega
theorem flat_take (ss : List ByteArray) (k : Nat) : (flat (ss.take k)).length ≤ (flat ss).length := by
  conv => rhs; rw [← List.take_append_drop k ss]
  simp only [flat, List.flatMap_append, List.length_append]
  omega

set_option maxRecDepth 100000 in
set_option maxHeartbeats 1000000 in
theorem saprow_any (A : Option Addr) (c : Nat) (ss : List ByteArray) (w : World) (hs : StrsAt w A ss w.heap.size) (hlen : (flat ss).length < 1099511627776) (hn : ss.length < 1099511627776) :
    Calls Tryd.prog 33 #[.slice A ss.length c] w fun e w' => e = .returned (.string ⟨(Sap.row (lists ss)).toArray⟩) ∧ Below w.heap.size w w' := by
  have HS := Lib.hid hs
  have HN := Lib.hid hlen
  clear hs hlen
  have hbld := bld_new w
  have hB1 : Below w.heap.size w (w.alloc (.cells #[.pointer none, .slice none 0 0] 72)) := (Below.refl _ _).alloc (Nat.le_refl _) _
  go_enter Tryd.func33, Tryd.ntmps33
  go_wp2_with fail
  generalize w.alloc (.cells #[.pointer none, .slice none 0 0] 72) = w1 at hbld hB1 ⊢
  refine (num_any (ss.length : Int) (by omega) (by omega) _).mono ?_
  rintro e w2 ⟨rfl, hb2⟩
  have hbld2 := bld_below hbld hb2
  have hB2 := hB1.trans (hb2.mono hB1.size)
  have hnl := Sap.num_length (ss.length : Int)
  clear hbld hB1 hb2
  go_wp2_with fail
  refine (bld_write w.heap.size w.heap.size [] ⟨(Sap.num (ss.length : Int)).toArray⟩ _ hbld2 (by rw [str_size]; simp; omega) hB2.size).mono ?_
  rintro e w3 ⟨rfl, hbld3, hb3⟩
  rw [List.nil_append] at hbld3
  have HD := Lib.hid hbld3
  have HB := Lib.hid (hB2.trans hb3)
  clear hbld2 hB2 hbld3 hb3
  go_wp2_with fail
  go_loopw [12] (fun i wr => ∃ k : Nat, k ≤ ss.length ∧ i = .int .i64 k ∧ Bld w.heap.size w.heap.size (Sap.num (ss.length : Int) ++ (lists (ss.take k)).flatMap Sap.text) wr ∧ Below w.heap.size w wr) (fun i _ => ss.length - (intOf i).toNat)
  case atStart => exact ⟨0, by omega, rfl, by simpa [lists] using HD.out, HB.out⟩
  case round =>
    obtain ⟨k, hk, rfl, hbl, hb⟩ := hrel
    clear HD HB
    by_cases hlt : k < ss.length
    · obtain ⟨ad, rfl, hne, hltb, hcells⟩ := HS.out (by omega)
      have hc : wr.cell? (ad.add k) = some (.string ss[k]) := by
        have hbk : (ad.add k).block = ad.block := by unfold Addr.add; split <;> rfl
        rw [hb.cell (by rw [hbk]; exact hltb)]
        exact hcells k hlt
      obtain ⟨s, hs⟩ : ∃ s, s = ss[k] := ⟨_, rfl⟩
      rw [← hs] at hc
      have hsl : s.data.toList.length ≤ (flat ss).length := by
        have h1 := flat_take ss (k + 1)
        rw [take_snoc _ k hlt, ← hs] at h1
        simp [flat] at h1
        simp [flat]
        omega
      have hll := HN.out
      have hss : s.size < 1152921504606846976 := by rw [bytes_length] at hsl; omega
      have hml : (Sap.num (ss.length : Int) ++ (lists (ss.take k)).flatMap Sap.text).length + (Sap.text s.data.toList).length ≤ 140737488355328 := by
        have h1 := Sap.num_length (ss.length : Int)
        have h2 := texts_length (ss.take k)
        have h3 := flat_take ss k
        have h4 := text_length s.data.toList
        rw [List.length_append]
        rw [List.length_take] at h2
        omega
      have HS2 := Lib.hid hs
      have HD := Lib.hid hbl
      have HB := Lib.hid hb
      have HM := Lib.hid hml
      clear hs hbl hb hcells hml hsl hll
      go_wp2_with fail
      refine (text_any s hss _).mono ?_
      rintro e w2 ⟨rfl, hb2⟩
      have HD2 := Lib.hid (bld_below HD.out hb2)
      have HB2 := Lib.hid (HB.out.trans (hb2.mono HB.out.size))
      clear hb2
      go_wp2_with fail
      refine (bld_write w.heap.size w.heap.size _ ⟨(Sap.text s.data.toList).toArray⟩ _ HD2.out (by rw [str_size]; exact HM.out) HB2.out.size).mono ?_
      rintro e w3 ⟨rfl, hbld3, hb3⟩
      have HD3 := Lib.hid hbld3
      have HB3 := Lib.hid (HB2.out.trans hb3)
      clear hbld3 hb3
      go_wp2_with fail
      go_roundw
      case rel =>
        refine ⟨k + 1, by omega, by go_num, ?_, HB3.out⟩
        have h := HD3.out
        have e : lists (ss.take (k + 1)) = lists (ss.take k) ++ [s.data.toList] := by
          rw [take_snoc _ k hlt, ← HS2.out]
          simp [lists]
        rw [e, List.flatMap_append, ← List.append_assoc]
        simpa using h
      case measure => simp [intOf]; omega
    · have hk2 : k = ss.length := by omega
      have HD := Lib.hid hbl
      have HB := Lib.hid hb
      clear hbl hb
      go_wp2_with fail
      refine (bld_string w.heap.size w.heap.size _ _ HD.out (by simp [Sap.num_ne])).mono ?_
      rintro e w2 ⟨rfl, hb2⟩
      have HB2 := Lib.hid (HB.out.trans hb2)
      clear hb2
      go_wp2_with fail
      go_ret
      refine ⟨?_, HB2.out⟩
      have e : (lists ss).length = ss.length := by simp [lists]
      rw [Sap.row, e]
      rfl
end Go.Proofs.YtdfeiajdmmlllaaDoor
