/- Layer 13: the map of how far each node is; Compare; the comparison of Walk's sort. -/
import Derived.Test.YtdfeiajdmmlllaaDoorRingB
import Derived.Test.YtdfeiajdmmlllaaDoorSkyP
import Derived.Maps.Own
import Derived.WideKeyArgs
namespace Go.Proofs.YtdfeiajdmmlllaaDoor
open Go.Proofs Stab Go.Shelf Go.RowKit Go.Lib Go.Sort Go.Maps

def farV (n : Nat) : Value := .int .u64 n
def farD {H : Type} (n : Nat) : DataW H := .lit (.int .u64 n)
theorem farV_inj {a b : Nat} (h : farV a = farV b) : a = b := by
  unfold farV at h
  injection h with _ h
  exact Int.ofNat.inj h
theorem farD_inj {H : Type} {a b : Nat} (h : (farD a : DataW H) = farD b) : a = b := by
  unfold farD at h
  injection h with h
  injection h with _ h
  exact Int.ofNat.inj h
open Classical in
noncomputable def readU {H : Type} (v : Value) : Option (DataW H × List MemPlace) := if h : ∃ c, v = farV c then some (farD h.choose, []) else none
theorem readU_far {H : Type} (c : Nat) : readU (H := H) (farV c) = some (farD c, []) := by
  have h : ∃ d, farV c = farV d := ⟨c, rfl⟩
  unfold readU
  rw [dif_pos h, ← farV_inj h.choose_spec]
theorem readU_inv {H : Type} {v : Value} {z : DataW H × List MemPlace} (h : readU v = some z) : ∃ c, v = farV c ∧ z = (farD c, []) := by
  unfold readU at h
  split at h
  · rename_i hc
    exact ⟨hc.choose, hc.choose_spec, (Option.some.inj h).symm⟩
  · cases h
theorem keyed_int : Keyed Tryd.prog 3 := int_keyed Tryd.underlying3
theorem key_int {n : Int} (h1 : -9223372036854775808 ≤ n) (h2 : n ≤ 9223372036854775807) : keyOf Tryd.prog 3 (.int .i64 n) = some (.int .i64 n) :=
  keyOf_int_mk Tryd.underlying3 (by simp [Lit.wf, IntKind.min, IntKind.max, IntKind.signed, IntKind.bits]; omega)
theorem zero_u64 (w : World) : (zeroValue 27).run Tryd.prog w = .ok (farV 0) w := by kernel_rfl
/-- the map, at block b -/
def FarAt (w : World) (b N : Nat) (f : Int → Option Nat) : Prop := w.ownsMap (H := Unit) Tryd.prog 3 readU b N (Sk.mapD farD f) ∧ Sk.Sane f
def valF (f : Int → Option Nat) (n : Int) : Nat := (f n).getD 0
theorem far_lookup {w : World} {b N : Nat} {f : Int → Option Nat} (h : FarAt w b N f) {k : Int} (h1 : -9223372036854775808 ≤ k) (h2 : k ≤ 9223372036854775807) :
    (Instr.lookup 46 (.map (some b)) (.int .i64 k) false).run Tryd.prog w = .ok (farV (valF f k)) w := by
  obtain ⟨⟨es, clock, hb, F, _, hD⟩, hs⟩ := h
  have hat : ∀ z : DataW Unit, (DataW.map ((es.toList.map (WideElems.rg Tryd.prog 3 readU)).foldr DataW.insert [])).atKey (.int .i64 k) z = (match f k with | some m => farD m | none => z) := fun z => by
    rw [← hD]
    exact (Sk.atKey_mapD (enc := farD) hs k z).trans (by cases f k <;> rfl)
  rcases Maps.fit_look false keyed_int Tryd.underlying46 (zero_u64 w) hb F (key_int h1 h2) with ⟨hrun, _, hz⟩ | ⟨e0, y, _, _, hrun, hRv, hz, _⟩
  · rw [hrun]
    have : f k = none := by
      cases hf : f k with
      | none => rfl
      | some m =>
        have h3 := (hz .nil).symm.trans (hat .nil)
        rw [hf] at h3
        cases h3
    simp [valF, this]
  · rw [hrun]
    obtain ⟨m, hv, rfl⟩ := readU_inv hRv
    have h3 := (hz .nil).symm.trans (hat .nil)
    cases hf : f k with
    | none => rw [hf] at h3; cases h3
    | some m' =>
      rw [hf] at h3
      have := farD_inj h3
      subst this
      simp [valF, hf, hv]
theorem FarAt.kept {w w' : World} {b N : Nat} {f : Int → Option Nat} {row : Option Nat} (h : FarAt w b N f) (hg : w.grownBy w' row) (hne : some b ≠ row) : FarAt w' b N f := ⟨h.1.kept hg hne, h.2⟩
theorem nan_any (n : Nat) (w : World) : Calls Tryd.prog 40 #[.int .u64 n] w fun e w' => e = .returned (.bool false) ∧ w = w' := by
  go_enter Tryd.func40, Tryd.ntmps40
  go_wp2_with fail
  go_ret
  exact ⟨by first | rfl | simp, rfl⟩
def cmpN (a b : Nat) : Int := if a < b then -1 else if b < a then 1 else 0
theorem compare_any13 (a b : Nat) (w : World) : Calls Tryd.prog 30 #[.int .u64 a, .int .u64 b] w fun e w' => e = .returned (.int .i64 (cmpN a b)) ∧ w = w' := by
  have HN := Lib.hid nan_any
  have hc : (a < b ∧ cmpN a b = -1) ∨ (¬ a < b ∧ b < a ∧ cmpN a b = 1) ∨ (¬ a < b ∧ ¬ b < a ∧ cmpN a b = 0) := by
    unfold cmpN
    by_cases h1 : a < b
    · simp [h1]
    · by_cases h2 : b < a <;> simp [h1, h2]
  rcases hc with ⟨h1, he⟩ | ⟨h1, h2, he⟩ | ⟨h1, h2, he⟩ <;> rw [he] <;> clear he
  · have z1 : (a : Int) < (b : Int) := by omega
    go_enter Tryd.func30, Tryd.ntmps30
    go_wp2_with (go_at_call 40; refine Calls.mono (HN.out _ _) ?_; rintro e w' ⟨rfl, rfl⟩)
    go_ret
    exact ⟨rfl, rfl⟩
  · have z1 : ¬ (a : Int) < (b : Int) := by omega
    have z2 : (b : Int) < (a : Int) := by omega
    go_enter Tryd.func30, Tryd.ntmps30
    go_wp2_with (go_at_call 40; refine Calls.mono (HN.out _ _) ?_; rintro e w' ⟨rfl, rfl⟩)
    go_ret
    exact ⟨rfl, rfl⟩
  · have z1 : ¬ (a : Int) < (b : Int) := by omega
    have z2 : ¬ (b : Int) < (a : Int) := by omega
    go_enter Tryd.func30, Tryd.ntmps30
    go_wp2_with (go_at_call 40; refine Calls.mono (HN.out _ _) ?_; rintro e w' ⟨rfl, rfl⟩)
    go_ret
    exact ⟨rfl, rfl⟩
theorem cmpN_cfN (F : Int → Nat) (x y : Int) : cmpN (F x) (F y) = cfN F x y := rfl
set_option maxHeartbeats 1000000 in
/-- the comparison of Walk's sort, where the map lies -/
theorem walk2_any (x y : Int) (hx : 1 ≤ x ∧ x ≤ 6) (hy : 1 ≤ y ∧ y ≤ 6) (g b N : Nat) (f : Int → Option Nat) (w : World) (hc : w.cell? ⟨g, 0, none⟩ = some (.map (some b))) (hf : FarAt w b N f) :
    Calls Tryd.prog 29 #[.int .i64 x, .int .i64 y, .pointer (some ⟨g, 0, none⟩)] w fun e w' => e = .returned (.int .i64 (cfN (valF f) x y)) ∧ w = w' := by
  have hl1 := far_lookup hf (k := x) (by omega) (by omega)
  have hl2 := far_lookup hf (k := y) (by omega) (by omega)
  rw [← cmpN_cfN]
  obtain ⟨p, hp⟩ : ∃ p, p = valF f x := ⟨_, rfl⟩
  obtain ⟨q, hq⟩ : ∃ q, q = valF f y := ⟨_, rfl⟩
  rw [← hp] at hl1 ⊢
  rw [← hq] at hl2 ⊢
  have HC := Lib.hid (compare_any13 p q)
  unfold farV at hl1 hl2
  clear hf hp hq hx hy
  go_enter Tryd.func29, Tryd.ntmps29
  go_wp2_with (go_at_call 30; refine Calls.mono (HC.out _) ?_; rintro e w' ⟨rfl, rfl⟩)
  go_ret
  exact ⟨rfl, rfl⟩
end Go.Proofs.YtdfeiajdmmlllaaDoor
