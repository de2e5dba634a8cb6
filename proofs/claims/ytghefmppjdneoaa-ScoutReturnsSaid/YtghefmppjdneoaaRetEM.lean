/- Layer 12, the plain law of ScoutReturns: the start, the end. -/
import Derived.Test.YtghefmppjdneoaaRetDM
namespace Go.Proofs.Ytghefmppjdneoaa
open Go.Proofs Stab Go.Shelf Go.RowKit Go.Lib Go.Sort Go.Maps

/-- so many ticks, so many rounds behind the return -/
def ticksR (w : Int) (r : Nat) (i : Int) : Nat := if i = w then r else 120 + r
theorem ticksR_succ (w : Int) (r : Nat) (i : Int) : ticksR w (r + 1) i = ticksR w r i + 1 := by unfold ticksR; split <;> omega
theorem ticksR_12 {w : Int} (i : Int) (h : i ≠ w) : ticksR w 4 i % 16 = 12 := by unfold ticksR; rw [if_neg h]
theorem ret_start {n : Nat} {w : Int} (hw : 1 ≤ w ∧ w ≤ n) (hn : n ≤ 6) {S : Int → Bool} (hS : ∀ i, S i = true ↔ i = w) {C : Cmp} (h : Calmed n S (fun _ i t => Sok t i n S 120 0) false C) :
    Calmed n (fun _ => false) (RokD w n false (ticksR w 0)) false ⟨setX C.X w (Sct.fresh w n), []⟩ := by
  refine ⟨fun i i1 i2 _ => ?_, rfl, fun i i1 i2 => ?_⟩
  · dsimp only
    by_cases hi : i = w
    · subst hi
      rw [setX_eq]
      refine ⟨⟨⟨Std.fresh hw (by omega), by unfold ticksR; rw [if_pos rfl]; rfl, fun k m hm hk => ?_, fun _ => ?_, fun e => absurd rfl e, fun k r hr => (by cases hr)⟩, fun e => by cases e⟩, .inl rfl⟩
      · have hm : upTo n k = some m := hm
        unfold upTo at hm
        split at hm
        · cases hm; exact ⟨rfl, rfl⟩
        · cases hm
      · show upTo n i = _
        unfold upTo
        rw [if_pos hw]
        rfl
    · rw [setX_ne hi]
      have hSi : S i = false := by
        cases hq : S i with
        | false => rfl
        | true => exact absurd ((hS i).1 hq) hi
      obtain ⟨k1, _⟩ := h.sc i i1 i2 hSi
      refine ⟨⟨⟨k1.std, by unfold ticksR; rw [if_neg hi]; exact k1.ticks, fun k m hm hk => ?_, fun e => absurd e hi, fun _ => .inl ?_, fun k r hr => .inl ?_⟩, fun e => by cases e⟩, .inl ?_⟩
      · have := k1.wds.v k m hm
        rcases this.2 with e | ⟨e, _⟩
        · exact ⟨this.1, e⟩
        · exact absurd ((hS k).1 e) hk
      · obtain ⟨m, hm⟩ := Option.isSome_iff_exists.1 ((k1.std.fit.dom w).2 hw)
        have h0 : pot (C.X i) w = 0 := Nat.le_zero.1 (k1.pot w ⟨hw.1, hw.2, fun e => hi e.symm⟩ ((hS w).2 rfl))
        have hs := pot_zero k1.std.fit k1.wds hw h0
        rw [getM_of hm] at hs
        have hi0 := (k1.wds.v w m hm).1
        have hn0 := (k1.std.fit.sane w m hm).1
        rw [hm]
        cases m
        simp only at hs hi0 hn0
        subst hs hi0 hn0
        rfl
      · obtain ⟨e1, _, _, e4, e5⟩ := k1.wds.f k r hr
        refine ⟨r.m.s, e5, ?_⟩
        have hn0 := (hS r.m.n).1 e1
        cases hm : r.m
        rw [hm] at e4 hn0
        simp only at e4 hn0
        subst e4 hn0
        rfl
      · rw [k1.ticks]
        decide
  · dsimp only
    by_cases hi : i = w
    · rw [hi, setX_eq]
      exact Nat.zero_le 16
    · rw [setX_ne hi]
      exact h.rl i i1 i2
/-- what is known in the end -/
theorem ret_end {n : Nat} {w : Int} (hw : 1 ≤ w ∧ w ≤ n) (hn2 : 2 ≤ n) {R : Int → Nat} {f : Bool} {C : Cmp} (h : Calmed n (fun _ => false) (RokD w n true R) f C) {i : Int} (i1 : 1 ≤ i) (i2 : i ≤ (n : Int)) : ∀ m ∈ all (C.X i).v, m.s = 0 ∧ (m.n = w → m.i = 1) := by
  have hf : f = true := by
    obtain ⟨j, j1, j2, j3⟩ : ∃ j : Int, 1 ≤ j ∧ j ≤ (n : Int) ∧ j ≠ w := by
      by_cases h1 : w = 1
      · exact ⟨2, by omega, by omega, by omega⟩
      · exact ⟨1, by omega, by omega, fun e => h1 e.symm⟩
    obtain ⟨k1, _⟩ := h.sc j j1 j2 rfl
    have hv := k1.2 rfl j3
    rcases k1.1.him j3 with e | ⟨e, _⟩
    · rw [hv] at e
      injection e with e
      have := congrArg Mem.s e
      have h2 : (0 : Int) = 2 := this
      omega
    · exact e
  intro m hm
  unfold all at hm
  obtain ⟨k, _, hk⟩ := List.mem_filterMap.1 hm
  obtain ⟨k1, _⟩ := h.sc i i1 i2 rfl
  have hnk := (k1.1.std.fit.sane k m hk).1
  by_cases hkw : k = w
  · subst hkw
    have hvw : (C.X i).v k = some ⟨k, 1, 0⟩ := by
      by_cases hi : i = k
      · rw [k1.1.me hi, hf]
        rfl
      · exact k1.2 rfl hi
    rw [hvw] at hk
    cases hk
    exact ⟨rfl, fun _ => rfl⟩
  · exact ⟨(k1.1.oth k m hk hkw).2, fun e => absurd (hnk.symm.trans e) hkw⟩
end Go.Proofs.Ytghefmppjdneoaa
