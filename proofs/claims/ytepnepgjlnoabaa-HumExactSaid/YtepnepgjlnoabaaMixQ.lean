/- Regions that draw their order, walked in one order or along a tree: the quiet operations by the kit's own steps for quiet regions. -/
import Derived.Test.YtepnepgjlnoabaaMixT
import Derived.BigQuiet
namespace Go.Proofs.Ytepnepgjlnoabaa
open Go.RowKit

/-- operations that yield a value and enter nothing -/
def plainOp (o : Oper) : Bool :=
  match o.op with
  | .move _ | .assign _ | .pick _ _ _ | .load _ _ | .binOp _ _ _ _ _ | .unOp _ _ _ | .convert _ _ _ | .fieldAddr _ _ _ | .field _ _ _ | .indexAddr _ _ _ | .index _ _ _ | .slice _ _ _ _ _ | .lookup _ _ _ _ | .extract _ _ | .build _ _ => true
  | .call c => match c.callee with
    | .builtin .len | .builtin .cap | .builtin .min | .builtin .max => true
    | _ => false
  | _ => false
theorem run_value {P : Program} {s : Sem Value} {w w' : World} {n : Next} (h : (do pure (Next.value (← s)) : Sem Next).run P w = .ok n w') : ∃ v, n = .value v := by
  rw [Sem.run_bind] at h
  cases hs : s.run P w with
  | ok v w1 =>
    rw [hs, Result.andThen_ok, Sem.run_pure] at h
    injection h with h1 h2
    exact ⟨v, h1.symm⟩
  | halt x w1 =>
    rw [hs] at h
    cases h
theorem plain_value {P : Program} {ρ : Operand → Value} {o : Oper} (hp : plainOp o = true) {w w' : World} {n : Next} (h : (execOp ρ o).run P w = .ok n w') : ∃ v, n = .value v := by
  unfold plainOp at hp
  unfold execOp at h
  split at hp
  all_goals try (rename_i he; simp only [he] at h)
  case h_1 | h_2 =>
    rw [Sem.run_pure] at h
    injection h with h1 h2
    exact ⟨_, h1.symm⟩
  case h_3 =>
    rw [Sem.run_bind] at h
    rename_i c x y
    cases hs : (asBool (ρ c)).run P w with
    | ok v w1 =>
      rw [hs, Result.andThen_ok, Sem.run_pure] at h
      injection h with h1 h2
      exact ⟨_, h1.symm⟩
    | halt x w1 =>
      rw [hs] at h
      cases h
  case h_16 =>
    rename_i c
    have hb : ∃ b, c.callee = .builtin b ∧ (b = .len ∨ b = .cap ∨ b = .min ∨ b = .max) := by
      split at hp
      · rename_i hc; exact ⟨_, hc, .inl rfl⟩
      · rename_i hc; exact ⟨_, hc, .inr (.inl rfl)⟩
      · rename_i hc; exact ⟨_, hc, .inr (.inr (.inl rfl))⟩
      · rename_i hc; exact ⟨_, hc, .inr (.inr (.inr rfl))⟩
      · cases hp
    obtain ⟨b, hc, hb⟩ := hb
    unfold resolve at h
    simp only [hc, Sem.run_bind, Sem.run_pure, Result.andThen_ok] at h
    unfold invoke at h
    simp only at h
    unfold builtin at h
    rcases hb with rfl | rfl | rfl | rfl <;> exact run_value h
  case h_17 => cases hp
  all_goals exact run_value h
theorem val_of_quiet {P : Program} {o : Oper} {a : Act} {C : World → Prop} {w : World} {v : Value} (hp : plainOp o = true) (h : o.quietAt P a C w v) : (execOp a.eval o).run P w = .ok (.value v) w := by
  unfold Oper.quietAt at h
  cases hr : (execOp a.eval o).run P w with
  | ok n w' =>
    obtain ⟨u, rfl⟩ := plain_value hp hr
    rw [hr] at h
    obtain ⟨e1, e2⟩ := h
    rw [e1, e2]
  | halt x w' =>
    rw [hr] at h
    exact h.elim
section
variable {P : Program} {ops : Array Oper} {Q : Exit → Act → World → Prop} {S : World → Prop} {i : Nat} {a : Act} {w : World} {o : Oper}
theorem yieldsIf_of_quiet {K : Act → Prop} (hp : plainOp o = true) (h : wpQuiet P ops S K [o] a) : ∃ v, YieldsIf P ops S o v a ∧ K (a.put o.dst v) := by
  unfold wpQuiet at h
  by_cases hw : Region.wanted o (yielded ops a.tmps) = true
  · rw [if_pos hw] at h
    obtain ⟨v, h1, h2⟩ := h
    exact ⟨v, .inl ⟨hw, fun w hS => val_of_quiet hp (h1 w hS)⟩, h2⟩
  · rw [if_neg hw] at h
    exact ⟨undef, .inr ⟨by simpa using hw, rfl⟩, h⟩
theorem wpMix_q {r : List (Nat × Bool)} (ho : ops.toList[i]? = some o) (hp : plainOp o = true) (h : wpQuiet P ops S (fun a' => wpMix P ops S Q r a' w) [o] a) : wpMix P ops S Q ((i, true) :: r) a w := by
  obtain ⟨v, hy, hK⟩ := yieldsIf_of_quiet hp h
  exact ⟨o, v, nth ho, hy, hK⟩
theorem wpMix_qnil {r : List (Nat × Bool)} (h : wpMix P ops S Q r a w) : wpQuiet P ops S (fun a' => wpMix P ops S Q r a' w) [] a := h
theorem wpT_q {s : Sched} (ho : ops.toList[i]? = some o) (hp : plainOp o = true) (h : wpQuiet P ops S (fun a' => wpT P ops S Q s a' w) [o] a) : wpT P ops S Q (.quiet i s) a w := by
  obtain ⟨v, hy, hK⟩ := yieldsIf_of_quiet hp h
  exact ⟨o, v, nth ho, hy, hK⟩
theorem wpT_qnil {s : Sched} (h : wpT P ops S Q s a w) : wpQuiet P ops S (fun a' => wpT P ops S Q s a' w) [] a := h
end
end Go.Proofs.Ytepnepgjlnoabaa
