/- Appends at one operation of a drawn region. -/
import Derived.Test.YtdfeiajdmmlllaaDoorEncE
import Derived.Test.YtdfeiajdmmlllaaDoorMixT
namespace Go.Proofs.YtdfeiajdmmlllaaDoor
open Go.Proofs Go.Shelf Go.RowKit Go.Lib Go.Sort

section
variable {α : Type} {enc : α → List Value} {k : Nat}
theorem EncIn.grown {w w' : World} {A : Option Addr} {l : List α} (h : EncIn enc k w A l) {row : Option Nat} (hg : w.grownBy w' row) (hne : ∀ g off, A = some ⟨g, off, none⟩ → some g ≠ row) : EncIn enc k w' A l := fun h0 => by
  obtain ⟨g, off, e, hlt, hc⟩ := h h0
  refine ⟨g, off, e, Nat.lt_of_lt_of_le hlt hg.size, fun i hi j v hv => ?_⟩
  have h1 := hc i hi j v hv
  have h2 := hg.block g hlt (hne g off e)
  unfold World.cell? at h1 ⊢
  rw [h2]
  exact h1
theorem wp_append_enc {P : Program} {o : Oper} {a : Act} {w : World} {K : Act → World → Prop} {Q : Exit → Act → World → Prop} (s x : Operand) (t e bytes : Nat) (ho : o.op = .call { callee := .builtin .append, args := #[s, x], argTypes := #[t, t] })
    (z : Value) (ht : P.underlying t = some (.slice e)) (hinf : (P.info? e).map (fun i => (i.zero, i.size, i.bytes)) = some (some z, k, bytes)) (hzs : z.cells.size = k) (hsz : 0 < k)
    (base : Nat) (v : Value) (n : Nat) (l m : List α) (hs : a.eval s = v) (hown : Own w base e k v n (l.flatMap enc)) (hm : ∀ x ∈ m, (enc x).length = k) (hm1 : ∀ x ∈ m, ∀ u ∈ enc x, u.oneCell' = true)
    (B : Option Addr) (M d : Nat) (hx : a.eval x = .slice B M d) (hM : M = m.length) (hB : EncIn enc k w B m) (h63 : n + m.length ≤ maxLen) (hbytes : (n + m.length) * bytes ≤ 140737488355328) (hbase : base ≤ w.heap.size)
    (h : ∀ v' w', Own w' base e k v' (n + m.length) ((l ++ m).flatMap enc) → w.grownBy w' v.ownBlock → (v'.ownBlock = v.ownBlock ∨ v'.ownBlock = some w.heap.size) → K (a.put o.dst v') w') : o.wp P a w K Q := by
  subst hM
  cases hi : P.info? e with
  | none => rw [hi] at hinf; cases hinf
  | some i =>
    rw [hi, Option.map_some, Option.some.injEq, Prod.mk.injEq, Prod.mk.injEq] at hinf
    obtain ⟨hz, hsize, hby⟩ := hinf
    by_cases h0 : 0 < m.length
    · obtain ⟨gB, off, rfl, hlt, hc⟩ := hB h0
      refine wp_append_Own w s x t ho base e i z k bytes ht hi hz hsize hby hzs hsz _ n (l.flatMap enc) hs hown ⟨gB, off, none⟩ m.length d (m.flatMap enc) hx (enc_len hm) (enc_cells hsz hm hc) (enc_one hm1) h63 hbytes hbase ?_
      intro v' w' hO hg hor
      rw [← List.flatMap_append] at hO
      exact h v' w' hO hg hor
    · have hm0 : m = [] := List.length_eq_zero_iff.1 (by omega)
      subst hm0
      have hown2 := hown.2
      have key : ∃ base' c, v = .slice base' n c ∧ n ≤ c := by
        rcases hown2 with ⟨rfl, rfl⟩ | ⟨g, cap, cur, fr, rfl, _, _, _, hc, _⟩
        · exact ⟨none, 0, rfl, Nat.le_refl _⟩
        · exact ⟨_, cap, rfl, hc⟩
      obtain ⟨base', c, hv, hnc⟩ := key
      have hsrc : Src P i.size t (.slice B 0 d) 0 [] w := by
        cases B with
        | none => exact Src.ofNil w ht d
        | some ad => exact Src.ofSlice w ht ad 0 d [] (by simp) (fun j u hu => by simp at hu) (fun u hu => by simp at hu)
      have hr := run_append_nothing w t t o.type e i ht hi base' n c hnc (.slice B 0 d) hsrc
      have hx' : a.eval x = .slice B 0 d := hx
      have hk := h v w (by simpa using hown) (World.grownBy.refl _ _) (.inl rfl)
      unfold Oper.wp execOp
      simp only [ho, resolve, invoke, builtin, Sem.run_bind, Sem.run_pure, Result.andThen_ok, List.map_toArray, List.map_cons, List.map_nil, hs.trans hv, hx', hr]
      rw [hv] at hk
      exact hk
/-- an empty slice made -/
theorem exec_none {P : Program} {a : Act} {o : Oper} {t e sz : Nat} (ho : o.op = .buildSlice t 0 #[]) (hu : P.underlying t = some (.slice e)) (hz : ∀ w, (Go.sizeOf e).run P w = .ok sz w) (w : World) :
    (execOp a.eval o).run P w = .ok (.value (.slice (some ⟨w.heap.size, 0, none⟩) 0 0)) (w.alloc (.cells #[] e)) := by
  unfold execOp
  simp only [ho]
  simp [Instr.buildSlice, run_underlying hu, hz, go_sem]
theorem own_none (w : World) (e : TypeId) {base : Nat} (hb : base ≤ w.heap.size) : Own (w.alloc (.cells #[] e)) base e k (.slice (some ⟨w.heap.size, 0, none⟩) 0 0) 0 (([] : List α).flatMap enc) := by
  have := Own.made (base := base) w e k [] 0 0 hb (Nat.le_refl _) (by unfold maxLen; omega) (by simp)
  simpa using this
end
theorem exec_add {a : Act} {o : Oper} (x y : Operand) (yt : TypeId) (ho : o.op = .binOp .add 3 x y yt) {p q : Int} (hx : a.eval x = .int .i64 p) (hy : a.eval y = .int .i64 q) (hb : -9223372036854775808 ≤ p + q ∧ p + q ≤ 9223372036854775807) (W : World) :
    (execOp a.eval o).run Tryd.prog W = .ok (.value (.int .i64 (p + q))) W := by
  have hw : IntKind.i64.wrap (p + q) = p + q := IntWalk.i64_in _ hb
  unfold execOp
  simp only [ho, hx, hy]
  go_simp
theorem exec_eqi {a : Act} {o : Oper} (x y : Operand) (yt : TypeId) (ho : o.op = .binOp .eql 3 x y yt) {p : Int} (hx : a.eval x = .int .i64 p) (hy : a.eval y = .int .i64 p) (W : World) :
    (execOp a.eval o).run Tryd.prog W = .ok (.value (.bool true)) W := by
  unfold execOp
  simp only [ho, hx, hy]
  go_simp
theorem exec_len {a : Act} {o : Oper} {t e : TypeId} (hu : Tryd.prog.underlying t = some (.slice e)) (x : Operand) (ho : o.op = .call { callee := .builtin .len, args := #[x], argTypes := #[t] }) {A : Option Addr} {m c : Nat} (hx : a.eval x = .slice A m c) {z : Int} (hz : (m : Int) = z) (W : World) :
    (execOp a.eval o).run Tryd.prog W = .ok (.value (.int .i64 z)) W := by
  subst hz
  unfold execOp
  simp only [ho, resolve, List.map_toArray, List.map_cons, List.map_nil, hx]
  simp [Builtin.len_, run_underlying hu, invoke, builtin, go_sem]
end Go.Proofs.YtdfeiajdmmlllaaDoor
