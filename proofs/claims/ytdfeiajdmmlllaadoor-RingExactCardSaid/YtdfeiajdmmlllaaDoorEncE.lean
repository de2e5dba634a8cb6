/- Slices built of things of several cells. -/
import Derived.Test.YtdfeiajdmmlllaaDoorEncD
import Derived.Great.FillDense
import Derived.Great.BuildSlice
namespace Go.Proofs.YtdfeiajdmmlllaaDoor
open Go.Proofs Go.Shelf Go.RowKit Go.Lib Go.Sort

section
variable {P : Program} {ops : Array Oper} {Q : Exit → Act → World → Prop} {rest : List Oper} {a : Act} {w : World} {o : Oper} {α : Type} {enc : α → List Value}
theorem exec_rowsE (t e sz : Nat) (l : List α) (parts : Array (Nat × Operand)) (ho : o.op = .buildSlice t l.length parts) (hu : P.underlying t = some (.slice e)) (hie : (P.info? e).map (fun i => (i.zero.isSome, i.size)) = some (true, sz)) (hsz : 0 < sz) (hl : 0 < l.length) (hsm : l.length * sz ≤ 2 ^ 24) (hk : ∀ x ∈ l, (enc x).length = sz)
    (hp : (parts.map fun (i, x) => (i, a.eval x)).toList = ((l.map fun x => Value.agg (enc x).toArray).zipIdx 0).map fun x => (x.2, x.1)) (w : World) :
    (execOp a.eval o).run P w = .ok (.value (.slice (some ⟨w.heap.size, 0, none⟩) l.length l.length)) (w.alloc (.cells (l.flatMap enc).toArray e)) := by
  cases hi : P.info? e with
  | none => rw [hi] at hie; cases hie
  | some ie =>
    rw [hi, Option.map_some, Option.some.injEq, Prod.mk.injEq] at hie
    obtain ⟨z, hz⟩ := Option.isSome_iff_exists.1 hie.1
    have hs := hie.2
    have hf := Go.Great.fill_whole hsz (l.map fun x => Value.agg (enc x).toArray) ((Array.range (l.length * sz)).map (z.cells[· % z.cells.size]!)) (by
      intro v hv
      obtain ⟨x, hx, rfl⟩ := List.mem_map.1 hv
      simp [Value.cells, hk x hx]) (by simp)
    have hpos : 0 < l.length * sz := Nat.mul_pos hl hsz
    have hrun := run_buildSlice (P := P) w t e l.length (parts.map fun (i, x) => (i, a.eval x)) _ ie z hu hi hz (by rw [hs]; omega) (by rw [hs]; omega) (by rw [hs, hp]; exact hf)
    have e3 : ((l.map fun x => Value.agg (enc x).toArray).flatMap fun v => v.cells.toList) = l.flatMap enc := by
      rw [List.flatMap_map]
      rfl
    rw [e3] at hrun
    unfold execOp
    simp only [ho, Sem.run_bind, hrun, Result.andThen_ok, Sem.run_pure]
theorem enc_laid {sz : Nat} {l : List α} (hk : ∀ x ∈ l, (enc x).length = sz) (w : World) (e : TypeId) : EncIn enc sz (w.alloc (.cells (l.flatMap enc).toArray e)) (some ⟨w.heap.size, 0, none⟩) l := fun _ =>
  ⟨w.heap.size, 0, rfl, by simp, fun i hi j v hv => by
    rw [Nat.zero_add, (At.new w e (l.flatMap enc)).cell]
    exact enc_get hk hi hv⟩
/-- a slice of things, written out -/
theorem wpList_rowsE (hw : Region.wanted o (yielded ops a.tmps) = true) (t e sz : Nat) (l : List α) (parts : Array (Nat × Operand)) (hop : o.op = .buildSlice t l.length parts) (hu : P.underlying t = some (.slice e)) (hie : (P.info? e).map (fun i => (i.zero.isSome, i.size)) = some (true, sz)) (hsz : 0 < sz) (hl : 0 < l.length) (hsm : l.length * sz ≤ 2 ^ 24) (hk : ∀ x ∈ l, (enc x).length = sz)
    (hp : (parts.map fun (i, x) => (i, a.eval x)).toList = ((l.map fun x => Value.agg (enc x).toArray).zipIdx 0).map fun x => (x.2, x.1))
    (h : ∀ g w', g = w.heap.size → Below w.heap.size w w' → EncIn enc sz w' (some ⟨g, 0, none⟩) l → Own w' w.heap.size e sz (.slice (some ⟨g, 0, none⟩) l.length l.length) l.length (l.flatMap enc) → wpList P ops Q rest (a.put o.dst (.slice (some ⟨g, 0, none⟩) l.length l.length)) w') : wpList P ops Q (o :: rest) a w :=
  wpList_step fun K hK => by
    rw [if_pos hw]
    unfold Oper.wp
    rw [exec_rowsE t e sz l parts hop hu hie hsz hl hsm hk hp w]
    refine hK _ _ (h _ _ rfl ((Below.refl _ _).alloc (Nat.le_refl _) _) (enc_laid hk w e) ?_)
    have hm : l.length ≤ maxLen := by
      have : l.length * 1 ≤ l.length * sz := Nat.mul_le_mul_left _ hsz
      unfold maxLen
      omega
    have h1 := Own.made (base := w.heap.size) w e sz (l.flatMap enc) l.length l.length (Nat.le_refl _) (Nat.le_refl _) hm (enc_len hk)
    rwa [List.take_of_length_le (by rw [enc_len hk]; exact Nat.le_refl _)] at h1
/-- .. of one thing -/
theorem wpList_one (hw : Region.wanted o (yielded ops a.tmps) = true) (t e sz : Nat) (x : α) (y : Operand) (hop : o.op = .buildSlice t 1 #[(0, y)]) (hy : a.eval y = .agg (enc x).toArray) (hu : P.underlying t = some (.slice e)) (hie : (P.info? e).map (fun i => (i.zero.isSome, i.size)) = some (true, sz)) (hsz : 0 < sz) (hsm : sz ≤ 2 ^ 24) (hk : (enc x).length = sz)
    (h : ∀ g w', g = w.heap.size → Below w.heap.size w w' → EncIn enc sz w' (some ⟨g, 0, none⟩) [x] → wpList P ops Q rest (a.put o.dst (.slice (some ⟨g, 0, none⟩) 1 1)) w') : wpList P ops Q (o :: rest) a w :=
  wpList_rowsE (enc := enc) hw t e sz [x] #[(0, y)] hop hu hie hsz (by simp) (by simpa using hsm) (by simpa using hk) (by simp [hy]) fun g w' h1 h2 h3 _ => h g w' h1 h2 h3
end
end Go.Proofs.YtdfeiajdmmlllaaDoor
