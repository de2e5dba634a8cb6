/- Drawn regions: slices of arrays of bytes built, calls. -/
import Derived.Test.YtcpnlojcmlldpaaMixA
import Derived.Test.YtcpnlojcmlldpaaHazeK
import Derived.Great.FillDense
namespace Go.Proofs.Ytcpnlojcmlldpaa
open Go.RowKit

/-- a slice that was built of arrays of bytes -/
def RowR (sz : Nat) (l : List (List UInt8)) (v : Value) (w : World) : Prop := ∃ g, v = .slice (some ⟨g, 0, none⟩) l.length l.length ∧ BytesIn w (some ⟨g, 0, none⟩) sz l
theorem RowR.at {sz : Nat} {l : List (List UInt8)} {g n m : Nat} {w : World} (h : RowR sz l (.slice (some ⟨g, 0, none⟩) n m) w) : BytesIn w (some ⟨g, 0, none⟩) sz l := by
  obtain ⟨g', e, h⟩ := h
  injection e with e1 e2 e3
  injection e1 with e1
  injection e1 with e1
  subst e1
  exact h
theorem RowR.below {sz : Nat} {l : List (List UInt8)} {v : Value} {w w' : World} (h : RowR sz l v w) (hb : Below w.heap.size w w') : RowR sz l v w' := by
  obtain ⟨g, e, h⟩ := h
  exact ⟨g, e, h.below (Nat.le_refl _) hb hb.size⟩
section
variable {P : Program} {ops : Array Oper} {Q : Exit → Act → World → Prop} {S : World → Prop} {i : Nat} {r : List (Nat × Bool)} {a : Act} {w : World} {o : Oper} {E : (World → Prop) → Act → Prop} {F : World → Prop}
theorem exec_rows (t e sz : Nat) (l : List (List UInt8)) (parts : Array (Nat × Operand)) (ho : o.op = .buildSlice t l.length parts) (hu : P.underlying t = some (.slice e)) (hie : (P.info? e).map (fun i => (i.zero.isSome, i.size)) = some (true, sz)) (hsz : 0 < sz) (hl : 0 < l.length) (hsm : l.length * sz ≤ 2 ^ 24) (h32 : ∀ x ∈ l, x.length = sz)
    (hp : (parts.map fun (i, x) => (i, a.eval x)).toList = ((l.map fun x => Value.agg (u8s x).toArray).zipIdx 0).map fun x => (x.2, x.1)) (w : World) :
    (execOp a.eval o).run P w = .ok (.value (.slice (some ⟨w.heap.size, 0, none⟩) l.length l.length)) (w.alloc (.cells (l.flatMap u8s).toArray e)) := by
  cases hi : P.info? e with
  | none => rw [hi] at hie; cases hie
  | some ie =>
    rw [hi, Option.map_some, Option.some.injEq, Prod.mk.injEq] at hie
    obtain ⟨z, hz⟩ := Option.isSome_iff_exists.1 hie.1
    have hs := hie.2
    have hf := Go.Great.fill_whole hsz (l.map fun x => Value.agg (u8s x).toArray) ((Array.range (l.length * sz)).map (z.cells[· % z.cells.size]!)) (by
      intro v hv
      obtain ⟨x, hx, rfl⟩ := List.mem_map.1 hv
      simp [Value.cells, u8s_len, h32 x hx]) (by simp)
    have hpos : 0 < l.length * sz := Nat.mul_pos hl hsz
    have hrun := run_buildSlice (P := P) w t e l.length (parts.map fun (i, x) => (i, a.eval x)) _ ie z hu hi hz (by rw [hs]; omega) (by rw [hs]; omega) (by rw [hs, hp]; exact hf)
    have e3 : ((l.map fun x => Value.agg (u8s x).toArray).flatMap fun v => v.cells.toList) = l.flatMap u8s := by
      rw [List.flatMap_map]
      rfl
    rw [e3] at hrun
    unfold execOp
    simp only [ho, Sem.run_bind, hrun, Result.andThen_ok, Sem.run_pure]
theorem wpMixU_rows (t e sz : Nat) (l : List (List UInt8)) (parts : Array (Nat × Operand)) (ho : ops.toList[i]? = some o) (hw : Region.wanted o (yielded ops a.tmps) = true) (hop : o.op = .buildSlice t l.length parts) (hu : P.underlying t = some (.slice e)) (hie : (P.info? e).map (fun i => (i.zero.isSome, i.size)) = some (true, sz)) (hsz : 0 < sz) (hl : 0 < l.length) (hsm : l.length * sz ≤ 2 ^ 24) (h32 : ∀ x ∈ l, x.length = sz)
    (hp : (parts.map fun (i, x) => (i, a.eval x)).toList = ((l.map fun x => Value.agg (u8s x).toArray).zipIdx 0).map fun x => (x.2, x.1))
    (h : ∀ g, wpMixU P ops S E r (fun w => F w ∧ RowR sz l (.slice (some ⟨g, 0, none⟩) l.length l.length) w) (a.put o.dst (.slice (some ⟨g, 0, none⟩) l.length l.length))) : wpMixU P ops S E ((i, false) :: r) F a :=
  wpMixU_put (RowR sz l) ho hw (fun _ _ _ h hb => h.below hb)
    (fun w _ _ => ⟨_, _, exec_rows t e sz l parts hop hu hie hsz hl hsm h32 hp w, (Below.refl _ _).alloc (Nat.le_refl _) _, _, rfl, bytes_laid w e sz l h32 rfl rfl⟩)
    (fun v ⟨w, g, hv, _⟩ => by subst hv; exact h g)
theorem wpMix_rows (t e sz : Nat) (l : List (List UInt8)) (parts : Array (Nat × Operand)) (ho : ops.toList[i]? = some o) (hw : Region.wanted o (yielded ops a.tmps) = true) (hop : o.op = .buildSlice t l.length parts) (hu : P.underlying t = some (.slice e)) (hie : (P.info? e).map (fun i => (i.zero.isSome, i.size)) = some (true, sz)) (hsz : 0 < sz) (hl : 0 < l.length) (hsm : l.length * sz ≤ 2 ^ 24) (h32 : ∀ x ∈ l, x.length = sz)
    (hp : (parts.map fun (i, x) => (i, a.eval x)).toList = ((l.map fun x => Value.agg (u8s x).toArray).zipIdx 0).map fun x => (x.2, x.1)) (hSa : ∀ o, S (w.alloc o))
    (h : ∀ g w', S w' → Below w.heap.size w w' → BytesIn w' (some ⟨g, 0, none⟩) sz l → wpMix P ops S Q r (a.put o.dst (.slice (some ⟨g, 0, none⟩) l.length l.length)) w') : wpMix P ops S Q ((i, false) :: r) a w :=
  wpMix_put _ _ ho hw (exec_rows t e sz l parts hop hu hie hsz hl hsm h32 hp w) (hSa _) (h _ _ (hSa _) ((Below.refl _ _).alloc (Nat.le_refl _) _) (bytes_laid w e sz l h32 rfl rfl))
/-- a call that answers one value -/
theorem wpMix_callv (f : FuncId) (args : List Value) (v : Value) (ho : ops.toList[i]? = some o) (hw : Region.wanted o (yielded ops a.tmps) = true) (hv : (execOp a.eval o).run P w = .ok (.enter f args.toArray) w)
    (hc : Calls P f args.toArray w fun e w' => e = .returned v ∧ S w') (h : ∀ w', S w' → wpMix P ops S Q r (a.put o.dst v) w') : wpMix P ops S Q ((i, false) :: r) a w :=
  wpMix_call f args (fun x _ => x = v) ho hw hv (hc.mono fun _ _ ⟨h1, h2⟩ => ⟨v, h1, h2, rfl⟩) (fun x w' hS hx => by rw [hx]; exact h w' hS)
end
theorem behind_alloc {w0 w : World} (h : Behind w0 w) (o : Obj) : Behind w0 (w.alloc o) := Below.alloc h h.size o
theorem behind_up {w0 w w' : World} (h : Behind w0 w) (hb : Below w.heap.size w w') : Behind w0 w' := Below.trans h (hb.mono h.size)
theorem info_dg1 : (Try.prog.info? 23).map (fun i => (i.zero.isSome, i.size)) = some (true, 32) := by kernel_rfl
theorem info_hz1 : (Try.prog.info? 26).map (fun i => (i.zero.isSome, i.size)) = some (true, 64) := by kernel_rfl
theorem exec_hz {a : Act} {o : Oper} (ho : o.op = .alloc 26) (w : World) : (execOp a.eval o).run Try.prog w = .ok (.value (.pointer (some ⟨w.heap.size, 0, none⟩))) (w.alloc (.cells (u8s Hz.zero).toArray 26)) := by
  have hz : (zeroValue 26).run Try.prog w = .ok (hzV Hz.zero) w := by kernel_rfl
  unfold execOp
  simp only [ho]
  simp only [hzV] at hz
  go_simp
/-- the store of a summary at the end of a drawn region, into the variable that was made there -/
theorem wpMix_storeAll {P : Program} {ops : Array Oper} {Q : Exit → Act → World → Prop} {S : World → Prop} {i : Nat} {a : Act} {w : World} {o : Oper} {r : List (Nat × Bool)} (ho : ops.toList[i]? = some o) (hw : Region.wanted o (yielded ops a.tmps) = true) (ty : TypeId) (x y : Operand) (hop : o.op = .store ty x y) (g : Nat) (hx : a.eval x = .pointer (some ⟨g, 0, none⟩)) (t : TypeId) (cs new : List Value)
    (hg : At w g t cs) (hy : a.eval y = .agg new.toArray) (hl : new.length = cs.length) (hi : (P.info? ty).map (·.size) = some new.length) (h1 : ∀ v ∈ new, v.oneCell' = true)
    (hSs : ∀ w', w.grownBy w' (some g) → S w') (h : ∀ w', At w' g t new → w.grownBy w' (some g) → S w' → wpMix P ops S Q r (a.put o.dst undef) w') : wpMix P ops S Q ((i, false) :: r) a w :=
  wpMix_step ho hw fun K hK => by
    have hgr : w.grownBy (w.setCells g 0 new) (some g) := grown_setCells g new 0 w w (World.grownBy.refl _ _)
    have hat : At (w.setCells g 0 new) g t new := hg.setAll hl
    refine wp_store_mid ty x y hop g 0 new.toArray hx hy (hg.there 0 _ (by simp; omega)) (by simpa using hi) (all_oneCell_toArray h1) ?_
    have hS' := hSs _ hgr
    exact hK _ _ hS' (h _ hat hgr hS')
end Go.Proofs.Ytcpnlojcmlldpaa
