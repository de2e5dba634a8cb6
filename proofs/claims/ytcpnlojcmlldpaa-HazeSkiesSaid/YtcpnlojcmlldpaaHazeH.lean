/- Steps of a plain region, each its own law: a built array, a slice of one digest. -/
import Derived.Test.YtcpnlojcmlldpaaHazeG
namespace Go.Proofs.Ytcpnlojcmlldpaa
open Go.RowKit Go.Maps Go.Sort

section
variable {P : Program} {ops : Array Oper} {Q : Exit → Act → World → Prop} {o : Oper} {rest : List Oper} {a : Act} {w : World}
theorem wpList_val (v : Value) (hw : Region.wanted o (yielded ops a.tmps) = true) (hv : (execOp a.eval o).run P w = .ok (.value v) w) (h : wpList P ops Q rest (a.put o.dst v) w) : wpList P ops Q (o :: rest) a w :=
  wpList_step fun K hK => by
    rw [if_pos hw]
    unfold Oper.wp
    rw [hv]
    exact hK _ _ h
theorem wpList_build (cells : Array Value) (hw : Region.wanted o (yielded ops a.tmps) = true) (t : TypeId) (parts : Array (Nat × Operand)) (ho : o.op = .build t parts) (hb : P.built t (parts.map fun (i, x) => (i, a.eval x)).toList = some cells)
    (h : wpList P ops Q rest (a.put o.dst (.agg cells)) w) : wpList P ops Q (o :: rest) a w :=
  wpList_val _ hw (exec_build t parts cells ho hb w) h
theorem wpList_eq (v : Value) (hw : Region.wanted o (yielded ops a.tmps) = true) (op : BinOp) (ty : TypeId) (x y : Operand) (yt : TypeId) (ho : o.op = .binOp op ty x y yt) (vx vy : Value) (hx : a.eval x = vx) (hy : a.eval y = vy)
    (hg : ∀ w, (eqGuard op ty x y vx vy).run P w = .ok () w) (hb : ∀ w, (binOp op ty vx vy).run P w = .ok v w) (h : wpList P ops Q rest (a.put o.dst v) w) : wpList P ops Q (o :: rest) a w :=
  wpList_val v hw (by
    unfold execOp
    simp only [ho, hx, hy, Sem.run_bind, Sem.run_pure, hg, Result.andThen_ok, hb]) h
end
theorem wpList_build_dg {ops : Array Oper} {Q : Exit → Act → World → Prop} {o : Oper} {rest : List Oper} {a : Act} {w : World} (hw : Region.wanted o (yielded ops a.tmps) = true) (k : List UInt8) (hk : k.length = 32) (x : Operand) (ho : o.op = .buildSlice 51 1 #[(0, x)]) (hx : a.eval x = .agg (u8s k).toArray)
    (h : wpList Try.prog ops Q rest (a.put o.dst (.slice (some ⟨w.heap.size, 0, none⟩) 1 1)) (w.alloc (.cells (u8s k).toArray 23))) : wpList Try.prog ops Q (o :: rest) a w :=
  wpList_step fun K hK => by
    rw [if_pos hw]
    exact wp_build_dg k hk x ho hx (hK _ _ h)
theorem one_key_at (w : World) (k : List UInt8) {n : Nat} (hn : n = w.heap.size) : BytesIn (w.alloc (.cells (u8s k).toArray 23)) (some ⟨n, 0, none⟩) 32 [k] := by
  subst hn
  exact one_key w k
end Go.Proofs.Ytcpnlojcmlldpaa
