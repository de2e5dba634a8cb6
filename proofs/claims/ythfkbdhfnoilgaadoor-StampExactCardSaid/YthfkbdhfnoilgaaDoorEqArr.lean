/- Equality of arrays of integers; of digests. -/
import Derived.Test.YthfkbdhfnoilgaaDoorStampI
namespace Go.Proofs.YthfkbdhfnoilgaaDoor
open Go.RowKit

theorem run_forIn_all {P : Program} (w : World) (f : Nat → (Option Bool × Unit) → Sem (ForInStep (Option Bool × Unit))) (p : Nat → Bool) : ∀ (m k : Nat),
    (∀ i, k ≤ i → i < k + m → (f i (none, ())).run P w = .ok (if p i then .yield (none, ()) else .done (some false, ())) w) →
    (forIn (List.range' k m) (none, ()) f).run P w = .ok (if (List.range' k m).all p then (none, ()) else (some false, ())) w
  | 0, k, _ => by simp
  | m + 1, k, h => by
    have h0 := h k (Nat.le_refl _) (by omega)
    have ih := run_forIn_all w f p m (k + 1) (fun i h1 h2 => h i (by omega) (by omega))
    rw [List.range'_succ, List.forIn_cons]
    simp only [Sem.run_bind, h0, Result.andThen_ok, List.all_cons]
    by_cases hp : p k = true
    · simp only [hp, if_true, Bool.true_and]
      exact ih
    · simp only [hp, if_false, Bool.false_and, Bool.false_eq_true]
      rfl
theorem all_eq (la lb : List Int) (n : Nat) (ha : la.length = n) (hb : lb.length = n) : ((List.range' 0 n).all fun i => la.getD i 0 == lb.getD i 0) = (la == lb) := by
  rw [Bool.eq_iff_iff, List.all_eq_true, beq_iff_eq]
  constructor
  · intro h
    refine List.ext_getElem (by omega) fun i h1 h2 => ?_
    have := h i (by simp; omega)
    simpa [List.getD, h1, h2] using this
  · rintro rfl i _
    simp
theorem run_equalIn_arr {P : Program} (w : World) (d t e n : Nat) (kk : IntKind) (ht : P.underlying t = some (.array n e)) (he : P.underlying e = some (.int kk)) (hs : (P.info? e).map (·.size) = some 1)
    (la lb : List Int) (ha : la.length = n) (hb : lb.length = n) :
    (Op.equalIn (d + 2) t (.agg (la.map (Value.int kk)).toArray) (.agg (lb.map (Value.int kk)).toArray)).run P w = .ok (la == lb) w := by
  cases hq : P.info? e with
  | none => simp [hq] at hs
  | some j =>
    have hj : j.size = 1 := by simpa [hq] using hs
    have hp : ∀ (l : List Int) (i : Nat) (h : i < l.length), (part e (l.map (Value.int kk)).toArray i).run P w = .ok (.int kk l[i]) w := by
      intro l i h
      simp [part, isAgg, run_underlying he, h]
    simp only [Op.equalIn, Sem.run_bind, run_underlying ht, Result.andThen_ok]
    simp only [sizeOf, typeInfo]
    simp only [Std.Legacy.Range.forIn_eq_forIn_range', Std.Legacy.Range.size, Sem.run_bind, run_program, Result.andThen_ok, hq, Sem.run_pure, hj]
    rw [run_forIn_all w _ (fun i => la.getD i 0 == lb.getD i 0)]
    · rw [show (n - 0 + 1 - 1) / 1 = n from by omega, all_eq la lb n ha hb]
      by_cases hx : (la == lb) = true
      · simp [hx]
      · simp [hx]
    · intro i h1 h2
      have hia : i < la.length := by simp at h2; omega
      have hib : i < lb.length := by simp at h2; omega
      simp only [Nat.mul_one, Sem.run_bind, hp la i hia, hp lb i hib, Result.andThen_ok, run_underlying he, List.getD, List.getElem?_eq_getElem hia, List.getElem?_eq_getElem hib, Option.getD_some]
      simp
      by_cases hx : la[i] = lb[i] <;> simp [hx]
theorem dg_ints (a : List UInt8) : dgV a = .agg ((a.map fun b => (b.toNat : Int)).map (Value.int .u8)).toArray := by
  simp [dgV, u8s]
theorem ints_inj (a b : List UInt8) : ((a.map fun b => (b.toNat : Int)) == (b.map fun b => (b.toNat : Int))) = (a == b) := by
  rw [Bool.eq_iff_iff, beq_iff_eq, beq_iff_eq]
  constructor
  · intro h
    refine List.map_inj_right (f := fun b : UInt8 => (b.toNat : Int)) (fun x y hxy => ?_) |>.1 h
    have hxy2 : (x.toNat : Int) = (y.toNat : Int) := hxy
    exact UInt8.toNat_inj.1 (by omega)
  · rintro rfl; rfl
theorem run_eql_dg (w : World) (a b : List UInt8) (ha : a.length = 32) (hb : b.length = 32) : (binOp .eql 27 (dgV a) (dgV b)).run Tryd.prog w = .ok (.bool (a == b)) w := by
  rw [dg_ints, dg_ints]
  have h := run_equalIn_arr (P := Tryd.prog) w 9998 27 5 32 .u8 Tryd.underlying27 Tryd.underlying5 (by kernel_rfl) (a.map fun b => (b.toNat : Int)) (b.map fun b => (b.toNat : Int)) (by simpa using ha) (by simpa using hb)
  rw [ints_inj, show 9998 + 2 = 10000 from rfl] at h
  simp only [binOp, Op.equal, Op.maxDepth, Sem.run_bind, Sem.run_pure, h, Result.andThen_ok]
theorem run_neq_dg (w : World) (a b : List UInt8) (ha : a.length = 32) (hb : b.length = 32) : (binOp .neq 27 (dgV a) (dgV b)).run Tryd.prog w = .ok (.bool (!(a == b))) w := by
  rw [dg_ints, dg_ints]
  have h := run_equalIn_arr (P := Tryd.prog) w 9998 27 5 32 .u8 Tryd.underlying27 Tryd.underlying5 (by kernel_rfl) (a.map fun b => (b.toNat : Int)) (b.map fun b => (b.toNat : Int)) (by simpa using ha) (by simpa using hb)
  rw [ints_inj, show 9998 + 2 = 10000 from rfl] at h
  simp only [binOp, Op.equal, Op.maxDepth, Sem.run_bind, Sem.run_pure, h, Result.andThen_ok]
theorem run_eqGuard_dg (w : World) (op : BinOp) (x y : Operand) (a b : List UInt8) : (eqGuard op 27 x y (dgV a) (dgV b)).run Tryd.prog w = .ok () w :=
  run_eqGuard_agg w op 27 x y _ _ (by kernel_rfl)
end Go.Proofs.YthfkbdhfnoilgaaDoor
