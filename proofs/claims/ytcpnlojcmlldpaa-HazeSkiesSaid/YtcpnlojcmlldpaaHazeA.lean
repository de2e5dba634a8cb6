/- Layer 14: a key's marks. -/
import Derived.Test.YtcpnlojcmlldpaaHazeP
import Derived.Test.YtcpnlojcmlldpaaRegC
import Derived.Test.YtcpnlojcmlldpaaRegD
import Derived.BigQuiet
namespace Go.Proofs.Ytcpnlojcmlldpaa
open Go.RowKit

def u8s (l : List UInt8) : List Value := l.map fun b => Value.int .u8 (b.toNat : Int)
def ints (l : List Nat) : List Value := l.map fun n => Value.int .i64 ((n : Nat) : Int)
theorem u8s_get {l : List UInt8} {i : Nat} (h : i < l.length) : (u8s l)[i]? = some (.int .u8 ((Hz.byteAt l i).toNat : Int)) := by
  simp [u8s, Hz.byteAt, h]
theorem ofInt_i64 (a : Nat) (ha : a < 9223372036854775808) : (BitVec.ofInt 64 (a : Int)).toNat = a := by
  rw [BitVec.ofInt_natCast, BitVec.toNat_ofNat]; exact Nat.mod_eq_of_lt (by omega)
theorem i64_or_nat (a b : Nat) (ha : a < 9223372036854775808) (hb : b < 9223372036854775808) : bits .or .i64 (a : Int) (b : Int) = ((a ||| b : Nat) : Int) := by
  have hx : a ||| b < 2 ^ 63 := Nat.or_lt_two_pow (by omega) (by omega)
  show IntKind.i64.wrap ((BitVec.ofInt 64 (a : Int) ||| BitVec.ofInt 64 (b : Int)).toNat : Int) = _
  rw [BitVec.toNat_or, ofInt_i64 a ha, ofInt_i64 b hb, IntWalk.i64_in _ (by omega)]
theorem ofInt_u8 (a : Nat) (ha : a < 256) : (BitVec.ofInt 8 (a : Int)).toNat = a := by
  rw [BitVec.ofInt_natCast, BitVec.toNat_ofNat]; exact Nat.mod_eq_of_lt (by omega)
theorem u8_or_nat (a b : Nat) (ha : a < 256) (hb : b < 256) : bits .or .u8 (a : Int) (b : Int) = ((a ||| b : Nat) : Int) := by
  have hx : a ||| b < 2 ^ 8 := Nat.or_lt_two_pow (by omega) (by omega)
  show IntKind.u8.wrap ((BitVec.ofInt 8 (a : Int) ||| BitVec.ofInt 8 (b : Int)).toNat : Int) = _
  rw [BitVec.toNat_or, ofInt_u8 a ha, ofInt_u8 b hb, IntKind.wrap_u8]
  omega
theorem mark_num (x y : UInt8) : (bits .or .i64 ((x.toNat : Int) * 256) (y.toNat : Int)).tmod 512 = (((x.toNat * 256 + y.toNat) % 512 : Nat) : Int) := by
  have hx := x.toNat_lt
  have hy := y.toNat_lt
  have e1 : (x.toNat : Int) * 256 = ((x.toNat * 256 : Nat) : Int) := by omega
  have e3 := Nat.shiftLeft_add_eq_or_of_lt (i := 8) (b := y.toNat) (by omega) x.toNat
  rw [Nat.shiftLeft_eq] at e3
  rw [e1, i64_or_nat _ _ (by omega) (by omega), ← e3, Int.tmod_eq_emod_of_nonneg (by omega)]
  omega
theorem wpList_storeI {P : Program} {ops : Array Oper} {rest : List Oper} {o : Oper} {a : Act} {w : World} {Q : Exit → Act → World → Prop} (hgd : o.guard = none) (ty : TypeId) (x y : Operand) (ho : o.op = .store ty x y) (b off : Nat) (k : IntKind) (n : Int)
    (hx : a.eval x = .pointer (some ⟨b, off, none⟩)) (hy : a.eval y = .int k n) (hi : (P.info? ty).map (·.size) = some 1) (hc : (w.cell? ⟨b, off, none⟩).isSome = true ∧ w.frozen? ⟨b, off, none⟩ = false)
    (h : wpList P ops Q rest (a.put o.dst undef) (w.setCell ⟨b, off, none⟩ (.int k n))) : wpList P ops Q (o :: rest) a w :=
  wpList_plain hgd fun _ hK => by
    unfold Oper.wp execOp
    have hr : (Instr.storeAt ty (.pointer (some ⟨b, off, none⟩)) (.int k n)).run P w = .ok () (w.setCell ⟨b, off, none⟩ (.int k n)) := by
      cases hq : P.info? ty with
      | none => simp [hq] at hi
      | some i =>
        have hs : i.size = 1 := by simpa [hq] using hi
        obtain ⟨v0, hv0⟩ := Option.isSome_iff_exists.1 hc.1
        simp [Instr.storeAt, Instr.sureAddr, storeVar, sizeOf, typeInfo, hq, hs, hv0, hc.2, Value.cells, storeCells, go_sem]
    simp only [ho, hx, hy, Sem.run_bind, Sem.run_pure, hr, Result.andThen_ok]
    exact hK _ _ h
theorem At.some {w : World} {b : Nat} {t : TypeId} {cs : List Value} (h : At w b t cs) {i : Nat} (hi : i < cs.length) : (w.cell? ⟨b, i, none⟩).isSome = true ∧ w.frozen? ⟨b, i, none⟩ = false := by
  refine ⟨?_, h.frozen _⟩
  rw [h.cell, List.getElem?_eq_getElem hi]
  rfl
theorem ints_len (l : List Nat) : (ints l).length = l.length := by simp [ints]
theorem set_prefix {l : List Nat} {n N : Nat} (hl : l.length = N) (hn : n < N) {x : Nat} (hx : l[n]'(by omega) = x) : (ints (l.take n ++ List.replicate (N - n) 0)).set n (.int .i64 (x : Int)) = ints (l.take (n + 1) ++ List.replicate (N - (n + 1)) 0) := by
  unfold ints
  rw [show Value.int IntKind.i64 (x : Int) = (fun n : Nat => Value.int .i64 (n : Int)) x from rfl, ← List.map_set]
  congr 1
  have h1 : (l.take n).length = n := by rw [List.length_take]; omega
  rw [List.set_append_right _ _ (by omega), h1, Nat.sub_self, show N - n = (N - (n + 1)) + 1 by omega, List.replicate_succ, List.set_cons_zero, take_snoc l n (by omega), List.append_assoc, hx]
  rfl
theorem u8s_len (l : List UInt8) : (u8s l).length = l.length := by simp [u8s]

theorem below_drewN {B : Nat} {w0 w : World} (h : Below B w0 w) (n : Nat) : Below B w0 (w.drewN n) := by
  induction n with
  | zero => exact h
  | succ n ih => exact ih.drew
set_option maxRecDepth 100000 in
set_option maxHeartbeats 400000 in
theorem marks_any (k : List UInt8) (hk : k.length = 32) (w : World) :
    Calls Try.prog 31 #[.agg (u8s k).toArray] w fun e w' => e = .returned (.agg (ints (Hz.marks k)).toArray) ∧ Below w.heap.size w w' := by
  have HK := Lib.hid hk
  have hi : (Try.prog.info? 23).map (·.size) = some (u8s k).toArray.size := by
    rw [List.size_toArray, u8s_len, hk]
    kernel_rfl
  clear hk
  go_enter Try.func31, Try.ntmps31
  go_wp2_with fail
  go_loopw [4] (fun i wr => ∃ n : Nat, n ≤ 4 ∧ i = .int .i64 n ∧ At wr w.heap.size 23 (u8s k) ∧ At wr (w.heap.size + 1) 70 (ints ((Hz.marks k).take n ++ List.replicate (4 - n) 0)) ∧ Below w.heap.size w wr) (fun i _ => 4 - (RowKit.intOf i).toNat)
  case atStart =>
    refine ⟨0, by omega, rfl, (At.newA w _ rfl).alloc _, ?_, ((Below.refl _ _).alloc (Nat.le_refl _) _).alloc (by simp) _⟩
    have h := At.newA (w.alloc (.cells (u8s k).toArray 23)) 70 (C := #[.int .i64 0, .int .i64 0, .int .i64 0, .int .i64 0]) (cs := ints ((Hz.marks k).take 0 ++ List.replicate (4 - 0) 0)) rfl
    rw [World.size_alloc] at h
    exact h
  case round =>
    obtain ⟨n, hn, rfl, hat, hao, hb⟩ := hrel
    by_cases hlt : n < 4
    · have hl := HK.out
      obtain ⟨x, hx⟩ : ∃ x, x = Hz.byteAt k (2 * n) := ⟨_, rfl⟩
      obtain ⟨y, hy⟩ : ∃ y, y = Hz.byteAt k (2 * n + 1) := ⟨_, rfl⟩
      have c0 : wr.cell? ⟨w.heap.size, 2 * n, none⟩ = some (.int .u8 (x.toNat : Int)) := by rw [hx]; exact hat.cell' (u8s_get (by omega))
      have c1 : wr.cell? ⟨w.heap.size, 2 * n + 1, none⟩ = some (.int .u8 (y.toNat : Int)) := by rw [hy]; exact hat.cell' (u8s_get (by omega))
      have x1 := x.toNat_lt
      have y1 := y.toNat_lt
      have HX := Lib.hid (And.intro hx hy)
      have HA := Lib.hid hat
      have HO := Lib.hid hao
      have HB := Lib.hid hb
      have i1 : (0 : Int) ≤ (n : Int) := by omega
      have i2 : (n : Int) < 4 := by omega
      have e1 : IntKind.i64.wrap (2 * (n : Int)) = ((2 * n : Nat) : Int) := by rw [IntWalk.i64_in _ (by omega)]; omega
      have e2 : IntKind.i64.wrap (((2 * n : Nat) : Int) + 1) = ((2 * n + 1 : Nat) : Int) := by rw [IntWalk.i64_in _ (by omega)]; omega
      have j1 : (0 : Int) ≤ ((2 * n : Nat) : Int) := by omega
      have j2 : ((2 * n : Nat) : Int) < 32 := by omega
      have j3 : (0 : Int) ≤ ((2 * n + 1 : Nat) : Int) := by omega
      have j4 : ((2 * n + 1 : Nat) : Int) < 32 := by omega
      clear hx hy hat hao hb
      go_wp2_with fail
      refine wp_region_then (fun w' => ∃ n, w' = wr.drewN n) 16 (by kernel_rfl) (by kernel_rfl) (by kernel_rfl) (by kernel_rfl) (by decide) ⟨1, rfl⟩ ?_
      simp only [List.take_succ_cons, List.take_zero, List.drop_succ_cons, List.drop_zero]
      iterate 16 (go_big_quiet_step (fail))
      refine wpQuiet_nil ?_
      intro _ hw'
      obtain ⟨nq, rfl⟩ := hw'
      refine wpList_storeI rfl 3 (.tmp 22) (.tmp 21) rfl (w.heap.size + 1) n .i64 _ rfl rfl (by kernel_rfl) ((HO.out.below (below_drewN (Below.refl _ _) _) HO.out.lt).some (by rw [ints_len, List.length_append, List.length_take, List.length_replicate]; show n < min n 4 + (4 - n); omega)) ?_
      rw [mark_num]
      have hmk : (Hz.marks k)[n]'(by show n < 4; omega) = (x.toNat * 256 + y.toNat) % 512 := by
        rw [HX.out.1, HX.out.2]
        have h4 : n = 0 ∨ n = 1 ∨ n = 2 ∨ n = 3 := by omega
        rcases h4 with rfl | rfl | rfl | rfl <;> rfl
      have hO5 : At ((wr.drewN nq).setCell ⟨w.heap.size + 1, n, none⟩ (.int .i64 (((x.toNat * 256 + y.toNat) % 512 : Nat) : Int))) (w.heap.size + 1) 70 (ints ((Hz.marks k).take (n + 1) ++ List.replicate (4 - (n + 1)) 0)) := by
        have h := (HO.out.below (below_drewN (Below.refl _ _) nq) HO.out.lt).set n (.int .i64 (((x.toNat * 256 + y.toNat) % 512 : Nat) : Int))
        rw [set_prefix (N := 4) rfl hlt hmk] at h
        exact h
      have hA5 : At ((wr.drewN nq).setCell ⟨w.heap.size + 1, n, none⟩ (.int .i64 (((x.toNat * 256 + y.toNat) % 512 : Nat) : Int))) w.heap.size 23 (u8s k) := At.far (HA.out.below (below_drewN (Below.refl _ _) nq) HA.out.lt) (show w.heap.size + 1 ≠ w.heap.size by omega) _
      have hB5 : Below w.heap.size w ((wr.drewN nq).setCell ⟨w.heap.size + 1, n, none⟩ (.int .i64 (((x.toNat * 256 + y.toNat) % 512 : Nat) : Int))) := (below_drewN HB.out nq).setCell (by show w.heap.size ≤ w.heap.size + 1; omega) _
      generalize (wr.drewN nq).setCell ⟨w.heap.size + 1, n, none⟩ (.int .i64 (((x.toNat * 256 + y.toNat) % 512 : Nat) : Int)) = w5 at hO5 hA5 hB5 ⊢
      have HO5 := Lib.hid hO5
      have HA5 := Lib.hid hA5
      have HB5 := Lib.hid hB5
      clear hO5 hA5 hB5 hmk
      simp only [Act.put]
      refine wpList_nil ?_
      go_wp2_with fail
      go_roundw
      case rel => exact ⟨n + 1, by omega, by go_num, HA5.out, HO5.out, HB5.out⟩
      case measure => simp [RowKit.intOf]; omega
    · have h4 : n = 4 := by omega
      subst h4
      have ecs : ints ((Hz.marks k).take 4 ++ List.replicate (4 - 4) 0) = ints (Hz.marks k) := rfl
      rw [ecs] at hao
      obtain ⟨cs, hcs⟩ : ∃ cs, cs = ints (Hz.marks k) := ⟨_, rfl⟩
      rw [← hcs] at hao
      have hcl : cs.length = 4 := by rw [hcs]; rfl
      have h1 : ∀ v ∈ cs, v.oneCell' = true := by
        intro v hv
        rw [hcs] at hv
        simp only [ints, List.mem_map] at hv
        obtain ⟨n, _, rfl⟩ := hv
        rfl
      have hi4 : (Try.prog.info? 70).map (·.size) = some cs.length := by rw [hcl]; kernel_rfl
      have HC := Lib.hid hcs
      have HI := Lib.hid hi4
      have H1 := Lib.hid h1
      have HB := Lib.hid hb
      clear hat hb hcs hcl h1 hi4
      go_wp2_with (first
        | (with_reducible refine wpList_loadAll rfl 70 (.tmp 2) rfl _ rfl _ _ _ hao Try.underlying70 rfl HI.out ?_)
        | (with_reducible refine wpList_storeAll rfl 70 (.tmp 2) (.tmp 24) rfl _ rfl _ _ _ hao rfl rfl HI.out H1.out ?_; intro w3 hat3 hg3 hs3))
      refine ret_cellAll rfl rfl (w.heap.size + 1) _ cs _ rfl hat3 Try.underlying70 rfl HI.out ⟨by rw [HC.out], ?_⟩
      exact Below.ofGrown HB.out hg3 HB.out.size (by omega)
end Go.Proofs.Ytcpnlojcmlldpaa
