/- Layer 14: == and != of summaries; Of, Has. -/
import Derived.Test.YtcpnlojcmlldpaaHazeB
import Derived.Laws.StructEq
import Derived.Deep.RegionHeld3
namespace Go.Proofs.Ytcpnlojcmlldpaa
open Go.RowKit

theorem run_forIn_all {P : Program} (w : World) (f : Nat → (Option Bool × Unit) → Sem (ForInStep (Option Bool × Unit))) (p : Nat → Bool) : ∀ (m k : Nat),
    (∀ i, k ≤ i → i < k + m → (f i (none, ())).run P w = .ok (if p i then .yield (none, ()) else .done (some false, ())) w) →
    (forIn (List.range' k m) (none, ()) f).run P w = .ok (if (List.range' k m).all p then (none, ()) else (some false, ())) w
  | 0, k, _ => by simp
  | m + 1, k, h => by
    have h0 := h k (Nat.le_refl _) (by omega)
    have ih := run_forIn_all w f p m (k + 1) (fun i h1 h2 => h i (by omega) (by omega))
    rw [List.range'_succ, List.forIn_cons]
    simp only [Sem.run_bind, h0, Result.andThen_ok, List.all_cons]
    by_cases hp : p k = true
    · simp only [hp, if_true, Bool.true_and]
      exact ih
    · simp only [hp, if_false, Bool.false_and, Bool.false_eq_true]
      rfl
theorem all_eq (la lb : List Int) (n : Nat) (ha : la.length = n) (hb : lb.length = n) : ((List.range' 0 n).all fun i => la.getD i 0 == lb.getD i 0) = (la == lb) := by
  rw [Bool.eq_iff_iff, List.all_eq_true, beq_iff_eq]
  constructor
  · intro h
    refine List.ext_getElem (by omega) fun i h1 h2 => ?_
    have := h i (by simp; omega)
    simpa [List.getD, h1, h2] using this
  · rintro rfl i _
    simp
theorem run_equalIn_arr {P : Program} (w : World) (d t e n : Nat) (kk : IntKind) (ht : P.underlying t = some (.array n e)) (he : P.underlying e = some (.int kk)) (hs : (P.info? e).map (·.size) = some 1)
    (la lb : List Int) (ha : la.length = n) (hb : lb.length = n) :
    (Op.equalIn (d + 2) t (.agg (la.map (Value.int kk)).toArray) (.agg (lb.map (Value.int kk)).toArray)).run P w = .ok (la == lb) w := by
  cases hq : P.info? e with
  | none => simp [hq] at hs
  | some j =>
    have hj : j.size = 1 := by simpa [hq] using hs
    have hp : ∀ (l : List Int) (i : Nat) (h : i < l.length), (part e (l.map (Value.int kk)).toArray i).run P w = .ok (.int kk l[i]) w := by
      intro l i h
      simp [part, isAgg, run_underlying he, h]
    simp only [Op.equalIn, Sem.run_bind, run_underlying ht, Result.andThen_ok]
    simp only [sizeOf, typeInfo]
    simp only [Std.Legacy.Range.forIn_eq_forIn_range', Std.Legacy.Range.size, Sem.run_bind, run_program, Result.andThen_ok, hq, Sem.run_pure, hj]
    rw [run_forIn_all w _ (fun i => la.getD i 0 == lb.getD i 0)]
    · rw [show (n - 0 + 1 - 1) / 1 = n from by omega, all_eq la lb n ha hb]
      by_cases hx : (la == lb) = true
      · simp [hx]
      · simp [hx]
    · intro i h1 h2
      have hia : i < la.length := by simp at h2; omega
      have hib : i < lb.length := by simp at h2; omega
      simp only [Nat.mul_one, Sem.run_bind, hp la i hia, hp lb i hib, Result.andThen_ok, run_underlying he, List.getD, List.getElem?_eq_getElem hia, List.getElem?_eq_getElem hib, Option.getD_some]
      simp
      by_cases hx : la[i] = lb[i] <;> simp [hx]
theorem ints_inj (a b : List UInt8) : ((a.map fun b => (b.toNat : Int)) == (b.map fun b => (b.toNat : Int))) = (a == b) := by
  rw [Bool.eq_iff_iff, beq_iff_eq, beq_iff_eq]
  constructor
  · intro h
    refine List.map_inj_right (f := fun b : UInt8 => (b.toNat : Int)) (fun x y hxy => ?_) |>.1 h
    have hxy2 : (x.toNat : Int) = (y.toNat : Int) := hxy
    exact UInt8.toNat_inj.1 (by omega)
  · rintro rfl; rfl
abbrev hzV (a : List UInt8) : Value := .agg (u8s a).toArray
theorem hz_ints (a : List UInt8) : hzV a = .agg ((a.map fun b => (b.toNat : Int)).map (Value.int .u8)).toArray := by
  simp [hzV, u8s]
theorem run_eql_hz (w : World) (a b : List UInt8) (ha : a.length = 64) (hb : b.length = 64) : (binOp .eql 26 (hzV a) (hzV b)).run Try.prog w = .ok (.bool (a == b)) w := by
  rw [hz_ints, hz_ints]
  have h := run_equalIn_arr (P := Try.prog) w 9998 26 5 64 .u8 Try.underlying26 Try.underlying5 (by kernel_rfl) (a.map fun b => (b.toNat : Int)) (b.map fun b => (b.toNat : Int)) (by simpa using ha) (by simpa using hb)
  rw [ints_inj, show 9998 + 2 = 10000 from rfl] at h
  simp only [binOp, Op.equal, Op.maxDepth, Sem.run_bind, Sem.run_pure, h, Result.andThen_ok]
theorem run_neq_hz (w : World) (a b : List UInt8) (ha : a.length = 64) (hb : b.length = 64) : (binOp .neq 26 (hzV a) (hzV b)).run Try.prog w = .ok (.bool (!(a == b))) w := by
  rw [hz_ints, hz_ints]
  have h := run_equalIn_arr (P := Try.prog) w 9998 26 5 64 .u8 Try.underlying26 Try.underlying5 (by kernel_rfl) (a.map fun b => (b.toNat : Int)) (b.map fun b => (b.toNat : Int)) (by simpa using ha) (by simpa using hb)
  rw [ints_inj, show 9998 + 2 = 10000 from rfl] at h
  simp only [binOp, Op.equal, Op.maxDepth, Sem.run_bind, Sem.run_pure, h, Result.andThen_ok]
theorem run_eqGuard_hz (w : World) (op : BinOp) (x y : Operand) (a b : List UInt8) : (eqGuard op 26 x y (hzV a) (hzV b)).run Try.prog w = .ok () w :=
  run_eqGuard_agg w op 26 x y _ _ (by kernel_rfl)

structure HasS (w w' : World) (h k : List UInt8) : Prop where
  a : w'.rangeAt w.heap.size 0 (u8s h)
  b : w'.rangeAt (w.heap.size + 1) 0 (u8s k)
  lt : w.heap.size + 1 < w'.heap.size
  below : Below w.heap.size w w'
theorem range_step {w w' : World} {b o : Nat} {cs : List Value} {B : Nat} (h : w.rangeAt b o cs) (hb : Below B w w') (hlt : b < B) : w'.rangeAt b o cs := fun j v hv => (hb.cell (p := ⟨b, o + j, none⟩) hlt).trans (h j v hv)
theorem HasS.step {w w' w'' : World} {h k : List UInt8} (H : HasS w w' h k) (hb : Below w'.heap.size w' w'') : HasS w w'' h k :=
  ⟨range_step H.a hb (by have := H.lt; omega), range_step H.b hb H.lt, Nat.lt_of_lt_of_le H.lt hb.size, H.below.trans (hb.mono H.below.size)⟩
theorem HasS.drew {w w' : World} {h k : List UInt8} (H : HasS w w' h k) : HasS w w'.drew h k := H.step (Below.refl _ _).drew
theorem HasS.alloc {w w' : World} {h k : List UInt8} (H : HasS w w' h k) (o : Obj) : HasS w (w'.alloc o) h k := H.step ((Below.refl _ _).alloc (Nat.le_refl _) o)
theorem HasS.conj {w w' : World} {h k : List UInt8} (H : HasS w w' h k) : w'.rangeAt w.heap.size 0 (u8s h) ∧ w'.rangeAt (w.heap.size + 1) 0 (u8s k) ∧ HasS w w' h k := ⟨H.a, H.b, H⟩
theorem one_key (w : World) (k : List UInt8) : BytesIn (w.alloc (.cells (u8s k).toArray 23)) (some ⟨w.heap.size, 0, none⟩) 32 [k] := fun _ =>
  ⟨_, _, rfl, by simp, fun i hi j v hv => by
    have h0 : i = 0 := by simp at hi; omega
    subst h0
    rw [Nat.zero_mul, Nat.zero_add]
    exact (At.newA w _ rfl).cell' hv⟩
theorem one_key_drew (w : World) (k : List UInt8) : BytesIn (w.alloc (.cells (u8s k).toArray 23)).drew (some ⟨w.heap.size, 0, none⟩) 32 [k] := (one_key w k).below (Nat.le_refl _) (Below.refl _ _).drew (Nat.le_refl _)
theorem with_held {w w' : World} {h k : List UInt8} (H : HasS w w' h k) (hh : h.length = 64) (hk : k.length = 32) (q : Nat) (hK : BytesIn w' (some ⟨q, 0, none⟩) 32 [k]) :
    Calls Try.prog 22 #[hzV h, .slice (some ⟨q, 0, none⟩) 1 1] w' fun e w'' => e = .returned (hzV (Hz.withKey h k)) ∧ HasS w w'' h k :=
  (with_any h hh (some ⟨q, 0, none⟩) 1 [k] w' hK (fun x hx => by rw [List.mem_singleton.1 hx]; exact hk) (by simp [maxLen])).mono fun e w'' ⟨he, hb⟩ => ⟨he, H.step hb⟩
set_option maxRecDepth 100000 in
set_option maxHeartbeats 1000000 in
theorem of_any (A : Option Addr) (c : Nat) (ks : List (List UInt8)) (w : World) (hk : BytesIn w A 32 ks) (hk32 : ∀ k ∈ ks, k.length = 32) (hn : ks.length ≤ maxLen) :
    Calls Try.prog 10 #[.slice A ks.length c] w fun e w' => e = .returned (hzV (Hz.withKeys Hz.zero ks)) ∧ Below w.heap.size w w' := by
  have HK := Lib.hid hk
  have HK32 := Lib.hid hk32
  have hn' : ks.length ≤ 9223372036854775807 := hn
  clear hk hk32
  go_enter Try.func10, Try.ntmps10
  go_wp2_with fail
  have hb0 : Below w.heap.size w (w.alloc (.cells (u8s Hz.zero).toArray 26)) := (Below.refl _ _).alloc (Nat.le_refl _) _
  refine (with_any Hz.zero Hz.zero_len A c ks (w.alloc (.cells (u8s Hz.zero).toArray 26)) (HK.out.below (Nat.le_refl _) hb0 hb0.size) HK32.out hn).mono ?_
  rintro e w1 ⟨rfl, hb⟩
  have hz1 : At w1 w.heap.size 26 (u8s Hz.zero) := (At.newA w 26 (C := (u8s Hz.zero).toArray) rfl).below hb (by simp)
  have HB := Lib.hid (hb0.trans (hb.mono hb0.size))
  obtain ⟨r, hr⟩ : ∃ r, r = Hz.withKeys Hz.zero ks := ⟨_, rfl⟩
  rw [← hr]
  have hrl : r.length = 64 := by rw [hr, Hz.withKeys_len, Hz.zero_len]
  have hir : (Try.prog.info? 26).map (·.size) = some (u8s r).length := by
    rw [u8s_len, hrl]
    kernel_rfl
  have HIr := Lib.hid hir
  have HLr := Lib.hid (show (u8s r).length = (u8s Hz.zero).length by rw [u8s_len, u8s_len, hrl]; rfl)
  have HR := Lib.hid hr
  have HU := Lib.hid Try.underlying26
  clear hb hb0 hr hrl hir
  go_wp2_with (with_reducible refine wpList_storeAll rfl 26 (.tmp 2) (.tmp 5) rfl _ rfl _ (u8s Hz.zero) (u8s r) hz1 rfl HLr.out HIr.out (u8s_one r) ?_; intro w3 hat3 hg3 hs3)
  refine ret_cellAll rfl rfl w.heap.size _ _ _ rfl hat3 HU.out rfl HIr.out ⟨by rw [HR.out], ?_⟩
  exact Below.ofGrown HB.out hg3 HB.out.size (Nat.le_refl _)
end Go.Proofs.Ytcpnlojcmlldpaa
