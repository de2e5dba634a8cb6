/- The reference's block. -/
import Derived.Test.YtdfeiajdmmlllaaDoorQRefB
import Derived.Test.YtdfeiajdmmlllaaDoorStampC
namespace Go.Proofs.YtdfeiajdmmlllaaDoor
open Go.RowKit

/-- block's memory ahead of its rounds: the state, the constants, the result's cell, the words -/
def BlkA (w : World) (st : Sha.St) (cs : List Nat) (wr : World) : Prop :=
  At wr w.heap.size 80 (stV st) ∧ At wr (w.heap.size + 1) 81 (u32s Sha.words) ∧ At wr (w.heap.size + 2) 80 (u32s (List.replicate 8 0)) ∧
  At wr (w.heap.size + 3) 81 (u32s cs) ∧ Below w.heap.size w wr ∧ wr.heap.size = w.heap.size + 4
theorem BlkA.drewN {w : World} {st : Sha.St} {cs : List Nat} {wr : World} (h : BlkA w st cs wr) (n : Nat) : BlkA w st cs (wr.drewN n) := ⟨h.1, h.2.1, h.2.2.1, h.2.2.2.1, below_drewN h.2.2.2.2.1 n, h.2.2.2.2.2⟩
theorem BlkA.drew {w : World} {st : Sha.St} {cs : List Nat} {wr : World} (h : BlkA w st cs wr) : BlkA w st cs wr.drew := h.drewN 1
theorem BlkA.set {w : World} {st : Sha.St} {cs : List Nat} {wr : World} (h : BlkA w st cs wr) (j v : Nat) : BlkA w st (cs.set j v) (wr.setCell ⟨w.heap.size + 3, j, none⟩ (.int .u32 (v : Int))) := by
  refine ⟨h.1.far (by simp) _, h.2.1.far (by simp) _, h.2.2.1.far (by simp) _, ?_, h.2.2.2.2.1.setCell (by simp) _, by simpa [World.setCell] using h.2.2.2.2.2⟩
  have := h.2.2.2.1.set j (.int .u32 (v : Int))
  have e : (u32s cs).set j (.int .u32 (v : Int)) = u32s (cs.set j v) := by simp [u32s]
  rw [e] at this
  exact this
theorem word4 (s : ByteArray) (hs : s.size = 64) (k : Nat) (hk : k < 16) : ∃ c0 c1 c2 c3 : Nat, c0 < 256 ∧ c1 < 256 ∧ c2 < 256 ∧ c3 < 256 ∧
    s.data.toList[4 * k]? = some (UInt8.ofNat c0) ∧ s.data.toList[4 * k + 1]? = some (UInt8.ofNat c1) ∧ s.data.toList[4 * k + 2]? = some (UInt8.ofNat c2) ∧ s.data.toList[4 * k + 3]? = some (UInt8.ofNat c3) ∧
    Sha.word s.data.toList k = ((c0 * 256 + c1) * 256 + c2) * 256 + c3 := by
  have hl := bytes_length s
  obtain ⟨l, hll⟩ : ∃ l, l = s.data.toList := ⟨_, rfl⟩
  rw [← hll] at hl ⊢
  have g : ∀ j, j < 64 → l[j]? = some (UInt8.ofNat (l.getD j 0).toNat) := by
    intro j hj
    rw [List.getD, List.getElem?_eq_getElem (by omega)]
    simp
  refine ⟨(l.getD (4 * k) 0).toNat, (l.getD (4 * k + 1) 0).toNat, (l.getD (4 * k + 2) 0).toNat, (l.getD (4 * k + 3) 0).toNat, UInt8.toNat_lt _, UInt8.toNat_lt _, UInt8.toNat_lt _, UInt8.toNat_lt _, g _ (by omega), g _ (by omega), g _ (by omega), g _ (by omega), ?_⟩
  have e : (l.drop (4 * k)).take 4 = [l.getD (4 * k) 0, l.getD (4 * k + 1) 0, l.getD (4 * k + 2) 0, l.getD (4 * k + 3) 0] := by
    rw [List.drop_eq_getElem_cons (by omega), List.drop_eq_getElem_cons (by omega), List.drop_eq_getElem_cons (by omega), List.drop_eq_getElem_cons (by omega)]
    simp only [List.take_succ_cons, List.take_zero, List.getD]
    rw [List.getElem?_eq_getElem (by omega), List.getElem?_eq_getElem (by omega), List.getElem?_eq_getElem (by omega), List.getElem?_eq_getElem (by omega)]
    rfl
  rw [Sha.word, e]
  simp [Sha.spell]
def zeros64 : List Value := u32s (List.replicate 64 0)
theorem build64 (w : World) : (Instr.build 81 #[]).run Tryd.prog w = .ok (.agg zeros64.toArray) w := by kernel_rfl
theorem word4_sum (c0 c1 c2 c3 : Nat) : c0 * 16777216 + c1 * 65536 + c2 * 256 + c3 = ((c0 * 256 + c1) * 256 + c2) * 256 + c3 := by omega
set_option maxRecDepth 100000 in
theorem word4_eq (c0 c1 c2 c3 : Nat) (h0 : c0 < 256) (h1 : c1 < 256) (h2 : c2 < 256) (h3 : c3 < 256) :
    bits .or .u32 (bits .or .u32 (bits .or .u32 ((c0 : Int) * 16777216) ((c1 : Int) * 65536)) ((c2 : Int) * 256)) (c3 : Int) = ((((c0 * 256 + c1) * 256 + c2) * 256 + c3 : Nat) : Int) := by
  have e1 : c0 * 16777216 ||| c1 * 65536 = c0 * 16777216 + c1 * 65536 := by
    have := Nat.shiftLeft_add_eq_or_of_lt (i := 24) (b := c1 * 65536) (by omega) c0
    rw [Nat.shiftLeft_eq, show (2 : Nat) ^ 24 = 16777216 by decide] at this
    exact this.symm
  have m2 : (c0 * 256 + c1) * 65536 = c0 * 16777216 + c1 * 65536 := by omega
  have e2 : (c0 * 16777216 + c1 * 65536) ||| c2 * 256 = c0 * 16777216 + c1 * 65536 + c2 * 256 := by
    have := Nat.shiftLeft_add_eq_or_of_lt (i := 16) (b := c2 * 256) (by omega) (c0 * 256 + c1)
    rw [Nat.shiftLeft_eq, show (2 : Nat) ^ 16 = 65536 by decide, m2] at this
    exact this.symm
  have e3 : (c0 * 16777216 + c1 * 65536 + c2 * 256) ||| c3 = c0 * 16777216 + c1 * 65536 + c2 * 256 + c3 := by
    have := Nat.shiftLeft_add_eq_or_of_lt (i := 8) (b := c3) (by omega) ((c0 * 256 + c1) * 256 + c2)
    rw [Nat.shiftLeft_eq, show (2 : Nat) ^ 8 = 256 by decide, show ((c0 * 256 + c1) * 256 + c2) * 256 = c0 * 16777216 + c1 * 65536 + c2 * 256 by omega] at this
    exact this.symm
  have f0 : (c0 : Int) * 16777216 = ((c0 * 16777216 : Nat) : Int) := by omega
  have f1 : (c1 : Int) * 65536 = ((c1 * 65536 : Nat) : Int) := by omega
  have f2 : (c2 : Int) * 256 = ((c2 * 256 : Nat) : Int) := by omega
  rw [f0, f1, f2, u32_or_nat _ _ (by omega) (by omega), e1, u32_or_nat _ _ (by omega) (by omega), e2, u32_or_nat _ _ (by omega) (by omega), e3]
  rw [word4_sum]
theorem run_index_byte {P : Program} (t : TypeId) (ht : P.underlying t = some .string) (s : ByteArray) (i : Int) (j c : Nat) (hi : i = (j : Int)) (hc : c < 256) (hj : s.data.toList[j]? = some (UInt8.ofNat c)) (w : World) :
    (Instr.index t (.string s) (.int .i64 i)).run P w = .ok (.int .u8 (c : Int)) w := by
  subst hi
  have hlt : j < s.size := by
    have := (List.getElem?_eq_some_iff.1 hj).1
    rw [bytes_length] at this
    exact this
  have h0 : (0 : Int) ≤ (j : Int) ∧ (j : Int) < (s.size : Nat) := ⟨by omega, by omega⟩
  have h := run_index_string (P := P) w t s .i64 (j : Int) ht
  rw [dif_pos h0] at h
  rw [h]
  have hb : s[j]'hlt = UInt8.ofNat c := by
    have h1 := (List.getElem?_eq_some_iff.1 hj).2
    rw [← h1]
    rfl
  have hcn : (UInt8.ofNat c).toNat = c := by simp; omega
  simp only [Int.toNat_natCast]
  rw [hb, hcn]
theorem turned2_eq (x n m : Nat) (hx : x < 4294967296) : bits .xor .u32 ((Sha.rotr x n : Nat) : Int) ((Sha.rotr x m : Nat) : Int) = ((Sha.turned x [n, m] : Nat) : Int) := by
  rw [u32_xor_nat _ _ (Sha.rotr_lt x n hx) (Sha.rotr_lt x m hx)]
  simp [Sha.turned]
theorem refnext_eq (ws : List Nat) (t x2 x7 x15 x16 : Nat) (hl : ws.length = t) (hx : x2 = ws.getD (t - 2) 0 ∧ x7 = ws.getD (t - 7) 0 ∧ x15 = ws.getD (t - 15) 0 ∧ x16 = ws.getD (t - 16) 0)
    (b2 : x2 < 4294967296) (b15 : x15 < 4294967296) :
    (bits .xor .u32 (bits .xor .u32 ((Sha.rotr x2 17 : Nat) : Int) ((Sha.rotr x2 19 : Nat) : Int)) ((x2 : Int) / 1024) + (x7 : Int) + bits .xor .u32 (bits .xor .u32 ((Sha.rotr x15 7 : Nat) : Int) ((Sha.rotr x15 18 : Nat) : Int)) ((x15 : Int) / 8) + (x16 : Int)) % 4294967296 = ((Sha.next ws : Nat) : Int) := by
  rw [turned2_eq x2 17 19 b2, turned2_eq x15 7 18 b15, ← next_eq ws t x2 x7 x15 x16 hl hx b2 b15]
  generalize bits .xor .u32 ((Sha.turned x2 [17, 19] : Nat) : Int) ((x2 : Int) / 1024) = A
  generalize bits .xor .u32 ((Sha.turned x15 [7, 18] : Nat) : Int) ((x15 : Int) / 8) = B
  omega
theorem BlkA.setAt {w : World} {st : Sha.St} {ws : List Nat} {t : Nat} {wr : World} (hl : ws.length = t) (ht : t < 64) (v : Nat) (h : BlkA w st (ws ++ List.replicate (64 - t) 0) wr) :
    BlkA w st ((ws ++ [v]) ++ List.replicate (64 - (t + 1)) 0) (wr.setCell ⟨w.heap.size + 3, t, none⟩ (.int .u32 (v : Int))) := by
  have h1 := h.set t v
  have e : (ws ++ List.replicate (64 - t) 0).set t v = (ws ++ [v]) ++ List.replicate (64 - (t + 1)) 0 := by
    rw [show 64 - t = (64 - (t + 1)) + 1 from by omega, List.replicate_succ]
    simp [hl]
  rw [e] at h1
  exact h1
theorem turned3_eq (x n m k : Nat) (hx : x < 4294967296) : bits .xor .u32 (bits .xor .u32 ((Sha.rotr x n : Nat) : Int) ((Sha.rotr x m : Nat) : Int)) ((Sha.rotr x k : Nat) : Int) = ((Sha.turned x [n, m, k] : Nat) : Int) := by
  rw [turned2_eq x n m hx, u32_xor_nat _ _ (Sha.turned_lt x [n, m] hx) (Sha.rotr_lt x k hx)]
  simp [Sha.turned]
theorem reft1_eq (r : Sha.St) (hr : r.Ok) (kk wk : Nat) :
    (((r.h : Int) + bits .xor .u32 (bits .xor .u32 ((Sha.rotr r.e 6 : Nat) : Int) ((Sha.rotr r.e 11 : Nat) : Int)) ((Sha.rotr r.e 25 : Nat) : Int) +
      bits .xor .u32 (bits .and .u32 r.e r.f) (bits .and .u32 (bits .xor .u32 (if IntKind.u32.signed = true then -1 else IntKind.u32.max) r.e) r.g) + (kk : Int)) % 4294967296 + (wk : Int)) % 4294967296 = ((Sha.t1 r kk wk : Nat) : Int) := by
  rw [turned3_eq r.e 6 11 25 hr.e, ← t1_eq r hr kk wk]
  simp only [IntKind.wrap_u32']
  rw [show (if IntKind.u32.signed = true then (-1 : Int) else IntKind.u32.max) = IntKind.u32.max from rfl]
  generalize bits .xor .u32 (bits .and .u32 (r.e : Int) (r.f : Int)) (bits .and .u32 (bits .xor .u32 IntKind.u32.max (r.e : Int)) (r.g : Int)) = A
  omega
theorem reft2_eq (r : Sha.St) (hr : r.Ok) :
    (bits .xor .u32 (bits .xor .u32 ((Sha.rotr r.a 2 : Nat) : Int) ((Sha.rotr r.a 13 : Nat) : Int)) ((Sha.rotr r.a 22 : Nat) : Int) + bits .xor .u32 (bits .xor .u32 (bits .and .u32 r.a r.b) (bits .and .u32 r.a r.c)) (bits .and .u32 r.b r.c)) % 4294967296 = ((Sha.t2 r : Nat) : Int) := by
  rw [turned3_eq r.a 2 13 22 hr.a, ← t2_eq r hr]
  simp only [IntKind.wrap_u32']
/-- block's memory in its rounds: also the running state, at V -/
def BlkB (w : World) (st : Sha.St) (sc : List Nat) (V : Nat) (r : Sha.St) (wr : World) : Prop :=
  At wr w.heap.size 80 (stV st) ∧ At wr (w.heap.size + 1) 81 (u32s Sha.words) ∧ At wr (w.heap.size + 2) 80 (u32s (List.replicate 8 0)) ∧
  At wr (w.heap.size + 3) 81 (u32s sc) ∧ Below w.heap.size w wr ∧ w.heap.size + 4 ≤ V ∧ At wr V 80 (stV r)
theorem BlkB.drewN {w : World} {st r : Sha.St} {sc : List Nat} {V : Nat} {wr : World} (h : BlkB w st sc V r wr) (n : Nat) : BlkB w st sc V r (wr.drewN n) :=
  ⟨h.1, h.2.1, h.2.2.1, h.2.2.2.1, below_drewN h.2.2.2.2.1 n, h.2.2.2.2.2.1, h.2.2.2.2.2.2⟩
theorem BlkB.ofA {w : World} {st : Sha.St} {sc : List Nat} {wr : World} (h : BlkA w st sc wr) : BlkB w st sc wr.heap.size st (wr.alloc (.cells (stV st).toArray 80)) :=
  ⟨h.1.alloc _, h.2.1.alloc _, h.2.2.1.alloc _, h.2.2.2.1.alloc _, h.2.2.2.2.1.alloc (by have := h.2.2.2.2.2; omega) _, by have := h.2.2.2.2.2; omega, At.new _ _ _⟩
theorem BlkB.stored {w : World} {st r r' : Sha.St} {sc : List Nat} {V : Nat} {wr wr' : World} (h : BlkB w st sc V r wr) (hat : At wr' V 80 (stV r')) (hg : wr.grownBy wr' (some V)) : BlkB w st sc V r' wr' := by
  have hv := h.2.2.2.2.2.1
  have ne : ∀ j, j < w.heap.size + 4 → some j ≠ some V := fun j hj e => by injection e; omega
  exact ⟨h.1.grown hg (ne _ (by omega)), h.2.1.grown hg (ne _ (by omega)), h.2.2.1.grown hg (ne _ (by omega)), h.2.2.2.1.grown hg (ne _ (by omega)), Below.ofGrown h.2.2.2.2.1 hg h.2.2.2.2.1.size (by omega), hv, hat⟩
def stepV (r : Sha.St) (x1 x2 : Nat) : List Value := [.int .u32 (((x1 : Int) + (x2 : Int)) % 4294967296), .int .u32 r.a, .int .u32 r.b, .int .u32 r.c, .int .u32 (((r.d : Int) + (x1 : Int)) % 4294967296), .int .u32 r.e, .int .u32 r.f, .int .u32 r.g]
theorem stepV_eq (r : Sha.St) (kk wk : Nat) : stepV r (Sha.t1 r kk wk) (Sha.t2 r) = stV (Sha.step r kk wk) := by
  simp [stepV, stV_eq, Sha.step]
theorem stepV_oneCell (r : Sha.St) (x1 x2 : Nat) : ∀ v ∈ stepV r x1 x2, v.oneCell' = true := by
  intro v hv
  simp only [stepV, List.mem_cons, List.not_mem_nil, or_false] at hv
  rcases hv with rfl | rfl | rfl | rfl | rfl | rfl | rfl | rfl <;> rfl
set_option maxRecDepth 100000 in
set_option maxHeartbeats 4000000 in
theorem refblock_any (s : ByteArray) (hs : s.size = 64) (st : Sha.St) (hst : st.Ok) (w : World) :
    Calls Tryd.prog 48 #[.agg (stV st).toArray, .agg (u32s Sha.words).toArray, .string s] w fun e w' => e = .returned (.agg (stV (Sha.mix st s.data.toList)).toArray) ∧ Below w.heap.size w w' := by
  have HI := Lib.hid (show (Tryd.prog.info? 81).map (·.size) = some zeros64.length by kernel_rfl)
  have HZ1 := Lib.hid (show ∀ v ∈ zeros64, v.oneCell' = true by
    intro v hv
    simp only [zeros64, u32s, List.mem_map] at hv
    obtain ⟨n, _, rfl⟩ := hv
    rfl)
  have hb64 := build64
  go_enter Tryd.func48, Tryd.ntmps48
  go_wp2_with (refine wpList_storeAll rfl 81 (.tmp 7) (.tmp 19) rfl _ rfl 81 zeros64 zeros64 (at_new_at (cs := zeros64) _ _ (by simp) (by kernel_rfl)) rfl rfl HI.out HZ1.out ?_; intro w5 hat5 hg5 hs5)
  clear hb64
  have hA : BlkA w st (List.replicate 64 0) w5 := by
    refine ⟨?_, ?_, ?_, hat5, ?_, by rw [hs5]; simp⟩
    · exact ((((At.new w _ _).alloc _).alloc _).alloc _).grown hg5 (by intro e; injection e; omega)
    · exact (((at_new_at (w.alloc _) _ (n := w.heap.size + 1) (by simp) rfl).alloc _).alloc _).grown hg5 (by intro e; injection e; omega)
    · exact ((at_new_at ((w.alloc _).alloc _) _ (n := w.heap.size + 2) (by simp) (by kernel_rfl)).alloc _).grown hg5 (by intro e; injection e; omega)
    · exact Below.ofGrown (((((Below.refl _ _).alloc (Nat.le_refl _) _).alloc (by simp) _).alloc (by simp; omega) _).alloc (by simp; omega) _) hg5 (by simp; omega) (by omega)
  have HA := Lib.hid hA
  have HSz := Lib.hid hs
  clear hat5 hg5 hs5 hA hs
  generalize Value.agg #[Value.int .u32 0, Value.int .u32 0, Value.int .u32 0, Value.int .u32 0, Value.int .u32 0, Value.int .u32 0, Value.int .u32 0, Value.int .u32 0, Value.int .u32 0, Value.int .u32 0, Value.int .u32 0, Value.int .u32 0, Value.int .u32 0, Value.int .u32 0, Value.int .u32 0, Value.int .u32 0, Value.int .u32 0, Value.int .u32 0, Value.int .u32 0, Value.int .u32 0, Value.int .u32 0, Value.int .u32 0, Value.int .u32 0, Value.int .u32 0, Value.int .u32 0, Value.int .u32 0, Value.int .u32 0, Value.int .u32 0, Value.int .u32 0, Value.int .u32 0, Value.int .u32 0, Value.int .u32 0, Value.int .u32 0, Value.int .u32 0, Value.int .u32 0, Value.int .u32 0, Value.int .u32 0, Value.int .u32 0, Value.int .u32 0, Value.int .u32 0, Value.int .u32 0, Value.int .u32 0, Value.int .u32 0, Value.int .u32 0, Value.int .u32 0, Value.int .u32 0, Value.int .u32 0, Value.int .u32 0, Value.int .u32 0, Value.int .u32 0, Value.int .u32 0, Value.int .u32 0, Value.int .u32 0, Value.int .u32 0, Value.int .u32 0, Value.int .u32 0, Value.int .u32 0, Value.int .u32 0, Value.int .u32 0, Value.int .u32 0, Value.int .u32 0, Value.int .u32 0, Value.int .u32 0, Value.int .u32 0] = z19
  go_wp2_with fail
  go_loopw [8] (fun i wr => ∃ k : Nat, k ≤ 16 ∧ i = .int .i64 k ∧ BlkA w st (Sha.first s.data.toList k ++ List.replicate (64 - k) 0) wr) (fun i _ => 16 - (intOf i).toNat)
  case atStart => exact ⟨0, by omega, rfl, HA.out⟩
  case round =>
    obtain ⟨k, hk, rfl, hB⟩ := hrel
    clear HA
    by_cases hlt : k < 16
    · obtain ⟨c0, c1, c2, c3, h0, h1, h2, h3, g0, g1, g2, g3, hword⟩ := word4 s HSz.out k hlt
      have ix0 := fun w => run_index_byte (P := Tryd.prog) 9 Tryd.underlying9 s (4 * (k : Int)) (4 * k) c0 (by omega) h0 g0 w
      have ix1 := fun w => run_index_byte (P := Tryd.prog) 9 Tryd.underlying9 s (4 * (k : Int) + 1) (4 * k + 1) c1 (by omega) h1 g1 w
      have ix2 := fun w => run_index_byte (P := Tryd.prog) 9 Tryd.underlying9 s (4 * (k : Int) + 2) (4 * k + 2) c2 (by omega) h2 g2 w
      have ix3 := fun w => run_index_byte (P := Tryd.prog) 9 Tryd.underlying9 s (4 * (k : Int) + 3) (4 * k + 3) c3 (by omega) h3 g3 w
      have cW : wr.cell? ⟨w.heap.size + 3, k, none⟩ = some (.int .u32 0) := hB.2.2.2.1.cell' (by
        have hr : 0 < 64 - k := by omega
        simp [u32s, Sha.first_length, hr])
      have fW := hB.2.2.2.1.frozen k
      have i1 : (0 : Int) ≤ (k : Int) := by omega
      have i2 : (k : Int) < 64 := by omega
      have i3 : (k : Int) < 16 := by omega
      have ww0 : IntKind.i64.wrap (4 * (k : Int)) = 4 * (k : Int) := IntWalk.i64_in _ (by omega)
      have ww1 : IntKind.i64.wrap (4 * (k : Int) + 1) = 4 * (k : Int) + 1 := IntWalk.i64_in _ (by omega)
      have ww2 : IntKind.i64.wrap (4 * (k : Int) + 2) = 4 * (k : Int) + 2 := IntWalk.i64_in _ (by omega)
      have ww3 : IntKind.i64.wrap (4 * (k : Int) + 3) = 4 * (k : Int) + 3 := IntWalk.i64_in _ (by omega)
      have HB := Lib.hid hB
      have HX := Lib.hid hword
      clear hB hword g0 g1 g2 g3
      go_wp2_with fail
      refine wp_region_then (fun w' => ∃ n, w' = wr.drewN n) 31 (by kernel_rfl) (by kernel_rfl) (by kernel_rfl) (by kernel_rfl) (by decide) ⟨1, rfl⟩ ?_
      simp only [List.take_succ_cons, List.take_zero, List.drop_succ_cons, List.drop_zero]
      repeat (go_big_quiet_step (fail))
      refine wpQuiet_nil ?_
      intro _ hw'
      obtain ⟨nq, rfl⟩ := hw'
      rw [word4_eq c0 c1 c2 c3 h0 h1 h2 h3, ← HX.out]
      have hS := (HB.out.drewN nq).set k (Sha.word s.data.toList k)
      have HS := Lib.hid hS
      clear ix0 ix1 ix2 ix3 hS
      go_wp2_with fail
      go_roundw
      case rel =>
        refine ⟨k + 1, by omega, by go_num, ?_⟩
        have e : (Sha.first s.data.toList k ++ List.replicate (64 - k) 0).set k (Sha.word s.data.toList k) = Sha.first s.data.toList (k + 1) ++ List.replicate (64 - (k + 1)) 0 := by
          rw [Sha.first_succ, show 64 - k = (64 - (k + 1)) + 1 from by omega, List.replicate_succ]
          simp [Sha.first_length]
        rw [← e]
        exact HS.out
      case measure => simp [intOf]; omega
    · have hk16 : k = 16 := by omega
      subst hk16
      rw [show ((16 : Nat) : Int) = 16 from rfl]
      have HB := Lib.hid hB
      clear hB
      go_wp2_with fail
      go_loopw [9] (fun i wj => ∃ t : Nat, 16 ≤ t ∧ t ≤ 64 ∧ i = .int .i64 t ∧ BlkA w st (Sha.grow (t - 16) (Sha.first s.data.toList 16) ++ List.replicate (64 - t) 0) wj) (fun i _ => 64 - (intOf i).toNat)
      case atStart => exact ⟨16, by omega, by omega, rfl, HB.out⟩
      case round =>
        obtain ⟨t, ht1, ht2, rfl, hB2⟩ := hrel
        clear HB
        by_cases hlt2 : t < 64
        · obtain ⟨ws, hws⟩ : ∃ ws, ws = Sha.grow (t - 16) (Sha.first s.data.toList 16) := ⟨_, rfl⟩
          have hlen : ws.length = t := by rw [hws, Sha.grow_length, Sha.first_length]; omega
          have hbd : ∀ x ∈ ws, x < 4294967296 := by rw [hws]; exact Sha.grow_lt _ _ (Sha.first_lt _ _)
          rw [← hws] at hB2
          have hcell : ∀ j, j < t → wr.cell? ⟨w.heap.size + 3, j, none⟩ = some (.int .u32 (ws.getD j 0 : Nat)) := by
            intro j hj
            refine hB2.2.2.2.1.cell' ?_
            simp [u32s, List.getElem?_append, hlen, hj]
          have hb : ∀ j, ws.getD j 0 < 4294967296 := by
            intro j
            rw [List.getD]
            cases hj : ws[j]? with
            | none => decide
            | some x => exact hbd x (List.mem_of_getElem? hj)
          obtain ⟨x2, hx2⟩ : ∃ x, x = ws.getD (t - 2) 0 := ⟨_, rfl⟩
          obtain ⟨x7, hx7⟩ : ∃ x, x = ws.getD (t - 7) 0 := ⟨_, rfl⟩
          obtain ⟨x15, hx15⟩ : ∃ x, x = ws.getD (t - 15) 0 := ⟨_, rfl⟩
          obtain ⟨x16, hx16⟩ : ∃ x, x = ws.getD (t - 16) 0 := ⟨_, rfl⟩
          have c2 := hcell (t - 2) (by omega)
          have c7 := hcell (t - 7) (by omega)
          have c15 := hcell (t - 15) (by omega)
          have c16 := hcell (t - 16) (by omega)
          have b2 := hb (t - 2)
          have b7 := hb (t - 7)
          have b15 := hb (t - 15)
          have b16 := hb (t - 16)
          rw [← hx2] at c2 b2
          rw [← hx7] at c7 b7
          rw [← hx15] at c15 b15
          rw [← hx16] at c16 b16
          have cW : wr.cell? ⟨w.heap.size + 3, t, none⟩ = some (.int .u32 0) := hB2.2.2.2.1.cell' (by
            have hr : 0 < 64 - t := by omega
            simp [u32s, hlen, hr])
          have fW := hB2.2.2.2.1.frozen t
          have HW := Lib.hid hws
          have HL := Lib.hid hlen
          have HX := Lib.hid (And.intro hx2 (And.intro hx7 (And.intro hx15 hx16)))
          have HB2 := Lib.hid hB2
          clear hws hlen hx2 hx7 hx15 hx16 hB2 hcell hb hbd
          have i1 : (0 : Int) ≤ (t : Int) := by omega
          have i2 : (t : Int) < 64 := by omega
          have ww2 : IntKind.i64.wrap ((t : Int) - 2) = (t : Int) - 2 := IntWalk.i64_in _ (by omega)
          have ww7 : IntKind.i64.wrap ((t : Int) - 7) = (t : Int) - 7 := IntWalk.i64_in _ (by omega)
          have ww15 : IntKind.i64.wrap ((t : Int) - 15) = (t : Int) - 15 := IntWalk.i64_in _ (by omega)
          have ww16 : IntKind.i64.wrap ((t : Int) - 16) = (t : Int) - 16 := IntWalk.i64_in _ (by omega)
          have p2 : (0 : Int) ≤ (t : Int) - 2 := by omega
          have p7 : (0 : Int) ≤ (t : Int) - 7 := by omega
          have p15 : (0 : Int) ≤ (t : Int) - 15 := by omega
          have p16 : (0 : Int) ≤ (t : Int) - 16 := by omega
          have q2 : (t : Int) - 2 < 64 := by omega
          have q7 : (t : Int) - 7 < 64 := by omega
          have q15 : (t : Int) - 15 < 64 := by omega
          have q16 : (t : Int) - 16 < 64 := by omega
          have n2 : ((t : Int) - 2).toNat = t - 2 := by omega
          have n7 : ((t : Int) - 7).toNat = t - 7 := by omega
          have n15 : ((t : Int) - 15).toNat = t - 15 := by omega
          have n16 : ((t : Int) - 16).toNat = t - 16 := by omega
          have r2 : (2 : Int) ≤ (t : Int) := by omega
          have r7 : (7 : Int) ≤ (t : Int) := by omega
          have r15 : (15 : Int) ≤ (t : Int) := by omega
          have r16 : (16 : Int) ≤ (t : Int) := by omega
          have t17 := fun n => turn_at x2 17 17 rfl b2 (by decide) (by decide) wr n
          have t19 := fun n => turn_at x2 19 19 rfl b2 (by decide) (by decide) wr n
          have t7 := fun n => turn_at x15 7 7 rfl b15 (by decide) (by decide) wr n
          have t18 := fun n => turn_at x15 18 18 rfl b15 (by decide) (by decide) wr n
          have T17 := Lib.hid t17
          have T19 := Lib.hid t19
          have T7 := Lib.hid t7
          have T18 := Lib.hid t18
          clear t17 t19 t7 t18
          go_wp2_with fail
          refine wp_region_then (fun w' => ∃ n, w' = wr.drewN n) 29 (by kernel_rfl) (by kernel_rfl) (by kernel_rfl) (by kernel_rfl) (by decide) ⟨1, rfl⟩ ?_
          simp only [List.take_succ_cons, List.take_zero, List.drop_succ_cons, List.drop_zero]
          repeat (go_big_quiet_step (first | (with_reducible exact T17.out _) | (with_reducible exact T19.out _) | (with_reducible exact T7.out _) | (with_reducible exact T18.out _)))
          refine wpQuiet_nil ?_
          intro _ hw'
          obtain ⟨nq, rfl⟩ := hw'
          have HB3 := Lib.hid (HB2.out.drewN nq)
          clear T17 T19 T7 T18
          go_wp2_with fail
          go_roundw
          case rel =>
            refine ⟨t + 1, by omega, by omega, by go_num, ?_⟩
            have h := BlkA.setAt HL.out hlt2 (Sha.next ws) HB3.out
            rw [refnext_eq ws t x2 x7 x15 x16 HL.out HX.out b2 b15, show t + 1 - 16 = (t - 16) + 1 from by omega, Sha.grow_succ, ← HW.out]
            exact h
          case measure => simp [intOf]; omega
        · have ht : t = 64 := by omega
          subst ht
          rw [show ((64 : Nat) : Int) = 64 from rfl]
          have hsc : Sha.grow (64 - 16) (Sha.first s.data.toList 16) ++ List.replicate (64 - 64) 0 = Sha.schedule s.data.toList := by simp [Sha.schedule]
          rw [hsc] at hB2
          have HB2 := Lib.hid hB2
          clear hB2 hsc
          obtain ⟨sc, hsc⟩ : ∃ sc, sc = Sha.schedule s.data.toList := ⟨_, rfl⟩
          rw [← hsc] at HB2
          have hscl : sc.length = 64 := by rw [hsc, Sha.schedule_length]
          have HL := Lib.hid hscl
          have HC := Lib.hid hsc
          clear hscl hsc
          obtain ⟨c0, c1, c2, c3, c4, c5, c6, c7⟩ := stCells (more := []) (by simpa using HB2.out.1)
          go_wp2_with fail
          have hBB := BlkB.ofA HB2.out
          rw [stV_eq] at hBB
          obtain ⟨V, hV⟩ : ∃ V, V = wr.heap.size := ⟨_, rfl⟩
          rw [← hV] at hBB ⊢
          clear hV HB2 c0 c1 c2 c3 c4 c5 c6 c7
          generalize wr.alloc (.cells [Value.int .u32 st.a, .int .u32 st.b, .int .u32 st.c, .int .u32 st.d, .int .u32 st.e, .int .u32 st.f, .int .u32 st.g, .int .u32 st.h].toArray 80) = w6 at hBB ⊢
          have HB := Lib.hid hBB
          clear hBB
          go_loopw [13] (fun i wj => ∃ t : Nat, t ≤ 64 ∧ i = .int .i64 t ∧ BlkB w st sc V (Sha.rounds st ((Sha.words.zip sc).take t)) wj) (fun i _ => 64 - (intOf i).toNat)
          case atStart => exact ⟨0, by omega, rfl, HB.out⟩
          case round =>
            obtain ⟨t, ht, rfl, hB⟩ := hrel
            clear HB
            by_cases hlt3 : t < 64
            · obtain ⟨r, hr⟩ : ∃ r, r = Sha.rounds st ((Sha.words.zip sc).take t) := ⟨_, rfl⟩
              have hok : r.Ok := by rw [hr]; exact Sha.rounds_ok _ _ hst
              rw [← hr] at hB
              obtain ⟨wk, hwk⟩ : ∃ x, x = sc.getD t 0 := ⟨_, rfl⟩
              obtain ⟨kk, hkk⟩ : ∃ x, x = Sha.words.getD t 0 := ⟨_, rfl⟩
              have HR := Lib.hid hr
              have HK := Lib.hid (And.intro hwk hkk)
              have HO := Lib.hid hok
              have HB := Lib.hid hB
              have be := hok.e
              have ba := hok.a
              clear hr hwk hkk hok hB
              obtain ⟨c0, c1, c2, c3, c4, c5, c6, c7⟩ := stCells (more := []) (by simpa using HB.out.2.2.2.2.2.2)
              have ck : wr.cell? ⟨w.heap.size + 1, t, none⟩ = some (.int .u32 (kk : Int)) := HB.out.2.1.cell' (by
                have : Sha.words.length = 64 := rfl
                rw [HK.out.2]
                simp [u32s, List.getD, this, hlt3])
              have cw : wr.cell? ⟨w.heap.size + 3, t, none⟩ = some (.int .u32 (wk : Int)) := HB.out.2.2.2.1.cell' (by
                have := HL.out
                rw [HK.out.1]
                simp [u32s, List.getD, this, hlt3])
              have i1 : (0 : Int) ≤ (t : Int) := by omega
              have i2 : (t : Int) < 64 := by omega
              have T6 := Lib.hid (fun n => turn_at r.e 6 6 rfl be (by decide) (by decide) wr n)
              have T11 := Lib.hid (fun n => turn_at r.e 11 11 rfl be (by decide) (by decide) wr n)
              have T25 := Lib.hid (fun n => turn_at r.e 25 25 rfl be (by decide) (by decide) wr n)
              go_wp2_with fail
              go_quiet (first | (with_reducible exact T6.out _) | (with_reducible exact T11.out _) | (with_reducible exact T25.out _))
              rw [reft1_eq r HO.out kk wk]
              obtain ⟨x1, hx1⟩ : ∃ x, x = Sha.t1 r kk wk := ⟨_, rfl⟩
              rw [← hx1]
              have HX1 := Lib.hid hx1
              have HB2 := Lib.hid (HB.out.drewN nq)
              clear hx1 HB T6 T11 T25 c0 c1 c2 c3 c4 c5 c6 c7 ck cw
              generalize wr.drewN nq = wq at HB2 ⊢
              obtain ⟨c0, c1, c2, c3, c4, c5, c6, c7⟩ := stCells (more := []) (by simpa using HB2.out.2.2.2.2.2.2)
              have T2 := Lib.hid (fun n => turn_at r.a 2 2 rfl ba (by decide) (by decide) wq n)
              have T13 := Lib.hid (fun n => turn_at r.a 13 13 rfl ba (by decide) (by decide) wq n)
              have T22 := Lib.hid (fun n => turn_at r.a 22 22 rfl ba (by decide) (by decide) wq n)
              go_wp2_with fail
              go_quiet (first | (with_reducible exact T2.out _) | (with_reducible exact T13.out _) | (with_reducible exact T22.out _))
              rw [reft2_eq r HO.out]
              obtain ⟨x2, hx2⟩ : ∃ x, x = Sha.t2 r := ⟨_, rfl⟩
              rw [← hx2]
              have HX2 := Lib.hid hx2
              have HB3 := Lib.hid (HB2.out.drewN nq)
              clear hx2 HB2 T2 T13 T22 c0 c1 c2 c3 c4 c5 c6 c7
              generalize wq.drewN nq = wp at HB3 ⊢
              obtain ⟨c0, c1, c2, c3, c4, c5, c6, c7⟩ := stCells (more := []) (by simpa using HB3.out.2.2.2.2.2.2)
              go_wp2_with (refine wpList_storeAll rfl 80 (.tmp 12) (.tmp 178) rfl V rfl 80 (stV r) (stepV r x1 x2) HB3.out.2.2.2.2.2.2 rfl rfl (by kernel_rfl) (stepV_oneCell r x1 x2) ?_; intro w8 hat8 hg8 hs8)
              go_roundw
              case rel =>
                have hzl : (Sha.words.zip sc).length = 64 := by
                  have h1 : Sha.words.length = 64 := rfl
                  rw [List.length_zip, h1, HL.out]
                  rfl
                refine ⟨t + 1, by omega, by go_num, ?_⟩
                rw [take_snoc _ t (by omega), List.getElem_zip, Sha.rounds_snoc, ← HR.out]
                have e1 : Sha.words[t]'(by have h1 : Sha.words.length = 64 := rfl; omega) = kk := by
                  rw [HK.out.2, List.getD, List.getElem?_eq_getElem (by have h1 : Sha.words.length = 64 := rfl; omega)]
                  rfl
                have e2 : sc[t]'(by have := HL.out; omega) = wk := by
                  rw [HK.out.1, List.getD, List.getElem?_eq_getElem (by have := HL.out; omega)]
                  rfl
                rw [e1, e2]
                rw [HX1.out, HX2.out, stepV_eq] at hat8
                exact HB3.out.stored hat8 hg8
              case measure => simp [intOf]; omega
            · have ht64 : t = 64 := by omega
              obtain ⟨r, hr⟩ : ∃ r, r = Sha.rounds st ((Sha.words.zip sc).take t) := ⟨_, rfl⟩
              rw [← hr] at hB
              have hmix : Sha.sum st r = Sha.mix st s.data.toList := by
                have hzl : (Sha.words.zip sc).length = 64 := by
                  have h1 : Sha.words.length = 64 := rfl
                  rw [List.length_zip, h1, HL.out]
                  rfl
                rw [hr, List.take_of_length_le (by omega), HC.out]
                rfl
              have HM := Lib.hid hmix
              have HB := Lib.hid hB
              clear hr ht64 hB hmix
              go_wp2_with fail
              go_loopw [18] (fun i wj => ∃ j : Nat, j ≤ 8 ∧ i = .int .i64 j ∧ At wj w.heap.size 80 ((stV (Sha.sum st r)).take j ++ ((stV st).drop j ++ [])) ∧ At wj (w.heap.size + 2) 80 (u32s (List.replicate 8 0)) ∧ At wj V 80 (stV r) ∧ Below w.heap.size w wj) (fun i _ => 8 - (intOf i).toNat)
              case atStart => exact ⟨0, by omega, rfl, HB.out.1, HB.out.2.2.1, HB.out.2.2.2.2.2.2, HB.out.2.2.2.2.1⟩
              case round =>
                obtain ⟨j, hj, rfl, ha1, hz, ha2, hb⟩ := hrel
                have hV4 := HB.out.2.2.2.2.2.1
                clear HB
                by_cases hlt4 : j < 8
                · have i1 : (0 : Int) ≤ (j : Int) := by omega
                  have i2 : (j : Int) < 8 := by omega
                  obtain ⟨x, hx⟩ : ∃ x, x = st.list.getD j 0 := ⟨_, rfl⟩
                  obtain ⟨y, hy⟩ : ∃ y, y = r.list.getD j 0 := ⟨_, rfl⟩
                  have hsl : (stV st).length = 8 := rfl
                  have hml : (stV (Sha.sum st r)).length = 8 := rfl
                  have gx : wr.cell? ⟨w.heap.size, j, none⟩ = some (.int .u32 (x : Int)) := by
                    refine ha1.cell' ?_
                    rw [mixed_get _ _ [] j hml hsl hlt4, hx]
                    exact u32s_getD st.list j (by simpa [Sha.St.list] using hlt4)
                  have gy : wr.cell? ⟨V, j, none⟩ = some (.int .u32 (y : Int)) := by
                    refine ha2.cell' ?_
                    rw [hy]
                    exact u32s_getD r.list j (by simpa [Sha.St.list] using hlt4)
                  have f1 := ha1.frozen j
                  have HX := Lib.hid (And.intro hx hy)
                  have HA1 := Lib.hid ha1
                  have HA2 := Lib.hid ha2
                  have HZ := Lib.hid hz
                  have HG := Lib.hid hb
                  clear hx hy ha1 ha2 hz hb hsl hml
                  go_wp2_with fail
                  refine wp_region_then (fun w' => ∃ n, w' = wr.drewN n) 9 (by kernel_rfl) (by kernel_rfl) (by kernel_rfl) (by kernel_rfl) (by decide) ⟨1, rfl⟩ ?_
                  simp only [List.take_succ_cons, List.take_zero, List.drop_succ_cons, List.drop_zero]
                  repeat (go_big_quiet_step (fail))
                  refine wpQuiet_nil ?_
                  intro _ hw'
                  obtain ⟨nq, rfl⟩ := hw'
                  go_wp2_with fail
                  go_roundw
                  case rel =>
                    have hsl : (stV st).length = 8 := rfl
                    have hml : (stV (Sha.sum st r)).length = 8 := rfl
                    have hv : (stV (Sha.sum st r))[j]? = some (.int .u32 (((x : Int) + (y : Int)) % 4294967296)) := by
                      have h := u32s_getD (Sha.sum st r).list j (by simpa [Sha.St.list] using hlt4)
                      rw [sum_getD _ _ _ hlt4, ← HX.out.1, ← HX.out.2] at h
                      rw [show (((x : Int) + (y : Int)) % 4294967296) = (((x + y) % 4294967296 : Nat) : Int) from by omega]
                      exact h
                    refine ⟨j + 1, by omega, by go_num, ?_, ?_, ?_, ?_⟩
                    · rw [← mixed_set _ _ [] j hml hsl hlt4 _ hv]
                      exact HA1.out.set j _
                    · exact HZ.out.far (p := ⟨w.heap.size, j, none⟩) (by simp) _
                    · exact HA2.out.far (p := ⟨w.heap.size, j, none⟩) (by simp; omega) _
                    · exact (below_drewN HG.out nq).setCell (Nat.le_refl _) _
                  case measure => simp [intOf]; omega
                · have hj8 : j = 8 := by omega
                  subst hj8
                  rw [show ((8 : Nat) : Int) = 8 from rfl]
                  obtain ⟨M, hM⟩ : ∃ M, M = Sha.mix st s.data.toList := ⟨_, rfl⟩
                  have HMM := Lib.hid hM
                  have ha3 : At wr w.heap.size 80 (stV M) := by
                    rw [hM, ← HM.out]
                    simpa [stV_eq] using ha1
                  have HA1 := Lib.hid ha3
                  have HZ := Lib.hid hz
                  have HG := Lib.hid hb
                  have hI8 := Lib.hid (show (Tryd.prog.info? 80).map (·.size) = some (stV M).length by kernel_rfl)
                  have h81 := Lib.hid (show ∀ v ∈ stV M, v.oneCell' = true by
                    intro v hv
                    simp only [stV, u32s, List.mem_map] at hv
                    obtain ⟨n, _, rfl⟩ := hv
                    rfl)
                  clear ha1 ha2 ha3 hz hb hM
                  go_wp2_with (first
                    | (refine wpList_loadAll rfl 80 (.tmp 3) rfl _ rfl _ _ _ HA1.out Tryd.underlying80 rfl hI8.out ?_)
                    | (refine wpList_storeAll rfl 80 (.tmp 6) (.tmp 192) rfl (w.heap.size + 2) rfl 80 _ (stV M) HZ.out rfl rfl hI8.out h81.out ?_; intro w9 hat9 hg9 hs9))
                  refine ret_cellAll rfl rfl (w.heap.size + 2) _ _ _ rfl hat9 Tryd.underlying80 rfl hI8.out ⟨by rw [HMM.out], ?_⟩
                  exact Below.ofGrown HG.out hg9 HG.out.size (by omega)
end Go.Proofs.YtdfeiajdmmlllaaDoor
