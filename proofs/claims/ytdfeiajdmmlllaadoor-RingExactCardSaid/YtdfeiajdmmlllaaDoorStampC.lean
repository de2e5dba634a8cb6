/- Layer 2: the state behind a block, and its bytes: what the program's functions compute. -/
import Derived.Test.YtdfeiajdmmlllaaDoorStampB
import Derived.Test.YtdfeiajdmmlllaaDoorLibB
import Derived.Deep.QuietTactic
import Derived.Laws.IdiomCopy
import Derived.BigQuiet
namespace Go.Proofs.YtdfeiajdmmlllaaDoor
open Go.RowKit

def stV (s : Sha.St) : List Value := u32s s.list
theorem stV_eq (s : Sha.St) : stV s = [.int .u32 s.a, .int .u32 s.b, .int .u32 s.c, .int .u32 s.d, .int .u32 s.e, .int .u32 s.f, .int .u32 s.g, .int .u32 s.h] := rfl

theorem begun_any (w : World) : Calls Tryd.prog 63 #[] w fun e w' => e = .returned (.agg (stV Sha.begun).toArray) ∧ Below w.heap.size w w' := by
  go_enter Tryd.func63, Tryd.ntmps63
  go_wp2
  refine ret_cellAll rfl rfl w.heap.size _ (stV Sha.begun) _ rfl (At.new w 97 (stV Sha.begun)) Tryd.underlying97 rfl (by kernel_rfl) ⟨rfl, ?_⟩
  exact (Below.refl _ _).alloc (Nat.le_refl _) _

theorem u32_not_nat (a : Nat) (ha : a < 4294967296) : bits .xor .u32 IntKind.u32.max (a : Int) = ((4294967295 - a : Nat) : Int) := by
  have h := u32_xor_nat 4294967295 a (by omega) ha
  have hm : IntKind.u32.max = ((4294967295 : Nat) : Int) := by decide
  rw [hm, h]
  congr 1
  refine Nat.eq_of_testBit_eq fun i => ?_
  have h1 : (4294967295 - a) = 2 ^ 32 - (a + 1) := by omega
  rw [h1, Nat.testBit_two_pow_sub_succ (by omega), Nat.testBit_xor]
  have h2 : (4294967295 : Nat) = 2 ^ 32 - 1 := by decide
  rw [h2, Nat.testBit_two_pow_sub_one]
  by_cases hi : i < 32
  · simp [hi]
  · have : a.testBit i = false := Nat.testBit_lt_two_pow (Nat.lt_of_lt_of_le (show a < 2 ^ 32 by omega) (Nat.pow_le_pow_right (by omega) (by omega)))
    simp [hi, this]
theorem and_lt32 {a b : Nat} (ha : a < 4294967296) : a &&& b < 4294967296 := Nat.lt_of_le_of_lt Nat.and_le_left ha
theorem xor_lt32 {a b : Nat} (ha : a < 4294967296) (hb : b < 4294967296) : a ^^^ b < 4294967296 := Nat.xor_lt_two_pow (n := 32) ha hb
theorem t1_eq (r : Sha.St) (hr : r.Ok) (kk wk : Nat) :
    IntKind.u32.wrap (IntKind.u32.wrap (IntKind.u32.wrap (IntKind.u32.wrap ((r.h : Int) + (Sha.turned r.e [6, 11, 25] : Nat)) +
      bits .xor .u32 (bits .and .u32 r.e r.f) (bits .and .u32 (bits .xor .u32 IntKind.u32.max r.e) r.g)) + (kk : Int)) + (wk : Int)) = ((Sha.t1 r kk wk : Nat) : Int) := by
  have hn : 4294967295 - r.e < 4294967296 := by omega
  rw [u32_not_nat _ hr.e, u32_and_nat _ _ hr.e hr.f, u32_and_nat _ _ hn hr.g, u32_xor_nat _ _ (and_lt32 hr.e) (and_lt32 hn)]
  simp only [IntKind.wrap_u32', Sha.t1]
  omega
theorem t2_eq (r : Sha.St) (hr : r.Ok) :
    IntKind.u32.wrap ((Sha.turned r.a [2, 13, 22] : Nat) + bits .xor .u32 (bits .xor .u32 (bits .and .u32 r.a r.b) (bits .and .u32 r.a r.c)) (bits .and .u32 r.b r.c)) = ((Sha.t2 r : Nat) : Int) := by
  rw [u32_and_nat _ _ hr.a hr.b, u32_and_nat _ _ hr.a hr.c, u32_and_nat _ _ hr.b hr.c, u32_xor_nat _ _ (and_lt32 hr.a) (and_lt32 hr.a), u32_xor_nat _ _ (xor_lt32 (and_lt32 hr.a) (and_lt32 hr.a)) (and_lt32 hr.b)]
  simp only [IntKind.wrap_u32', Sha.t2]
  omega
theorem t1_lt (r : Sha.St) (kk wk : Nat) : Sha.t1 r kk wk < 4294967296 := Nat.mod_lt _ (by omega)
theorem t2_lt (r : Sha.St) : Sha.t2 r < 4294967296 := Nat.mod_lt _ (by omega)
theorem below_alloc_drew {w0 w : World} {B : Nat} (h : Below B w0 w) (hB : B ≤ w.heap.size) (o : Obj) : Below B w0 (w.alloc o).drew := (h.alloc hB o).drew

theorem run_copy_st {w : World} {b : Nat} {t : TypeId} {r : Sha.St} (h : At w b t (stV r)) :
    (Builtin.copy_ #[113, 113] 3 #[.slice (some ⟨b, 1, none⟩) 7 7, .slice (some ⟨b, 0, none⟩) 7 8]).run Tryd.prog w =
      .ok (goInt 7) (w.setCells b 1 [.int .u32 r.a, .int .u32 r.b, .int .u32 r.c, .int .u32 r.d, .int .u32 r.e, .int .u32 r.f, .int .u32 r.g]) := by
  refine run_copy_cells w 113 113 3 79 b 1 7 7 ⟨b, 0, none⟩ 7 8 [.int .u32 r.a, .int .u32 r.b, .int .u32 r.c, .int .u32 r.d, .int .u32 r.e, .int .u32 r.f, .int .u32 r.g] Tryd.underlying113 (by kernel_rfl) rfl ?_ ?_ ?_ ?_
  · intro j v hv
    have e : (⟨b, 0, none⟩ : Addr).add j = ⟨b, j, none⟩ := by unfold Addr.add; split <;> simp_all
    rw [e]
    refine h.cell' ?_
    rw [stV_eq]
    match j, hv with
    | 0, hv => exact hv
    | 1, hv => exact hv
    | 2, hv => exact hv
    | 3, hv => exact hv
    | 4, hv => exact hv
    | 5, hv => exact hv
    | 6, hv => exact hv
    | j + 7, hv => simp at hv
  · intro j hj
    exact (h.there 1 7 (by simp [stV_eq]) j hj).1
  · intro j hj
    exact (h.there 1 7 (by simp [stV_eq]) j hj).2
  · intro v hv
    simp only [List.mem_cons, List.not_mem_nil, or_false] at hv
    rcases hv with rfl | rfl | rfl | rfl | rfl | rfl | rfl <;> rfl
theorem u32s_getD (l : List Nat) (j : Nat) (h : j < l.length) : (u32s l)[j]? = some (.int .u32 ((l.getD j 0 : Nat) : Int)) := by
  simp [u32s, List.getD, h]
theorem mixed_get (A B more : List Value) (j : Nat) (hA : A.length = 8) (hB : B.length = 8) (hj : j < 8) : (A.take j ++ (B.drop j ++ more))[j]? = B[j]? := by
  rw [List.getElem?_append_right (by rw [List.length_take]; omega), List.length_take, hA, Nat.min_eq_left (by omega), List.getElem?_append_left (by rw [List.length_drop]; omega), List.getElem?_drop]
  simp
theorem mixed_set (A B more : List Value) (j : Nat) (hA : A.length = 8) (hB : B.length = 8) (hj : j < 8) (v : Value) (hv : A[j]? = some v) :
    (A.take j ++ (B.drop j ++ more)).set j v = A.take (j + 1) ++ (B.drop (j + 1) ++ more) := by
  have hlt : j < A.length := by omega
  have hv' : A[j] = v := by rw [List.getElem?_eq_getElem hlt] at hv; injection hv
  rw [List.set_append_right _ _ (by rw [List.length_take]; omega), List.length_take, hA, Nat.min_eq_left (by omega), take_snoc A j hlt, hv', List.drop_eq_getElem_cons (by omega : j < B.length), Nat.sub_self]
  simp only [List.cons_append, List.set_cons_zero, List.append_assoc, List.nil_append]
theorem sum_getD (a r : Sha.St) (j : Nat) (hj : j < 8) : (Sha.sum a r).list.getD j 0 = (a.list.getD j 0 + r.list.getD j 0) % 4294967296 := by
  match j, hj with
  | 0, _ => rfl
  | 1, _ => rfl
  | 2, _ => rfl
  | 3, _ => rfl
  | 4, _ => rfl
  | 5, _ => rfl
  | 6, _ => rfl
  | 7, _ => rfl
theorem at_shift {w : World} {b : Nat} {t : TypeId} {r : Sha.St} (h : At w b t (stV r)) :
    At (w.setCells b 1 [.int .u32 r.a, .int .u32 r.b, .int .u32 r.c, .int .u32 r.d, .int .u32 r.e, .int .u32 r.f, .int .u32 r.g]) b t (stV ⟨r.a, r.a, r.b, r.c, r.d, r.e, r.f, r.g⟩) :=
  At.setCells _ 1 h (by simp [stV_eq])
theorem below_setCells {w0 w : World} {B b : Nat} (h : Below B w0 w) (hs : B ≤ w.heap.size) (hb : B ≤ b) (vs : List Value) (o : Nat) : Below B w0 (w.setCells b o vs) :=
  Below.ofGrown h (grown_setCells b vs o w w (World.grownBy.refl w _)) hs hb
theorem at_step {w : World} {b : Nat} {t : TypeId} {r : Sha.St} {kk wk : Nat} (h : At w b t (stV ⟨r.a, r.a, r.b, r.c, r.d, r.e, r.f, r.g⟩)) :
    At ((w.setCell ⟨b, 0, none⟩ (.int .u32 (((Sha.t1 r kk wk : Nat) + (Sha.t2 r : Nat) : Int) % 4294967296))).setCell ⟨b, 4, none⟩ (.int .u32 (((r.d : Int) + (Sha.t1 r kk wk : Nat)) % 4294967296))) b t (stV (Sha.step r kk wk)) := by
  have := (h.set 0 (.int .u32 (((Sha.t1 r kk wk : Nat) + (Sha.t2 r : Nat) : Int) % 4294967296))).set 4 (.int .u32 (((r.d : Int) + (Sha.t1 r kk wk : Nat)) % 4294967296))
  have e : stV (Sha.step r kk wk) = [.int .u32 (((Sha.t1 r kk wk : Nat) + (Sha.t2 r : Nat) : Int) % 4294967296), .int .u32 r.a, .int .u32 r.b, .int .u32 r.c, .int .u32 (((r.d : Int) + (Sha.t1 r kk wk : Nat)) % 4294967296), .int .u32 r.e, .int .u32 r.f, .int .u32 r.g] := by
    simp [stV_eq, Sha.step]
  rw [e]
  exact this

theorem stCells {w : World} {b : Nat} {t : TypeId} {r : Sha.St} {more : List Value} (h : At w b t (stV r ++ more)) :
    w.cell? ⟨b, 0, none⟩ = some (.int .u32 r.a) ∧ w.cell? ⟨b, 1, none⟩ = some (.int .u32 r.b) ∧ w.cell? ⟨b, 2, none⟩ = some (.int .u32 r.c) ∧ w.cell? ⟨b, 3, none⟩ = some (.int .u32 r.d) ∧
    w.cell? ⟨b, 4, none⟩ = some (.int .u32 r.e) ∧ w.cell? ⟨b, 5, none⟩ = some (.int .u32 r.f) ∧ w.cell? ⟨b, 6, none⟩ = some (.int .u32 r.g) ∧ w.cell? ⟨b, 7, none⟩ = some (.int .u32 r.h) :=
  ⟨h.cell' rfl, h.cell' rfl, h.cell' rfl, h.cell' rfl, h.cell' rfl, h.cell' rfl, h.cell' rfl, h.cell' rfl⟩
theorem wordCell {w0 w : World} {g k kk : Nat} (h0 : Tab w0 g (u32s Sha.words)) (hb : Below w0.heap.size w0 w) (hk : k < 64) (hkk : kk = Sha.words.getD k 0) :
    w.cell? ⟨g, k, none⟩ = some (.int .u32 (kk : Int)) := by
  refine (h0.below hb h0.lt).cell' ?_
  have : Sha.words.length = 64 := rfl
  rw [hkk]
  simp [u32s, List.getD, this, hk]

set_option maxRecDepth 100000 in
set_option maxHeartbeats 4000000 in
theorem mix_any (s : ByteArray) (hs : s.size = 64) (st : Sha.St) (hst : st.Ok) (b : Nat) (t : TypeId) (more : List Value) (w : World) (hat : At w b t (stV st ++ more))
    (hw : Tab w 0 (u32s Sha.words)) :
    Calls Tryd.prog 64 #[.pointer (some ⟨b, 0, none⟩), .string s] w fun e w' => e = .returned (.tuple #[]) ∧ At w' b t (stV (Sha.mix st s.data.toList) ++ more) ∧ w.grownBy w' (some b) := by
  have c0 := hat.cell' (i := 0) (v := .int .u32 st.a) rfl
  have c1 := hat.cell' (i := 1) (v := .int .u32 st.b) rfl
  have c2 := hat.cell' (i := 2) (v := .int .u32 st.c) rfl
  have c3 := hat.cell' (i := 3) (v := .int .u32 st.d) rfl
  have c4 := hat.cell' (i := 4) (v := .int .u32 st.e) rfl
  have c5 := hat.cell' (i := 5) (v := .int .u32 st.f) rfl
  have c6 := hat.cell' (i := 6) (v := .int .u32 st.g) rfl
  have c7 := hat.cell' (i := 7) (v := .int .u32 st.h) rfl
  have HA := Lib.hid hat
  have HW := Lib.hid hw
  clear hat hw
  go_enter Tryd.func64, Tryd.ntmps64
  go_wp2_with fail
  refine (schedule_any s hs _).mono ?_
  rintro e w1 ⟨rfl, hb1⟩
  have hatV : At w1 w.heap.size 97 (stV st) := (At.newA w 97 rfl).below hb1 (by simp)
  have hbel : Below w.heap.size w w1 := ((Below.refl _ _).alloc (Nat.le_refl _) _).trans (hb1.mono (by simp))
  clear hb1 c0 c1 c2 c3 c4 c5 c6 c7
  obtain ⟨sc, hsc⟩ : ∃ sc, sc = Sha.schedule s.data.toList := ⟨_, rfl⟩
  rw [← hsc]
  have hscl : sc.length = 64 := by rw [hsc, Sha.schedule_length]
  have hscb : ∀ x ∈ sc, x < 4294967296 := by rw [hsc]; exact Sha.schedule_lt _
  have HS := Lib.hid hsc
  have HL := Lib.hid hscl
  have HB := Lib.hid hscb
  have HS0 := Lib.hid hs
  clear hsc hscl hscb hs
  go_wp2_with fail
  go_loopw [17] (fun i wr => ∃ k : Nat, k ≤ 64 ∧ i = .int .i64 k ∧ At wr w.heap.size 97 (stV (Sha.rounds st ((Sha.words.zip sc).take k))) ∧ Below w.heap.size w wr) (fun i _ => 64 - (intOf i).toNat)
  case atStart => exact ⟨0, by omega, rfl, hatV, hbel⟩
  case round =>
    obtain ⟨k, hk, rfl, hat2, hbel2⟩ := hrel
    clear hatV hbel
    by_cases hlt : k < 64
    · obtain ⟨r, hr⟩ : ∃ r, r = Sha.rounds st ((Sha.words.zip sc).take k) := ⟨_, rfl⟩
      have hok : r.Ok := by rw [hr]; exact Sha.rounds_ok _ _ hst
      rw [← hr] at hat2
      have HR := Lib.hid hr
      clear hr
      obtain ⟨c0, c1, c2, c3, c4, c5, c6, c7⟩ := stCells (more := []) (by simpa using hat2)
      obtain ⟨wk, hwk⟩ : ∃ x, x = sc.getD k 0 := ⟨_, rfl⟩
      obtain ⟨kk, hkk⟩ : ∃ x, x = Sha.words.getD k 0 := ⟨_, rfl⟩
      have hidx : ∀ w, (Instr.index 81 (.agg (u32s sc).toArray) (.int .i64 (k : Int))).run Tryd.prog w = .ok (.int .u32 (wk : Int)) w := by
        intro w
        refine run_index_arr w 81 79 64 .i64 k _ _ Tryd.underlying81 (by kernel_rfl) Tryd.underlying79 hlt ?_
        have := HL.out
        rw [hwk]
        simp [u32s, List.getD, this, hlt]
      have HK := Lib.hid (And.intro hwk hkk)
      have HA2 := Lib.hid hat2
      have HE2 := Lib.hid hbel2
      have HO := Lib.hid hok
      have hVlt := hat2.lt
      have hVpos : 0 < w.heap.size := HW.out.lt
      clear hwk hkk hat2 hbel2 hok
      have i1 : (0 : Int) ≤ (k : Int) := by omega
      have i2 : (k : Int) < 64 := by omega
      have be := HO.out.e
      have ba := HO.out.a
      go_wp2_with fail
      go_quiet (fail)
      have HA3 : At (wr.drewN nq) w.heap.size 97 (stV r) := HA2.out
      have HE3 : Below w.heap.size w (wr.drewN nq) := ⟨HE2.out.os, HE2.out.tape, HE2.out.output, HE2.out.size, HE2.out.block⟩
      clear HA2 HE2 c0 c1 c2 c3 c4 c5 c6 c7 hVlt
      generalize wr.drewN nq = wq at HA3 HE3 ⊢
      obtain ⟨c0, c1, c2, c3, c4, c5, c6, c7⟩ := stCells (more := []) (by simpa using HA3)
      have cw := wordCell HW.out HE3 hlt HK.out.2
      have HA2 := Lib.hid HA3
      have HE2 := Lib.hid HE3
      clear HA3 HE3
      go_wp2_with fail
      go_region_held3 (fun w' => w'.cell? ⟨w.heap.size, 0, none⟩ = some (.int .u32 r.a) ∧ w'.cell? ⟨w.heap.size, 1, none⟩ = some (.int .u32 r.b) ∧ w'.cell? ⟨w.heap.size, 2, none⟩ = some (.int .u32 r.c) ∧
          w'.cell? ⟨w.heap.size, 3, none⟩ = some (.int .u32 r.d) ∧ w'.cell? ⟨w.heap.size, 4, none⟩ = some (.int .u32 r.e) ∧ w'.cell? ⟨w.heap.size, 5, none⟩ = some (.int .u32 r.f) ∧
          w'.cell? ⟨w.heap.size, 6, none⟩ = some (.int .u32 r.g) ∧ w'.cell? ⟨w.heap.size, 7, none⟩ = some (.int .u32 r.h) ∧ w'.cell? ⟨0, k, none⟩ = some (.int .u32 kk))
        ((simp [*, World.cell?_alloc_some]))
        ((go_at_call 76; (with_reducible refine (turned_6_11_25 r.e _ _ _ be ?_ ?_ ?_).mono ?_); (focus (simp [go_sem]; done)); (focus (simp [go_sem]; done)); (focus (simp [go_sem]; done)); rintro e w' ⟨rfl, rfl⟩))
      go_wp2_with fail
      rw [t1_eq r HO.out kk wk]
      obtain ⟨x1, hx1⟩ : ∃ x, x = Sha.t1 r kk wk := ⟨_, rfl⟩
      have bx1 : x1 < 4294967296 := by rw [hx1]; exact t1_lt _ _ _
      rw [← hx1]
      have HX1 := Lib.hid hx1
      clear hx1 c0 c1 c2 c3 c4 c5 c6 c7 cw
      have HA3 := (HA2.out.alloc (.cells #[.int .i64 6, .int .i64 11, .int .i64 25] 3)).drew
      have HE3 := below_alloc_drew HE2.out (Nat.le_of_lt HA2.out.lt) (.cells #[.int .i64 6, .int .i64 11, .int .i64 25] 3)
      clear HA2 HE2
      generalize (wq.alloc (.cells #[.int .i64 6, .int .i64 11, .int .i64 25] 3)).drew = w5 at HA3 HE3 ⊢
      obtain ⟨c0, c1, c2, c3, c4, c5, c6, c7⟩ := stCells (more := []) (by simpa using HA3)
      have HA2 := Lib.hid HA3
      have HE2 := Lib.hid HE3
      clear HA3 HE3
      go_region_held3 (fun w' => w'.cell? ⟨w.heap.size, 1, none⟩ = some (.int .u32 r.b) ∧ w'.cell? ⟨w.heap.size, 2, none⟩ = some (.int .u32 r.c))
        ((simp [*, World.cell?_alloc_some]))
        ((go_at_call 76; (with_reducible refine (turned_2_13_22 r.a _ _ _ ba ?_ ?_ ?_).mono ?_); (focus (simp [go_sem]; done)); (focus (simp [go_sem]; done)); (focus (simp [go_sem]; done)); rintro e w' ⟨rfl, rfl⟩))
      go_wp2_with fail
      rw [t2_eq r HO.out]
      obtain ⟨x2, hx2⟩ : ∃ x, x = Sha.t2 r := ⟨_, rfl⟩
      have bx2 : x2 < 4294967296 := by rw [hx2]; exact t2_lt _
      rw [← hx2]
      have HX2 := Lib.hid hx2
      clear hx2 c0 c1 c2 c3 c4 c5 c6 c7
      have HA3 := (HA2.out.alloc (.cells #[.int .i64 2, .int .i64 13, .int .i64 22] 3)).drew
      have HE3 := below_alloc_drew HE2.out (Nat.le_of_lt HA2.out.lt) (.cells #[.int .i64 2, .int .i64 13, .int .i64 22] 3)
      clear HA2 HE2
      generalize (w5.alloc (.cells #[.int .i64 2, .int .i64 13, .int .i64 22] 3)).drew = w6 at HA3 HE3 ⊢
      obtain ⟨c0, c1, c2, c3, c4, c5, c6, c7⟩ := stCells (more := []) (by simpa using HA3)
      have f1 := HA3.frozen 1
      have f2 := HA3.frozen 2
      have f3 := HA3.frozen 3
      have f4 := HA3.frozen 4
      have f5 := HA3.frozen 5
      have f6 := HA3.frozen 6
      have f7 := HA3.frozen 7
      have f0 := HA3.frozen 0
      have HA2 := Lib.hid HA3
      have HE2 := Lib.hid HE3
      clear HA3 HE3
      have hcp := run_copy_st HA2.out.drew
      go_region
      have HA3 := at_shift HA2.out.drew
      have HE3 := below_setCells (b := w.heap.size) HE2.out.drew (Nat.le_of_lt HA2.out.lt) (Nat.le_refl _) [.int .u32 r.a, .int .u32 r.b, .int .u32 r.c, .int .u32 r.d, .int .u32 r.e, .int .u32 r.f, .int .u32 r.g] 1
      clear HA2 HE2 hcp c0 c1 c2 c3 c4 c5 c6 c7 f0 f1 f2 f3 f4 f5 f6 f7
      generalize w6.drew.setCells w.heap.size 1 [.int .u32 r.a, .int .u32 r.b, .int .u32 r.c, .int .u32 r.d, .int .u32 r.e, .int .u32 r.f, .int .u32 r.g] = w7 at HA3 HE3 ⊢
      have c0 := HA3.cell' (i := 0) (v := .int .u32 r.a) rfl
      have c4 := HA3.cell' (i := 4) (v := .int .u32 r.d) rfl
      have f0 := HA3.frozen 0
      have f4 := HA3.frozen 4
      have HA2 := Lib.hid HA3
      have HE2 := Lib.hid HE3
      clear HA3 HE3
      go_wp2_with fail
      go_roundw
      case rel =>
        have hzl : (Sha.words.zip sc).length = 64 := by
          have h1 : Sha.words.length = 64 := rfl
          rw [List.length_zip, h1, HL.out]
          rfl
        refine ⟨k + 1, by omega, by go_num, ?_, (HE2.out.setCell (Nat.le_refl _) _).setCell (Nat.le_refl _) _⟩
        rw [take_snoc _ k (by omega), List.getElem_zip, Sha.rounds_snoc, ← HR.out]
        have e1 : Sha.words[k]'(by have h1 : Sha.words.length = 64 := rfl; omega) = kk := by
          rw [HK.out.2, List.getD, List.getElem?_eq_getElem (by have h1 : Sha.words.length = 64 := rfl; omega)]
          rfl
        have e2 : sc[k]'(by have := HL.out; omega) = wk := by
          rw [HK.out.1, List.getD, List.getElem?_eq_getElem (by have := HL.out; omega)]
          rfl
        rw [e1, e2]
        have h := at_step (kk := kk) (wk := wk) HA2.out
        rw [← HX1.out, ← HX2.out] at h
        exact h
      case measure => simp [intOf]; omega
    · have hk64 : k = 64 := by omega
      obtain ⟨r, hr⟩ : ∃ r, r = Sha.rounds st ((Sha.words.zip sc).take k) := ⟨_, rfl⟩
      have hok : r.Ok := by rw [hr]; exact Sha.rounds_ok _ _ hst
      have hmix : Sha.sum st r = Sha.mix st s.data.toList := by
        have hzl : (Sha.words.zip sc).length = 64 := by
          have h1 : Sha.words.length = 64 := rfl
          rw [List.length_zip, h1, HL.out]
          rfl
        rw [hr, List.take_of_length_le (by omega), HS.out]
        rfl
      rw [← hr] at hat2
      have HM := Lib.hid hmix
      have hatb : At wr b t (stV st ++ more) := HA.out.below hbel2 HA.out.lt
      have hg : w.grownBy wr (some b) := ⟨hbel2.os, hbel2.tape, hbel2.output, hbel2.size, fun i hi _ => hbel2.block i hi⟩
      have hbV : b < w.heap.size := HA.out.lt
      clear hr hk64 hbel2 hmix
      go_wp2_with fail
      go_loopw [80] (fun i wj => ∃ j : Nat, j ≤ 8 ∧ i = .int .i64 j ∧ At wj b t ((stV (Sha.sum st r)).take j ++ ((stV st).drop j ++ more)) ∧ At wj w.heap.size 97 (stV r) ∧ w.grownBy wj (some b)) (fun i _ => 8 - (intOf i).toNat)
      case atStart => exact ⟨0, by omega, rfl, hatb, hat2, hg⟩
      case round =>
        obtain ⟨j, hj, rfl, ha1, ha2, hg1⟩ := hrel
        clear hatb hat2 hg
        by_cases hlt2 : j < 8
        · have i1 : (0 : Int) ≤ (j : Int) := by omega
          have i2 : (j : Int) < 8 := by omega
          obtain ⟨x, hx⟩ : ∃ x, x = st.list.getD j 0 := ⟨_, rfl⟩
          obtain ⟨y, hy⟩ : ∃ y, y = r.list.getD j 0 := ⟨_, rfl⟩
          have hsl : (stV st).length = 8 := rfl
          have hrl : (stV r).length = 8 := rfl
          have hml : (stV (Sha.sum st r)).length = 8 := rfl
          have gx : wr.cell? ⟨b, j, none⟩ = some (.int .u32 (x : Int)) := by
            refine ha1.cell' ?_
            rw [mixed_get _ _ more j hml hsl hlt2, hx]
            exact u32s_getD st.list j (by simpa [Sha.St.list] using hlt2)
          have gy : wr.cell? ⟨w.heap.size, j, none⟩ = some (.int .u32 (y : Int)) := by
            refine ha2.cell' ?_
            rw [hy]
            exact u32s_getD r.list j (by simpa [Sha.St.list] using hlt2)
          have f1 := ha1.frozen j
          have HX := Lib.hid (And.intro hx hy)
          have HA1 := Lib.hid ha1
          have HA2 := Lib.hid ha2
          have HG := Lib.hid hg1
          clear hx hy ha1 ha2 hg1 hsl hrl hml
          go_wp2_with fail
          go_region
          go_wp2_with fail
          go_roundw
          case rel =>
            have hsl : (stV st).length = 8 := rfl
            have hml : (stV (Sha.sum st r)).length = 8 := rfl
            have hv : (stV (Sha.sum st r))[j]? = some (.int .u32 (((x : Int) + (y : Int)) % 4294967296)) := by
              have h := u32s_getD (Sha.sum st r).list j (by simpa [Sha.St.list] using hlt2)
              rw [sum_getD _ _ _ hlt2, ← HX.out.1, ← HX.out.2] at h
              rw [show (((x : Int) + (y : Int)) % 4294967296) = (((x + y) % 4294967296 : Nat) : Int) from by omega]
              exact h
            refine ⟨j + 1, by omega, by go_num, ?_, ?_, ?_⟩
            · rw [← mixed_set _ _ more j hml hsl hlt2 _ hv]
              exact (HA1.out.set j _).drew
            · exact (HA2.out.far (p := ⟨b, j, none⟩) (by simp; omega) _).drew
            · have h := HG.out
              exact ⟨h.os, h.tape, h.output, by have := h.size; simpa [World.setCell] using this, fun i hi hne => by
                show (wr.setCell ⟨b, j, none⟩ _).heap[i]? = _
                rw [heap_set, if_neg (by intro e; exact hne (by rw [← e]))]
                exact h.block i hi hne⟩
          case measure => simp [intOf]; omega
        · have hj8 : j = 8 := by omega
          have HA1 := Lib.hid ha1
          have HG := Lib.hid hg1
          clear ha1 ha2 hg1
          go_wp2_with fail
          go_end0
          refine ⟨rfl, ?_, HG.out⟩
          have h := HA1.out
          rw [hj8] at h
          rw [← HM.out]
          simpa [stV_eq] using h
end Go.Proofs.YtdfeiajdmmlllaaDoor
