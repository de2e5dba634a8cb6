/- Layer 2: the digest of all that came: what Sum computes. -/
import Derived.Test.YtdfeiajdmmlllaaDoorStampE
import Derived.Test.YtdfeiajdmmlllaaDoorLibC
import Derived.WalkSpells
import Derived.Deep.Cut
namespace Go.Proofs.YtdfeiajdmmlllaaDoor
open Go.RowKit

theorem info_u8 : (Tryd.prog.info? 5).map (fun i => (i.zero, i.size, i.bytes)) = some (some (.int .u8 0), 1, 1) := by kernel_rfl
theorem oneCell_one (k : IntKind) (n : Int) : ∀ u ∈ [Value.int k n], u.oneCell' = true := by
  intro u hu
  simp at hu
  subst hu
  rfl
def sliceLen : Value → Nat | .slice _ n _ => n | _ => 0
/-- how many zeros come behind a text of n bytes and the byte 128 -/
def padn (n : Nat) : Nat := (119 - n % 64) % 64

theorem padn_stop (L r T : Nat) (hr : r = L % 64) (h1 : r + 1 ≤ T) (h2 : T < r + 1 + padn L) : (T : Int) % 64 ≠ 56 := by
  unfold padn at h2
  omega
theorem padn_end (L r : Nat) (hr : r = L % 64) : ((r + 1 + padn L : Nat) : Int) % 64 = 56 := by
  unfold padn
  omega
theorem bytes_get (N k : Nat) (hk : k < 8) : (Sha.bytes 8 N)[k]'(by rw [Sha.bytes_length]; exact hk) = UInt8.ofNat (N / 2 ^ (8 * (7 - k)) % 256) := by
  match k, hk with
  | 0, _ => rfl
  | 1, _ => rfl
  | 2, _ => rfl
  | 3, _ => rfl
  | 4, _ => rfl
  | 5, _ => rfl
  | 6, _ => rfl
  | 7, _ => rfl
  | n + 8, h => exact absurd h (by omega)
theorem pad_eq (L : Nat) (hL : L < 1152921504606846976) : Sha.pad L = 128 :: List.replicate (padn L) 0 ++ Sha.bytes 8 (8 * L) := by
  have h : 8 * L % 18446744073709551616 = 8 * L := Nat.mod_eq_of_lt (by omega)
  unfold Sha.pad padn
  rw [h]
theorem padn_lt (L : Nat) : padn L < 64 := Nat.mod_lt _ (by omega)
theorem u8s_append (a b : List UInt8) : u8s (a ++ b) = u8s a ++ u8s b := by simp [u8s]

set_option maxRecDepth 100000 in
set_option maxHeartbeats 400000 in
theorem sum_any (p : Nat) (msg : List UInt8) (w : World) (hp : PressAt w p msg) (hlen : msg.length < 1152921504606846976)
    (hw : Tab w 0 (u32s Sha.words)) :
    Calls Tryd.prog 43 #[.pointer (some ⟨p, 0, none⟩)] w fun e w' => e = .returned (dgV (Sha.sha msg)) ∧ Below w.heap.size w w' := by
  obtain ⟨rs, hrs, hat⟩ := hp
  have c8 := hat.cell' (i := 8) (v := .string rs) rfl
  have hr64 : rs.size = msg.length % 64 := by
    have := Sha.run_mod _ Sha.begun msg (Nat.le_refl _)
    rw [← hrs, bytes_length] at this
    exact this
  have hr63 : rs.size < 64 := by omega
  have HR := Lib.hid hrs
  have HA := Lib.hid hat
  have HW := Lib.hid hw
  have H6 := Lib.hid hr64
  clear hrs hat hw hr64
  obtain ⟨i0, hi, hz0, hz1, hz2⟩ := info_parts info_u8
  have hconv := fun w s => Lib.run_convert_string_bytes (P := Tryd.prog) w 9 44 5 s Tryd.underlying9 Tryd.underlying44 Tryd.underlying5
  have hpl : p < w.heap.size := HA.out.lt
  go_enter Tryd.func43, Tryd.ntmps43
  go_upto_region 3 with (fail)
  have hD : At (w.alloc (.cells #[.int .u8 0, .int .u8 0, .int .u8 0, .int .u8 0, .int .u8 0, .int .u8 0, .int .u8 0, .int .u8 0, .int .u8 0, .int .u8 0, .int .u8 0, .int .u8 0, .int .u8 0, .int .u8 0, .int .u8 0, .int .u8 0, .int .u8 0, .int .u8 0, .int .u8 0, .int .u8 0, .int .u8 0, .int .u8 0, .int .u8 0, .int .u8 0, .int .u8 0, .int .u8 0, .int .u8 0, .int .u8 0, .int .u8 0, .int .u8 0, .int .u8 0, .int .u8 0] 23)) w.heap.size 23 (List.replicate 32 (.int .u8 0)) := At.newA _ _ rfl
  have hB1 : Below w.heap.size w (w.alloc (.cells #[.int .u8 0, .int .u8 0, .int .u8 0, .int .u8 0, .int .u8 0, .int .u8 0, .int .u8 0, .int .u8 0, .int .u8 0, .int .u8 0, .int .u8 0, .int .u8 0, .int .u8 0, .int .u8 0, .int .u8 0, .int .u8 0, .int .u8 0, .int .u8 0, .int .u8 0, .int .u8 0, .int .u8 0, .int .u8 0, .int .u8 0, .int .u8 0, .int .u8 0, .int .u8 0, .int .u8 0, .int .u8 0, .int .u8 0, .int .u8 0, .int .u8 0, .int .u8 0] 23)) := (Below.refl _ _).alloc (Nat.le_refl _) _
  generalize w.alloc (.cells #[.int .u8 0, .int .u8 0, .int .u8 0, .int .u8 0, .int .u8 0, .int .u8 0, .int .u8 0, .int .u8 0, .int .u8 0, .int .u8 0, .int .u8 0, .int .u8 0, .int .u8 0, .int .u8 0, .int .u8 0, .int .u8 0, .int .u8 0, .int .u8 0, .int .u8 0, .int .u8 0, .int .u8 0, .int .u8 0, .int .u8 0, .int .u8 0, .int .u8 0, .int .u8 0, .int .u8 0, .int .u8 0, .int .u8 0, .int .u8 0, .int .u8 0, .int .u8 0] 23) = w1 at hD hB1 ⊢
  have c8' : w1.cell? ⟨p, 8, none⟩ = some (.string rs) := (hB1.cell (p := ⟨p, 8, none⟩) hpl).trans c8
  have hO := Own.ofBytes (base := w1.heap.size) w1 5 rs (Nat.le_refl _) (by unfold maxLen; omega)
  have hB2 := bytesWorld_below hB1 (Nat.le_of_lt hD.lt) 5 rs
  have hD2 := hD.below (w' := Lib.bytesWorld w1 5 rs) (B := w1.heap.size) (bytesWorld_below (Below.refl _ _) (Nat.le_refl _) _ _) hD.lt
  obtain ⟨D, hDe⟩ : ∃ D, D = w.heap.size := ⟨_, rfl⟩
  rw [← hDe] at hD hD2 ⊢
  have hDlt := hD.lt
  have HDe := Lib.hid hDe
  clear c8 hDe
  go_wp2_with (first
    | (at_builtin; (refine wpList_append_Own _ rfl (.tmp 13) (.tmp 14) 44 rfl w1.heap.size 5 i0 _ 1 1 Tryd.underlying44 hi hz0 hz1 hz2 rfl (by omega) _ _ _ rfl (hO.alloc _) ⟨_, 0, none⟩ 1 1 [.int .u8 128] rfl rfl (one_new _ _ _) (oneCell_one _ _) ?_ ?_ ?_ ?_); (focus (unfold maxLen; omega)); (focus omega); (focus (simp [Lib.bytesWorld_size]; omega)); intro v2 w2 hO2 hg2 hat2))
  have hB3 : Below w.heap.size w w2 := (hB2.alloc hB2.size _).grown hg2 (by simp [Lib.bytesWorld_size]; have := hB1.size; omega) (by intro k hk; have hk2 : w1.heap.size = k := Option.some.inj hk; have := hB1.size; omega)
  have hD3 : At w2 D 23 (List.replicate 32 (.int .u8 0)) := (hD2.alloc _).grown hg2 (by intro e; have e2 : D = w1.heap.size := Option.some.inj e; omega)
  clear hO hB1 hB2 hD hD2 hg2 hat2 c8' hconv
  obtain ⟨g2, cap2, rfl, hg2b, hg2l, hc2, hm2⟩ := hO2.form (by omega)
  obtain ⟨Bq, hBq⟩ : ∃ Bq, Bq = w1.heap.size := ⟨_, rfl⟩
  rw [← hBq] at hO2 hg2b hDlt
  have hBw : w.heap.size < Bq := by rw [hBq]; rw [← HDe.out]; rw [← hBq]; exact hDlt
  have hpad := padn_lt msg.length
  have HO := Lib.hid hO2
  have HB := Lib.hid hB3
  have HD := Lib.hid hD3
  have HBq : Bq ≤ w2.heap.size := by omega
  clear hBq hO2 hB3 hD3
  go_loopw [3] (fun v wr => ∃ T g cap : Nat, rs.size + 1 ≤ T ∧ T ≤ rs.size + 1 + padn msg.length ∧ v = .slice (some ⟨g, 0, none⟩) T cap ∧ Bq ≤ g ∧
      Own wr Bq 5 1 (.slice (some ⟨g, 0, none⟩) T cap) T (u8s (rs.data.toList ++ 128 :: List.replicate (T - rs.size - 1) 0)) ∧ Below w.heap.size w wr ∧ At wr D 23 (List.replicate 32 (.int .u8 0)) ∧ Bq ≤ wr.heap.size) (fun v _ => 200 - sliceLen v)
  case atStart =>
    refine ⟨rs.size + 1, g2, cap2, Nat.le_refl _, by omega, rfl, hg2b, ?_, HB.out, HD.out, HBq⟩
    have h := HO.out
    rw [show rs.size + 1 - rs.size - 1 = 0 from by omega, u8s_append]
    exact h
  case round =>
    obtain ⟨T, g, cap, ht1, ht2, rfl, hgB, hO, hB, hD, hBl⟩ := hrel
    by_cases hlt : T < rs.size + 1 + padn msg.length
    · have hne := padn_stop msg.length rs.size T H6.out ht1 hlt
      have HB2 := Lib.hid hB
      have HD2 := Lib.hid hD
      clear hB hD
      go_wp2_with (at_builtin; (refine wpList_append_Own _ rfl (.tmp 20) (.tmp 21) 44 rfl Bq 5 i0 _ 1 1 Tryd.underlying44 hi hz0 hz1 hz2 rfl (by omega) _ _ _ rfl (hO.alloc _) ⟨_, 0, none⟩ 1 1 [.int .u8 0] rfl rfl (one_new _ _ _) (oneCell_one _ _) ?_ ?_ ?_ ?_); (focus (unfold maxLen; omega)); (focus omega); (focus (simp; omega)); intro v2 w2 hO2 hg2 hat2)
      obtain ⟨g2, cap2, rfl, hg2b, hg2l, hc2, hm2⟩ := hO2.form (by omega)
      go_wp2_with fail
      go_roundw
      case rel =>
        refine ⟨T + 1, g2, cap2, by omega, by omega, rfl, hg2b, ?_, (HB2.out.alloc (by omega) _).grown hg2 (by simp; omega) ?_, (HD2.out.alloc _).grown hg2 ?_, ?_⟩
        · rw [show T + 1 - rs.size - 1 = (T - rs.size - 1) + 1 from by omega, List.replicate_succ', ← List.cons_append, ← List.append_assoc, u8s_append]
          exact hO2
        · intro k hk
          have hk2 : g = k := Option.some.inj hk
          omega
        · intro e
          have e2 : D = g := Option.some.inj e
          omega
        · have := hg2.size
          simp at this
          omega
      case measure => simp [sliceLen]; omega
    · have hT : T = rs.size + 1 + padn msg.length := by omega
      have hcond : (T : Int) % 64 = 56 := by rw [hT]; exact padn_end _ _ H6.out
      obtain ⟨l1, hl1⟩ : ∃ l1, l1 = rs.data.toList ++ 128 :: List.replicate (padn msg.length) 0 := ⟨_, rfl⟩
      have hl1b : l1.length = T := by rw [hl1, hT]; simp; omega
      rw [show T - rs.size - 1 = padn msg.length from by omega, ← hl1] at hO
      have HL1 := Lib.hid hl1
      have HL2 := Lib.hid hl1b
      have HO1 := Lib.hid hO
      have HB2 := Lib.hid hB
      have HD2 := Lib.hid hD
      clear HO HB HD hT hl1 hl1b hB hD hO HBq hg2b hg2l hc2 hm2
      obtain ⟨N, hN⟩ : ∃ N : Nat, N = 8 * msg.length := ⟨_, rfl⟩
      have hN1 : (msg.length : Int) * 8 = (N : Int) := by omega
      have hN2 : N < 9223372036854775808 := by omega
      have HN := Lib.hid hN
      clear hN
      have hTb : T ≤ 128 := by omega
      have HT56 := Lib.hid hcond
      go_wp2_with fail
      clear hcond
      go_loopw [3, 23] (fun v i wr => ∃ (k g cap : Nat), k ≤ 8 ∧ i = .int .i64 k ∧ v = .slice (some ⟨g, 0, none⟩) (T + k) cap ∧ Bq ≤ g ∧
          Own wr Bq 5 1 (.slice (some ⟨g, 0, none⟩) (T + k) cap) (T + k) (u8s (l1 ++ (Sha.bytes 8 N).take k)) ∧ Below w.heap.size w wr ∧ At wr D 23 (List.replicate 32 (.int .u8 0)) ∧ Bq ≤ wr.heap.size) (fun _ i _ => 8 - (intOf i).toNat)
      case atStart => exact ⟨0, g, cap, by omega, rfl, rfl, hgB, by simpa using HO1.out, HB2.out, HD2.out, hBl⟩
      case round =>
        obtain ⟨k, g', cap', hk, rfl, rfl, hgB', hO, hB, hD, hBl'⟩ := hrel
        clear HO1 HB2 HD2
        by_cases hlt2 : k < 8
        · have hc9 : wr.cell? ⟨p, 9, none⟩ = some (.int .i64 (msg.length : Int)) := (hB.cell (p := ⟨p, 9, none⟩) hpl).trans (HA.out.cell' (i := 9) rfl)
          obtain ⟨y, hy⟩ : ∃ y : Nat, y = 8 * (7 - k) := ⟨_, rfl⟩
          have hy1 : 8 * (7 - (k : Int)) = (y : Int) := by omega
          have hy2 : y ≤ 56 := by omega
          have hsh : ∀ w, (Op.shift .shr .u64 (N : Int) .i64 (y : Int)).run Tryd.prog w = .ok (.int .u64 ((N / 2 ^ y : Nat) : Int)) w := by
            intro w
            rw [shift_shr_u64 _ _ _ (by omega) (by omega), Int.toNat_natCast]
            simp
          have HY := Lib.hid hy
          have HB2 := Lib.hid hB
          have HD2 := Lib.hid hD
          have i1 : (0 : Int) ≤ (k : Int) := by omega
          have i2 : (k : Int) < 8 := by omega
          clear hy hB hD
          go_wp2_with (at_builtin; (refine wpList_append_Own _ rfl (.tmp 26) (.tmp 38) 44 rfl Bq 5 i0 _ 1 1 Tryd.underlying44 hi hz0 hz1 hz2 rfl (by omega) _ _ _ rfl (hO.alloc _) ⟨_, 0, none⟩ 1 1 [.int .u8 _] rfl rfl (one_new _ _ _) (oneCell_one _ _) ?_ ?_ ?_ ?_); (focus (unfold maxLen; omega)); (focus omega); (focus (simp; omega)); intro v2 w2 hO2 hg2 hat2)
          obtain ⟨g2, cap2, rfl, hg2b, hg2l, hc2, hm2⟩ := hO2.form (by omega)
          go_wp2_with fail
          go_roundw
          case rel =>
            refine ⟨k + 1, g2, cap2, by omega, by go_num, by rw [Nat.add_assoc], hg2b, ?_, (HB2.out.alloc (by omega) _).grown hg2 (by simp; omega) ?_, (HD2.out.alloc _).grown hg2 ?_, ?_⟩
            · have hb := bytes_get N k hlt2
              rw [take_snoc _ k (by rw [Sha.bytes_length]; exact hlt2), ← List.append_assoc, u8s_append, ← Nat.add_assoc]
              have e : u8s [(Sha.bytes 8 N)[k]'(by rw [Sha.bytes_length]; exact hlt2)] = [.int .u8 ((N : Int) / 2 ^ y % 256)] := by
                rw [hb]
                have h2 : (UInt8.ofNat (N / 2 ^ y % 256)).toNat = N / 2 ^ y % 256 := by simp
                rw [← HY.out]
                simp [u8s, h2]
              rw [e]
              exact hO2
            · intro q hq
              have hk2 : g' = q := Option.some.inj hq
              omega
            · intro e
              have e2 : D = g' := Option.some.inj e
              omega
            · have := hg2.size
              simp at this
              omega
          case measure => simp [intOf]; omega
        · have hk8 : k = 8 := by omega
          obtain ⟨es, hes⟩ : ∃ es, es = rs.data.toList ++ Sha.pad msg.length := ⟨_, rfl⟩
          have hes2 : l1 ++ (Sha.bytes 8 N).take k = es := by
            rw [hk8, List.take_of_length_le (by rw [Sha.bytes_length]; omega), hes, HL1.out, pad_eq _ hlen, HN.out]
            simp only [List.append_assoc, List.cons_append]
          have hesl : es.length = T + k := by
            rw [← hes2, List.length_append, HL2.out, List.length_take, Sha.bytes_length]
            omega
          have hes64 : es.length % 64 = 0 := by
            have h1 := HT56.out
            omega
          rw [hes2] at hO
          have hcs : ∀ j (h : j < es.length), wr.cell? ⟨g', 0 + j, none⟩ = some (.int .u8 (es[j].toNat : Int)) := by
            intro j hj
            rw [Nat.zero_add, hO.cellAt rfl j (by omega)]
            simp [u8s, hj]
          have hgl : g' < wr.heap.size := (hO.lt g' rfl).2
          obtain ⟨st, hst⟩ : ∃ st, st = (Sha.run Sha.begun msg).1 := ⟨_, rfl⟩
          have hatp := HA.out.below hB hpl
          rw [← hst] at hatp
          obtain ⟨c0, c1, c2, c3, c4, c5, c6, c7⟩ := stCells hatp
          have hok : st.Ok := by rw [hst]; exact Sha.run_ok _ _ _ (Nat.le_refl _) Sha.begun_ok
          have hrun : (Sha.run Sha.begun (msg ++ Sha.pad msg.length)) = Sha.run st es := by
            rw [Sha.run_append _ _ _ _ (Nat.le_refl _), ← hst, ← HR.out, hes]
          have hcc : T + k ≤ cap' := by
            rcases hO.2 with ⟨h, _⟩ | ⟨_, _, _, _, h, _, _, _, h2, _⟩
            · cases h
            · injection h with _ _ h3
              omega
          have HE := Lib.hid (And.intro hes (And.intro hes2 (And.intro hst hrun)))
          have HEL := Lib.hid hesl
          have HOK := Lib.hid hok
          have HC := Lib.hid hcs
          have HB2 := Lib.hid hB
          have HD2 := Lib.hid hD
          clear hes hes2 hesl hst hrun hok hcs hB hD hO hatp hk8
          go_wp2_with fail
          have hS := At.newA wr 97 (C := #[.int .u32 st.a, .int .u32 st.b, .int .u32 st.c, .int .u32 st.d, .int .u32 st.e, .int .u32 st.f, .int .u32 st.g, .int .u32 st.h]) (cs := stV st) rfl
          have hB4 := HB2.out.alloc (by have := HB2.out.size; exact this) (.cells #[.int .u32 st.a, .int .u32 st.b, .int .u32 st.c, .int .u32 st.d, .int .u32 st.e, .int .u32 st.f, .int .u32 st.g, .int .u32 st.h] 97)
          have hD4 := HD2.out.alloc (.cells #[.int .u32 st.a, .int .u32 st.b, .int .u32 st.c, .int .u32 st.d, .int .u32 st.e, .int .u32 st.f, .int .u32 st.g, .int .u32 st.h] 97)
          have hC4 : ∀ j (h : j < es.length), (wr.alloc (.cells #[.int .u32 st.a, .int .u32 st.b, .int .u32 st.c, .int .u32 st.d, .int .u32 st.e, .int .u32 st.f, .int .u32 st.g, .int .u32 st.h] 97)).cell? ⟨g', 0 + j, none⟩ = some (.int .u8 (es[j].toNat : Int)) := by
            intro j hj
            rw [World.cell?_alloc_lt _ _ _ hgl]
            exact HC.out j hj
          obtain ⟨S, hSe⟩ : ∃ S, S = wr.heap.size := ⟨_, rfl⟩
          rw [← hSe] at hS hgl ⊢
          have hDS : D < S := by rw [hSe]; exact HD2.out.lt
          have hwS : w.heap.size ≤ S := by rw [hSe]; exact HB2.out.size
          clear hSe HC HB2 HD2 c0 c1 c2 c3 c4 c5 c6 c7
          generalize wr.alloc (.cells #[.int .u32 st.a, .int .u32 st.b, .int .u32 st.c, .int .u32 st.d, .int .u32 st.e, .int .u32 st.f, .int .u32 st.g, .int .u32 st.h] 97) = w5 at hS hB4 hD4 hC4 ⊢
          have HS := Lib.hid hS
          have HB4 := Lib.hid hB4
          have HD4 := Lib.hid hD4
          have HC4 := Lib.hid hC4
          clear hS hB4 hD4 hC4
          go_loopw [3] (fun v wj => ∃ (A : Option Addr) (n c : Nat) (r : List UInt8) (st' : Sha.St), v = .slice A n c ∧ n = r.length ∧ n ≤ c ∧ n ≤ 136 ∧ r.length % 64 = 0 ∧ st'.Ok ∧ Sha.run st' r = Sha.run st es ∧ At wj S 97 (stV st') ∧
              (0 < n → ∃ off, A = some ⟨g', off, none⟩ ∧ ∀ j (h : j < r.length), wj.cell? ⟨g', off + j, none⟩ = some (.int .u8 (r[j].toNat : Int))) ∧ Below w.heap.size w wj ∧ At wj D 23 (List.replicate 32 (.int .u8 0))) (fun v _ => sliceLen v)
          case atStart => exact ⟨_, _, _, es, st, rfl, HEL.out.symm, hcc, by omega, hes64, HOK.out, rfl, HS.out, fun _ => ⟨0, rfl, HC4.out⟩, HB4.out, HD4.out⟩
          case round =>
            obtain ⟨A, n, c, r, st', rfl, hn, hnc, hn136, hr64, hok', hrun', hS, hC, hB, hD⟩ := hrel
            clear HS HB4 HD4 HC4
            by_cases hpos : 0 < n
            · obtain ⟨off, rfl, hcell⟩ := hC hpos
              have hn64 : 64 ≤ n := by omega
              have ht64 : (r.take 64).length = 64 := by rw [List.length_take]; omega
              have hbk := run_convert_bytes_back (P := Tryd.prog) wr 44 9 5 ⟨g', off, none⟩ c (r.take 64) Tryd.underlying44 Tryd.underlying5 Tryd.underlying9 (by
                intro j hj
                have hj2 : j < r.length := by rw [List.length_take] at hj; omega
                have e : (⟨g', off, none⟩ : Addr).add j = ⟨g', off + j, none⟩ := by unfold Addr.add; split <;> simp_all
                rw [e, hcell j hj2, List.getElem_take])
              rw [ht64] at hbk
              have H64 := Lib.hid ht64
              have HRN := Lib.hid (And.intro hn (And.intro hr64 hrun'))
              have HS2 := Lib.hid hS
              have HB2 := Lib.hid hB
              have HD2 := Lib.hid hD
              have HC2 := Lib.hid hcell
              have i64 : (64 : Int) ≤ (n : Int) := by omega
              clear hn hr64 hrun' hS hB hD hC hcell ht64
              have hwr : Tab wr 0 (u32s Sha.words) := HW.out.below HB2.out HW.out.lt
              have HWR := Lib.hid hwr
              clear hwr
              go_wp2_with fail
              refine (mix_any ⟨(r.take 64).toArray⟩ (by simpa [ByteArray.size] using H64.out) st' hok' S 97 [] _ (by simpa using HS2.out) HWR.out).mono ?_
              rintro e w3 ⟨rfl, hat3, hg3⟩
              have HA3 := Lib.hid hat3
              have HG3 := Lib.hid hg3
              clear hat3 hg3 hbk
              go_wp2_with fail
              go_roundw
              case rel =>
                have hn := HRN.out.1
                have hr64 := HRN.out.2.1
                refine ⟨_, n - 64, _, r.drop 64, Sha.mix st' (r.take 64), rfl, by rw [List.length_drop]; omega, by omega, by omega, by rw [List.length_drop]; omega, Sha.sum_ok _ _, ?_, by simpa using HA3.out, ?_, Below.ofGrown HB2.out HG3.out HB2.out.size hwS, HD2.out.grown HG3.out (by intro e; injection e; omega)⟩
                · rw [← HRN.out.2.2, Sha.run_step st' r (by omega)]
                · intro hp2
                  refine ⟨off + 64, ?_, ?_⟩
                  · have hc2 : ¬ c = 64 := by omega
                    simp [hc2]
                  · intro j hj
                    rw [List.length_drop] at hj
                    rw [World.cell?_of_block (w := wr) (HG3.out.block g' (by have := HS2.out.lt; omega) (by intro e; injection e; omega)), Nat.add_assoc, HC2.out (64 + j) (by omega), List.getElem_drop]
              case measure => simp [sliceLen]; omega
            · have hn0 : n = 0 := by omega
              have hr0 : r = [] := List.eq_nil_of_length_eq_zero (by omega)
              subst hr0
              have hfin : st' = (Sha.run Sha.begun (msg ++ Sha.pad msg.length)).1 := by
                rw [HE.out.2.2.2, ← hrun', Sha.run_end _ _ (by simp)]
              have HF := Lib.hid hfin
              have HS2 := Lib.hid hS
              have HB2 := Lib.hid hB
              have HD2 := Lib.hid hD
              have hl : (Tryd.prog.info? 23).map (·.size) = some (u8s (Sha.sha msg)).length := by rw [u8s_length, Sha.sha, digest_length]; kernel_rfl
              have HI := Lib.hid hl
              clear hfin hS hB hD hl hn hrun' hr64 hC
              go_wp2_with fail
              refine (digest_any st' S 97 [] _ (by simpa using HS2.out)).mono ?_
              rintro e w3 ⟨rfl, hb3⟩
              have HD3 := HD2.out.below hb3 HD2.out.lt
              have HB3 := Lib.hid (HB2.out.trans (hb3.mono HB2.out.size))
              have hsha : dgV (Sha.digest st') = .agg (u8s (Sha.sha msg)).toArray := by rw [HF.out]; rfl
              rw [hsha]
              clear hb3
              go_wp2_with (with_reducible refine wpList_storeAll rfl 23 (.tmp 2) (.tmp 54) rfl _ rfl _ _ _ HD3 rfl ?_ HI.out (u8s_oneCell _) ?_; (focus (rw [u8s_length, Sha.sha, digest_length, List.length_replicate])); intro w4 hat4 hg4 hs4)
              refine ret_cellAll rfl rfl D _ _ _ rfl hat4 Tryd.underlying23 rfl HI.out ⟨rfl, ?_⟩
              exact Below.ofGrown HB3.out hg4 HB3.out.size (by rw [HDe.out]; exact Nat.le_refl _)

end Go.Proofs.YtdfeiajdmmlllaaDoor
