/- Layers 1 and 2: texts pressed, numbers, texts, rows, digests compared. -/
import Derived.Test.YtefbllhpibfojaaDoorGrpB
import Derived.Test.YtefbllhpibfojaaDoorGrpA
import Derived.Deep.RegionHeld3
import Derived.WalkSpells
import Derived.Deep.Cut
import Derived.Lib.Builder
import Derived.Lib.FrozenHead
import Derived.Lib.AppendStr
import Derived.Lib.UnsafeStr
import Derived.RegionTactic
import Derived.Laws.IdiomStrings
import Derived.Lib.Bytealg
import Derived.Deep.RegionLaw
import Derived.Deep.QuietTactic
import Derived.BigQuiet
namespace Go.Proofs.YtefbllhpibfojaaDoor
open Go.RowKit

/-- a press of the bytes of a text -/
def PressAt (w : World) (p : Nat) (msg : List UInt8) : Prop :=
  ∃ rs : ByteArray, rs.data.toList = (Sha.run Sha.begun msg).2 ∧ At w p 111 (stV (Sha.run Sha.begun msg).1 ++ [.string rs, .int .i64 msg.length])
/-- strings one behind the other -/
def flat (ss : List ByteArray) : List UInt8 := ss.flatMap fun s => s.data.toList
/-- the slice value holds these strings, in a block other than p -/
def StrsAt (w : World) (A : Option Addr) (ss : List ByteArray) (p : Nat) : Prop :=
  0 < ss.length → ∃ ad, A = some ad ∧ ad.block ≠ p ∧ ad.block < w.heap.size ∧ ∀ i (h : i < ss.length), w.cell? (ad.add i) = some (.string ss[i])

/-- how long the text is that doesn't fill a block yet -/
def restLen (w : World) (p : Nat) : Nat := match w.cell? ⟨p, 8, none⟩ with | some (.string r) => r.size | _ => 0
theorem restLen_of {w : World} {p : Nat} {r : ByteArray} (h : w.cell? ⟨p, 8, none⟩ = some (.string r)) : restLen w p = r.size := by simp [restLen, h]
theorem extract_take (r : ByteArray) (k : Nat) : (r.extract 0 k).data.toList = r.data.toList.take k := by
  simp [ByteArray.data_extract]
theorem extract_drop (r : ByteArray) (k : Nat) : (r.extract k r.size).data.toList = r.data.toList.drop k := by
  rw [ByteArray.data_extract, Array.toList_extract, List.extract_eq_take_drop, List.take_of_length_le (by rw [List.length_drop, bytes_length]; omega)]

set_option maxRecDepth 100000 in
set_option maxHeartbeats 4000000 in
theorem add_any (p : Nat) (msg : List UInt8) (A : Option Addr) (c : Nat) (ss : List ByteArray) (w : World) (hp : PressAt w p msg) (hs : StrsAt w A ss p) (hlen : msg.length + (flat ss).length < 4611686018427387904) (hn : ss.length < 4611686018427387904)
    (hw : Tab w 0 (u32s Sha.words)) (hp0 : p ≠ 0) :
    Calls Tryd.prog 50 #[.pointer (some ⟨p, 0, none⟩), .slice A ss.length c] w fun e w' => e = .returned (.pointer (some ⟨p, 0, none⟩)) ∧ PressAt w' p (msg ++ flat ss) ∧ w.grownBy w' (some p) := by
  have HP := Lib.hid hp
  have HS := Lib.hid hs
  have HW := Lib.hid hw
  have HN := Lib.hid hlen
  clear hp hs hw hlen
  go_enter Tryd.func50, Tryd.ntmps50
  go_wp2_with fail
  go_loopw [11] (fun i wr => ∃ k : Nat, k ≤ ss.length ∧ i = .int .i64 k ∧ PressAt wr p (msg ++ flat (ss.take k)) ∧ w.grownBy wr (some p)) (fun i _ => ss.length - (intOf i).toNat)
  case atStart => exact ⟨0, by omega, rfl, by simpa [flat] using HP.out, World.grownBy.refl w _⟩
  case round =>
    obtain ⟨k, hk, rfl, hpr, hg⟩ := hrel
    by_cases hlt : k < ss.length
    · obtain ⟨ad, rfl, hne, hltb, hcells⟩ := HS.out (by omega)
      have hc : wr.cell? (ad.add k) = some (.string ss[k]) := by
        have hbk : (ad.add k).block = ad.block := by unfold Addr.add; split <;> rfl
        rw [World.cell?_of_block (w := w) (hg.block _ (by rw [hbk]; exact hltb) (by rw [hbk]; intro e; injection e with e; exact hne e))]
        exact hcells k hlt
      obtain ⟨s, hs⟩ : ∃ s, s = ss[k] := ⟨_, rfl⟩
      rw [← hs] at hc
      obtain ⟨m1, hm1⟩ : ∃ m1, m1 = msg ++ flat (ss.take k) := ⟨_, rfl⟩
      rw [← hm1] at hpr
      obtain ⟨rs, hrs, hat⟩ := hpr
      obtain ⟨st, hst⟩ : ∃ st, st = (Sha.run Sha.begun m1).1 := ⟨_, rfl⟩
      rw [← hst] at hat
      have c8 := hat.cell' (i := 8) (v := .string rs) rfl
      have c9 := hat.cell' (i := 9) (v := .int .i64 m1.length) rfl
      have f8 := hat.frozen 8
      have f9 := hat.frozen 9
      have hfl : flat (ss.take (k + 1)) = flat (ss.take k) ++ s.data.toList := by rw [take_snoc _ k hlt, ← hs]; simp [flat]
      have hsum : m1.length + s.size < 4611686018427387904 := by
        have h1 : (flat (ss.take (k + 1))).length ≤ (flat ss).length := by
          conv => rhs; rw [← List.take_append_drop (k + 1) ss]
          simp only [flat, List.flatMap_append, List.length_append]
          omega
        have h2 := HN.out
        rw [hfl, List.length_append, bytes_length] at h1
        rw [hm1, List.length_append]
        omega
      have hr64 : rs.size < 64 := by
        have := Sha.run_rest m1.length Sha.begun m1 (Nat.le_refl _)
        rw [← hrs, bytes_length] at this
        exact this
      have hok : st.Ok := by rw [hst]; exact Sha.run_ok _ _ _ (Nat.le_refl _) Sha.begun_ok
      have HO := Lib.hid hok
      have HF := Lib.hid hfl
      clear hok hfl
      have HR := Lib.hid (And.intro hs (And.intro hm1 (And.intro hrs hst)))
      have HA := Lib.hid hat
      have HG := Lib.hid hg
      clear hs hm1 hrs hst hat hg hcells
      go_wp2_with fail
      have HA2 := Lib.hid ((HA.out.set 9 (.int .i64 ((m1.length : Int) + (s.size : Int)))).set 8 (.string (rs ++ s)))
      have HG2 : Hid (w.grownBy ((wr.setCell ⟨p, 9, none⟩ (.int .i64 ((m1.length : Int) + (s.size : Int)))).setCell ⟨p, 8, none⟩ (.string (rs ++ s))) (some p)) := Lib.hid (grown_setCell (grown_setCell HG.out (.inl rfl) _) (.inl rfl) _)
      clear HA HG c8 c9 f8 f9
      generalize (wr.setCell ⟨p, 9, none⟩ (.int .i64 ((m1.length : Int) + (s.size : Int)))).setCell ⟨p, 8, none⟩ (.string (rs ++ s)) = w2 at HA2 HG2 ⊢
      go_loopw [32] (fun _ wj => ∃ (st' : Sha.St) (r' : ByteArray), st'.Ok ∧ At wj p 111 (stV st' ++ [.string r', .int .i64 ((m1.length : Int) + (s.size : Int))]) ∧ Sha.run st' r'.data.toList = Sha.run Sha.begun (m1 ++ s.data.toList) ∧ w.grownBy wj (some p)) (fun _ wj => restLen wj p)
      case atStart =>
        refine ⟨st, rs ++ s, HO.out, HA2.out, ?_, HG2.out⟩
        have := Sha.run_append s.data.toList _ Sha.begun m1 (Nat.le_refl _)
        rw [this, ← HR.out.2.2.1, ← HR.out.2.2.2]
        simp [ByteArray.data_append]
      case round =>
        obtain ⟨st', r', hok', hat', hrun', hg'⟩ := hrel
        clear HA2 HG2
        have c8 := hat'.cell' (i := 8) (v := .string r') rfl
        have f8 := hat'.frozen 8
        have hmeas := restLen_of c8
        by_cases h64 : 64 ≤ r'.size
        · have i64 : (64 : Int) ≤ (r'.size : Int) := by omega
          have HA2 := Lib.hid hat'
          have HR2 := Lib.hid hrun'
          have HG2 := Lib.hid hg'
          have HM := Lib.hid hmeas
          clear hat' hrun' hg' hmeas
          have hw' : Tab wr.drew 0 (u32s Sha.words) := HW.out.grown (grown_drew HG2.out) (by intro e; injection e with e; exact hp0 e.symm)
          have HW2 := Lib.hid hw'
          clear hw'
          go_wp2_with fail
          go_region_held3 (fun w' => w'.cell? ⟨p, 8, none⟩ = some (.string r')) ((first | (simp [*]; done) | exact hat3.cell' rfl))
            ((go_at_call 82; (with_reducible refine (mix_any (r'.extract 0 64) ?_ st' hok' _ _ _ _ HA2.out.drew HW2.out).mono ?_); (focus (simp; omega)); rintro e w3 ⟨rfl, hat3, hg3⟩))
          have d8 := hat3.cell' (i := 8) (v := .string r') rfl
          have e8 := hat3.frozen 8
          have HA3 := Lib.hid hat3
          have HG3 := Lib.hid hg3
          clear hat3 hg3 c8 f8
          go_wp2_with fail
          go_roundw
          case rel =>
            refine ⟨Sha.mix st' (r'.extract 0 64).data.toList, r'.extract 64 r'.size, Sha.sum_ok _ _, HA3.out.set 8 _, ?_, grown_setCell (grown_trans (grown_drew HG2.out) HG3.out) (.inl rfl) _⟩
            rw [extract_take, extract_drop, ← Sha.run_step st' _ (by rw [bytes_length]; omega)]
            exact HR2.out
          case measure =>
            rw [HM.out, restLen_of (r := r'.extract 64 r'.size) ((HA3.out.set 8 (.string (r'.extract 64 r'.size))).cell' rfl)]
            simp
            omega
        · have hlt64 : r'.size < 64 := by omega
          have HA2 := Lib.hid hat'
          have HR2 := Lib.hid hrun'
          have HG2 := Lib.hid hg'
          clear hat' hrun' hg' hmeas
          go_wp2_with fail
          go_roundw
          case rel =>
            refine ⟨k + 1, by omega, by go_num, ⟨r', ?_, ?_⟩, HG2.out⟩
            · rw [HF.out, ← List.append_assoc, ← HR.out.2.1, ← HR2.out, Sha.run_end _ _ (by rw [bytes_length]; omega)]
            · rw [HF.out, ← List.append_assoc, ← HR.out.2.1, ← HR2.out, Sha.run_end _ _ (by rw [bytes_length]; omega), List.length_append, bytes_length]
              simpa using HA2.out
          case measure => simp [intOf]; omega
    · have hk2 : k = ss.length := by omega
      have HQ := Lib.hid hpr
      have HG := Lib.hid hg
      clear hpr hg
      go_wp2_with fail
      go_ret
      refine ⟨rfl, ?_, HG.out⟩
      have h := HQ.out
      rw [List.take_of_length_le (by omega)] at h
      exact h
end Go.Proofs.YtefbllhpibfojaaDoor

namespace Go.Proofs.YtefbllhpibfojaaDoor
open Go.RowKit

theorem info_u8 : (Tryd.prog.info? 5).map (fun i => (i.zero, i.size, i.bytes)) = some (some (.int .u8 0), 1, 1) := by kernel_rfl
theorem oneCell_one (k : IntKind) (n : Int) : ∀ u ∈ [Value.int k n], u.oneCell' = true := by
  intro u hu
  simp at hu
  subst hu
  rfl
def sliceLen : Value → Nat | .slice _ n _ => n | _ => 0
/-- how many zeros come behind a text of n bytes and the byte 128 -/
def padn (n : Nat) : Nat := (119 - n % 64) % 64

theorem padn_stop (L r T : Nat) (hr : r = L % 64) (h1 : r + 1 ≤ T) (h2 : T < r + 1 + padn L) : (T : Int) % 64 ≠ 56 := by
  unfold padn at h2
  omega
theorem padn_end (L r : Nat) (hr : r = L % 64) : ((r + 1 + padn L : Nat) : Int) % 64 = 56 := by
  unfold padn
  omega
theorem bytes_get (N k : Nat) (hk : k < 8) : (Sha.bytes 8 N)[k]'(by rw [Sha.bytes_length]; exact hk) = UInt8.ofNat (N / 2 ^ (8 * (7 - k)) % 256) := by
  match k, hk with
  | 0, _ => rfl
  | 1, _ => rfl
  | 2, _ => rfl
  | 3, _ => rfl
  | 4, _ => rfl
  | 5, _ => rfl
  | 6, _ => rfl
  | 7, _ => rfl
  | n + 8, h => exact absurd h (by omega)
theorem pad_eq (L : Nat) (hL : L < 1152921504606846976) : Sha.pad L = 128 :: List.replicate (padn L) 0 ++ Sha.bytes 8 (8 * L) := by
  have h : 8 * L % 18446744073709551616 = 8 * L := Nat.mod_eq_of_lt (by omega)
  unfold Sha.pad padn
  rw [h]
theorem padn_lt (L : Nat) : padn L < 64 := Nat.mod_lt _ (by omega)
theorem u8s_append (a b : List UInt8) : u8s (a ++ b) = u8s a ++ u8s b := by simp [u8s]

set_option maxRecDepth 100000 in
set_option maxHeartbeats 400000 in
theorem sum_any (p : Nat) (msg : List UInt8) (w : World) (hp : PressAt w p msg) (hlen : msg.length < 1152921504606846976)
    (hw : Tab w 0 (u32s Sha.words)) :
    Calls Tryd.prog 51 #[.pointer (some ⟨p, 0, none⟩)] w fun e w' => e = .returned (dgV (Sha.sha msg)) ∧ Below w.heap.size w w' := by
  obtain ⟨rs, hrs, hat⟩ := hp
  have c8 := hat.cell' (i := 8) (v := .string rs) rfl
  have hr64 : rs.size = msg.length % 64 := by
    have := Sha.run_mod _ Sha.begun msg (Nat.le_refl _)
    rw [← hrs, bytes_length] at this
    exact this
  have hr63 : rs.size < 64 := by omega
  have HR := Lib.hid hrs
  have HA := Lib.hid hat
  have HW := Lib.hid hw
  have H6 := Lib.hid hr64
  clear hrs hat hw hr64
  obtain ⟨i0, hi, hz0, hz1, hz2⟩ := info_parts info_u8
  have hconv := fun w s => Lib.run_convert_string_bytes (P := Tryd.prog) w 9 70 5 s Tryd.underlying9 Tryd.underlying70 Tryd.underlying5
  have hpl : p < w.heap.size := HA.out.lt
  go_enter Tryd.func51, Tryd.ntmps51
  go_upto_region 3 with (fail)
  have hD : At (w.alloc (.cells #[.int .u8 0, .int .u8 0, .int .u8 0, .int .u8 0, .int .u8 0, .int .u8 0, .int .u8 0, .int .u8 0, .int .u8 0, .int .u8 0, .int .u8 0, .int .u8 0, .int .u8 0, .int .u8 0, .int .u8 0, .int .u8 0, .int .u8 0, .int .u8 0, .int .u8 0, .int .u8 0, .int .u8 0, .int .u8 0, .int .u8 0, .int .u8 0, .int .u8 0, .int .u8 0, .int .u8 0, .int .u8 0, .int .u8 0, .int .u8 0, .int .u8 0, .int .u8 0] 24)) w.heap.size 24 (List.replicate 32 (.int .u8 0)) := At.newA _ _ rfl
  have hB1 : Below w.heap.size w (w.alloc (.cells #[.int .u8 0, .int .u8 0, .int .u8 0, .int .u8 0, .int .u8 0, .int .u8 0, .int .u8 0, .int .u8 0, .int .u8 0, .int .u8 0, .int .u8 0, .int .u8 0, .int .u8 0, .int .u8 0, .int .u8 0, .int .u8 0, .int .u8 0, .int .u8 0, .int .u8 0, .int .u8 0, .int .u8 0, .int .u8 0, .int .u8 0, .int .u8 0, .int .u8 0, .int .u8 0, .int .u8 0, .int .u8 0, .int .u8 0, .int .u8 0, .int .u8 0, .int .u8 0] 24)) := (Below.refl _ _).alloc (Nat.le_refl _) _
  generalize w.alloc (.cells #[.int .u8 0, .int .u8 0, .int .u8 0, .int .u8 0, .int .u8 0, .int .u8 0, .int .u8 0, .int .u8 0, .int .u8 0, .int .u8 0, .int .u8 0, .int .u8 0, .int .u8 0, .int .u8 0, .int .u8 0, .int .u8 0, .int .u8 0, .int .u8 0, .int .u8 0, .int .u8 0, .int .u8 0, .int .u8 0, .int .u8 0, .int .u8 0, .int .u8 0, .int .u8 0, .int .u8 0, .int .u8 0, .int .u8 0, .int .u8 0, .int .u8 0, .int .u8 0] 24) = w1 at hD hB1 ⊢
  have c8' : w1.cell? ⟨p, 8, none⟩ = some (.string rs) := (hB1.cell (p := ⟨p, 8, none⟩) hpl).trans c8
  have hO := Own.ofBytes (base := w1.heap.size) w1 5 rs (Nat.le_refl _) (by unfold maxLen; omega)
  have hB2 := bytesWorld_below hB1 (Nat.le_of_lt hD.lt) 5 rs
  have hD2 := hD.below (w' := Lib.bytesWorld w1 5 rs) (B := w1.heap.size) (bytesWorld_below (Below.refl _ _) (Nat.le_refl _) _ _) hD.lt
  obtain ⟨D, hDe⟩ : ∃ D, D = w.heap.size := ⟨_, rfl⟩
  rw [← hDe] at hD hD2 ⊢
  have hDlt := hD.lt
  have HDe := Lib.hid hDe
  clear c8 hDe
  go_wp2_with (first
    | (at_builtin; (refine wpList_append_Own _ rfl (.tmp 13) (.tmp 14) 70 rfl w1.heap.size 5 i0 _ 1 1 Tryd.underlying70 hi hz0 hz1 hz2 rfl (by omega) _ _ _ rfl (hO.alloc _) ⟨_, 0, none⟩ 1 1 [.int .u8 128] rfl rfl (one_new _ _ _) (oneCell_one _ _) ?_ ?_ ?_ ?_); (focus (unfold maxLen; omega)); (focus omega); (focus (simp [Lib.bytesWorld_size]; omega)); intro v2 w2 hO2 hg2 hat2))
  have hB3 : Below w.heap.size w w2 := (hB2.alloc hB2.size _).grown hg2 (by simp [Lib.bytesWorld_size]; have := hB1.size; omega) (by intro k hk; have hk2 : w1.heap.size = k := Option.some.inj hk; have := hB1.size; omega)
  have hD3 : At w2 D 24 (List.replicate 32 (.int .u8 0)) := (hD2.alloc _).grown hg2 (by intro e; have e2 : D = w1.heap.size := Option.some.inj e; omega)
  clear hO hB1 hB2 hD hD2 hg2 hat2 c8' hconv
  obtain ⟨g2, cap2, rfl, hg2b, hg2l, hc2, hm2⟩ := hO2.form (by omega)
  obtain ⟨Bq, hBq⟩ : ∃ Bq, Bq = w1.heap.size := ⟨_, rfl⟩
  rw [← hBq] at hO2 hg2b hDlt
  have hBw : w.heap.size < Bq := by rw [hBq]; rw [← HDe.out]; rw [← hBq]; exact hDlt
  have hpad := padn_lt msg.length
  have HO := Lib.hid hO2
  have HB := Lib.hid hB3
  have HD := Lib.hid hD3
  have HBq : Bq ≤ w2.heap.size := by omega
  clear hBq hO2 hB3 hD3
  go_loopw [3] (fun v wr => ∃ T g cap : Nat, rs.size + 1 ≤ T ∧ T ≤ rs.size + 1 + padn msg.length ∧ v = .slice (some ⟨g, 0, none⟩) T cap ∧ Bq ≤ g ∧
      Own wr Bq 5 1 (.slice (some ⟨g, 0, none⟩) T cap) T (u8s (rs.data.toList ++ 128 :: List.replicate (T - rs.size - 1) 0)) ∧ Below w.heap.size w wr ∧ At wr D 24 (List.replicate 32 (.int .u8 0)) ∧ Bq ≤ wr.heap.size) (fun v _ => 200 - sliceLen v)
  case atStart =>
    refine ⟨rs.size + 1, g2, cap2, Nat.le_refl _, by omega, rfl, hg2b, ?_, HB.out, HD.out, HBq⟩
    have h := HO.out
    rw [show rs.size + 1 - rs.size - 1 = 0 from by omega, u8s_append]
    exact h
  case round =>
    obtain ⟨T, g, cap, ht1, ht2, rfl, hgB, hO, hB, hD, hBl⟩ := hrel
    by_cases hlt : T < rs.size + 1 + padn msg.length
    · have hne := padn_stop msg.length rs.size T H6.out ht1 hlt
      have HB2 := Lib.hid hB
      have HD2 := Lib.hid hD
      clear hB hD
      go_wp2_with (at_builtin; (refine wpList_append_Own _ rfl (.tmp 20) (.tmp 21) 70 rfl Bq 5 i0 _ 1 1 Tryd.underlying70 hi hz0 hz1 hz2 rfl (by omega) _ _ _ rfl (hO.alloc _) ⟨_, 0, none⟩ 1 1 [.int .u8 0] rfl rfl (one_new _ _ _) (oneCell_one _ _) ?_ ?_ ?_ ?_); (focus (unfold maxLen; omega)); (focus omega); (focus (simp; omega)); intro v2 w2 hO2 hg2 hat2)
      obtain ⟨g2, cap2, rfl, hg2b, hg2l, hc2, hm2⟩ := hO2.form (by omega)
      go_wp2_with fail
      go_roundw
      case rel =>
        refine ⟨T + 1, g2, cap2, by omega, by omega, rfl, hg2b, ?_, (HB2.out.alloc (by omega) _).grown hg2 (by simp; omega) ?_, (HD2.out.alloc _).grown hg2 ?_, ?_⟩
        · rw [show T + 1 - rs.size - 1 = (T - rs.size - 1) + 1 from by omega, List.replicate_succ', ← List.cons_append, ← List.append_assoc, u8s_append]
          exact hO2
        · intro k hk
          have hk2 : g = k := Option.some.inj hk
          omega
        · intro e
          have e2 : D = g := Option.some.inj e
          omega
        · have := hg2.size
          simp at this
          omega
      case measure => simp [sliceLen]; omega
    · have hT : T = rs.size + 1 + padn msg.length := by omega
      have hcond : (T : Int) % 64 = 56 := by rw [hT]; exact padn_end _ _ H6.out
      obtain ⟨l1, hl1⟩ : ∃ l1, l1 = rs.data.toList ++ 128 :: List.replicate (padn msg.length) 0 := ⟨_, rfl⟩
      have hl1b : l1.length = T := by rw [hl1, hT]; simp; omega
      rw [show T - rs.size - 1 = padn msg.length from by omega, ← hl1] at hO
      have HL1 := Lib.hid hl1
      have HL2 := Lib.hid hl1b
      have HO1 := Lib.hid hO
      have HB2 := Lib.hid hB
      have HD2 := Lib.hid hD
      clear HO HB HD hT hl1 hl1b hB hD hO HBq hg2b hg2l hc2 hm2
      obtain ⟨N, hN⟩ : ∃ N : Nat, N = 8 * msg.length := ⟨_, rfl⟩
      have hN1 : (msg.length : Int) * 8 = (N : Int) := by omega
      have hN2 : N < 9223372036854775808 := by omega
      have HN := Lib.hid hN
      clear hN
      have hTb : T ≤ 128 := by omega
      have HT56 := Lib.hid hcond
      go_wp2_with fail
      clear hcond
      go_loopw [3, 23] (fun v i wr => ∃ (k g cap : Nat), k ≤ 8 ∧ i = .int .i64 k ∧ v = .slice (some ⟨g, 0, none⟩) (T + k) cap ∧ Bq ≤ g ∧
          Own wr Bq 5 1 (.slice (some ⟨g, 0, none⟩) (T + k) cap) (T + k) (u8s (l1 ++ (Sha.bytes 8 N).take k)) ∧ Below w.heap.size w wr ∧ At wr D 24 (List.replicate 32 (.int .u8 0)) ∧ Bq ≤ wr.heap.size) (fun _ i _ => 8 - (intOf i).toNat)
      case atStart => exact ⟨0, g, cap, by omega, rfl, rfl, hgB, by simpa using HO1.out, HB2.out, HD2.out, hBl⟩
      case round =>
        obtain ⟨k, g', cap', hk, rfl, rfl, hgB', hO, hB, hD, hBl'⟩ := hrel
        clear HO1 HB2 HD2
        by_cases hlt2 : k < 8
        · have hc9 : wr.cell? ⟨p, 9, none⟩ = some (.int .i64 (msg.length : Int)) := (hB.cell (p := ⟨p, 9, none⟩) hpl).trans (HA.out.cell' (i := 9) rfl)
          obtain ⟨y, hy⟩ : ∃ y : Nat, y = 8 * (7 - k) := ⟨_, rfl⟩
          have hy1 : 8 * (7 - (k : Int)) = (y : Int) := by omega
          have hy2 : y ≤ 56 := by omega
          have hsh : ∀ w, (Op.shift .shr .u64 (N : Int) .i64 (y : Int)).run Tryd.prog w = .ok (.int .u64 ((N / 2 ^ y : Nat) : Int)) w := by
            intro w
            rw [shift_shr_u64 _ _ _ (by omega) (by omega), Int.toNat_natCast]
            simp
          have HY := Lib.hid hy
          have HB2 := Lib.hid hB
          have HD2 := Lib.hid hD
          have i1 : (0 : Int) ≤ (k : Int) := by omega
          have i2 : (k : Int) < 8 := by omega
          clear hy hB hD
          go_wp2_with (at_builtin; (refine wpList_append_Own _ rfl (.tmp 26) (.tmp 38) 70 rfl Bq 5 i0 _ 1 1 Tryd.underlying70 hi hz0 hz1 hz2 rfl (by omega) _ _ _ rfl (hO.alloc _) ⟨_, 0, none⟩ 1 1 [.int .u8 _] rfl rfl (one_new _ _ _) (oneCell_one _ _) ?_ ?_ ?_ ?_); (focus (unfold maxLen; omega)); (focus omega); (focus (simp; omega)); intro v2 w2 hO2 hg2 hat2)
          obtain ⟨g2, cap2, rfl, hg2b, hg2l, hc2, hm2⟩ := hO2.form (by omega)
          go_wp2_with fail
          go_roundw
          case rel =>
            refine ⟨k + 1, g2, cap2, by omega, by go_num, by rw [Nat.add_assoc], hg2b, ?_, (HB2.out.alloc (by omega) _).grown hg2 (by simp; omega) ?_, (HD2.out.alloc _).grown hg2 ?_, ?_⟩
            · have hb := bytes_get N k hlt2
              rw [take_snoc _ k (by rw [Sha.bytes_length]; exact hlt2), ← List.append_assoc, u8s_append, ← Nat.add_assoc]
              have e : u8s [(Sha.bytes 8 N)[k]'(by rw [Sha.bytes_length]; exact hlt2)] = [.int .u8 ((N : Int) / 2 ^ y % 256)] := by
                rw [hb]
                have h2 : (UInt8.ofNat (N / 2 ^ y % 256)).toNat = N / 2 ^ y % 256 := by simp
                rw [← HY.out]
                simp [u8s, h2]
              rw [e]
              exact hO2
            · intro q hq
              have hk2 : g' = q := Option.some.inj hq
              omega
            · intro e
              have e2 : D = g' := Option.some.inj e
              omega
            · have := hg2.size
              simp at this
              omega
          case measure => simp [intOf]; omega
        · have hk8 : k = 8 := by omega
          obtain ⟨es, hes⟩ : ∃ es, es = rs.data.toList ++ Sha.pad msg.length := ⟨_, rfl⟩
          have hes2 : l1 ++ (Sha.bytes 8 N).take k = es := by
            rw [hk8, List.take_of_length_le (by rw [Sha.bytes_length]; omega), hes, HL1.out, pad_eq _ hlen, HN.out]
            simp only [List.append_assoc, List.cons_append]
          have hesl : es.length = T + k := by
            rw [← hes2, List.length_append, HL2.out, List.length_take, Sha.bytes_length]
            omega
          have hes64 : es.length % 64 = 0 := by
            have h1 := HT56.out
            omega
          rw [hes2] at hO
          have hcs : ∀ j (h : j < es.length), wr.cell? ⟨g', 0 + j, none⟩ = some (.int .u8 (es[j].toNat : Int)) := by
            intro j hj
            rw [Nat.zero_add, hO.cellAt rfl j (by omega)]
            simp [u8s, hj]
          have hgl : g' < wr.heap.size := (hO.lt g' rfl).2
          obtain ⟨st, hst⟩ : ∃ st, st = (Sha.run Sha.begun msg).1 := ⟨_, rfl⟩
          have hatp := HA.out.below hB hpl
          rw [← hst] at hatp
          obtain ⟨c0, c1, c2, c3, c4, c5, c6, c7⟩ := stCells hatp
          have hok : st.Ok := by rw [hst]; exact Sha.run_ok _ _ _ (Nat.le_refl _) Sha.begun_ok
          have hrun : (Sha.run Sha.begun (msg ++ Sha.pad msg.length)) = Sha.run st es := by
            rw [Sha.run_append _ _ _ _ (Nat.le_refl _), ← hst, ← HR.out, hes]
          have hcc : T + k ≤ cap' := by
            rcases hO.2 with ⟨h, _⟩ | ⟨_, _, _, _, h, _, _, _, h2, _⟩
            · cases h
            · injection h with _ _ h3
              omega
          have HE := Lib.hid (And.intro hes (And.intro hes2 (And.intro hst hrun)))
          have HEL := Lib.hid hesl
          have HOK := Lib.hid hok
          have HC := Lib.hid hcs
          have HB2 := Lib.hid hB
          have HD2 := Lib.hid hD
          clear hes hes2 hesl hst hrun hok hcs hB hD hO hatp hk8
          go_wp2_with fail
          have hS := At.newA wr 108 (C := #[.int .u32 st.a, .int .u32 st.b, .int .u32 st.c, .int .u32 st.d, .int .u32 st.e, .int .u32 st.f, .int .u32 st.g, .int .u32 st.h]) (cs := stV st) rfl
          have hB4 := HB2.out.alloc (by have := HB2.out.size; exact this) (.cells #[.int .u32 st.a, .int .u32 st.b, .int .u32 st.c, .int .u32 st.d, .int .u32 st.e, .int .u32 st.f, .int .u32 st.g, .int .u32 st.h] 108)
          have hD4 := HD2.out.alloc (.cells #[.int .u32 st.a, .int .u32 st.b, .int .u32 st.c, .int .u32 st.d, .int .u32 st.e, .int .u32 st.f, .int .u32 st.g, .int .u32 st.h] 108)
          have hC4 : ∀ j (h : j < es.length), (wr.alloc (.cells #[.int .u32 st.a, .int .u32 st.b, .int .u32 st.c, .int .u32 st.d, .int .u32 st.e, .int .u32 st.f, .int .u32 st.g, .int .u32 st.h] 108)).cell? ⟨g', 0 + j, none⟩ = some (.int .u8 (es[j].toNat : Int)) := by
            intro j hj
            rw [World.cell?_alloc_lt _ _ _ hgl]
            exact HC.out j hj
          obtain ⟨S, hSe⟩ : ∃ S, S = wr.heap.size := ⟨_, rfl⟩
          rw [← hSe] at hS hgl ⊢
          have hDS : D < S := by rw [hSe]; exact HD2.out.lt
          have hwS : w.heap.size ≤ S := by rw [hSe]; exact HB2.out.size
          clear hSe HC HB2 HD2 c0 c1 c2 c3 c4 c5 c6 c7
          generalize wr.alloc (.cells #[.int .u32 st.a, .int .u32 st.b, .int .u32 st.c, .int .u32 st.d, .int .u32 st.e, .int .u32 st.f, .int .u32 st.g, .int .u32 st.h] 108) = w5 at hS hB4 hD4 hC4 ⊢
          have HS := Lib.hid hS
          have HB4 := Lib.hid hB4
          have HD4 := Lib.hid hD4
          have HC4 := Lib.hid hC4
          clear hS hB4 hD4 hC4
          go_loopw [3] (fun v wj => ∃ (A : Option Addr) (n c : Nat) (r : List UInt8) (st' : Sha.St), v = .slice A n c ∧ n = r.length ∧ n ≤ c ∧ n ≤ 136 ∧ r.length % 64 = 0 ∧ st'.Ok ∧ Sha.run st' r = Sha.run st es ∧ At wj S 108 (stV st') ∧
              (0 < n → ∃ off, A = some ⟨g', off, none⟩ ∧ ∀ j (h : j < r.length), wj.cell? ⟨g', off + j, none⟩ = some (.int .u8 (r[j].toNat : Int))) ∧ Below w.heap.size w wj ∧ At wj D 24 (List.replicate 32 (.int .u8 0))) (fun v _ => sliceLen v)
          case atStart => exact ⟨_, _, _, es, st, rfl, HEL.out.symm, hcc, by omega, hes64, HOK.out, rfl, HS.out, fun _ => ⟨0, rfl, HC4.out⟩, HB4.out, HD4.out⟩
          case round =>
            obtain ⟨A, n, c, r, st', rfl, hn, hnc, hn136, hr64, hok', hrun', hS, hC, hB, hD⟩ := hrel
            clear HS HB4 HD4 HC4
            by_cases hpos : 0 < n
            · obtain ⟨off, rfl, hcell⟩ := hC hpos
              have hn64 : 64 ≤ n := by omega
              have ht64 : (r.take 64).length = 64 := by rw [List.length_take]; omega
              have hbk := run_convert_bytes_back (P := Tryd.prog) wr 70 9 5 ⟨g', off, none⟩ c (r.take 64) Tryd.underlying70 Tryd.underlying5 Tryd.underlying9 (by
                intro j hj
                have hj2 : j < r.length := by rw [List.length_take] at hj; omega
                have e : (⟨g', off, none⟩ : Addr).add j = ⟨g', off + j, none⟩ := by unfold Addr.add; split <;> simp_all
                rw [e, hcell j hj2, List.getElem_take])
              rw [ht64] at hbk
              have H64 := Lib.hid ht64
              have HRN := Lib.hid (And.intro hn (And.intro hr64 hrun'))
              have HS2 := Lib.hid hS
              have HB2 := Lib.hid hB
              have HD2 := Lib.hid hD
              have HC2 := Lib.hid hcell
              have i64 : (64 : Int) ≤ (n : Int) := by omega
              clear hn hr64 hrun' hS hB hD hC hcell ht64
              have hwr : Tab wr 0 (u32s Sha.words) := HW.out.below HB2.out HW.out.lt
              have HWR := Lib.hid hwr
              clear hwr
              go_wp2_with fail
              refine (mix_any ⟨(r.take 64).toArray⟩ (by simpa [ByteArray.size] using H64.out) st' hok' S 108 [] _ (by simpa using HS2.out) HWR.out).mono ?_
              rintro e w3 ⟨rfl, hat3, hg3⟩
              have HA3 := Lib.hid hat3
              have HG3 := Lib.hid hg3
              clear hat3 hg3 hbk
              go_wp2_with fail
              go_roundw
              case rel =>
                have hn := HRN.out.1
                have hr64 := HRN.out.2.1
                refine ⟨_, n - 64, _, r.drop 64, Sha.mix st' (r.take 64), rfl, by rw [List.length_drop]; omega, by omega, by omega, by rw [List.length_drop]; omega, Sha.sum_ok _ _, ?_, by simpa using HA3.out, ?_, Below.ofGrown HB2.out HG3.out HB2.out.size hwS, HD2.out.grown HG3.out (by intro e; injection e; omega)⟩
                · rw [← HRN.out.2.2, Sha.run_step st' r (by omega)]
                · intro hp2
                  refine ⟨off + 64, ?_, ?_⟩
                  · have hc2 : ¬ c = 64 := by omega
                    simp [hc2]
                  · intro j hj
                    rw [List.length_drop] at hj
                    rw [World.cell?_of_block (w := wr) (HG3.out.block g' (by have := HS2.out.lt; omega) (by intro e; injection e; omega)), Nat.add_assoc, HC2.out (64 + j) (by omega), List.getElem_drop]
              case measure => simp [sliceLen]; omega
            · have hn0 : n = 0 := by omega
              have hr0 : r = [] := List.eq_nil_of_length_eq_zero (by omega)
              subst hr0
              have hfin : st' = (Sha.run Sha.begun (msg ++ Sha.pad msg.length)).1 := by
                rw [HE.out.2.2.2, ← hrun', Sha.run_end _ _ (by simp)]
              have HF := Lib.hid hfin
              have HS2 := Lib.hid hS
              have HB2 := Lib.hid hB
              have HD2 := Lib.hid hD
              have hl : (Tryd.prog.info? 24).map (·.size) = some (u8s (Sha.sha msg)).length := by rw [u8s_length, Sha.sha, digest_length]; kernel_rfl
              have HI := Lib.hid hl
              clear hfin hS hB hD hl hn hrun' hr64 hC
              go_wp2_with fail
              refine (digest_any st' S 108 [] _ (by simpa using HS2.out)).mono ?_
              rintro e w3 ⟨rfl, hb3⟩
              have HD3 := HD2.out.below hb3 HD2.out.lt
              have HB3 := Lib.hid (HB2.out.trans (hb3.mono HB2.out.size))
              have hsha : dgV (Sha.digest st') = .agg (u8s (Sha.sha msg)).toArray := by rw [HF.out]; rfl
              rw [hsha]
              clear hb3
              go_wp2_with (with_reducible refine wpList_storeAll rfl 24 (.tmp 2) (.tmp 54) rfl _ rfl _ _ _ HD3 rfl ?_ HI.out (u8s_oneCell _) ?_; (focus (rw [u8s_length, Sha.sha, digest_length, List.length_replicate])); intro w4 hat4 hg4 hs4)
              refine ret_cellAll rfl rfl D _ _ _ rfl hat4 Tryd.underlying24 rfl HI.out ⟨rfl, ?_⟩
              exact Below.ofGrown HB3.out hg4 HB3.out.size (by rw [HDe.out]; exact Nat.le_refl _)

end Go.Proofs.YtefbllhpibfojaaDoor

namespace Go.Proofs.YtefbllhpibfojaaDoor
open Go.RowKit

theorem press_new {w : World} {p : Nat} (h : At w p 111 (stV Sha.begun ++ [.string ByteArray.empty, .int .i64 0])) : PressAt w p [] := ⟨ByteArray.empty, rfl, h⟩
theorem strs_keep {w w' : World} {A : Option Addr} {ss : List ByteArray} {p p' : Nat} (h : StrsAt w A ss p) (hb : Below w.heap.size w w') (hp : w.heap.size ≤ p') : StrsAt w' A ss p' := fun h0 => by
  obtain ⟨ad, rfl, _, hlt, hc⟩ := h h0
  refine ⟨ad, rfl, by omega, Nat.lt_of_lt_of_le hlt hb.size, fun i hi => ?_⟩
  have hbk : (ad.add i).block = ad.block := by unfold Addr.add; split <;> rfl
  rw [hb.cell (by rw [hbk]; exact hlt)]
  exact hc i hi

theorem of_any (A : Option Addr) (c : Nat) (ss : List ByteArray) (w : World) (hs : StrsAt w A ss w.heap.size) (hlen : (flat ss).length < 1152921504606846976) (hn : ss.length < 4611686018427387904)
    (hw : Tab w 0 (u32s Sha.words)) :
    Calls Tryd.prog 19 #[.slice A ss.length c] w fun e w' => e = .returned (dgV (Sha.sha (flat ss))) ∧ Below w.heap.size w w' := by
  have HS := Lib.hid hs
  have HW := Lib.hid hw
  clear hs hw
  go_enter Tryd.func19, Tryd.ntmps19
  go_wp2_with fail
  have hD : At (w.alloc (.cells #[.int .u8 0, .int .u8 0, .int .u8 0, .int .u8 0, .int .u8 0, .int .u8 0, .int .u8 0, .int .u8 0, .int .u8 0, .int .u8 0, .int .u8 0, .int .u8 0, .int .u8 0, .int .u8 0, .int .u8 0, .int .u8 0, .int .u8 0, .int .u8 0, .int .u8 0, .int .u8 0, .int .u8 0, .int .u8 0, .int .u8 0, .int .u8 0, .int .u8 0, .int .u8 0, .int .u8 0, .int .u8 0, .int .u8 0, .int .u8 0, .int .u8 0, .int .u8 0] 24)) w.heap.size 24 (List.replicate 32 (.int .u8 0)) := At.newA _ _ rfl
  have hB1 : Below w.heap.size w (w.alloc (.cells #[.int .u8 0, .int .u8 0, .int .u8 0, .int .u8 0, .int .u8 0, .int .u8 0, .int .u8 0, .int .u8 0, .int .u8 0, .int .u8 0, .int .u8 0, .int .u8 0, .int .u8 0, .int .u8 0, .int .u8 0, .int .u8 0, .int .u8 0, .int .u8 0, .int .u8 0, .int .u8 0, .int .u8 0, .int .u8 0, .int .u8 0, .int .u8 0, .int .u8 0, .int .u8 0, .int .u8 0, .int .u8 0, .int .u8 0, .int .u8 0, .int .u8 0, .int .u8 0] 24)) := (Below.refl _ _).alloc (Nat.le_refl _) _
  generalize w.alloc (.cells #[.int .u8 0, .int .u8 0, .int .u8 0, .int .u8 0, .int .u8 0, .int .u8 0, .int .u8 0, .int .u8 0, .int .u8 0, .int .u8 0, .int .u8 0, .int .u8 0, .int .u8 0, .int .u8 0, .int .u8 0, .int .u8 0, .int .u8 0, .int .u8 0, .int .u8 0, .int .u8 0, .int .u8 0, .int .u8 0, .int .u8 0, .int .u8 0, .int .u8 0, .int .u8 0, .int .u8 0, .int .u8 0, .int .u8 0, .int .u8 0, .int .u8 0, .int .u8 0] 24) = w1 at hD hB1 ⊢
  refine (new_any _).mono ?_
  rintro e w2 ⟨p, rfl, hp, hat, hb⟩
  have hB2 := hB1.trans (hb.mono hB1.size)
  have hD2 := hD.below hb hD.lt
  have hp2 : w.heap.size ≤ p := Nat.le_trans hB1.size hp
  have hDp : w.heap.size ≠ p := by have := hD.lt; omega
  have hw2 : Tab w2 0 (u32s Sha.words) := HW.out.below hB2 HW.out.lt
  have hwlt := HW.out.lt
  clear hD hB1 hb
  go_wp2_with fail
  refine (add_any p [] A c ss _ (press_new hat) (strs_keep HS.out hB2 hp2) (by simp; omega) hn hw2 (by omega)).mono ?_
  rintro e w3 ⟨rfl, hpr, hg⟩
  rw [List.nil_append] at hpr
  have hB3 := Below.ofGrown hB2 hg hB2.size hp2
  have hD3 := hD2.grown hg (by intro e; injection e; omega)
  have hw3 : Tab w3 0 (u32s Sha.words) := HW.out.below hB3 HW.out.lt
  clear hB2 hD2 hg hat
  go_wp2_with fail
  refine (sum_any p (flat ss) _ hpr hlen hw3).mono ?_
  rintro e w4 ⟨rfl, hb4⟩
  have hB4 := hB3.trans (hb4.mono hB3.size)
  have hD4 := hD3.below hb4 hD3.lt
  have HI := Lib.hid (show (Tryd.prog.info? 24).map (·.size) = some (u8s (Sha.sha (flat ss))).length by rw [u8s_length, Sha.sha, digest_length]; kernel_rfl)
  have HB := Lib.hid hB4
  clear hB3 hD3 hb4 hpr hB4 hw2 hw3
  unfold dgV
  go_wp2_with (with_reducible refine wpList_storeAll rfl 24 (.tmp 2) (.tmp 6) rfl _ rfl _ _ _ hD4 rfl ?_ HI.out (u8s_oneCell _) ?_; (focus (rw [u8s_length, Sha.sha, digest_length, List.length_replicate])); intro w4 hat4 hg4 hs4)
  refine ret_cellAll rfl rfl w.heap.size _ _ _ rfl hat4 Tryd.underlying24 rfl HI.out ⟨rfl, ?_⟩
  exact Below.ofGrown HB.out hg4 HB.out.size (Nat.le_refl _)
end Go.Proofs.YtefbllhpibfojaaDoor

namespace Go.Proofs.YtefbllhpibfojaaDoor
open Go.RowKit

theorem bld_size : (Tryd.prog.info? 99).map (·.size) = some 2 := by kernel_rfl
theorem bld_info_u8 : (Tryd.prog.info? 5).map (fun i => (i.zero, i.size, i.bytes)) = some (some (.int .u8 0), 1, 1) := by kernel_rfl
theorem bld_lies : liesAt Tryd.prog Tryd.prog.depth 99 (2 / Tryd.prog.cellsOf 99) 0 99 1 = true := by kernel_rfl

set_option maxHeartbeats 1000000 in
set_option maxRecDepth 100000 in
theorem bld_check_used (b : Nat) (w : World) (h0 : w.cell? ⟨b, 0, none⟩ = some (.pointer (some ⟨b, 0, none⟩))) :
    Calls Tryd.prog 91 #[.pointer (some ⟨b, 0, none⟩)] w fun e w' => e = .returned (.tuple #[]) ∧ w' = w := by
  obtain ⟨j, hj, _⟩ := Option.map_eq_some_iff.1 bld_size
  go_enter Tryd.func91, Tryd.ntmps91
  go_wp2
  rw [Lib.run_neq_ptr_same w _ Tryd.underlying97 hj]
  go_wp2
  go_end0
  exact ⟨rfl, rfl⟩

set_option maxHeartbeats 1000000 in
set_option maxRecDepth 100000 in
theorem bld_check_fresh (b : Nat) (w : World) (h0 : w.cell? ⟨b, 0, none⟩ = some (.pointer none)) (hsh : w.shape? b = some (99, 2)) (hfz : w.frozen? ⟨b, 0, none⟩ = false) :
    Calls Tryd.prog 91 #[.pointer (some ⟨b, 0, none⟩)] w fun e w' => e = .returned (.tuple #[]) ∧ w' = w.setCell ⟨b, 0, none⟩ (.pointer (some ⟨b, 0, none⟩)) := by
  obtain ⟨j, hj, hjs⟩ := Option.map_eq_some_iff.1 bld_size
  have e1 := Lib.run_to_unsafe (P := Tryd.prog) w ⟨b, 0, none⟩ Tryd.underlying97 Tryd.underlying129 hj (by rw [hjs]; decide) hsh (Nat.zero_lt_succ 1)
  have e2 := Lib.run_from_unsafe (P := Tryd.prog) w ⟨b, 0, none⟩ Tryd.underlying129 Tryd.underlying97 hj hsh bld_lies
  clear hj hjs
  go_enter Tryd.func91, Tryd.ntmps91
  go_wp2
  rw [run_callFunc_extern Tryd.func99 (by kernel_rfl) (by kernel_rfl) (by kernel_rfl) (e := Extern.AbiNoEscape.same) (by kernel_rfl)]
  rw [Lib.run_noEscape]
  simp only [Result.andThen]
  rw [Oper.upon_value]
  go_wp2
  go_end0
  exact ⟨rfl, rfl⟩

/-- a builder of the call's own, from block B on, that holds these bytes -/
def Bld (B b : Nat) (msg : List UInt8) (w : World) : Prop := Lib.IsBuilderF 99 5 B b (Lib.byteCells msg) w

theorem bld_check (B b : Nat) (bs : List Value) (w : World) (h : Lib.IsBuilderF 99 5 B b bs w) :
    Calls Tryd.prog 91 #[.pointer (some ⟨b, 0, none⟩)] w fun e w' => e = .returned (.tuple #[]) ∧ (Lib.BuilderAtF 99 5 B b (.pointer (some ⟨b, 0, none⟩)) bs w' ∧ Below B w w') := by
  rcases h with h | h
  · refine (bld_check_fresh b w h.cell0 h.shape h.frozen0).mono ?_
    rintro e w' ⟨rfl, rfl⟩
    exact ⟨rfl, h.used _, (Below.refl B w).setCell h.1 _⟩
  · refine (bld_check_used b w h.cell0).mono ?_
    rintro e w' ⟨rfl, rfl⟩
    exact ⟨rfl, h, Below.refl B w'⟩

set_option maxHeartbeats 1000000 in
set_option maxRecDepth 100000 in
theorem bld_write (B b : Nat) (msg : List UInt8) (s : ByteArray) (w : World) (h : Bld B b msg w) (hlen : msg.length + s.size ≤ 140737488355328) (hBw : B ≤ w.heap.size) :
    Calls Tryd.prog 78 #[.pointer (some ⟨b, 0, none⟩), .string s] w fun e w' => e = .returned (.tuple #[.int .i64 s.size, .nilIface]) ∧ Bld B b (msg ++ s.data.toList) w' ∧ Below B w w' := by
  obtain ⟨i0, hi, hz0, hz1, hz2⟩ := info_parts bld_info_u8
  have hl : (Lib.byteCells msg).length = msg.length := Lib.byteCells_length msg
  go_enter Tryd.func78, Tryd.ntmps78
  go_wp2_with fail
  refine (bld_check B b (Lib.byteCells msg) _ h).mono ?_
  rintro e w1 ⟨rfl, h1, hb1⟩
  obtain ⟨hB, v, hbk, hown, hne⟩ := h1
  have c0 : w1.cell? ⟨b, 0, none⟩ = some (.pointer (some ⟨b, 0, none⟩)) := by rw [Lib.cell_of_heap hbk]; rfl
  have c1 : w1.cell? ⟨b, 1, none⟩ = some v := by rw [Lib.cell_of_heap hbk]; rfl
  have hszb := hb1.size
  go_wp2_with (at_builtin; refine Lib.wpList_append_own_stringF _ rfl _ _ 70 9 rfl B 5 i0 Tryd.underlying70 Tryd.underlying9 hi hz0 hz1 hz2 _ _ _ rfl hown s rfl ?c3 ?c4 ?c5 ?_)
  case c3 => rw [hl]; unfold maxLen; omega
  case c4 => rw [hl]; omega
  case c5 => omega
  intro v' w2 hown' hgrow _
  have hlt : b < w1.heap.size := by
    rcases Nat.lt_or_ge b w1.heap.size with h' | h'
    · exact h'
    · simp [Array.getElem?_eq_none h'] at hbk
  have hb2 : w2.heap[b]? = some (.cells #[.pointer (some ⟨b, 0, none⟩), v] 99 (0, 0)) := by
    rw [hgrow.block b hlt (fun e => hne e.symm)]
    exact hbk
  have d0 : w2.cell? ⟨b, 0, none⟩ = some (.pointer (some ⟨b, 0, none⟩)) := by rw [Lib.cell_of_heap hb2]; rfl
  have d1 : w2.cell? ⟨b, 1, none⟩ = some v := by rw [Lib.cell_of_heap hb2]; rfl
  have f1 : w2.frozen? ⟨b, 1, none⟩ = false := Lib.frozen_of_heap hb2 1
  obtain ⟨ao, n', cap, rfl⟩ : ∃ ao n' cap, v' = .slice ao n' cap := by
    rcases hown'.2 with ⟨hv, _⟩ | ⟨g, cap, cur, fz, hv, _⟩
    · exact ⟨_, _, _, hv⟩
    · exact ⟨_, _, _, hv⟩
  go_wp2_with fail
  go_ret2
  refine ⟨rfl, .inr ?_, ?_⟩
  · refine Lib.BuilderAtF.put (T := 99) (e := 5) hB hb2 (bs' := Lib.byteCells (msg ++ s.data.toList)) ?_ (by decide)
    rw [Lib.byteCells_append]
    rw [Lib.strCells_eq] at hown'
    simpa [Lib.byteCells_length, bytes_length] using hown'
  · exact (hb1.grown hgrow (by omega) (fun k hk => (hown.lt k hk).1)).setCell (p := ⟨b, 1, none⟩) hB _

set_option maxHeartbeats 1000000 in
set_option maxRecDepth 100000 in
theorem bld_string (B b : Nat) (l : List UInt8) (w : World) (h : Bld B b l w) (h0 : l ≠ []) :
    Calls Tryd.prog 80 #[.pointer (some ⟨b, 0, none⟩)] w fun e w' => e = .returned (.string ⟨l.toArray⟩) ∧ Below B w w' := by
  obtain ⟨p, hAt⟩ : ∃ p, Lib.BuilderAtF 99 5 B b p (Lib.byteCells l) w := by
    rcases h with h | h
    · exact ⟨_, h⟩
    · exact ⟨_, h⟩
  obtain ⟨hB, v, hbk, hown, hne⟩ := hAt
  have hl0 : l.length ≠ 0 := by simpa using h0
  rw [Lib.byteCells_length] at hown
  obtain ⟨g, cap, cur, fz, rfl, hbg, hg, hfz, hnc, hcm, hcs, htake⟩ : ∃ g cap cur fz, v = .slice (some ⟨g, 0, none⟩) l.length cap ∧ B ≤ g ∧ w.heap[g]? = some (.cells cur 5 fz) ∧ fz.2 ≤ l.length * 1 ∧ l.length ≤ cap ∧ cap ≤ maxLen ∧ cur.size = cap * 1 ∧ cur.toList.take (l.length * 1) = Lib.byteCells l := by
    rcases hown.2 with ⟨_, hz⟩ | ⟨g, cap, cur, fz, hv, r⟩
    · exact absurd hz hl0
    · exact ⟨g, cap, cur, fz, hv, r⟩
  have c1 : w.drew.cell? ⟨b, 1, none⟩ = some (.slice (some ⟨g, 0, none⟩) l.length cap) := by
    have : w.drew.heap[b]? = some (.cells #[p, .slice (some ⟨g, 0, none⟩) l.length cap] 99 (0, 0)) := hbk
    rw [Lib.cell_of_heap this]; rfl
  have hSD : (Builtin.unsafeSliceData_ #[70] 119 #[.slice (some ⟨g, 0, none⟩) l.length cap]).run Tryd.prog w.drew = .ok (.pointer (some ⟨g, 0, none⟩)) w.drew :=
    Lib.run_unsafeSliceData_row _ _ _ _ _ _ (by omega)
  have hUS : (Builtin.unsafeString_ #[119, 3] 9 #[.pointer (some ⟨g, 0, none⟩), .int .i64 l.length]).run Tryd.prog w.drew = .ok (.string ⟨l.toArray⟩) (w.drew.freeze ⟨g, 0, none⟩ l.length) := by
    refine Lib.run_unsafeString_row w.drew 119 3 9 5 Tryd.underlying119 (by kernel_rfl) g cur.size (by have hg' : w.drew.heap[g]? = some (.cells cur 5 fz) := hg; simp [World.shape?, hg']) l h0 (by omega) (by unfold maxLen at hcm; omega) ?_
    intro j x hx
    have := hown.cells (g := g) rfl j (.int .u8 x.toNat) (by simp [Lib.byteCells, hx])
    exact this
  go_enter Tryd.func80, Tryd.ntmps80
  go_wp2
  go_region
  all_goals (go_wp2; go_ret; exact ⟨rfl, Lib.below_freeze (Below.drew (Below.refl B w)) (p := ⟨g, 0, none⟩) hbg _⟩)
end Go.Proofs.YtefbllhpibfojaaDoor

namespace Go.Proofs.YtefbllhpibfojaaDoor
open Go.RowKit

namespace Sap
/-- how many bytes a number takes -/
def width : Nat → Nat → Nat
  | 0, _ => 0
  | f + 1, m => if m = 0 then 0 else width f (m / 256) + 1
/-- a number without its sign -/
def mag (n : Int) : Nat := if n < 0 then (-1 - n).toNat else n.toNat
/-- a number's bytes -/
def num (n : Int) : List UInt8 := UInt8.ofNat ((if n < 0 then 128 else 0) + width 8 (mag n)) :: Sha.bytes (width 8 (mag n)) (mag n)
theorem width_le (f m : Nat) : width f m ≤ f := by
  induction f generalizing m with
  | zero => exact Nat.le_refl _
  | succ f ih =>
    simp only [width]
    split
    · omega
    · have := ih (m / 256); omega
theorem width_pos (f : Nat) : ∀ (m j : Nat), m < 256 ^ f → (j < width f m ↔ 0 < m / 256 ^ j) := by
  induction f with
  | zero => intro m j h; simp at h; subst h; simp [width]
  | succ f ih =>
    intro m j h
    simp only [width]
    split
    · rename_i h0; subst h0; simp
    · rename_i h0
      cases j with
      | zero => simp; omega
      | succ j =>
        have h1 : m / 256 < 256 ^ f := by rw [Nat.pow_succ] at h; omega
        have := ih (m / 256) j h1
        rw [Nat.pow_succ, Nat.mul_comm, ← Nat.div_div_eq_div_mul, ← this]
        omega
theorem bytes_snoc_head (j m : Nat) : Sha.bytes (j + 1) m = UInt8.ofNat (m / 256 ^ j % 256) :: Sha.bytes j m := rfl
theorem mag_lt (n : Int) (h1 : -9223372036854775808 ≤ n) (h2 : n ≤ 9223372036854775807) : mag n < 9223372036854775808 := by
  unfold mag; split <;> omega
end Sap
/-- the last j of eight bytes of a number, zeros ahead of them -/
def tailed (m j : Nat) : List Value := List.replicate (8 - j) (.int .u8 0) ++ u8s (Sha.bytes j m)
theorem tailed_set (m j : Nat) (hj : j < 8) (v : Value) (hv : v = .int .u8 ((m / 256 ^ j % 256 : Nat) : Int)) : (tailed m j).set (7 - j) v = tailed m (j + 1) := by
  subst hv
  unfold tailed
  rw [show 8 - j = (7 - j) + 1 from by omega, List.replicate_succ', List.append_assoc, List.set_append_right _ _ (by simp)]
  have h2 : (UInt8.ofNat (m / 256 ^ j % 256)).toNat = m / 256 ^ j % 256 := by simp
  simp [u8s, Sap.bytes_snoc_head, show 8 - (j + 1) = 7 - j from by omega]
theorem tailed_length (m j : Nat) (hj : j ≤ 8) : (tailed m j).length = 8 := by
  rw [tailed, List.length_append, List.length_replicate, u8s_length, Sha.bytes_length]
  omega
theorem tailed_drop (m j : Nat) : (tailed m j).drop (8 - j) = u8s (Sha.bytes j m) := by
  unfold tailed
  rw [List.drop_append_of_le_length (by simp)]
  simp
theorem i64_not (n : Int) (h1 : -9223372036854775808 ≤ n) (h2 : n ≤ 9223372036854775807) : bits .xor .i64 (-1) n = -1 - n := by
  show IntKind.i64.wrap ((BitVec.ofInt 64 (-1) ^^^ BitVec.ofInt 64 n).toNat : Int) = _
  have e : BitVec.ofInt 64 (-1) = BitVec.allOnes 64 := by decide
  rw [e, BitVec.allOnes_xor, BitVec.toNat_not, BitVec.toNat_ofInt, IntKind.wrap_i64]
  omega
theorem sign_or (j : Nat) (hj : j ≤ 8) : IntKind.u8.wrap (bits .or .i64 128 (j : Int)) = ((128 + j : Nat) : Int) ∧ IntKind.u8.wrap (bits .or .i64 0 (j : Int)) = (j : Int) := by
  have : ∀ j : Fin 9, IntKind.u8.wrap (bits .or .i64 128 (j.val : Int)) = ((128 + j.val : Nat) : Int) ∧ IntKind.u8.wrap (bits .or .i64 0 (j.val : Int)) = (j.val : Int) := by decide +kernel
  exact this ⟨j, by omega⟩

theorem conv_tail {W : World} {D m j a : Nat} (h : At W D 95 (tailed m j)) (ha : a + j = 8) :
    (convert 70 9 (.slice (some (if 8 = a then ⟨D, 0, none⟩ else ⟨D, a, none⟩)) (8 - a) (8 - a))).run Tryd.prog W = .ok (.string ⟨(Sha.bytes j m).toArray⟩) W := by
  have hl : (Sha.bytes j m).length = 8 - a := by rw [Sha.bytes_length]; omega
  have hc : ∀ i (hi : i < (Sha.bytes j m).length), W.cell? ((if 8 = a then (⟨D, 0, none⟩ : Addr) else ⟨D, a, none⟩).add i) = some (.int .u8 ((Sha.bytes j m)[i].toNat : Int)) := by
    intro i hi
    have ha8 : ¬ 8 = a := by omega
    rw [if_neg ha8]
    have e : (⟨D, a, none⟩ : Addr).add i = ⟨D, a + i, none⟩ := by unfold Addr.add; split <;> simp_all
    rw [e]
    refine h.cell' ?_
    have hd := tailed_drop m j
    rw [show 8 - j = a from by omega] at hd
    rw [← List.getElem?_drop, hd]
    simp [u8s, List.getElem?_eq_getElem (show i < (Sha.bytes j m).length by omega)]
  have hr := run_convert_bytes_back (P := Tryd.prog) W 70 9 5 _ (8 - a) (Sha.bytes j m) Tryd.underlying70 Tryd.underlying5 Tryd.underlying9 hc
  rw [hl] at hr
  exact hr
theorem str_cons (x : UInt8) (l : List UInt8) : (⟨#[x]⟩ : ByteArray) ++ ⟨l.toArray⟩ = ⟨(x :: l).toArray⟩ := by
  apply ByteArray.ext
  simp [ByteArray.data_append]
theorem conv_one {W : World} {b : Nat} (x : Nat) (y : Int) (hx : x < 256) (hy : y = (x : Int)) (h : W.cell? ⟨b, 0, none⟩ = some (.int .u8 y)) :
    (convert 70 9 (.slice (some ⟨b, 0, none⟩) 1 1)).run Tryd.prog W = .ok (.string ⟨[UInt8.ofNat x].toArray⟩) W := by
  subst hy
  refine run_convert_bytes_back (P := Tryd.prog) W 70 9 5 ⟨b, 0, none⟩ 1 [UInt8.ofNat x] Tryd.underlying70 Tryd.underlying5 Tryd.underlying9 fun i hi => ?_
  have hi0 : i = 0 := by simpa using hi
  subst hi0
  have h2 : (UInt8.ofNat x).toNat = x := by simp; omega
  simpa [Addr.add, h2] using h

set_option maxRecDepth 100000 in
set_option maxHeartbeats 1000000 in
theorem num_any (n : Int) (h1 : -9223372036854775808 ≤ n) (h2 : n ≤ 9223372036854775807) (w : World) :
    Calls Tryd.prog 45 #[.int .i64 n] w fun e w' => e = .returned (.string ⟨(Sap.num n).toArray⟩) ∧ Below w.heap.size w w' := by
  have hm := Sap.mag_lt n h1 h2
  obtain ⟨m, hme⟩ : ∃ m, m = Sap.mag n := ⟨_, rfl⟩
  rw [← hme] at hm
  have hD : At (w.alloc (.cells #[.int .u8 0, .int .u8 0, .int .u8 0, .int .u8 0, .int .u8 0, .int .u8 0, .int .u8 0, .int .u8 0] 95)) w.heap.size 95 (tailed m 0) := At.newA _ _ rfl
  have hB1 : Below w.heap.size w (w.alloc (.cells #[.int .u8 0, .int .u8 0, .int .u8 0, .int .u8 0, .int .u8 0, .int .u8 0, .int .u8 0, .int .u8 0] 95)) := (Below.refl _ _).alloc (Nat.le_refl _) _
  have HD := Lib.hid hD
  have HB1 := Lib.hid hB1
  clear hD hB1
  have H8 : Hid (∀ j, j < Sap.width 8 m ↔ 0 < m / 256 ^ j) := Lib.hid (fun j => Sap.width_pos 8 m j (by omega))
  have HW8 := Sap.width_le 8 m
  by_cases hneg : n < 0
  · have hmn : bits .xor .i64 (-1) n = (m : Int) := by
      rw [i64_not n h1 h2, hme]; unfold Sap.mag; rw [if_pos hneg]; omega
    have HME := Lib.hid hme
    clear hme
    go_enter Tryd.func45, Tryd.ntmps45
    go_wp2_with fail
    clear hmn
    go_loopw [0, 5] (fun x i wr => ∃ j a : Nat, j ≤ Sap.width 8 m ∧ a + j = 8 ∧ x = .int .i64 ((m / 256 ^ j : Nat) : Int) ∧ i = .int .i64 a ∧ At wr w.heap.size 95 (tailed m j) ∧ Below w.heap.size w wr) (fun _ i _ => (intOf i).toNat)
    case atStart => exact ⟨0, 8, by omega, rfl, by simp, rfl, HD.out, HB1.out⟩
    case round =>
      obtain ⟨j, a, hj, ha, rfl, rfl, hat, hb⟩ := hrel
      obtain ⟨q, hq⟩ : ∃ q, q = m / 256 ^ j := ⟨_, rfl⟩
      rw [← hq]
      have hpos : j < Sap.width 8 m ↔ 0 < q := by rw [hq]; exact H8.out j
      by_cases hlt : j < Sap.width 8 m
      · have hq0 : (0 : Int) < (q : Int) := by omega
        have hqm : q ≤ m := by rw [hq]; exact Nat.div_le_self _ _
        have i1 : (1 : Int) ≤ (a : Int) := by omega
        have i2 : (a : Int) ≤ 8 := by omega
        have hc := hat.cell' (i := a - 1) (v := .int .u8 0) (by
          unfold tailed
          rw [List.getElem?_append_left (by simp; omega), List.getElem?_replicate, if_pos (by omega)])
        have hf := hat.frozen (a - 1)
        have HA := Lib.hid hat
        have HB := Lib.hid hb
        have HQ := Lib.hid hq
        clear hat hb hq hpos
        go_wp2_with fail
        go_roundw
        case rel =>
          refine ⟨j + 1, a - 1, by omega, by omega, ?_, by go_num, ?_, HB.out.setCell (Nat.le_refl _) _⟩
          · rw [Nat.pow_succ, ← Nat.div_div_eq_div_mul, ← HQ.out]
            rfl
          · rw [← tailed_set m j (by omega) (.int .u8 ((q : Int) % 256)) (by rw [← HQ.out]; simp), show a - 1 = 7 - j from by omega]
            exact HA.out.set _ _
        case measure => simp [intOf]; omega
      · have hjw : j = Sap.width 8 m := by omega
        have hq0 : q = 0 := by omega
        have HA := Lib.hid hat
        have HB := Lib.hid hb
        have HQ := Lib.hid (And.intro hq hq0)
        have hq1 : (q : Int) ≤ 0 := by omega
        have i1 : (0 : Int) ≤ (a : Int) := by omega
        have i2 : (a : Int) ≤ 8 := by omega
        have hw1 : IntKind.i64.wrap (8 - (a : Int)) = (j : Int) := by rw [IntWalk.i64_in _ (by omega)]; omega
        have hor := (sign_or j (by omega)).1
        have HJ := Lib.hid hjw
        clear hat hb hq hpos hq0 hjw
        have hc6 := conv_one (W := (wr.alloc (.cells #[.int .u8 (128 + (j : Int))] 5)).drew) (b := wr.heap.size) (128 + j) (128 + (j : Int)) (by omega) (by omega) (by simp [go_sem])
        have hc9a := conv_tail HA.out.drew ha
        have hc9b := conv_tail (HA.out.alloc (.cells #[.int .u8 (128 + (j : Int))] 5)).drew ha
        have hnl : ¬ 9223372036854775807 < 1 + (Sha.bytes j m).length := by rw [Sha.bytes_length]; omega
        go_wp2_with fail
        go_region
        all_goals go_wp2_with fail
        all_goals
          go_ret
          refine ⟨?_, (HB.out.alloc (Nat.le_of_lt HA.out.lt) _).drew⟩
          have hnum : Sap.num n = (128 + UInt8.ofNat j) :: Sha.bytes j m := by
            rw [Sap.num, if_pos hneg, ← HME.out, ← HJ.out, UInt8.ofNat_add]
            rfl
          rw [hnum, ← str_cons]
          rfl
  · have hmn : n = (m : Int) := by rw [hme]; unfold Sap.mag; rw [if_neg hneg]; omega
    have HME := Lib.hid hme
    clear hme
    subst hmn
    go_enter Tryd.func45, Tryd.ntmps45
    go_wp2_with fail
    go_loopw [0, 5] (fun x i wr => ∃ j a : Nat, j ≤ Sap.width 8 m ∧ a + j = 8 ∧ x = .int .i64 ((m / 256 ^ j : Nat) : Int) ∧ i = .int .i64 a ∧ At wr w.heap.size 95 (tailed m j) ∧ Below w.heap.size w wr) (fun _ i _ => (intOf i).toNat)
    case atStart => exact ⟨0, 8, by omega, rfl, by simp, rfl, HD.out, HB1.out⟩
    case round =>
      obtain ⟨j, a, hj, ha, rfl, rfl, hat, hb⟩ := hrel
      obtain ⟨q, hq⟩ : ∃ q, q = m / 256 ^ j := ⟨_, rfl⟩
      rw [← hq]
      have hpos : j < Sap.width 8 m ↔ 0 < q := by rw [hq]; exact H8.out j
      by_cases hlt : j < Sap.width 8 m
      · have hq0 : (0 : Int) < (q : Int) := by omega
        have hqm : q ≤ m := by rw [hq]; exact Nat.div_le_self _ _
        have i1 : (1 : Int) ≤ (a : Int) := by omega
        have i2 : (a : Int) ≤ 8 := by omega
        have hc := hat.cell' (i := a - 1) (v := .int .u8 0) (by
          unfold tailed
          rw [List.getElem?_append_left (by simp; omega), List.getElem?_replicate, if_pos (by omega)])
        have hf := hat.frozen (a - 1)
        have HA := Lib.hid hat
        have HB := Lib.hid hb
        have HQ := Lib.hid hq
        clear hat hb hq hpos
        go_wp2_with fail
        go_roundw
        case rel =>
          refine ⟨j + 1, a - 1, by omega, by omega, ?_, by go_num, ?_, HB.out.setCell (Nat.le_refl _) _⟩
          · rw [Nat.pow_succ, ← Nat.div_div_eq_div_mul, ← HQ.out]
            rfl
          · rw [← tailed_set m j (by omega) (.int .u8 ((q : Int) % 256)) (by rw [← HQ.out]; simp), show a - 1 = 7 - j from by omega]
            exact HA.out.set _ _
        case measure => simp [intOf]; omega
      · have hjw : j = Sap.width 8 m := by omega
        have hq0 : q = 0 := by omega
        have HA := Lib.hid hat
        have HB := Lib.hid hb
        have HQ := Lib.hid (And.intro hq hq0)
        have hq1 : (q : Int) ≤ 0 := by omega
        have i1 : (0 : Int) ≤ (a : Int) := by omega
        have i2 : (a : Int) ≤ 8 := by omega
        have hw1 : IntKind.i64.wrap (8 - (a : Int)) = (j : Int) := by rw [IntWalk.i64_in _ (by omega)]; omega
        have hor := (sign_or j (by omega)).2
        have HJ := Lib.hid hjw
        clear hat hb hq hpos hq0 hjw
        have hc6 := conv_one (W := (wr.alloc (.cells #[.int .u8 (j : Int)] 5)).drew) (b := wr.heap.size) j (j : Int) (by omega) (by omega) (by simp [go_sem])
        have hc9a := conv_tail HA.out.drew ha
        have hc9b := conv_tail (HA.out.alloc (.cells #[.int .u8 (j : Int)] 5)).drew ha
        have hnl : ¬ 9223372036854775807 < 1 + (Sha.bytes j m).length := by rw [Sha.bytes_length]; omega
        go_wp2_with fail
        go_region
        all_goals go_wp2_with fail
        all_goals
          go_ret
          refine ⟨?_, (HB.out.alloc (Nat.le_of_lt HA.out.lt) _).drew⟩
          have hnum : Sap.num (m : Int) = UInt8.ofNat j :: Sha.bytes j m := by
            have hng : ¬ ((m : Int) < 0) := by omega
            rw [Sap.num, if_neg hng, ← HME.out, ← HJ.out, Nat.zero_add]
          rw [hnum, ← str_cons]
          rfl
end Go.Proofs.YtefbllhpibfojaaDoor

namespace Go.Proofs.YtefbllhpibfojaaDoor
open Go.RowKit

namespace Sap
def text (l : List UInt8) : List UInt8 := num l.length ++ l
def row (ls : List (List UInt8)) : List UInt8 := num ls.length ++ ls.flatMap text
theorem num_length (n : Int) : (num n).length ≤ 9 := by
  have := width_le 8 (mag n)
  simp [num, Sha.bytes_length]
  omega
theorem num_ne (n : Int) : num n ≠ [] := by simp [num]
end Sap
theorem str_append (l : List UInt8) (s : ByteArray) : (⟨l.toArray⟩ : ByteArray) ++ s = ⟨(l ++ s.data.toList).toArray⟩ := by
  apply ByteArray.ext
  simp [ByteArray.data_append]
theorem str_size (l : List UInt8) : (⟨l.toArray⟩ : ByteArray).size = l.length := by simp [ByteArray.size]

theorem text_any (s : ByteArray) (hs : s.size < 1152921504606846976) (w : World) :
    Calls Tryd.prog 79 #[.string s] w fun e w' => e = .returned (.string ⟨(Sap.text s.data.toList).toArray⟩) ∧ Below w.heap.size w w' := by
  go_enter Tryd.func79, Tryd.ntmps79
  go_wp2_with fail
  refine (num_any (s.size : Int) (by omega) (by omega) _).mono ?_
  rintro e w1 ⟨rfl, hb⟩
  obtain ⟨nb, hnb⟩ : ∃ nb, nb = Sap.num (s.size : Int) := ⟨_, rfl⟩
  have hl := Sap.num_length (s.size : Int)
  rw [← hnb] at hl ⊢
  have HN := Lib.hid hnb
  have hcat : ¬ 9223372036854775807 < nb.length + s.size := by omega
  clear hnb
  go_wp2_with fail
  go_ret
  refine ⟨?_, hb⟩
  rw [Sap.text, bytes_length, ← HN.out, ← str_append]
  rfl

theorem bld_below {B b : Nat} {msg : List UInt8} {w w' : World} (h : Bld B b msg w) (hb : Below w.heap.size w w') : Bld B b msg w' := by
  have key : ∀ p, Lib.BuilderAtF 99 5 B b p (Lib.byteCells msg) w → Lib.BuilderAtF 99 5 B b p (Lib.byteCells msg) w' := by
    intro p h
    have hlt := h.lt
    obtain ⟨hB, v, hbk, hown, hne⟩ := h
    refine ⟨hB, v, (hb.block b hlt).trans hbk, hown.kept (row := none) ⟨hb.os, hb.tape, hb.output, hb.size, fun i hi _ => hb.block i hi⟩ ?_, hne⟩
    cases v.ownBlock <;> simp
  rcases h with h | h
  · exact .inl (key _ h)
  · exact .inr (key _ h)
theorem bld_new (w : World) : Bld w.heap.size w.heap.size [] (w.alloc (.cells #[.pointer none, .slice none 0 0] 99)) :=
  Lib.IsBuilderF.of (Lib.fresh_isBuilder 99 5 w)
def lists (ss : List ByteArray) : List (List UInt8) := ss.map fun s => s.data.toList

theorem text_length (l : List UInt8) : (Sap.text l).length ≤ 9 + l.length := by
  have := Sap.num_length (l.length : Int)
  rw [Sap.text, List.length_append]
  omega
theorem texts_length (ss : List ByteArray) : ((lists ss).flatMap Sap.text).length ≤ 9 * ss.length + (flat ss).length := by
  induction ss with
  | nil => simp [lists, flat]
  | cons s ss ih =>
    have := text_length s.data.toList
    simp only [lists, flat, List.map_cons, List.flatMap_cons, List.length_append, List.length_cons] at ih ⊢
    omega
theorem flat_take (ss : List ByteArray) (k : Nat) : (flat (ss.take k)).length ≤ (flat ss).length := by
  conv => rhs; rw [← List.take_append_drop k ss]
  simp only [flat, List.flatMap_append, List.length_append]
  omega

set_option maxRecDepth 100000 in
set_option maxHeartbeats 1000000 in
theorem saprow_any (A : Option Addr) (c : Nat) (ss : List ByteArray) (w : World) (hs : StrsAt w A ss w.heap.size) (hlen : (flat ss).length < 1099511627776) (hn : ss.length < 1099511627776) :
    Calls Tryd.prog 48 #[.slice A ss.length c] w fun e w' => e = .returned (.string ⟨(Sap.row (lists ss)).toArray⟩) ∧ Below w.heap.size w w' := by
  have HS := Lib.hid hs
  have HN := Lib.hid hlen
  clear hs hlen
  have hbld := bld_new w
  have hB1 : Below w.heap.size w (w.alloc (.cells #[.pointer none, .slice none 0 0] 99)) := (Below.refl _ _).alloc (Nat.le_refl _) _
  go_enter Tryd.func48, Tryd.ntmps48
  go_wp2_with fail
  generalize w.alloc (.cells #[.pointer none, .slice none 0 0] 99) = w1 at hbld hB1 ⊢
  refine (num_any (ss.length : Int) (by omega) (by omega) _).mono ?_
  rintro e w2 ⟨rfl, hb2⟩
  have hbld2 := bld_below hbld hb2
  have hB2 := hB1.trans (hb2.mono hB1.size)
  have hnl := Sap.num_length (ss.length : Int)
  clear hbld hB1 hb2
  go_wp2_with fail
  refine (bld_write w.heap.size w.heap.size [] ⟨(Sap.num (ss.length : Int)).toArray⟩ _ hbld2 (by rw [str_size]; simp; omega) hB2.size).mono ?_
  rintro e w3 ⟨rfl, hbld3, hb3⟩
  rw [List.nil_append] at hbld3
  have HD := Lib.hid hbld3
  have HB := Lib.hid (hB2.trans hb3)
  clear hbld2 hB2 hbld3 hb3
  go_wp2_with fail
  go_loopw [12] (fun i wr => ∃ k : Nat, k ≤ ss.length ∧ i = .int .i64 k ∧ Bld w.heap.size w.heap.size (Sap.num (ss.length : Int) ++ (lists (ss.take k)).flatMap Sap.text) wr ∧ Below w.heap.size w wr) (fun i _ => ss.length - (intOf i).toNat)
  case atStart => exact ⟨0, by omega, rfl, by simpa [lists] using HD.out, HB.out⟩
  case round =>
    obtain ⟨k, hk, rfl, hbl, hb⟩ := hrel
    clear HD HB
    by_cases hlt : k < ss.length
    · obtain ⟨ad, rfl, hne, hltb, hcells⟩ := HS.out (by omega)
      have hc : wr.cell? (ad.add k) = some (.string ss[k]) := by
        have hbk : (ad.add k).block = ad.block := by unfold Addr.add; split <;> rfl
        rw [hb.cell (by rw [hbk]; exact hltb)]
        exact hcells k hlt
      obtain ⟨s, hs⟩ : ∃ s, s = ss[k] := ⟨_, rfl⟩
      rw [← hs] at hc
      have hsl : s.data.toList.length ≤ (flat ss).length := by
        have h1 := flat_take ss (k + 1)
        rw [take_snoc _ k hlt, ← hs] at h1
        simp [flat] at h1
        simp [flat]
        omega
      have hll := HN.out
      have hss : s.size < 1152921504606846976 := by rw [bytes_length] at hsl; omega
      have hml : (Sap.num (ss.length : Int) ++ (lists (ss.take k)).flatMap Sap.text).length + (Sap.text s.data.toList).length ≤ 140737488355328 := by
        have h1 := Sap.num_length (ss.length : Int)
        have h2 := texts_length (ss.take k)
        have h3 := flat_take ss k
        have h4 := text_length s.data.toList
        rw [List.length_append]
        rw [List.length_take] at h2
        omega
      have HS2 := Lib.hid hs
      have HD := Lib.hid hbl
      have HB := Lib.hid hb
      have HM := Lib.hid hml
      clear hs hbl hb hcells hml hsl hll
      go_wp2_with fail
      refine (text_any s hss _).mono ?_
      rintro e w2 ⟨rfl, hb2⟩
      have HD2 := Lib.hid (bld_below HD.out hb2)
      have HB2 := Lib.hid (HB.out.trans (hb2.mono HB.out.size))
      clear hb2
      go_wp2_with fail
      refine (bld_write w.heap.size w.heap.size _ ⟨(Sap.text s.data.toList).toArray⟩ _ HD2.out (by rw [str_size]; exact HM.out) HB2.out.size).mono ?_
      rintro e w3 ⟨rfl, hbld3, hb3⟩
      have HD3 := Lib.hid hbld3
      have HB3 := Lib.hid (HB2.out.trans hb3)
      clear hbld3 hb3
      go_wp2_with fail
      go_roundw
      case rel =>
        refine ⟨k + 1, by omega, by go_num, ?_, HB3.out⟩
        have h := HD3.out
        have e : lists (ss.take (k + 1)) = lists (ss.take k) ++ [s.data.toList] := by
          rw [take_snoc _ k hlt, ← HS2.out]
          simp [lists]
        rw [e, List.flatMap_append, ← List.append_assoc]
        simpa using h
      case measure => simp [intOf]; omega
    · have hk2 : k = ss.length := by omega
      have HD := Lib.hid hbl
      have HB := Lib.hid hb
      clear hbl hb
      go_wp2_with fail
      refine (bld_string w.heap.size w.heap.size _ _ HD.out (by simp [Sap.num_ne])).mono ?_
      rintro e w2 ⟨rfl, hb2⟩
      have HB2 := Lib.hid (HB.out.trans hb2)
      clear hb2
      go_wp2_with fail
      go_ret
      refine ⟨?_, HB2.out⟩
      have e : (lists ss).length = ss.length := by simp [lists]
      rw [Sap.row, e]
      rfl
end Go.Proofs.YtefbllhpibfojaaDoor

namespace Go.Proofs.YtefbllhpibfojaaDoor
open Go.RowKit

def sha1 (l : List UInt8) : List UInt8 := Sha.sha l
theorem sap_row_length (ss : List ByteArray) : (Sap.row (lists ss)).length ≤ 9 + 9 * ss.length + (flat ss).length := by
  have h1 := Sap.num_length ((lists ss).length : Int)
  have h2 := texts_length ss
  rw [Sap.row, List.length_append]
  omega
theorem one_str (w : World) (s : ByteArray) (p : Nat) (hp : w.heap.size ≠ p) : StrsAt (w.alloc (.cells #[.string s] 9)) (some ⟨w.heap.size, 0, none⟩) [s] p := fun _ =>
  ⟨_, rfl, hp, by simp, fun i hi => by
    have hi0 : i = 0 := by simpa using hi
    subst hi0
    simp [Addr.add, World.cell?, World.alloc, -World.alloc_eq]⟩

theorem row_any (A : Option Addr) (c : Nat) (ss : List ByteArray) (w : World) (hs : StrsAt w A ss w.heap.size) (hlen : (flat ss).length < 1099511627776) (hn : ss.length < 1099511627776)
    (hw : Tab w 0 (u32s Sha.words)) :
    Calls Tryd.prog 43 #[.slice A ss.length c] w fun e w' => e = .returned (dgV (Sha.sha (Sap.row (lists ss)))) ∧ Below w.heap.size w w' := by
  have HS := Lib.hid hs
  have HW := Lib.hid hw
  clear hs hw
  have hD : At (w.alloc (.cells #[.int .u8 0, .int .u8 0, .int .u8 0, .int .u8 0, .int .u8 0, .int .u8 0, .int .u8 0, .int .u8 0, .int .u8 0, .int .u8 0, .int .u8 0, .int .u8 0, .int .u8 0, .int .u8 0, .int .u8 0, .int .u8 0, .int .u8 0, .int .u8 0, .int .u8 0, .int .u8 0, .int .u8 0, .int .u8 0, .int .u8 0, .int .u8 0, .int .u8 0, .int .u8 0, .int .u8 0, .int .u8 0, .int .u8 0, .int .u8 0, .int .u8 0, .int .u8 0] 24)) w.heap.size 24 (List.replicate 32 (.int .u8 0)) := At.newA _ _ rfl
  have hB1 : Below w.heap.size w (w.alloc (.cells #[.int .u8 0, .int .u8 0, .int .u8 0, .int .u8 0, .int .u8 0, .int .u8 0, .int .u8 0, .int .u8 0, .int .u8 0, .int .u8 0, .int .u8 0, .int .u8 0, .int .u8 0, .int .u8 0, .int .u8 0, .int .u8 0, .int .u8 0, .int .u8 0, .int .u8 0, .int .u8 0, .int .u8 0, .int .u8 0, .int .u8 0, .int .u8 0, .int .u8 0, .int .u8 0, .int .u8 0, .int .u8 0, .int .u8 0, .int .u8 0, .int .u8 0, .int .u8 0] 24)) := (Below.refl _ _).alloc (Nat.le_refl _) _
  go_enter Tryd.func43, Tryd.ntmps43
  go_wp2_with fail
  generalize w.alloc (.cells #[.int .u8 0, .int .u8 0, .int .u8 0, .int .u8 0, .int .u8 0, .int .u8 0, .int .u8 0, .int .u8 0, .int .u8 0, .int .u8 0, .int .u8 0, .int .u8 0, .int .u8 0, .int .u8 0, .int .u8 0, .int .u8 0, .int .u8 0, .int .u8 0, .int .u8 0, .int .u8 0, .int .u8 0, .int .u8 0, .int .u8 0, .int .u8 0, .int .u8 0, .int .u8 0, .int .u8 0, .int .u8 0, .int .u8 0, .int .u8 0, .int .u8 0, .int .u8 0] 24) = w1 at hD hB1 ⊢
  have hs1 : StrsAt w1 A ss w1.heap.size := strs_keep HS.out hB1 hB1.size
  refine (saprow_any A c ss _ hs1 hlen hn).mono ?_
  rintro e w2 ⟨rfl, hb2⟩
  have hB2 := hB1.trans (hb2.mono hB1.size)
  have hD2 := hD.below hb2 hD.lt
  obtain ⟨rb, hrb⟩ : ∃ rb, rb = Sap.row (lists ss) := ⟨_, rfl⟩
  have hrl := sap_row_length ss
  rw [← hrb] at hrl ⊢
  have HRB := Lib.hid hrb
  clear hrb hD hB1 hs1 hb2
  go_wp2_with fail
  have hB3 := hB2.alloc hB2.size (.cells #[.string ⟨rb.toArray⟩] 9)
  have hD3 := hD2.alloc (.cells #[.string ⟨rb.toArray⟩] 9)
  have hst := one_str w2 ⟨rb.toArray⟩ (w2.alloc (.cells #[.string ⟨rb.toArray⟩] 9)).heap.size (by simp)
  have hw3 : Tab (w2.alloc (.cells #[.string ⟨rb.toArray⟩] 9)) 0 (u32s Sha.words) := HW.out.below hB3 HW.out.lt
  have hfl : flat [⟨rb.toArray⟩] = rb := by simp [flat]
  have hofc := of_any (some ⟨w2.heap.size, 0, none⟩) 1 [⟨rb.toArray⟩] _ hst (by rw [hfl]; omega) (by simp) hw3
  rw [hfl] at hofc
  refine hofc.mono ?_
  rintro e w4 ⟨rfl, hb4⟩
  have hB4 := hB3.trans (hb4.mono hB3.size)
  have hD4 := hD3.below hb4 hD3.lt
  have HI := Lib.hid (show (Tryd.prog.info? 24).map (·.size) = some (u8s (Sha.sha rb)).length by rw [u8s_length, Sha.sha, digest_length]; kernel_rfl)
  have HB := Lib.hid hB4
  clear hB3 hD3 hb4 hB4 hw3 hB2 hD2 hst hofc hfl
  unfold dgV
  go_wp2_with (with_reducible refine wpList_storeAll rfl 24 (.tmp 2) (.tmp 6) rfl _ rfl _ _ _ hD4 rfl ?_ HI.out (u8s_oneCell _) ?_; (focus (rw [u8s_length, Sha.sha, digest_length, List.length_replicate])); intro w5 hat5 hg5 hs5)
  refine ret_cellAll rfl rfl w.heap.size _ _ _ rfl hat5 Tryd.underlying24 rfl HI.out ⟨by rw [HRB.out]; rfl, ?_⟩
  exact Below.ofGrown HB.out hg5 HB.out.size (Nat.le_refl _)

theorem run_load_bytes {P : Program} (w : World) : ∀ (l : List UInt8) (a : Addr) (acc : ByteArray), (∀ j (h : j < l.length), w.cell? (a.add j) = some (.int .u8 (l[j].toNat : Int))) →
    (Extern.Bytes.loadBytes a l.length acc).run P w = .ok ⟨acc.data ++ l.toArray⟩ w
  | [], a, acc, _ => by simp [Extern.Bytes.loadBytes]
  | x :: l, a, acc, h => by
    have h0 := h 0 (by simp)
    have ha0 : a.add 0 = a := by simp [Addr.add]
    rw [ha0] at h0
    have ih := run_load_bytes (P := P) w l (a.add 1) (acc.push x) (fun j hj => by
      have := h (j + 1) (by simp; omega)
      have e : a.add (j + 1) = (a.add 1).add j := by
        unfold Addr.add
        by_cases hj0 : j = 0
        · simp [hj0]
        · simp [hj0, Nat.add_assoc, Nat.add_comm 1 j]
      rw [← e]
      simpa using this)
    simp only [List.length_cons, Extern.Bytes.loadBytes, Sem.run_bind, run_load, h0, Result.andThen_ok]
    simp
    rw [ih]
    simp [ByteArray.push]
theorem run_compare_slices {P : Program} (w : World) (A B : Addr) (ca cb : Nat) (la lb : List UInt8) (hA : ∀ j (h : j < la.length), w.cell? (A.add j) = some (.int .u8 (la[j].toNat : Int)))
    (hB : ∀ j (h : j < lb.length), w.cell? (B.add j) = some (.int .u8 (lb[j].toNat : Int))) :
    (Extern.BytealgCompare.compare #[.slice (some A) la.length ca, .slice (some B) lb.length cb]).run P w = .ok (.int .i64 (Lib.compareBytes la lb)) w := by
  change Sem.run P (do pure (goInt (Extern.BytealgCompare.cmp (← Extern.Bytes.bytesOf (.slice (some A) la.length ca)) (← Extern.Bytes.bytesOf (.slice (some B) lb.length cb))))) w = _
  simp only [Extern.Bytes.bytesOf, Sem.run_bind, run_load_bytes w la A _ hA, run_load_bytes w lb B _ hB, Sem.run_pure, Result.andThen_ok]
  rw [Lib.cmp_eq]
  simp [goInt]
set_option maxRecDepth 1000000 in
set_option maxHeartbeats 1000000 in
theorem compare_any (w : World) (A B : Addr) (ca cb na nb : Nat) (la lb : List UInt8) (hna : la.length = na) (hnb : lb.length = nb) (hA : ∀ j (h : j < la.length), w.cell? (A.add j) = some (.int .u8 (la[j].toNat : Int)))
    (hB : ∀ j (h : j < lb.length), w.cell? (B.add j) = some (.int .u8 (lb[j].toNat : Int))) :
    Calls Tryd.prog 57 #[.slice (some A) na ca, .slice (some B) nb cb] w fun e w' => e = .returned (.int .i64 (Lib.compareBytes la lb)) ∧ w' = w := by
  have hr := run_compare_slices (P := Tryd.prog) w A B ca cb la lb hA hB
  rw [hna, hnb] at hr
  clear hA hB hna hnb
  go_enter Tryd.func57, Tryd.ntmps57
  go_wp2
  rw [run_callFunc_extern Tryd.func85 (by kernel_rfl) (by kernel_rfl) (by kernel_rfl) (e := Extern.BytealgCompare.compare) (by kernel_rfl)]
  rw [hr]
  simp only [Result.andThen]
  rw [Oper.upon_value]
  go_wp2
  go_ret
  exact ⟨rfl, rfl⟩
/-- whether one digest is below another one -/
def lessB (a b : List UInt8) : Bool := decide (Lib.compareBytes a b < 0)

set_option maxRecDepth 100000 in
set_option maxHeartbeats 1000000 in
theorem less_any (a b : List UInt8) (ha : a.length = 32) (hb : b.length = 32) (w : World) :
    Calls Tryd.prog 21 #[dgV a, dgV b] w fun e w' => e = .returned (.bool (lessB a b)) ∧ Below w.heap.size w w' := by
  have h1 : At (w.alloc (.cells (u8s a).toArray 24)) w.heap.size 24 (u8s a) := At.new w _ _
  have h2 : At ((w.alloc (.cells (u8s a).toArray 24)).alloc (.cells (u8s b).toArray 24)) (w.heap.size + 1) 24 (u8s b) := by
    have := At.new (w.alloc (.cells (u8s a).toArray 24)) 24 (u8s b)
    simpa using this
  have h1' := h1.alloc (.cells (u8s b).toArray 24)
  have hB : Below w.heap.size w ((w.alloc (.cells (u8s a).toArray 24)).alloc (.cells (u8s b).toArray 24)) := ((Below.refl _ _).alloc (Nat.le_refl _) _).alloc (by simp) _
  have e : ∀ (g j : Nat), (⟨g, 0, none⟩ : Addr).add j = ⟨g, j, none⟩ := by intro g j; unfold Addr.add; split <;> simp_all
  have hcm : ∀ W, At W w.heap.size 24 (u8s a) → At W (w.heap.size + 1) 24 (u8s b) →
      Calls Tryd.prog 57 #[.slice (some ⟨w.heap.size, 0, none⟩) 32 32, .slice (some ⟨w.heap.size + 1, 0, none⟩) 32 32] W fun e w' => e = .returned (.int .i64 (Lib.compareBytes a b)) ∧ w' = W := by
    intro W hx hy
    refine compare_any W _ _ 32 32 32 32 a b ha hb ?_ ?_
    · intro j hj; rw [e]; exact hx.cell' (by simp [u8s, hj])
    · intro j hj; rw [e]; exact hy.cell' (by simp [u8s, hj])
  have HC := Lib.hid hcm
  have H1 := Lib.hid h1'
  have H2 := Lib.hid h2
  have HB := Lib.hid hB
  clear hcm h1 h2 h1' hB e
  unfold dgV
  go_enter Tryd.func21, Tryd.ntmps21
  go_wp2_with fail
  generalize (w.alloc (.cells (u8s a).toArray 24)).alloc (.cells (u8s b).toArray 24) = w2 at H1 H2 HB ⊢
  go_quiet ((go_at_call 57; exact Calls.quiet_of_same (HC.out _ H1.out H2.out)))
  go_wp2_with fail
  go_ret
  exact ⟨rfl, ⟨HB.out.os, HB.out.tape, HB.out.output, HB.out.size, HB.out.block⟩⟩
end Go.Proofs.YtefbllhpibfojaaDoor

namespace Go.Proofs.YtefbllhpibfojaaDoor
open Go.RowKit

theorem cmp_self (a : List UInt8) : Lib.compareBytes a a = 0 := by
  induction a with
  | nil => rfl
  | cons x a ih => simp [Lib.compareBytes, ih]
theorem cmp_swap (a : List UInt8) : ∀ b, Lib.compareBytes b a = - Lib.compareBytes a b := by
  induction a with
  | nil => intro b; cases b <;> rfl
  | cons x a ih =>
    intro b
    cases b with
    | nil => rfl
    | cons y b =>
      simp only [Lib.compareBytes]
      by_cases h1 : x < y
      · have h2 : ¬ y < x := by rw [UInt8.lt_iff_toNat_lt] at *; omega
        simp [h1, h2]
      · by_cases h2 : y < x
        · simp [h1, h2]
        · simp [h1, h2, ih b]
theorem cmp_eq0 (a : List UInt8) : ∀ b, Lib.compareBytes a b = 0 → a = b := by
  induction a with
  | nil => intro b h; cases b <;> simp [Lib.compareBytes] at h ⊢
  | cons x a ih =>
    intro b h
    cases b with
    | nil => simp [Lib.compareBytes] at h
    | cons y b =>
      simp only [Lib.compareBytes] at h
      by_cases h1 : x < y
      · simp [h1] at h
      · by_cases h2 : y < x
        · simp [h1, h2] at h
        · simp only [h1, h2, if_false] at h
          have hxy : x = y := by rw [UInt8.lt_iff_toNat_lt] at *; exact UInt8.toNat_inj.1 (by omega)
          rw [hxy, ih b h]
theorem cmp_trans (a : List UInt8) : ∀ b c, Lib.compareBytes a b < 0 → Lib.compareBytes b c < 0 → Lib.compareBytes a c < 0 := by
  induction a with
  | nil =>
    intro b c h1 h2
    cases c with
    | nil => cases b <;> simp [Lib.compareBytes] at h1 h2
    | cons z c => simp [Lib.compareBytes]
  | cons x a ih =>
    intro b c h1 h2
    cases b with
    | nil => simp [Lib.compareBytes] at h1
    | cons y b =>
      cases c with
      | nil => simp [Lib.compareBytes] at h2
      | cons z c =>
        simp only [Lib.compareBytes] at h1 h2 ⊢
        simp only [UInt8.lt_iff_toNat_lt] at h1 h2 ⊢
        by_cases p1 : x.toNat < y.toNat
        · by_cases p2 : y.toNat < z.toNat
          · simp [show x.toNat < z.toNat by omega]
          · by_cases p3 : z.toNat < y.toNat
            · simp [p2, p3] at h2
            · simp [show x.toNat < z.toNat by omega]
        · by_cases p1' : y.toNat < x.toNat
          · simp [p1, p1'] at h1
          · by_cases p2 : y.toNat < z.toNat
            · simp [show x.toNat < z.toNat by omega]
            · by_cases p3 : z.toNat < y.toNat
              · simp [p2, p3] at h2
              · simp only [p1, p1', p2, p3, if_false] at h1 h2
                simp only [show ¬ x.toNat < z.toNat by omega, show ¬ z.toNat < x.toNat by omega, if_false]
                exact ih b c h1 h2
theorem less_irrefl (a : List UInt8) : lessB a a = false := by simp [lessB, cmp_self]
theorem less_total (a b : List UInt8) (h : a ≠ b) : lessB a b = !lessB b a := by
  have h1 := cmp_swap a b
  have h2 : Lib.compareBytes a b ≠ 0 := fun e => h (cmp_eq0 a b e)
  unfold lessB
  rw [h1]
  by_cases h3 : Lib.compareBytes a b < 0
  · simp [h3]; omega
  · simp [h3]; omega
theorem less_trans (a b c : List UInt8) (h1 : lessB a b = true) (h2 : lessB b c = true) : lessB a c = true := by
  unfold lessB at *
  simp only [decide_eq_true_eq] at *
  exact cmp_trans a b c h1 h2
theorem range_below {w w' : World} {b o : Nat} {cs : List Value} {B : Nat} (h : w.rangeAt b o cs) (hb : Below B w w') (hlt : b < B) : w'.rangeAt b o cs := fun j v hv => (hb.cell (p := ⟨b, o + j, none⟩) hlt).trans (h j v hv)
end Go.Proofs.YtefbllhpibfojaaDoor

namespace Go.Proofs.YtefbllhpibfojaaDoor
open Go.RowKit

theorem run_forIn_all {P : Program} (w : World) (f : Nat → (Option Bool × Unit) → Sem (ForInStep (Option Bool × Unit))) (p : Nat → Bool) : ∀ (m k : Nat),
    (∀ i, k ≤ i → i < k + m → (f i (none, ())).run P w = .ok (if p i then .yield (none, ()) else .done (some false, ())) w) →
    (forIn (List.range' k m) (none, ()) f).run P w = .ok (if (List.range' k m).all p then (none, ()) else (some false, ())) w
  | 0, k, _ => by simp
  | m + 1, k, h => by
    have h0 := h k (Nat.le_refl _) (by omega)
    have ih := run_forIn_all w f p m (k + 1) (fun i h1 h2 => h i (by omega) (by omega))
    rw [List.range'_succ, List.forIn_cons]
    simp only [Sem.run_bind, h0, Result.andThen_ok, List.all_cons]
    by_cases hp : p k = true
    · simp only [hp, if_true, Bool.true_and]
      exact ih
    · simp only [hp, if_false, Bool.false_and, Bool.false_eq_true]
      rfl
theorem all_eq (la lb : List Int) (n : Nat) (ha : la.length = n) (hb : lb.length = n) : ((List.range' 0 n).all fun i => la.getD i 0 == lb.getD i 0) = (la == lb) := by
  rw [Bool.eq_iff_iff, List.all_eq_true, beq_iff_eq]
  constructor
  · intro h
    refine List.ext_getElem (by omega) fun i h1 h2 => ?_
    have := h i (by simp; omega)
    simpa [List.getD, h1, h2] using this
  · rintro rfl i _
    simp
theorem run_equalIn_arr {P : Program} (w : World) (d t e n : Nat) (kk : IntKind) (ht : P.underlying t = some (.array n e)) (he : P.underlying e = some (.int kk)) (hs : (P.info? e).map (·.size) = some 1)
    (la lb : List Int) (ha : la.length = n) (hb : lb.length = n) :
    (Op.equalIn (d + 2) t (.agg (la.map (Value.int kk)).toArray) (.agg (lb.map (Value.int kk)).toArray)).run P w = .ok (la == lb) w := by
  cases hq : P.info? e with
  | none => simp [hq] at hs
  | some j =>
    have hj : j.size = 1 := by simpa [hq] using hs
    have hp : ∀ (l : List Int) (i : Nat) (h : i < l.length), (part e (l.map (Value.int kk)).toArray i).run P w = .ok (.int kk l[i]) w := by
      intro l i h
      simp [part, isAgg, run_underlying he, h]
    simp only [Op.equalIn, Sem.run_bind, run_underlying ht, Result.andThen_ok]
    simp only [sizeOf, typeInfo]
    simp only [Std.Legacy.Range.forIn_eq_forIn_range', Std.Legacy.Range.size, Sem.run_bind, run_program, Result.andThen_ok, hq, Sem.run_pure, hj]
    rw [run_forIn_all w _ (fun i => la.getD i 0 == lb.getD i 0)]
    · rw [show (n - 0 + 1 - 1) / 1 = n from by omega, all_eq la lb n ha hb]
      by_cases hx : (la == lb) = true
      · simp [hx]
      · simp [hx]
    · intro i h1 h2
      have hia : i < la.length := by simp at h2; omega
      have hib : i < lb.length := by simp at h2; omega
      simp only [Nat.mul_one, Sem.run_bind, hp la i hia, hp lb i hib, Result.andThen_ok, run_underlying he, List.getD, List.getElem?_eq_getElem hia, List.getElem?_eq_getElem hib, Option.getD_some]
      simp
      by_cases hx : la[i] = lb[i] <;> simp [hx]
theorem dg_ints (a : List UInt8) : dgV a = .agg ((a.map fun b => (b.toNat : Int)).map (Value.int .u8)).toArray := by
  simp [dgV, u8s]
theorem ints_inj (a b : List UInt8) : ((a.map fun b => (b.toNat : Int)) == (b.map fun b => (b.toNat : Int))) = (a == b) := by
  rw [Bool.eq_iff_iff, beq_iff_eq, beq_iff_eq]
  constructor
  · intro h
    refine List.map_inj_right (f := fun b : UInt8 => (b.toNat : Int)) (fun x y hxy => ?_) |>.1 h
    have hxy2 : (x.toNat : Int) = (y.toNat : Int) := hxy
    exact UInt8.toNat_inj.1 (by omega)
  · rintro rfl; rfl
theorem run_eql_dg (w : World) (a b : List UInt8) (ha : a.length = 32) (hb : b.length = 32) : (binOp .eql 24 (dgV a) (dgV b)).run Tryd.prog w = .ok (.bool (a == b)) w := by
  rw [dg_ints, dg_ints]
  have h := run_equalIn_arr (P := Tryd.prog) w 9998 24 5 32 .u8 Tryd.underlying24 Tryd.underlying5 (by kernel_rfl) (a.map fun b => (b.toNat : Int)) (b.map fun b => (b.toNat : Int)) (by simpa using ha) (by simpa using hb)
  rw [ints_inj, show 9998 + 2 = 10000 from rfl] at h
  simp only [binOp, Op.equal, Op.maxDepth, Sem.run_bind, Sem.run_pure, h, Result.andThen_ok]
theorem run_neq_dg (w : World) (a b : List UInt8) (ha : a.length = 32) (hb : b.length = 32) : (binOp .neq 24 (dgV a) (dgV b)).run Tryd.prog w = .ok (.bool (!(a == b))) w := by
  rw [dg_ints, dg_ints]
  have h := run_equalIn_arr (P := Tryd.prog) w 9998 24 5 32 .u8 Tryd.underlying24 Tryd.underlying5 (by kernel_rfl) (a.map fun b => (b.toNat : Int)) (b.map fun b => (b.toNat : Int)) (by simpa using ha) (by simpa using hb)
  rw [ints_inj, show 9998 + 2 = 10000 from rfl] at h
  simp only [binOp, Op.equal, Op.maxDepth, Sem.run_bind, Sem.run_pure, h, Result.andThen_ok]
theorem run_eqGuard_dg (w : World) (op : BinOp) (x y : Operand) (a b : List UInt8) : (eqGuard op 24 x y (dgV a) (dgV b)).run Tryd.prog w = .ok () w :=
  run_eqGuard_agg w op 24 x y _ _ (by kernel_rfl)
end Go.Proofs.YtefbllhpibfojaaDoor
