/- Layer 2: texts come behind: what Add computes. -/
import Derived.Test.YtdfeiajdmmlllaaDoorStampD
import Derived.Test.YtdfeiajdmmlllaaDoorShaB
import Derived.Deep.RegionHeld3
namespace Go.Proofs.YtdfeiajdmmlllaaDoor
open Go.RowKit

/-- a press of the bytes of a text -/
def PressAt (w : World) (p : Nat) (msg : List UInt8) : Prop :=
  ∃ rs : ByteArray, rs.data.toList = (Sha.run Sha.begun msg).2 ∧ At w p 100 (stV (Sha.run Sha.begun msg).1 ++ [.string rs, .int .i64 msg.length])
/-- strings one behind the other -/
def flat (ss : List ByteArray) : List UInt8 := ss.flatMap fun s => s.data.toList
/-- the slice value holds these strings, in a block other than p -/
def StrsAt (w : World) (A : Option Addr) (ss : List ByteArray) (p : Nat) : Prop :=
  0 < ss.length → ∃ ad, A = some ad ∧ ad.block ≠ p ∧ ad.block < w.heap.size ∧ ∀ i (h : i < ss.length), w.cell? (ad.add i) = some (.string ss[i])

/-- how long the text is that doesn't fill a block yet -/
def restLen (w : World) (p : Nat) : Nat := match w.cell? ⟨p, 8, none⟩ with | some (.string r) => r.size | _ => 0
theorem restLen_of {w : World} {p : Nat} {r : ByteArray} (h : w.cell? ⟨p, 8, none⟩ = some (.string r)) : restLen w p = r.size := by simp [restLen, h]
theorem extract_take (r : ByteArray) (k : Nat) : (r.extract 0 k).data.toList = r.data.toList.take k := by
  simp [ByteArray.data_extract]
theorem extract_drop (r : ByteArray) (k : Nat) : (r.extract k r.size).data.toList = r.data.toList.drop k := by
  rw [ByteArray.data_extract, Array.toList_extract, List.extract_eq_take_drop, List.take_of_length_le (by rw [List.length_drop, bytes_length]; omega)]

set_option maxRecDepth 100000 in
set_option maxHeartbeats 4000000 in
theorem add_any (p : Nat) (msg : List UInt8) (A : Option Addr) (c : Nat) (ss : List ByteArray) (w : World) (hp : PressAt w p msg) (hs : StrsAt w A ss p) (hlen : msg.length + (flat ss).length < 4611686018427387904) (hn : ss.length < 4611686018427387904)
    (hw : Tab w 0 (u32s Sha.words)) (hp0 : p ≠ 0) :
    Calls Tryd.prog 42 #[.pointer (some ⟨p, 0, none⟩), .slice A ss.length c] w fun e w' => e = .returned (.pointer (some ⟨p, 0, none⟩)) ∧ PressAt w' p (msg ++ flat ss) ∧ w.grownBy w' (some p) := by
  have HP := Lib.hid hp
  have HS := Lib.hid hs
  have HW := Lib.hid hw
  have HN := Lib.hid hlen
  clear hp hs hw hlen
  go_enter Tryd.func42, Tryd.ntmps42
  go_wp2_with fail
  go_loopw [11] (fun i wr => ∃ k : Nat, k ≤ ss.length ∧ i = .int .i64 k ∧ PressAt wr p (msg ++ flat (ss.take k)) ∧ w.grownBy wr (some p)) (fun i _ => ss.length - (intOf i).toNat)
  case atStart => exact ⟨0, by omega, rfl, by simpa [flat] using HP.out, World.grownBy.refl w _⟩
  case round =>
    obtain ⟨k, hk, rfl, hpr, hg⟩ := hrel
    by_cases hlt : k < ss.length
    · obtain ⟨ad, rfl, hne, hltb, hcells⟩ := HS.out (by omega)
      have hc : wr.cell? (ad.add k) = some (.string ss[k]) := by
        have hbk : (ad.add k).block = ad.block := by unfold Addr.add; split <;> rfl
        rw [World.cell?_of_block (w := w) (hg.block _ (by rw [hbk]; exact hltb) (by rw [hbk]; intro e; injection e with e; exact hne e))]
        exact hcells k hlt
      obtain ⟨s, hs⟩ : ∃ s, s = ss[k] := ⟨_, rfl⟩
      rw [← hs] at hc
      obtain ⟨m1, hm1⟩ : ∃ m1, m1 = msg ++ flat (ss.take k) := ⟨_, rfl⟩
      rw [← hm1] at hpr
      obtain ⟨rs, hrs, hat⟩ := hpr
      obtain ⟨st, hst⟩ : ∃ st, st = (Sha.run Sha.begun m1).1 := ⟨_, rfl⟩
      rw [← hst] at hat
      have c8 := hat.cell' (i := 8) (v := .string rs) rfl
      have c9 := hat.cell' (i := 9) (v := .int .i64 m1.length) rfl
      have f8 := hat.frozen 8
      have f9 := hat.frozen 9
      have hfl : flat (ss.take (k + 1)) = flat (ss.take k) ++ s.data.toList := by rw [take_snoc _ k hlt, ← hs]; simp [flat]
      have hsum : m1.length + s.size < 4611686018427387904 := by
        have h1 : (flat (ss.take (k + 1))).length ≤ (flat ss).length := by
          conv => rhs; rw [← List.take_append_drop (k + 1) ss]
          simp only [flat, List.flatMap_append, List.length_append]
          omega
        have h2 := HN.out
        rw [hfl, List.length_append, bytes_length] at h1
        rw [hm1, List.length_append]
        omega
      have hr64 : rs.size < 64 := by
        have := Sha.run_rest m1.length Sha.begun m1 (Nat.le_refl _)
        rw [← hrs, bytes_length] at this
        exact this
      have hok : st.Ok := by rw [hst]; exact Sha.run_ok _ _ _ (Nat.le_refl _) Sha.begun_ok
      have HO := Lib.hid hok
      have HF := Lib.hid hfl
      clear hok hfl
      have HR := Lib.hid (And.intro hs (And.intro hm1 (And.intro hrs hst)))
      have HA := Lib.hid hat
      have HG := Lib.hid hg
      clear hs hm1 hrs hst hat hg hcells
      go_wp2_with fail
      have HA2 := Lib.hid ((HA.out.set 9 (.int .i64 ((m1.length : Int) + (s.size : Int)))).set 8 (.string (rs ++ s)))
      have HG2 : Hid (w.grownBy ((wr.setCell ⟨p, 9, none⟩ (.int .i64 ((m1.length : Int) + (s.size : Int)))).setCell ⟨p, 8, none⟩ (.string (rs ++ s))) (some p)) := Lib.hid (grown_setCell (grown_setCell HG.out (.inl rfl) _) (.inl rfl) _)
      clear HA HG c8 c9 f8 f9
      generalize (wr.setCell ⟨p, 9, none⟩ (.int .i64 ((m1.length : Int) + (s.size : Int)))).setCell ⟨p, 8, none⟩ (.string (rs ++ s)) = w2 at HA2 HG2 ⊢
      go_loopw [32] (fun _ wj => ∃ (st' : Sha.St) (r' : ByteArray), st'.Ok ∧ At wj p 100 (stV st' ++ [.string r', .int .i64 ((m1.length : Int) + (s.size : Int))]) ∧ Sha.run st' r'.data.toList = Sha.run Sha.begun (m1 ++ s.data.toList) ∧ w.grownBy wj (some p)) (fun _ wj => restLen wj p)
      case atStart =>
        refine ⟨st, rs ++ s, HO.out, HA2.out, ?_, HG2.out⟩
        have := Sha.run_append s.data.toList _ Sha.begun m1 (Nat.le_refl _)
        rw [this, ← HR.out.2.2.1, ← HR.out.2.2.2]
        simp [ByteArray.data_append]
      case round =>
        obtain ⟨st', r', hok', hat', hrun', hg'⟩ := hrel
        clear HA2 HG2
        have c8 := hat'.cell' (i := 8) (v := .string r') rfl
        have f8 := hat'.frozen 8
        have hmeas := restLen_of c8
        by_cases h64 : 64 ≤ r'.size
        · have i64 : (64 : Int) ≤ (r'.size : Int) := by omega
          have HA2 := Lib.hid hat'
          have HR2 := Lib.hid hrun'
          have HG2 := Lib.hid hg'
          have HM := Lib.hid hmeas
          clear hat' hrun' hg' hmeas
          have hw' : Tab wr.drew 0 (u32s Sha.words) := HW.out.grown (grown_drew HG2.out) (by intro e; injection e with e; exact hp0 e.symm)
          have HW2 := Lib.hid hw'
          clear hw'
          go_wp2_with fail
          go_region_held3 (fun w' => w'.cell? ⟨p, 8, none⟩ = some (.string r')) ((first | (simp [*]; done) | exact hat3.cell' rfl))
            ((go_at_call 64; (with_reducible refine (mix_any (r'.extract 0 64) ?_ st' hok' _ _ _ _ HA2.out.drew HW2.out).mono ?_); (focus (simp; omega)); rintro e w3 ⟨rfl, hat3, hg3⟩))
          have d8 := hat3.cell' (i := 8) (v := .string r') rfl
          have e8 := hat3.frozen 8
          have HA3 := Lib.hid hat3
          have HG3 := Lib.hid hg3
          clear hat3 hg3 c8 f8
          go_wp2_with fail
          go_roundw
          case rel =>
            refine ⟨Sha.mix st' (r'.extract 0 64).data.toList, r'.extract 64 r'.size, Sha.sum_ok _ _, HA3.out.set 8 _, ?_, grown_setCell (grown_trans (grown_drew HG2.out) HG3.out) (.inl rfl) _⟩
            rw [extract_take, extract_drop, ← Sha.run_step st' _ (by rw [bytes_length]; omega)]
            exact HR2.out
          case measure =>
            rw [HM.out, restLen_of (r := r'.extract 64 r'.size) ((HA3.out.set 8 (.string (r'.extract 64 r'.size))).cell' rfl)]
            simp
            omega
        · have hlt64 : r'.size < 64 := by omega
          have HA2 := Lib.hid hat'
          have HR2 := Lib.hid hrun'
          have HG2 := Lib.hid hg'
          clear hat' hrun' hg' hmeas
          go_wp2_with fail
          go_roundw
          case rel =>
            refine ⟨k + 1, by omega, by go_num, ⟨r', ?_, ?_⟩, HG2.out⟩
            · rw [HF.out, ← List.append_assoc, ← HR.out.2.1, ← HR2.out, Sha.run_end _ _ (by rw [bytes_length]; omega)]
            · rw [HF.out, ← List.append_assoc, ← HR.out.2.1, ← HR2.out, Sha.run_end _ _ (by rw [bytes_length]; omega), List.length_append, bytes_length]
              simpa using HA2.out
          case measure => simp [intOf]; omega
    · have hk2 : k = ss.length := by omega
      have HQ := Lib.hid hpr
      have HG := Lib.hid hg
      clear hpr hg
      go_wp2_with fail
      go_ret
      refine ⟨rfl, ?_, HG.out⟩
      have h := HQ.out
      rw [List.take_of_length_le (by omega)] at h
      exact h
end Go.Proofs.YtdfeiajdmmlllaaDoor
