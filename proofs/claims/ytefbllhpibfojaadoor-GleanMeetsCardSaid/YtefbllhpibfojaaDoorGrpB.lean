/- Layer 2: the schedule, the mix of a block. -/
import Derived.Test.YtefbllhpibfojaaDoorGrpA
import Derived.Deep.RegionHeld3
import Derived.Lib.ConvBytes
import Derived.OpenShut
import Derived.Deep.QuietTactic
import Derived.Laws.IdiomCopy
import Derived.BigQuiet
namespace Go.Proofs.YtefbllhpibfojaaDoor
open Go.RowKit

def u32s (l : List Nat) : List Value := l.map fun (n : Nat) => Value.int .u32 (n : Int)
def u8s (l : List UInt8) : List Value := l.map fun b => Value.int .u8 (b.toNat : Int)
theorem u32s_length (l : List Nat) : (u32s l).length = l.length := by simp [u32s]
theorem u32s_get (l : List Nat) (i : Nat) (h : i < l.length) : (u32s l)[i]? = some (.int .u32 (l[i] : Nat)) := by simp [u32s, h]

theorem u32_shl8_or (x : Nat) (c : UInt8) (hx : x < 16777216) : bits .or .u32 ((x : Int) * 256 % 4294967296) ((c.toNat : Int) % 4294967296) = ((x * 256 + c.toNat : Nat) : Int) := by
  have hc := c.toNat_lt
  have e1 : (x : Int) * 256 % 4294967296 = ((x * 256 : Nat) : Int) := by omega
  have e2 : (c.toNat : Int) % 4294967296 = (c.toNat : Int) := by omega
  have e3 := Nat.shiftLeft_add_eq_or_of_lt (i := 8) (b := c.toNat) (by omega) x
  rw [Nat.shiftLeft_eq] at e3
  rw [e1, e2, u32_or_nat _ _ (by omega) (by omega), ← e3]
theorem bytesWorld_below {B : Nat} {w0 w : World} (h : Below B w0 w) (hB : B ≤ w.heap.size) (e : TypeId) (s : ByteArray) : Below B w0 (Lib.bytesWorld w e s) :=
  h.trans ⟨rfl, rfl, rfl, by rw [Lib.bytesWorld_size]; omega, fun k hk => Lib.bytesWorld_at_old w e s k (by omega)⟩
theorem bytesWorld_cellAt (w : World) (e : TypeId) (s : ByteArray) (a b j : Nat) (hj : a + j < b) (hb : b ≤ s.size) :
    (Lib.bytesWorld w e (s.extract a b)).cell? ⟨w.heap.size, j, none⟩ = some (.int .u8 ((s.data.toList.getD (a + j) 0).toNat : Int)) := by
  rw [Lib.bytesWorld_cell _ _ _ _ (by simp; omega)]
  simp only [ByteArray.data_extract, List.getD, Array.toList_extract]
  rw [List.extract_eq_take_drop, List.getElem?_take, if_pos (by omega), List.getElem?_drop]

theorem u32_xor_div (x y k : Nat) (hx : x < 4294967296) (hy : y < 4294967296) : bits .xor .u32 (x : Int) ((y : Int) / ((k : Nat) : Int)) = ((x ^^^ y / k : Nat) : Int) := by
  rw [← Int.natCast_ediv, u32_xor_nat x (y / k) hx (Nat.lt_of_le_of_lt (Nat.div_le_self _ _) hy)]
theorem next_eq (ws : List Nat) (t x2 x7 x15 x16 : Nat) (hl : ws.length = t) (hx : x2 = ws.getD (t - 2) 0 ∧ x7 = ws.getD (t - 7) 0 ∧ x15 = ws.getD (t - 15) 0 ∧ x16 = ws.getD (t - 16) 0)
    (b2 : x2 < 4294967296) (b15 : x15 < 4294967296) :
    (((bits .xor .u32 (Sha.turned x2 [17, 19] : Nat) ((x2 : Int) / 1024) + (x7 : Int)) % 4294967296 + bits .xor .u32 (Sha.turned x15 [7, 18] : Nat) ((x15 : Int) / 8)) % 4294967296 + (x16 : Int)) % 4294967296 = ((Sha.next ws : Nat) : Int) := by
  have e1 : bits .xor .u32 (Sha.turned x2 [17, 19] : Nat) ((x2 : Int) / 1024) = _ := u32_xor_div (Sha.turned x2 [17, 19]) x2 1024 (Sha.turned_lt _ _ b2) b2
  have e2 : bits .xor .u32 (Sha.turned x15 [7, 18] : Nat) ((x15 : Int) / 8) = _ := u32_xor_div (Sha.turned x15 [7, 18]) x15 8 (Sha.turned_lt _ _ b15) b15
  rw [e1, e2]
  simp only [Sha.next]
  rw [hl, ← hx.1, ← hx.2.1, ← hx.2.2.1, ← hx.2.2.2]
  omega

set_option maxRecDepth 100000 in
set_option maxHeartbeats 4000000 in
theorem schedule_any (s : ByteArray) (hs : s.size = 64) (w : World) :
    Calls Tryd.prog 92 #[.string s] w fun e w' => e = .returned (.agg (u32s (Sha.schedule s.data.toList)).toArray) ∧ Below w.heap.size w w' := by
  go_enter Tryd.func92, Tryd.ntmps92
  go_wp2
  go_loopw [7] (fun i wr => ∃ k : Nat, k ≤ 16 ∧ i = .int .i64 k ∧ At wr w.heap.size 121 (u32s (Sha.first s.data.toList k ++ List.replicate (64 - k) 0)) ∧ Below w.heap.size w wr) (fun i _ => 16 - (intOf i).toNat)
  case atStart =>
    refine ⟨0, Nat.zero_le _, rfl, At.newA _ _ ?_, (Below.refl _ _).alloc (Nat.le_refl _) _⟩
    rw [Sha.first_zero]
    kernel_rfl
  case round =>
    obtain ⟨k, hk, rfl, hat, hbel⟩ := hrel
    by_cases hlt : k < 16
    · have hb1 : (0 : Int) ≤ 4 * (k : Int) := by omega
      have hb2 : 4 * (k : Int) ≤ 4 * (k : Int) + 4 := by omega
      have hb3 : 4 * (k : Int) + 4 ≤ (s.size : Int) := by omega
      have HS := Lib.hid hs
      have hconv := fun w s => Lib.run_convert_string_bytes (P := Tryd.prog) w 9 70 5 s Tryd.underlying9 Tryd.underlying70 Tryd.underlying5
      clear hs
      go_wp2
      have hn : min (4 * k + 4) s.size - 4 * k = 4 := by have := HS.out; omega
      rw [hn]
      have hlt2 := hat.lt
      have hbytes : ∀ j < 4, (Lib.bytesWorld wr 5 (s.extract (4 * k) (4 * k + 4))).cell? ⟨wr.heap.size, j, none⟩ = some (.int .u8 ((s.data.toList.getD (4 * k + j) 0).toNat : Int)) := by
        intro j hj
        exact bytesWorld_cellAt wr 5 s (4 * k) (4 * k + 4) j (by omega) (by omega)
      generalize hw1 : Lib.bytesWorld wr 5 (s.extract (4 * k) (4 * k + 4)) = w1 at hbytes ⊢
      have hat1 : At w1 w.heap.size 121 (u32s (Sha.first s.data.toList k ++ List.replicate (64 - k) 0)) := by
        subst hw1
        exact (Lib.bytesWorld_at_old wr 5 _ _ hat.lt).trans hat
      have hbel1 : Below w.heap.size w w1 := by
        subst hw1
        exact bytesWorld_below hbel (by omega) _ _
      obtain ⟨B, hB⟩ : ∃ B, B = wr.heap.size := ⟨_, rfl⟩
      rw [← hB] at hbytes hlt2 ⊢
      clear hw1 hB hat hbel hn hconv
      go_loopw [19] (fun j wj => ∃ i : Nat, i ≤ 4 ∧ j = .int .i64 i ∧ At wj w.heap.size 121 (u32s (Sha.first s.data.toList k ++ Sha.spell ((s.data.toList.drop (4 * k)).take i) :: List.replicate (63 - k) 0)) ∧ Below w.heap.size w wj ∧
          ∀ j < 4, wj.cell? ⟨B, j, none⟩ = some (.int .u8 ((s.data.toList.getD (4 * k + j) 0).toNat : Int))) (fun j _ => 4 - (intOf j).toNat)
      case atStart =>
        refine ⟨0, by omega, rfl, ?_, hbel1, hbytes⟩
        rw [show 64 - k = (63 - k) + 1 from by omega, List.replicate_succ] at hat1
        exact hat1
      case round =>
        obtain ⟨i, hi, rfl, hat2, hbel2, hby⟩ := hrel
        by_cases hlt3 : i < 4
        · have hcb := hby i hlt3
          have hget := hat2.cell' (i := k) (v := .int .u32 (Sha.spell ((s.data.toList.drop (4 * k)).take i) : Nat)) (by simp [u32s, Sha.first_length])
          have hfr := hat2.frozen k
          obtain ⟨x, hx⟩ : ∃ x, x = Sha.spell ((s.data.toList.drop (4 * k)).take i) := ⟨_, rfl⟩
          rw [← hx] at hget
          have HX := Lib.hid hx
          obtain ⟨c, hc⟩ : ∃ c, c = s.data.toList.getD (4 * k + i) 0 := ⟨_, rfl⟩
          rw [← hc] at hcb
          have HC := Lib.hid hc
          have HA := Lib.hid hat2
          have HB := Lib.hid hby
          have HE := Lib.hid hbel2
          clear hx hc hat2 hby hbel2 hbytes hat1 hbel1
          go_wp2
          go_roundw
          case rel =>
            have h24 : x < 16777216 := by
              have h1 := Sha.spell_lt ((s.data.toList.drop (4 * k)).take i)
              have h2 : ((s.data.toList.drop (4 * k)).take i).length ≤ 3 := Nat.le_trans (List.length_take_le _ _) (by omega)
              have h3 : (256 : Nat) ^ ((s.data.toList.drop (4 * k)).take i).length ≤ 256 ^ 3 := Nat.pow_le_pow_right (by omega) h2
              rw [HX.out]
              exact Nat.lt_of_lt_of_le h1 h3
            refine ⟨i + 1, by omega, by go_num, ?_, HE.out.setCell (Nat.le_refl _) _, ?_⟩
            · have h := (HA.out).set k (.int .u32 ((x * 256 + c.toNat : Nat) : Int))
              rw [u32_shl8_or x c h24]
              have hsz := bytes_length s
              have hlen : i < (s.data.toList.drop (4 * k)).length := by rw [List.length_drop, hsz]; omega
              rw [take_snoc _ i hlen, Sha.spell_snoc, ← HX.out]
              have hc2 : (s.data.toList.drop (4 * k))[i] = c := by
                rw [HC.out, List.getElem_drop, List.getD, List.getElem?_eq_getElem (by rw [hsz]; omega)]
                rfl
              rw [hc2]
              have hset : (u32s (Sha.first s.data.toList k ++ Sha.spell ((s.data.toList.drop (4 * k)).take i) :: List.replicate (63 - k) 0)).set k (.int .u32 ((x * 256 + c.toNat : Nat) : Int)) =
                  u32s (Sha.first s.data.toList k ++ (x * 256 + c.toNat) :: List.replicate (63 - k) 0) := by
                simp [u32s, Sha.first_length]
              rw [hset] at h
              exact h
            · intro j hj
              rw [World.cell?_setCell_other _ _ _ _ (by intro e; injection e; omega)]
              exact HB.out j hj
          case measure => simp [intOf]; omega
        · clear hby hbytes
          go_wp2
          go_roundw
          case rel =>
            refine ⟨k + 1, by omega, by go_num, ?_, hbel2⟩
            have hi4 : i = 4 := by omega
            subst hi4
            rw [Sha.first_succ, show 64 - (k + 1) = 63 - k from by omega, List.append_assoc]
            exact hat2
          case measure => simp [intOf]; omega
    · have hk16 : k = 16 := by omega
      rw [hk16] at hat
      clear hk16
      go_wp2
      go_loopw [6] (fun i wj => ∃ t : Nat, 16 ≤ t ∧ t ≤ 64 ∧ i = .int .i64 t ∧ At wj w.heap.size 121 (u32s (Sha.grow (t - 16) (Sha.first s.data.toList 16) ++ List.replicate (64 - t) 0)) ∧ Below w.heap.size w wj) (fun i _ => 64 - (intOf i).toNat)
      case atStart => exact ⟨16, by omega, by omega, rfl, hat, hbel⟩
      case round =>
        obtain ⟨t, ht1, ht2, rfl, hat2, hbel2⟩ := hrel
        by_cases hlt : t < 64
        · obtain ⟨ws, hws⟩ : ∃ ws, ws = Sha.grow (t - 16) (Sha.first s.data.toList 16) := ⟨_, rfl⟩
          have hlen : ws.length = t := by rw [hws, Sha.grow_length, Sha.first_length]; omega
          have hbd : ∀ x ∈ ws, x < 4294967296 := by rw [hws]; exact Sha.grow_lt _ _ (Sha.first_lt _ _)
          rw [← hws] at hat2
          have hcell : ∀ j, j < t → wr.cell? ⟨w.heap.size, j, none⟩ = some (.int .u32 (ws.getD j 0 : Nat)) := by
            intro j hj
            refine hat2.cell' ?_
            simp [u32s, List.getElem?_append, hlen, hj]
          have hb : ∀ j, ws.getD j 0 < 4294967296 := by
            intro j
            rw [List.getD]
            cases hj : ws[j]? with
            | none => decide
            | some x => exact hbd x (List.mem_of_getElem? hj)
          obtain ⟨x2, hx2⟩ : ∃ x, x = ws.getD (t - 2) 0 := ⟨_, rfl⟩
          obtain ⟨x7, hx7⟩ : ∃ x, x = ws.getD (t - 7) 0 := ⟨_, rfl⟩
          obtain ⟨x15, hx15⟩ : ∃ x, x = ws.getD (t - 15) 0 := ⟨_, rfl⟩
          obtain ⟨x16, hx16⟩ : ∃ x, x = ws.getD (t - 16) 0 := ⟨_, rfl⟩
          have c2 := hcell (t - 2) (by omega)
          have c7 := hcell (t - 7) (by omega)
          have c15 := hcell (t - 15) (by omega)
          have c16 := hcell (t - 16) (by omega)
          have b2 := hb (t - 2)
          have b7 := hb (t - 7)
          have b15 := hb (t - 15)
          have b16 := hb (t - 16)
          rw [← hx2] at c2 b2
          rw [← hx7] at c7 b7
          rw [← hx15] at c15 b15
          rw [← hx16] at c16 b16
          have HW := Lib.hid hws
          have HL := Lib.hid hlen
          have HX := Lib.hid (And.intro hx2 (And.intro hx7 (And.intro hx15 hx16)))
          have HA := Lib.hid hat2
          have HE := Lib.hid hbel2
          have c0 : wr.cell? ⟨w.heap.size, t, none⟩ = some (valAt wr w.heap.size t) := by
            refine valAt_some ?_
            rw [hat2.cell]
            have h1 : 0 < 64 - t := by omega
            simp [u32s, HL.out, h1]
          have f0 := hat2.frozen t
          clear hws hlen hx2 hx7 hx15 hx16 hat2 hbel2 hcell hb hbd hat hbel
          have i1 : (0 : Int) ≤ (t : Int) := by omega
          have i2 : (t : Int) < 64 := by omega
          have w2 : IntKind.i64.wrap ((t : Int) - 2) = (t : Int) - 2 := IntWalk.i64_in _ (by omega)
          have w7 : IntKind.i64.wrap ((t : Int) - 7) = (t : Int) - 7 := IntWalk.i64_in _ (by omega)
          have w15 : IntKind.i64.wrap ((t : Int) - 15) = (t : Int) - 15 := IntWalk.i64_in _ (by omega)
          have w16 : IntKind.i64.wrap ((t : Int) - 16) = (t : Int) - 16 := IntWalk.i64_in _ (by omega)
          have p2 : (0 : Int) ≤ (t : Int) - 2 := by omega
          have p7 : (0 : Int) ≤ (t : Int) - 7 := by omega
          have p15 : (0 : Int) ≤ (t : Int) - 15 := by omega
          have p16 : (0 : Int) ≤ (t : Int) - 16 := by omega
          have q2 : (t : Int) - 2 < 64 := by omega
          have q7 : (t : Int) - 7 < 64 := by omega
          have q15 : (t : Int) - 15 < 64 := by omega
          have q16 : (t : Int) - 16 < 64 := by omega
          have n2 : ((t : Int) - 2).toNat = t - 2 := by omega
          have n7 : ((t : Int) - 7).toNat = t - 7 := by omega
          have n15 : ((t : Int) - 15).toNat = t - 15 := by omega
          have n16 : ((t : Int) - 16).toNat = t - 16 := by omega
          have r2 : (2 : Int) ≤ (t : Int) := by omega
          have r7 : (7 : Int) ≤ (t : Int) := by omega
          have r15 : (15 : Int) ≤ (t : Int) := by omega
          have r16 : (16 : Int) ≤ (t : Int) := by omega
          have d2 : ¬ t = t - 2 := by omega
          have d7 : ¬ t = t - 7 := by omega
          have d15 : ¬ t = t - 15 := by omega
          have d16 : ¬ t = t - 16 := by omega
          go_wp2
          go_region_held3 (fun w' => w'.cell? ⟨w.heap.size, t - 2, none⟩ = some (.int .u32 x2) ∧ w'.cell? ⟨w.heap.size, t - 7, none⟩ = some (.int .u32 x7) ∧
              w'.cell? ⟨w.heap.size, t - 15, none⟩ = some (.int .u32 x15) ∧ w'.cell? ⟨w.heap.size, t - 16, none⟩ = some (.int .u32 x16) ∧ w'.cell? ⟨w.heap.size, t, none⟩ = some (valAt w' w.heap.size t) ∧ w'.frozen? ⟨w.heap.size, t, none⟩ = false)
            ((refine ⟨?_, ?_, ?_, ?_, ?_, ?_⟩ <;> first
              | (simp [*, World.cell?_alloc_some, frozen?_alloc_cells]; done)
              | (refine valAt_some ?_; simp [*, World.cell?_alloc_some, isSome_set]; done)
              | (simp [*, World.cell?_alloc_some, cell_set_ne]; done)
              | (simp [*, frozen?_alloc_cells, frozen_set]; done)))
            (first
              | (go_at_call 93; (with_reducible refine (turned_17_19 x2 _ _ _ b2 ?_ ?_).mono ?_); (focus (simp [go_sem]; done)); (focus (simp [go_sem]; done)); rintro e w' ⟨rfl, rfl⟩)
              | (go_at_call 93; (with_reducible refine (turned_7_18 x15 _ _ _ b15 ?_ ?_).mono ?_); (focus (simp [go_sem]; done)); (focus (simp [go_sem]; done)); rintro e w' ⟨rfl, rfl⟩))
          all_goals
            go_wp2
            go_roundw
            case rel =>
              refine ⟨t + 1, by omega, by omega, by go_num, ?_, ?_⟩
              · have he := next_eq ws t x2 x7 x15 x16 HL.out HX.out b2 b15
                rw [he]
                have hset : (u32s (ws ++ List.replicate (64 - t) 0)).set t (.int .u32 ((Sha.next ws : Nat) : Int)) = u32s (Sha.grow (t + 1 - 16) (Sha.first s.data.toList 16) ++ List.replicate (64 - (t + 1)) 0) := by
                  rw [show t + 1 - 16 = (t - 16) + 1 from by omega, Sha.grow_succ, ← HW.out, show 64 - t = (64 - (t + 1)) + 1 from by omega, List.replicate_succ, List.append_assoc]
                  simp [u32s, HL.out]
                rw [← hset]
                exact ((HA.out.alloc _).alloc _).set t _
              · exact ((HE.out.alloc (Nat.le_of_lt HA.out.lt) _).alloc (by simp; have := HA.out.lt; omega) _).setCell (p := ⟨w.heap.size, t, none⟩) (Nat.le_refl _) _ |>.drew
            case measure => simp [intOf]; omega
        · have ht : t = 64 := by omega
          subst ht
          clear hat hbel
          obtain ⟨cs, hcs⟩ : ∃ cs, cs = u32s (Sha.grow (64 - 16) (Sha.first s.data.toList 16) ++ List.replicate (64 - 64) 0) := ⟨_, rfl⟩
          have hcs2 : cs = u32s (Sha.schedule s.data.toList) := by rw [hcs]; simp [Sha.schedule]
          rw [← hcs] at hat2
          clear hcs
          have HC := Lib.hid hcs2
          clear hcs2
          have hcl : cs.length = 64 := by rw [HC.out, u32s_length, Sha.schedule_length]
          have h1 : ∀ v ∈ cs, v.oneCell' = true := by
            intro v hv
            rw [HC.out] at hv
            simp only [u32s, List.mem_map] at hv
            obtain ⟨n, _, rfl⟩ := hv
            rfl
          have hi : (Tryd.prog.info? 121).map (·.size) = some cs.length := by rw [hcl]; kernel_rfl
          have HL := Lib.hid hcl
          have HI := Lib.hid hi
          have H1 := Lib.hid h1
          have HE := Lib.hid hbel2
          clear hcl hi h1 hbel2
          go_wp2_with (first
            | (with_reducible refine wpList_loadAll rfl 121 (.tmp 2) rfl _ rfl _ _ _ hat2 Tryd.underlying121 rfl HI.out ?_)
            | (with_reducible refine wpList_storeAll rfl 121 (.tmp 2) (.tmp 75) rfl _ rfl _ _ _ hat2 rfl rfl HI.out H1.out ?_; intro w3 hat3 hg3 hs3))
          refine ret_cellAll rfl rfl w.heap.size _ cs _ rfl hat3 Tryd.underlying121 rfl HI.out ⟨by rw [HC.out], ?_⟩
          exact HE.out.grown hg3 (Nat.le_of_lt hat2.lt) (by intro k hk; injection hk; omega)
end Go.Proofs.YtefbllhpibfojaaDoor

namespace Go.Proofs.YtefbllhpibfojaaDoor
open Go.RowKit

def stV (s : Sha.St) : List Value := u32s s.list
theorem stV_eq (s : Sha.St) : stV s = [.int .u32 s.a, .int .u32 s.b, .int .u32 s.c, .int .u32 s.d, .int .u32 s.e, .int .u32 s.f, .int .u32 s.g, .int .u32 s.h] := rfl

theorem begun_any (w : World) : Calls Tryd.prog 81 #[] w fun e w' => e = .returned (.agg (stV Sha.begun).toArray) ∧ Below w.heap.size w w' := by
  go_enter Tryd.func81, Tryd.ntmps81
  go_wp2
  refine ret_cellAll rfl rfl w.heap.size _ (stV Sha.begun) _ rfl (At.new w 108 (stV Sha.begun)) Tryd.underlying108 rfl (by kernel_rfl) ⟨rfl, ?_⟩
  exact (Below.refl _ _).alloc (Nat.le_refl _) _

theorem u32_not_nat (a : Nat) (ha : a < 4294967296) : bits .xor .u32 IntKind.u32.max (a : Int) = ((4294967295 - a : Nat) : Int) := by
  have h := u32_xor_nat 4294967295 a (by omega) ha
  have hm : IntKind.u32.max = ((4294967295 : Nat) : Int) := by decide
  rw [hm, h]
  congr 1
  refine Nat.eq_of_testBit_eq fun i => ?_
  have h1 : (4294967295 - a) = 2 ^ 32 - (a + 1) := by omega
  rw [h1, Nat.testBit_two_pow_sub_succ (by omega), Nat.testBit_xor]
  have h2 : (4294967295 : Nat) = 2 ^ 32 - 1 := by decide
  rw [h2, Nat.testBit_two_pow_sub_one]
  by_cases hi : i < 32
  · simp [hi]
  · have : a.testBit i = false := Nat.testBit_lt_two_pow (Nat.lt_of_lt_of_le (show a < 2 ^ 32 by omega) (Nat.pow_le_pow_right (by omega) (by omega)))
    simp [hi, this]
theorem and_lt32 {a b : Nat} (ha : a < 4294967296) : a &&& b < 4294967296 := Nat.lt_of_le_of_lt Nat.and_le_left ha
theorem xor_lt32 {a b : Nat} (ha : a < 4294967296) (hb : b < 4294967296) : a ^^^ b < 4294967296 := Nat.xor_lt_two_pow (n := 32) ha hb
theorem t1_eq (r : Sha.St) (hr : r.Ok) (kk wk : Nat) :
    IntKind.u32.wrap (IntKind.u32.wrap (IntKind.u32.wrap (IntKind.u32.wrap ((r.h : Int) + (Sha.turned r.e [6, 11, 25] : Nat)) +
      bits .xor .u32 (bits .and .u32 r.e r.f) (bits .and .u32 (bits .xor .u32 IntKind.u32.max r.e) r.g)) + (kk : Int)) + (wk : Int)) = ((Sha.t1 r kk wk : Nat) : Int) := by
  have hn : 4294967295 - r.e < 4294967296 := by omega
  rw [u32_not_nat _ hr.e, u32_and_nat _ _ hr.e hr.f, u32_and_nat _ _ hn hr.g, u32_xor_nat _ _ (and_lt32 hr.e) (and_lt32 hn)]
  simp only [IntKind.wrap_u32', Sha.t1]
  omega
theorem t2_eq (r : Sha.St) (hr : r.Ok) :
    IntKind.u32.wrap ((Sha.turned r.a [2, 13, 22] : Nat) + bits .xor .u32 (bits .xor .u32 (bits .and .u32 r.a r.b) (bits .and .u32 r.a r.c)) (bits .and .u32 r.b r.c)) = ((Sha.t2 r : Nat) : Int) := by
  rw [u32_and_nat _ _ hr.a hr.b, u32_and_nat _ _ hr.a hr.c, u32_and_nat _ _ hr.b hr.c, u32_xor_nat _ _ (and_lt32 hr.a) (and_lt32 hr.a), u32_xor_nat _ _ (xor_lt32 (and_lt32 hr.a) (and_lt32 hr.a)) (and_lt32 hr.b)]
  simp only [IntKind.wrap_u32', Sha.t2]
  omega
theorem t1_lt (r : Sha.St) (kk wk : Nat) : Sha.t1 r kk wk < 4294967296 := Nat.mod_lt _ (by omega)
theorem t2_lt (r : Sha.St) : Sha.t2 r < 4294967296 := Nat.mod_lt _ (by omega)
theorem below_alloc_drew {w0 w : World} {B : Nat} (h : Below B w0 w) (hB : B ≤ w.heap.size) (o : Obj) : Below B w0 (w.alloc o).drew := (h.alloc hB o).drew

theorem run_copy_st {w : World} {b : Nat} {t : TypeId} {r : Sha.St} (h : At w b t (stV r)) :
    (Builtin.copy_ #[124, 124] 3 #[.slice (some ⟨b, 1, none⟩) 7 7, .slice (some ⟨b, 0, none⟩) 7 8]).run Tryd.prog w =
      .ok (goInt 7) (w.setCells b 1 [.int .u32 r.a, .int .u32 r.b, .int .u32 r.c, .int .u32 r.d, .int .u32 r.e, .int .u32 r.f, .int .u32 r.g]) := by
  refine run_copy_cells w 124 124 3 106 b 1 7 7 ⟨b, 0, none⟩ 7 8 [.int .u32 r.a, .int .u32 r.b, .int .u32 r.c, .int .u32 r.d, .int .u32 r.e, .int .u32 r.f, .int .u32 r.g] Tryd.underlying124 (by kernel_rfl) rfl ?_ ?_ ?_ ?_
  · intro j v hv
    have e : (⟨b, 0, none⟩ : Addr).add j = ⟨b, j, none⟩ := by unfold Addr.add; split <;> simp_all
    rw [e]
    refine h.cell' ?_
    rw [stV_eq]
    match j, hv with
    | 0, hv => exact hv
    | 1, hv => exact hv
    | 2, hv => exact hv
    | 3, hv => exact hv
    | 4, hv => exact hv
    | 5, hv => exact hv
    | 6, hv => exact hv
    | j + 7, hv => simp at hv
  · intro j hj
    exact (h.there 1 7 (by simp [stV_eq]) j hj).1
  · intro j hj
    exact (h.there 1 7 (by simp [stV_eq]) j hj).2
  · intro v hv
    simp only [List.mem_cons, List.not_mem_nil, or_false] at hv
    rcases hv with rfl | rfl | rfl | rfl | rfl | rfl | rfl <;> rfl
theorem u32s_getD (l : List Nat) (j : Nat) (h : j < l.length) : (u32s l)[j]? = some (.int .u32 ((l.getD j 0 : Nat) : Int)) := by
  simp [u32s, List.getD, h]
theorem mixed_get (A B more : List Value) (j : Nat) (hA : A.length = 8) (hB : B.length = 8) (hj : j < 8) : (A.take j ++ (B.drop j ++ more))[j]? = B[j]? := by
  rw [List.getElem?_append_right (by rw [List.length_take]; omega), List.length_take, hA, Nat.min_eq_left (by omega), List.getElem?_append_left (by rw [List.length_drop]; omega), List.getElem?_drop]
  simp
theorem mixed_set (A B more : List Value) (j : Nat) (hA : A.length = 8) (hB : B.length = 8) (hj : j < 8) (v : Value) (hv : A[j]? = some v) :
    (A.take j ++ (B.drop j ++ more)).set j v = A.take (j + 1) ++ (B.drop (j + 1) ++ more) := by
  have hlt : j < A.length := by omega
  have hv' : A[j] = v := by rw [List.getElem?_eq_getElem hlt] at hv; injection hv
  rw [List.set_append_right _ _ (by rw [List.length_take]; omega), List.length_take, hA, Nat.min_eq_left (by omega), take_snoc A j hlt, hv', List.drop_eq_getElem_cons (by omega : j < B.length), Nat.sub_self]
  simp only [List.cons_append, List.set_cons_zero, List.append_assoc, List.nil_append]
theorem sum_getD (a r : Sha.St) (j : Nat) (hj : j < 8) : (Sha.sum a r).list.getD j 0 = (a.list.getD j 0 + r.list.getD j 0) % 4294967296 := by
  match j, hj with
  | 0, _ => rfl
  | 1, _ => rfl
  | 2, _ => rfl
  | 3, _ => rfl
  | 4, _ => rfl
  | 5, _ => rfl
  | 6, _ => rfl
  | 7, _ => rfl
theorem at_shift {w : World} {b : Nat} {t : TypeId} {r : Sha.St} (h : At w b t (stV r)) :
    At (w.setCells b 1 [.int .u32 r.a, .int .u32 r.b, .int .u32 r.c, .int .u32 r.d, .int .u32 r.e, .int .u32 r.f, .int .u32 r.g]) b t (stV ⟨r.a, r.a, r.b, r.c, r.d, r.e, r.f, r.g⟩) :=
  At.setCells _ 1 h (by simp [stV_eq])
theorem below_setCells {w0 w : World} {B b : Nat} (h : Below B w0 w) (hs : B ≤ w.heap.size) (hb : B ≤ b) (vs : List Value) (o : Nat) : Below B w0 (w.setCells b o vs) :=
  Below.ofGrown h (grown_setCells b vs o w w (World.grownBy.refl w _)) hs hb
theorem at_step {w : World} {b : Nat} {t : TypeId} {r : Sha.St} {kk wk : Nat} (h : At w b t (stV ⟨r.a, r.a, r.b, r.c, r.d, r.e, r.f, r.g⟩)) :
    At ((w.setCell ⟨b, 0, none⟩ (.int .u32 (((Sha.t1 r kk wk : Nat) + (Sha.t2 r : Nat) : Int) % 4294967296))).setCell ⟨b, 4, none⟩ (.int .u32 (((r.d : Int) + (Sha.t1 r kk wk : Nat)) % 4294967296))) b t (stV (Sha.step r kk wk)) := by
  have := (h.set 0 (.int .u32 (((Sha.t1 r kk wk : Nat) + (Sha.t2 r : Nat) : Int) % 4294967296))).set 4 (.int .u32 (((r.d : Int) + (Sha.t1 r kk wk : Nat)) % 4294967296))
  have e : stV (Sha.step r kk wk) = [.int .u32 (((Sha.t1 r kk wk : Nat) + (Sha.t2 r : Nat) : Int) % 4294967296), .int .u32 r.a, .int .u32 r.b, .int .u32 r.c, .int .u32 (((r.d : Int) + (Sha.t1 r kk wk : Nat)) % 4294967296), .int .u32 r.e, .int .u32 r.f, .int .u32 r.g] := by
    simp [stV_eq, Sha.step]
  rw [e]
  exact this

theorem stCells {w : World} {b : Nat} {t : TypeId} {r : Sha.St} {more : List Value} (h : At w b t (stV r ++ more)) :
    w.cell? ⟨b, 0, none⟩ = some (.int .u32 r.a) ∧ w.cell? ⟨b, 1, none⟩ = some (.int .u32 r.b) ∧ w.cell? ⟨b, 2, none⟩ = some (.int .u32 r.c) ∧ w.cell? ⟨b, 3, none⟩ = some (.int .u32 r.d) ∧
    w.cell? ⟨b, 4, none⟩ = some (.int .u32 r.e) ∧ w.cell? ⟨b, 5, none⟩ = some (.int .u32 r.f) ∧ w.cell? ⟨b, 6, none⟩ = some (.int .u32 r.g) ∧ w.cell? ⟨b, 7, none⟩ = some (.int .u32 r.h) :=
  ⟨h.cell' rfl, h.cell' rfl, h.cell' rfl, h.cell' rfl, h.cell' rfl, h.cell' rfl, h.cell' rfl, h.cell' rfl⟩
theorem wordCell {w0 w : World} {g k kk : Nat} (h0 : Tab w0 g (u32s Sha.words)) (hb : Below w0.heap.size w0 w) (hk : k < 64) (hkk : kk = Sha.words.getD k 0) :
    w.cell? ⟨g, k, none⟩ = some (.int .u32 (kk : Int)) := by
  refine (h0.below hb h0.lt).cell' ?_
  have : Sha.words.length = 64 := rfl
  rw [hkk]
  simp [u32s, List.getD, this, hk]

set_option maxRecDepth 100000 in
set_option maxHeartbeats 4000000 in
theorem mix_any (s : ByteArray) (hs : s.size = 64) (st : Sha.St) (hst : st.Ok) (b : Nat) (t : TypeId) (more : List Value) (w : World) (hat : At w b t (stV st ++ more))
    (hw : Tab w 0 (u32s Sha.words)) :
    Calls Tryd.prog 82 #[.pointer (some ⟨b, 0, none⟩), .string s] w fun e w' => e = .returned (.tuple #[]) ∧ At w' b t (stV (Sha.mix st s.data.toList) ++ more) ∧ w.grownBy w' (some b) := by
  have c0 := hat.cell' (i := 0) (v := .int .u32 st.a) rfl
  have c1 := hat.cell' (i := 1) (v := .int .u32 st.b) rfl
  have c2 := hat.cell' (i := 2) (v := .int .u32 st.c) rfl
  have c3 := hat.cell' (i := 3) (v := .int .u32 st.d) rfl
  have c4 := hat.cell' (i := 4) (v := .int .u32 st.e) rfl
  have c5 := hat.cell' (i := 5) (v := .int .u32 st.f) rfl
  have c6 := hat.cell' (i := 6) (v := .int .u32 st.g) rfl
  have c7 := hat.cell' (i := 7) (v := .int .u32 st.h) rfl
  have HA := Lib.hid hat
  have HW := Lib.hid hw
  clear hat hw
  go_enter Tryd.func82, Tryd.ntmps82
  go_wp2_with fail
  refine (schedule_any s hs _).mono ?_
  rintro e w1 ⟨rfl, hb1⟩
  have hatV : At w1 w.heap.size 108 (stV st) := (At.newA w 108 rfl).below hb1 (by simp)
  have hbel : Below w.heap.size w w1 := ((Below.refl _ _).alloc (Nat.le_refl _) _).trans (hb1.mono (by simp))
  clear hb1 c0 c1 c2 c3 c4 c5 c6 c7
  obtain ⟨sc, hsc⟩ : ∃ sc, sc = Sha.schedule s.data.toList := ⟨_, rfl⟩
  rw [← hsc]
  have hscl : sc.length = 64 := by rw [hsc, Sha.schedule_length]
  have hscb : ∀ x ∈ sc, x < 4294967296 := by rw [hsc]; exact Sha.schedule_lt _
  have HS := Lib.hid hsc
  have HL := Lib.hid hscl
  have HB := Lib.hid hscb
  have HS0 := Lib.hid hs
  clear hsc hscl hscb hs
  go_wp2_with fail
  go_loopw [17] (fun i wr => ∃ k : Nat, k ≤ 64 ∧ i = .int .i64 k ∧ At wr w.heap.size 108 (stV (Sha.rounds st ((Sha.words.zip sc).take k))) ∧ Below w.heap.size w wr) (fun i _ => 64 - (intOf i).toNat)
  case atStart => exact ⟨0, by omega, rfl, hatV, hbel⟩
  case round =>
    obtain ⟨k, hk, rfl, hat2, hbel2⟩ := hrel
    clear hatV hbel
    by_cases hlt : k < 64
    · obtain ⟨r, hr⟩ : ∃ r, r = Sha.rounds st ((Sha.words.zip sc).take k) := ⟨_, rfl⟩
      have hok : r.Ok := by rw [hr]; exact Sha.rounds_ok _ _ hst
      rw [← hr] at hat2
      have HR := Lib.hid hr
      clear hr
      obtain ⟨c0, c1, c2, c3, c4, c5, c6, c7⟩ := stCells (more := []) (by simpa using hat2)
      obtain ⟨wk, hwk⟩ : ∃ x, x = sc.getD k 0 := ⟨_, rfl⟩
      obtain ⟨kk, hkk⟩ : ∃ x, x = Sha.words.getD k 0 := ⟨_, rfl⟩
      have hidx : ∀ w, (Instr.index 121 (.agg (u32s sc).toArray) (.int .i64 (k : Int))).run Tryd.prog w = .ok (.int .u32 (wk : Int)) w := by
        intro w
        refine run_index_arr w 121 106 64 .i64 k _ _ Tryd.underlying121 (by kernel_rfl) Tryd.underlying106 hlt ?_
        have := HL.out
        rw [hwk]
        simp [u32s, List.getD, this, hlt]
      have HK := Lib.hid (And.intro hwk hkk)
      have HA2 := Lib.hid hat2
      have HE2 := Lib.hid hbel2
      have HO := Lib.hid hok
      have hVlt := hat2.lt
      have hVpos : 0 < w.heap.size := HW.out.lt
      clear hwk hkk hat2 hbel2 hok
      have i1 : (0 : Int) ≤ (k : Int) := by omega
      have i2 : (k : Int) < 64 := by omega
      have be := HO.out.e
      have ba := HO.out.a
      go_wp2_with fail
      go_quiet (fail)
      have HA3 : At (wr.drewN nq) w.heap.size 108 (stV r) := HA2.out
      have HE3 : Below w.heap.size w (wr.drewN nq) := ⟨HE2.out.os, HE2.out.tape, HE2.out.output, HE2.out.size, HE2.out.block⟩
      clear HA2 HE2 c0 c1 c2 c3 c4 c5 c6 c7 hVlt
      generalize wr.drewN nq = wq at HA3 HE3 ⊢
      obtain ⟨c0, c1, c2, c3, c4, c5, c6, c7⟩ := stCells (more := []) (by simpa using HA3)
      have cw := wordCell HW.out HE3 hlt HK.out.2
      have HA2 := Lib.hid HA3
      have HE2 := Lib.hid HE3
      clear HA3 HE3
      go_wp2_with fail
      go_region_held3 (fun w' => w'.cell? ⟨w.heap.size, 0, none⟩ = some (.int .u32 r.a) ∧ w'.cell? ⟨w.heap.size, 1, none⟩ = some (.int .u32 r.b) ∧ w'.cell? ⟨w.heap.size, 2, none⟩ = some (.int .u32 r.c) ∧
          w'.cell? ⟨w.heap.size, 3, none⟩ = some (.int .u32 r.d) ∧ w'.cell? ⟨w.heap.size, 4, none⟩ = some (.int .u32 r.e) ∧ w'.cell? ⟨w.heap.size, 5, none⟩ = some (.int .u32 r.f) ∧
          w'.cell? ⟨w.heap.size, 6, none⟩ = some (.int .u32 r.g) ∧ w'.cell? ⟨w.heap.size, 7, none⟩ = some (.int .u32 r.h) ∧ w'.cell? ⟨0, k, none⟩ = some (.int .u32 kk))
        ((simp [*, World.cell?_alloc_some]))
        ((go_at_call 93; (with_reducible refine (turned_6_11_25 r.e _ _ _ be ?_ ?_ ?_).mono ?_); (focus (simp [go_sem]; done)); (focus (simp [go_sem]; done)); (focus (simp [go_sem]; done)); rintro e w' ⟨rfl, rfl⟩))
      go_wp2_with fail
      rw [t1_eq r HO.out kk wk]
      obtain ⟨x1, hx1⟩ : ∃ x, x = Sha.t1 r kk wk := ⟨_, rfl⟩
      have bx1 : x1 < 4294967296 := by rw [hx1]; exact t1_lt _ _ _
      rw [← hx1]
      have HX1 := Lib.hid hx1
      clear hx1 c0 c1 c2 c3 c4 c5 c6 c7 cw
      have HA3 := (HA2.out.alloc (.cells #[.int .i64 6, .int .i64 11, .int .i64 25] 3)).drew
      have HE3 := below_alloc_drew HE2.out (Nat.le_of_lt HA2.out.lt) (.cells #[.int .i64 6, .int .i64 11, .int .i64 25] 3)
      clear HA2 HE2
      generalize (wq.alloc (.cells #[.int .i64 6, .int .i64 11, .int .i64 25] 3)).drew = w5 at HA3 HE3 ⊢
      obtain ⟨c0, c1, c2, c3, c4, c5, c6, c7⟩ := stCells (more := []) (by simpa using HA3)
      have HA2 := Lib.hid HA3
      have HE2 := Lib.hid HE3
      clear HA3 HE3
      go_region_held3 (fun w' => w'.cell? ⟨w.heap.size, 1, none⟩ = some (.int .u32 r.b) ∧ w'.cell? ⟨w.heap.size, 2, none⟩ = some (.int .u32 r.c))
        ((simp [*, World.cell?_alloc_some]))
        ((go_at_call 93; (with_reducible refine (turned_2_13_22 r.a _ _ _ ba ?_ ?_ ?_).mono ?_); (focus (simp [go_sem]; done)); (focus (simp [go_sem]; done)); (focus (simp [go_sem]; done)); rintro e w' ⟨rfl, rfl⟩))
      go_wp2_with fail
      rw [t2_eq r HO.out]
      obtain ⟨x2, hx2⟩ : ∃ x, x = Sha.t2 r := ⟨_, rfl⟩
      have bx2 : x2 < 4294967296 := by rw [hx2]; exact t2_lt _
      rw [← hx2]
      have HX2 := Lib.hid hx2
      clear hx2 c0 c1 c2 c3 c4 c5 c6 c7
      have HA3 := (HA2.out.alloc (.cells #[.int .i64 2, .int .i64 13, .int .i64 22] 3)).drew
      have HE3 := below_alloc_drew HE2.out (Nat.le_of_lt HA2.out.lt) (.cells #[.int .i64 2, .int .i64 13, .int .i64 22] 3)
      clear HA2 HE2
      generalize (w5.alloc (.cells #[.int .i64 2, .int .i64 13, .int .i64 22] 3)).drew = w6 at HA3 HE3 ⊢
      obtain ⟨c0, c1, c2, c3, c4, c5, c6, c7⟩ := stCells (more := []) (by simpa using HA3)
      have f1 := HA3.frozen 1
      have f2 := HA3.frozen 2
      have f3 := HA3.frozen 3
      have f4 := HA3.frozen 4
      have f5 := HA3.frozen 5
      have f6 := HA3.frozen 6
      have f7 := HA3.frozen 7
      have f0 := HA3.frozen 0
      have HA2 := Lib.hid HA3
      have HE2 := Lib.hid HE3
      clear HA3 HE3
      have hcp := run_copy_st HA2.out.drew
      go_region
      have HA3 := at_shift HA2.out.drew
      have HE3 := below_setCells (b := w.heap.size) HE2.out.drew (Nat.le_of_lt HA2.out.lt) (Nat.le_refl _) [.int .u32 r.a, .int .u32 r.b, .int .u32 r.c, .int .u32 r.d, .int .u32 r.e, .int .u32 r.f, .int .u32 r.g] 1
      clear HA2 HE2 hcp c0 c1 c2 c3 c4 c5 c6 c7 f0 f1 f2 f3 f4 f5 f6 f7
      generalize w6.drew.setCells w.heap.size 1 [.int .u32 r.a, .int .u32 r.b, .int .u32 r.c, .int .u32 r.d, .int .u32 r.e, .int .u32 r.f, .int .u32 r.g] = w7 at HA3 HE3 ⊢
      have c0 := HA3.cell' (i := 0) (v := .int .u32 r.a) rfl
      have c4 := HA3.cell' (i := 4) (v := .int .u32 r.d) rfl
      have f0 := HA3.frozen 0
      have f4 := HA3.frozen 4
      have HA2 := Lib.hid HA3
      have HE2 := Lib.hid HE3
      clear HA3 HE3
      go_wp2_with fail
      go_roundw
      case rel =>
        have hzl : (Sha.words.zip sc).length = 64 := by
          have h1 : Sha.words.length = 64 := rfl
          rw [List.length_zip, h1, HL.out]
          rfl
        refine ⟨k + 1, by omega, by go_num, ?_, (HE2.out.setCell (Nat.le_refl _) _).setCell (Nat.le_refl _) _⟩
        rw [take_snoc _ k (by omega), List.getElem_zip, Sha.rounds_snoc, ← HR.out]
        have e1 : Sha.words[k]'(by have h1 : Sha.words.length = 64 := rfl; omega) = kk := by
          rw [HK.out.2, List.getD, List.getElem?_eq_getElem (by have h1 : Sha.words.length = 64 := rfl; omega)]
          rfl
        have e2 : sc[k]'(by have := HL.out; omega) = wk := by
          rw [HK.out.1, List.getD, List.getElem?_eq_getElem (by have := HL.out; omega)]
          rfl
        rw [e1, e2]
        have h := at_step (kk := kk) (wk := wk) HA2.out
        rw [← HX1.out, ← HX2.out] at h
        exact h
      case measure => simp [intOf]; omega
    · have hk64 : k = 64 := by omega
      obtain ⟨r, hr⟩ : ∃ r, r = Sha.rounds st ((Sha.words.zip sc).take k) := ⟨_, rfl⟩
      have hok : r.Ok := by rw [hr]; exact Sha.rounds_ok _ _ hst
      have hmix : Sha.sum st r = Sha.mix st s.data.toList := by
        have hzl : (Sha.words.zip sc).length = 64 := by
          have h1 : Sha.words.length = 64 := rfl
          rw [List.length_zip, h1, HL.out]
          rfl
        rw [hr, List.take_of_length_le (by omega), HS.out]
        rfl
      rw [← hr] at hat2
      have HM := Lib.hid hmix
      have hatb : At wr b t (stV st ++ more) := HA.out.below hbel2 HA.out.lt
      have hg : w.grownBy wr (some b) := ⟨hbel2.os, hbel2.tape, hbel2.output, hbel2.size, fun i hi _ => hbel2.block i hi⟩
      have hbV : b < w.heap.size := HA.out.lt
      clear hr hk64 hbel2 hmix
      go_wp2_with fail
      go_loopw [80] (fun i wj => ∃ j : Nat, j ≤ 8 ∧ i = .int .i64 j ∧ At wj b t ((stV (Sha.sum st r)).take j ++ ((stV st).drop j ++ more)) ∧ At wj w.heap.size 108 (stV r) ∧ w.grownBy wj (some b)) (fun i _ => 8 - (intOf i).toNat)
      case atStart => exact ⟨0, by omega, rfl, hatb, hat2, hg⟩
      case round =>
        obtain ⟨j, hj, rfl, ha1, ha2, hg1⟩ := hrel
        clear hatb hat2 hg
        by_cases hlt2 : j < 8
        · have i1 : (0 : Int) ≤ (j : Int) := by omega
          have i2 : (j : Int) < 8 := by omega
          obtain ⟨x, hx⟩ : ∃ x, x = st.list.getD j 0 := ⟨_, rfl⟩
          obtain ⟨y, hy⟩ : ∃ y, y = r.list.getD j 0 := ⟨_, rfl⟩
          have hsl : (stV st).length = 8 := rfl
          have hrl : (stV r).length = 8 := rfl
          have hml : (stV (Sha.sum st r)).length = 8 := rfl
          have gx : wr.cell? ⟨b, j, none⟩ = some (.int .u32 (x : Int)) := by
            refine ha1.cell' ?_
            rw [mixed_get _ _ more j hml hsl hlt2, hx]
            exact u32s_getD st.list j (by simpa [Sha.St.list] using hlt2)
          have gy : wr.cell? ⟨w.heap.size, j, none⟩ = some (.int .u32 (y : Int)) := by
            refine ha2.cell' ?_
            rw [hy]
            exact u32s_getD r.list j (by simpa [Sha.St.list] using hlt2)
          have f1 := ha1.frozen j
          have HX := Lib.hid (And.intro hx hy)
          have HA1 := Lib.hid ha1
          have HA2 := Lib.hid ha2
          have HG := Lib.hid hg1
          clear hx hy ha1 ha2 hg1 hsl hrl hml
          go_wp2_with fail
          go_region
          go_wp2_with fail
          go_roundw
          case rel =>
            have hsl : (stV st).length = 8 := rfl
            have hml : (stV (Sha.sum st r)).length = 8 := rfl
            have hv : (stV (Sha.sum st r))[j]? = some (.int .u32 (((x : Int) + (y : Int)) % 4294967296)) := by
              have h := u32s_getD (Sha.sum st r).list j (by simpa [Sha.St.list] using hlt2)
              rw [sum_getD _ _ _ hlt2, ← HX.out.1, ← HX.out.2] at h
              rw [show (((x : Int) + (y : Int)) % 4294967296) = (((x + y) % 4294967296 : Nat) : Int) from by omega]
              exact h
            refine ⟨j + 1, by omega, by go_num, ?_, ?_, ?_⟩
            · rw [← mixed_set _ _ more j hml hsl hlt2 _ hv]
              exact (HA1.out.set j _).drew
            · exact (HA2.out.far (p := ⟨b, j, none⟩) (by simp; omega) _).drew
            · have h := HG.out
              exact ⟨h.os, h.tape, h.output, by have := h.size; simpa [World.setCell] using this, fun i hi hne => by
                show (wr.setCell ⟨b, j, none⟩ _).heap[i]? = _
                rw [heap_set, if_neg (by intro e; exact hne (by rw [← e]))]
                exact h.block i hi hne⟩
          case measure => simp [intOf]; omega
        · have hj8 : j = 8 := by omega
          have HA1 := Lib.hid ha1
          have HG := Lib.hid hg1
          clear ha1 ha2 hg1
          go_wp2_with fail
          go_end0
          refine ⟨rfl, ?_, HG.out⟩
          have h := HA1.out
          rw [hj8] at h
          rw [← HM.out]
          simpa [stV_eq] using h
end Go.Proofs.YtefbllhpibfojaaDoor

namespace Go.Proofs.YtefbllhpibfojaaDoor
open Go.RowKit

theorem digest_get (s : Sha.St) (k : Nat) (hk : k < 32) : (Sha.digest s)[k]? = some (UInt8.ofNat (s.list.getD (k / 4) 0 / 2 ^ (24 - k % 4 * 8) % 256)) := by
  match k, hk with
  | 0, _ => rfl
  | 1, _ => rfl
  | 2, _ => rfl
  | 3, _ => rfl
  | 4, _ => rfl
  | 5, _ => rfl
  | 6, _ => rfl
  | 7, _ => rfl
  | 8, _ => rfl
  | 9, _ => rfl
  | 10, _ => rfl
  | 11, _ => rfl
  | 12, _ => rfl
  | 13, _ => rfl
  | 14, _ => rfl
  | 15, _ => rfl
  | 16, _ => rfl
  | 17, _ => rfl
  | 18, _ => rfl
  | 19, _ => rfl
  | 20, _ => rfl
  | 21, _ => rfl
  | 22, _ => rfl
  | 23, _ => rfl
  | 24, _ => rfl
  | 25, _ => rfl
  | 26, _ => rfl
  | 27, _ => rfl
  | 28, _ => rfl
  | 29, _ => rfl
  | 30, _ => rfl
  | 31, _ => rfl
  | n + 32, h => exact absurd h (by omega)
theorem digest_length (s : Sha.St) : (Sha.digest s).length = 32 := rfl
theorem u8s_length (l : List UInt8) : (u8s l).length = l.length := by simp [u8s]
theorem u8s_oneCell (l : List UInt8) : ∀ v ∈ u8s l, v.oneCell' = true := by
  intro v hv
  simp only [u8s, List.mem_map] at hv
  obtain ⟨n, _, rfl⟩ := hv
  rfl
def dgV (d : List UInt8) : Value := .agg (u8s d).toArray
/-- k bytes of a list, then zeros up to n -/
def filled (d : List UInt8) (k n : Nat) : List Value := u8s (d.take k) ++ List.replicate (n - k) (.int .u8 0)
theorem filled_length (d : List UInt8) (k n : Nat) (hk : k ≤ n) (hd : d.length = n) : (filled d k n).length = n := by
  simp [filled, u8s_length]; omega
theorem filled_set (d : List UInt8) (k n : Nat) (hk : k < n) (hd : d.length = n) (b : UInt8) (hb : d[k]? = some b) (v : Value) (hv : v = .int .u8 (b.toNat : Int)) : (filled d k n).set k v = filled d (k + 1) n := by
  subst hv
  have hlt : k < d.length := by omega
  have hb' : d[k] = b := by rw [List.getElem?_eq_getElem hlt] at hb; injection hb
  unfold filled
  rw [List.set_append_right _ _ (by rw [u8s_length, List.length_take]; omega), u8s_length, List.length_take, Nat.min_eq_left (by omega), Nat.sub_self, show n - k = (n - (k + 1)) + 1 from by omega, List.replicate_succ, List.set_cons_zero, take_snoc d k hlt, hb']
  simp [u8s]
theorem filled_all (d : List UInt8) (n : Nat) (hd : d.length = n) : filled d n n = u8s d := by
  simp [filled, ← hd]

set_option maxRecDepth 100000 in
set_option maxHeartbeats 4000000 in
theorem digest_any (st : Sha.St) (b : Nat) (t : TypeId) (more : List Value) (w : World) (hat : At w b t (stV st ++ more)) :
    Calls Tryd.prog 83 #[.pointer (some ⟨b, 0, none⟩)] w fun e w' => e = .returned (dgV (Sha.digest st)) ∧ Below w.heap.size w w' := by
  have HA := Lib.hid hat
  clear hat
  go_enter Tryd.func83, Tryd.ntmps83
  go_wp2_with fail
  go_loopw [4] (fun i wr => ∃ k : Nat, k ≤ 32 ∧ i = .int .i64 k ∧ At wr w.heap.size 24 (filled (Sha.digest st) k 32) ∧ Below w.heap.size w wr) (fun i _ => 32 - (intOf i).toNat)
  case atStart => exact ⟨0, by omega, rfl, At.newA _ _ rfl, (Below.refl _ _).alloc (Nat.le_refl _) _⟩
  case round =>
    obtain ⟨k, hk, rfl, ha, hb⟩ := hrel
    by_cases hlt : k < 32
    · have i1 : (0 : Int) ≤ (k : Int) := by omega
      have i2 : (k : Int) < 32 := by omega
      obtain ⟨x, hx⟩ : ∃ x, x = st.list.getD (k / 4) 0 := ⟨_, rfl⟩
      obtain ⟨y, hy⟩ : ∃ y, y = 24 - k % 4 * 8 := ⟨_, rfl⟩
      obtain ⟨q, hq⟩ : ∃ q, q = k / 4 := ⟨_, rfl⟩
      have hq2 : (k : Int) / 4 = (q : Int) := by omega
      have q1 : q < 8 := by omega
      have hcell : wr.cell? ⟨b, q, none⟩ = some (.int .u32 (x : Int)) := by
        refine (HA.out.below hb HA.out.lt).cell' ?_
        rw [List.getElem?_append_left (by simpa [stV_eq] using q1), hx, ← hq]
        exact u32s_getD st.list q (by simpa [Sha.St.list] using q1)
      have hy2 : (24 : Int) - (k : Int) % 4 * 8 = (y : Int) := by omega
      have hsh : ∀ w, (Op.shift .shr .u32 (x : Int) .i64 (y : Int)).run Tryd.prog w = .ok (.int .u32 ((x / 2 ^ y : Nat) : Int)) w := by
        intro w
        rw [shift_shr_u32 _ _ _ (by omega) (by omega), Int.toNat_natCast]
        simp
      have hd := ha.cell' (i := k) (v := .int .u8 0) (by
        unfold filled
        rw [List.getElem?_append_right (by rw [u8s_length, List.length_take, digest_length]; omega), u8s_length, List.length_take, digest_length, Nat.min_eq_left (by omega), Nat.sub_self, List.getElem?_replicate, if_pos (by omega)])
      have hf := ha.frozen k
      have HA2 := Lib.hid ha
      have HB2 := Lib.hid hb
      have HX := Lib.hid hx
      have HY := Lib.hid hy
      clear ha hb hx hy hq
      go_wp2_with fail
      go_roundw
      case rel =>
        refine ⟨k + 1, by omega, by go_num, ?_, HB2.out.setCell (Nat.le_refl _) _⟩
        have h := digest_get st k hlt
        rw [← HX.out, ← HY.out] at h
        rw [← filled_set _ k 32 hlt (digest_length st) _ h (.int .u8 ((x : Int) / 2 ^ y % 256)) ?_]
        · exact HA2.out.set k _
        · have : (UInt8.ofNat (x / 2 ^ y % 256)).toNat = x / 2 ^ y % 256 := by simp
          rw [this]
          simp
      case measure => simp [intOf]; omega
    · have hk32 : k = 32 := by omega
      rw [hk32, filled_all _ _ (digest_length st)] at ha
      have hl : (Tryd.prog.info? 24).map (·.size) = some (u8s (Sha.digest st)).length := by rw [u8s_length, digest_length]; kernel_rfl
      have HI := Lib.hid hl
      have HB2 := Lib.hid hb
      clear hl hb hk32
      go_wp2_with (first
        | (with_reducible refine wpList_loadAll rfl 24 (.tmp 2) rfl _ rfl _ _ _ ha Tryd.underlying24 rfl HI.out ?_)
        | (with_reducible refine wpList_storeAll rfl 24 (.tmp 2) (.tmp 22) rfl _ rfl _ _ _ ha rfl rfl HI.out (u8s_oneCell _) ?_; intro w3 hat3 hg3 hs3))
      refine ret_cellAll rfl rfl w.heap.size _ _ _ rfl hat3 Tryd.underlying24 rfl HI.out ⟨rfl, ?_⟩
      exact HB2.out.grown hg3 (Nat.le_of_lt ha.lt) (by intro k hk; injection hk; omega)

theorem new_any (w : World) : Calls Tryd.prog 49 #[] w fun e w' => ∃ p, e = .returned (.pointer (some ⟨p, 0, none⟩)) ∧ w.heap.size ≤ p ∧ At w' p 111 (stV Sha.begun ++ [.string ByteArray.empty, .int .i64 0]) ∧ Below w.heap.size w w' := by
  go_enter Tryd.func49, Tryd.ntmps49
  go_wp2_with fail
  refine (begun_any _).mono ?_
  rintro e w1 ⟨rfl, hb1⟩
  go_wp2_with fail
  go_ret
  exact ⟨w1.heap.size, rfl, hb1.size, At.newA _ _ rfl, hb1.alloc hb1.size _⟩
end Go.Proofs.YtefbllhpibfojaaDoor
