/- Layer 2: a block's schedule: what the program's function computes. -/
import Derived.Test.YtdfeiajdmmlllaaDoorStampA
import Derived.Deep.RegionHeld3
import Derived.Lib.ConvBytes
import Derived.OpenShut
namespace Go.Proofs.YtdfeiajdmmlllaaDoor
open Go.RowKit

def u32s (l : List Nat) : List Value := l.map fun (n : Nat) => Value.int .u32 (n : Int)
def u8s (l : List UInt8) : List Value := l.map fun b => Value.int .u8 (b.toNat : Int)
theorem u32s_length (l : List Nat) : (u32s l).length = l.length := by simp [u32s]
theorem u32s_get (l : List Nat) (i : Nat) (h : i < l.length) : (u32s l)[i]? = some (.int .u32 (l[i] : Nat)) := by simp [u32s, h]

theorem u32_shl8_or (x : Nat) (c : UInt8) (hx : x < 16777216) : bits .or .u32 ((x : Int) * 256 % 4294967296) ((c.toNat : Int) % 4294967296) = ((x * 256 + c.toNat : Nat) : Int) := by
  have hc := c.toNat_lt
  have e1 : (x : Int) * 256 % 4294967296 = ((x * 256 : Nat) : Int) := by omega
  have e2 : (c.toNat : Int) % 4294967296 = (c.toNat : Int) := by omega
  have e3 := Nat.shiftLeft_add_eq_or_of_lt (i := 8) (b := c.toNat) (by omega) x
  rw [Nat.shiftLeft_eq] at e3
  rw [e1, e2, u32_or_nat _ _ (by omega) (by omega), ← e3]
theorem bytesWorld_below {B : Nat} {w0 w : World} (h : Below B w0 w) (hB : B ≤ w.heap.size) (e : TypeId) (s : ByteArray) : Below B w0 (Lib.bytesWorld w e s) :=
  h.trans ⟨rfl, rfl, rfl, by rw [Lib.bytesWorld_size]; omega, fun k hk => Lib.bytesWorld_at_old w e s k (by omega)⟩
theorem bytesWorld_cellAt (w : World) (e : TypeId) (s : ByteArray) (a b j : Nat) (hj : a + j < b) (hb : b ≤ s.size) :
    (Lib.bytesWorld w e (s.extract a b)).cell? ⟨w.heap.size, j, none⟩ = some (.int .u8 ((s.data.toList.getD (a + j) 0).toNat : Int)) := by
  rw [Lib.bytesWorld_cell _ _ _ _ (by simp; omega)]
  simp only [ByteArray.data_extract, List.getD, Array.toList_extract]
  rw [List.extract_eq_take_drop, List.getElem?_take, if_pos (by omega), List.getElem?_drop]

theorem u32_xor_div (x y k : Nat) (hx : x < 4294967296) (hy : y < 4294967296) : bits .xor .u32 (x : Int) ((y : Int) / ((k : Nat) : Int)) = ((x ^^^ y / k : Nat) : Int) := by
  rw [← Int.natCast_ediv, u32_xor_nat x (y / k) hx (Nat.lt_of_le_of_lt (Nat.div_le_self _ _) hy)]
theorem next_eq (ws : List Nat) (t x2 x7 x15 x16 : Nat) (hl : ws.length = t) (hx : x2 = ws.getD (t - 2) 0 ∧ x7 = ws.getD (t - 7) 0 ∧ x15 = ws.getD (t - 15) 0 ∧ x16 = ws.getD (t - 16) 0)
    (b2 : x2 < 4294967296) (b15 : x15 < 4294967296) :
    (((bits .xor .u32 (Sha.turned x2 [17, 19] : Nat) ((x2 : Int) / 1024) + (x7 : Int)) % 4294967296 + bits .xor .u32 (Sha.turned x15 [7, 18] : Nat) ((x15 : Int) / 8)) % 4294967296 + (x16 : Int)) % 4294967296 = ((Sha.next ws : Nat) : Int) := by
  have e1 : bits .xor .u32 (Sha.turned x2 [17, 19] : Nat) ((x2 : Int) / 1024) = _ := u32_xor_div (Sha.turned x2 [17, 19]) x2 1024 (Sha.turned_lt _ _ b2) b2
  have e2 : bits .xor .u32 (Sha.turned x15 [7, 18] : Nat) ((x15 : Int) / 8) = _ := u32_xor_div (Sha.turned x15 [7, 18]) x15 8 (Sha.turned_lt _ _ b15) b15
  rw [e1, e2]
  simp only [Sha.next]
  rw [hl, ← hx.1, ← hx.2.1, ← hx.2.2.1, ← hx.2.2.2]
  omega

set_option maxRecDepth 100000 in
set_option maxHeartbeats 4000000 in
theorem schedule_any (s : ByteArray) (hs : s.size = 64) (w : World) :
    Calls Tryd.prog 75 #[.string s] w fun e w' => e = .returned (.agg (u32s (Sha.schedule s.data.toList)).toArray) ∧ Below w.heap.size w w' := by
  go_enter Tryd.func75, Tryd.ntmps75
  go_wp2
  go_loopw [7] (fun i wr => ∃ k : Nat, k ≤ 16 ∧ i = .int .i64 k ∧ At wr w.heap.size 81 (u32s (Sha.first s.data.toList k ++ List.replicate (64 - k) 0)) ∧ Below w.heap.size w wr) (fun i _ => 16 - (intOf i).toNat)
  case atStart =>
    refine ⟨0, Nat.zero_le _, rfl, At.newA _ _ ?_, (Below.refl _ _).alloc (Nat.le_refl _) _⟩
    rw [Sha.first_zero]
    kernel_rfl
  case round =>
    obtain ⟨k, hk, rfl, hat, hbel⟩ := hrel
    by_cases hlt : k < 16
    · have hb1 : (0 : Int) ≤ 4 * (k : Int) := by omega
      have hb2 : 4 * (k : Int) ≤ 4 * (k : Int) + 4 := by omega
      have hb3 : 4 * (k : Int) + 4 ≤ (s.size : Int) := by omega
      have HS := Lib.hid hs
      have hconv := fun w s => Lib.run_convert_string_bytes (P := Tryd.prog) w 9 44 5 s Tryd.underlying9 Tryd.underlying44 Tryd.underlying5
      clear hs
      go_wp2
      have hn : min (4 * k + 4) s.size - 4 * k = 4 := by have := HS.out; omega
      rw [hn]
      have hlt2 := hat.lt
      have hbytes : ∀ j < 4, (Lib.bytesWorld wr 5 (s.extract (4 * k) (4 * k + 4))).cell? ⟨wr.heap.size, j, none⟩ = some (.int .u8 ((s.data.toList.getD (4 * k + j) 0).toNat : Int)) := by
        intro j hj
        exact bytesWorld_cellAt wr 5 s (4 * k) (4 * k + 4) j (by omega) (by omega)
      generalize hw1 : Lib.bytesWorld wr 5 (s.extract (4 * k) (4 * k + 4)) = w1 at hbytes ⊢
      have hat1 : At w1 w.heap.size 81 (u32s (Sha.first s.data.toList k ++ List.replicate (64 - k) 0)) := by
        subst hw1
        exact (Lib.bytesWorld_at_old wr 5 _ _ hat.lt).trans hat
      have hbel1 : Below w.heap.size w w1 := by
        subst hw1
        exact bytesWorld_below hbel (by omega) _ _
      obtain ⟨B, hB⟩ : ∃ B, B = wr.heap.size := ⟨_, rfl⟩
      rw [← hB] at hbytes hlt2 ⊢
      clear hw1 hB hat hbel hn hconv
      go_loopw [19] (fun j wj => ∃ i : Nat, i ≤ 4 ∧ j = .int .i64 i ∧ At wj w.heap.size 81 (u32s (Sha.first s.data.toList k ++ Sha.spell ((s.data.toList.drop (4 * k)).take i) :: List.replicate (63 - k) 0)) ∧ Below w.heap.size w wj ∧
          ∀ j < 4, wj.cell? ⟨B, j, none⟩ = some (.int .u8 ((s.data.toList.getD (4 * k + j) 0).toNat : Int))) (fun j _ => 4 - (intOf j).toNat)
      case atStart =>
        refine ⟨0, by omega, rfl, ?_, hbel1, hbytes⟩
        rw [show 64 - k = (63 - k) + 1 from by omega, List.replicate_succ] at hat1
        exact hat1
      case round =>
        obtain ⟨i, hi, rfl, hat2, hbel2, hby⟩ := hrel
        by_cases hlt3 : i < 4
        · have hcb := hby i hlt3
          have hget := hat2.cell' (i := k) (v := .int .u32 (Sha.spell ((s.data.toList.drop (4 * k)).take i) : Nat)) (by simp [u32s, Sha.first_length])
          have hfr := hat2.frozen k
          obtain ⟨x, hx⟩ : ∃ x, x = Sha.spell ((s.data.toList.drop (4 * k)).take i) := ⟨_, rfl⟩
          rw [← hx] at hget
          have HX := Lib.hid hx
          obtain ⟨c, hc⟩ : ∃ c, c = s.data.toList.getD (4 * k + i) 0 := ⟨_, rfl⟩
          rw [← hc] at hcb
          have HC := Lib.hid hc
          have HA := Lib.hid hat2
          have HB := Lib.hid hby
          have HE := Lib.hid hbel2
          clear hx hc hat2 hby hbel2 hbytes hat1 hbel1
          go_wp2
          go_roundw
          case rel =>
            have h24 : x < 16777216 := by
              have h1 := Sha.spell_lt ((s.data.toList.drop (4 * k)).take i)
              have h2 : ((s.data.toList.drop (4 * k)).take i).length ≤ 3 := Nat.le_trans (List.length_take_le _ _) (by omega)
              have h3 : (256 : Nat) ^ ((s.data.toList.drop (4 * k)).take i).length ≤ 256 ^ 3 := Nat.pow_le_pow_right (by omega) h2
              rw [HX.out]
              exact Nat.lt_of_lt_of_le h1 h3
            refine ⟨i + 1, by omega, by go_num, ?_, HE.out.setCell (Nat.le_refl _) _, ?_⟩
            · have h := (HA.out).set k (.int .u32 ((x * 256 + c.toNat : Nat) : Int))
              rw [u32_shl8_or x c h24]
              have hsz := bytes_length s
              have hlen : i < (s.data.toList.drop (4 * k)).length := by rw [List.length_drop, hsz]; omega
              rw [take_snoc _ i hlen, Sha.spell_snoc, ← HX.out]
              have hc2 : (s.data.toList.drop (4 * k))[i] = c := by
                rw [HC.out, List.getElem_drop, List.getD, List.getElem?_eq_getElem (by rw [hsz]; omega)]
                rfl
              rw [hc2]
              have hset : (u32s (Sha.first s.data.toList k ++ Sha.spell ((s.data.toList.drop (4 * k)).take i) :: List.replicate (63 - k) 0)).set k (.int .u32 ((x * 256 + c.toNat : Nat) : Int)) =
                  u32s (Sha.first s.data.toList k ++ (x * 256 + c.toNat) :: List.replicate (63 - k) 0) := by
                simp [u32s, Sha.first_length]
              rw [hset] at h
              exact h
            · intro j hj
              rw [World.cell?_setCell_other _ _ _ _ (by intro e; injection e; omega)]
              exact HB.out j hj
          case measure => simp [intOf]; omega
        · clear hby hbytes
          go_wp2
          go_roundw
          case rel =>
            refine ⟨k + 1, by omega, by go_num, ?_, hbel2⟩
            have hi4 : i = 4 := by omega
            subst hi4
            rw [Sha.first_succ, show 64 - (k + 1) = 63 - k from by omega, List.append_assoc]
            exact hat2
          case measure => simp [intOf]; omega
    · have hk16 : k = 16 := by omega
      rw [hk16] at hat
      clear hk16
      go_wp2
      go_loopw [6] (fun i wj => ∃ t : Nat, 16 ≤ t ∧ t ≤ 64 ∧ i = .int .i64 t ∧ At wj w.heap.size 81 (u32s (Sha.grow (t - 16) (Sha.first s.data.toList 16) ++ List.replicate (64 - t) 0)) ∧ Below w.heap.size w wj) (fun i _ => 64 - (intOf i).toNat)
      case atStart => exact ⟨16, by omega, by omega, rfl, hat, hbel⟩
      case round =>
        obtain ⟨t, ht1, ht2, rfl, hat2, hbel2⟩ := hrel
        by_cases hlt : t < 64
        · obtain ⟨ws, hws⟩ : ∃ ws, ws = Sha.grow (t - 16) (Sha.first s.data.toList 16) := ⟨_, rfl⟩
          have hlen : ws.length = t := by rw [hws, Sha.grow_length, Sha.first_length]; omega
          have hbd : ∀ x ∈ ws, x < 4294967296 := by rw [hws]; exact Sha.grow_lt _ _ (Sha.first_lt _ _)
          rw [← hws] at hat2
          have hcell : ∀ j, j < t → wr.cell? ⟨w.heap.size, j, none⟩ = some (.int .u32 (ws.getD j 0 : Nat)) := by
            intro j hj
            refine hat2.cell' ?_
            simp [u32s, List.getElem?_append, hlen, hj]
          have hb : ∀ j, ws.getD j 0 < 4294967296 := by
            intro j
            rw [List.getD]
            cases hj : ws[j]? with
            | none => decide
            | some x => exact hbd x (List.mem_of_getElem? hj)
          obtain ⟨x2, hx2⟩ : ∃ x, x = ws.getD (t - 2) 0 := ⟨_, rfl⟩
          obtain ⟨x7, hx7⟩ : ∃ x, x = ws.getD (t - 7) 0 := ⟨_, rfl⟩
          obtain ⟨x15, hx15⟩ : ∃ x, x = ws.getD (t - 15) 0 := ⟨_, rfl⟩
          obtain ⟨x16, hx16⟩ : ∃ x, x = ws.getD (t - 16) 0 := ⟨_, rfl⟩
          have c2 := hcell (t - 2) (by omega)
          have c7 := hcell (t - 7) (by omega)
          have c15 := hcell (t - 15) (by omega)
          have c16 := hcell (t - 16) (by omega)
          have b2 := hb (t - 2)
          have b7 := hb (t - 7)
          have b15 := hb (t - 15)
          have b16 := hb (t - 16)
          rw [← hx2] at c2 b2
          rw [← hx7] at c7 b7
          rw [← hx15] at c15 b15
          rw [← hx16] at c16 b16
          have HW := Lib.hid hws
          have HL := Lib.hid hlen
          have HX := Lib.hid (And.intro hx2 (And.intro hx7 (And.intro hx15 hx16)))
          have HA := Lib.hid hat2
          have HE := Lib.hid hbel2
          have c0 : wr.cell? ⟨w.heap.size, t, none⟩ = some (valAt wr w.heap.size t) := by
            refine valAt_some ?_
            rw [hat2.cell]
            have h1 : 0 < 64 - t := by omega
            simp [u32s, HL.out, h1]
          have f0 := hat2.frozen t
          clear hws hlen hx2 hx7 hx15 hx16 hat2 hbel2 hcell hb hbd hat hbel
          have i1 : (0 : Int) ≤ (t : Int) := by omega
          have i2 : (t : Int) < 64 := by omega
          have w2 : IntKind.i64.wrap ((t : Int) - 2) = (t : Int) - 2 := IntWalk.i64_in _ (by omega)
          have w7 : IntKind.i64.wrap ((t : Int) - 7) = (t : Int) - 7 := IntWalk.i64_in _ (by omega)
          have w15 : IntKind.i64.wrap ((t : Int) - 15) = (t : Int) - 15 := IntWalk.i64_in _ (by omega)
          have w16 : IntKind.i64.wrap ((t : Int) - 16) = (t : Int) - 16 := IntWalk.i64_in _ (by omega)
          have p2 : (0 : Int) ≤ (t : Int) - 2 := by omega
          have p7 : (0 : Int) ≤ (t : Int) - 7 := by omega
          have p15 : (0 : Int) ≤ (t : Int) - 15 := by omega
          have p16 : (0 : Int) ≤ (t : Int) - 16 := by omega
          have q2 : (t : Int) - 2 < 64 := by omega
          have q7 : (t : Int) - 7 < 64 := by omega
          have q15 : (t : Int) - 15 < 64 := by omega
          have q16 : (t : Int) - 16 < 64 := by omega
          have n2 : ((t : Int) - 2).toNat = t - 2 := by omega
          have n7 : ((t : Int) - 7).toNat = t - 7 := by omega
          have n15 : ((t : Int) - 15).toNat = t - 15 := by omega
          have n16 : ((t : Int) - 16).toNat = t - 16 := by omega
          have r2 : (2 : Int) ≤ (t : Int) := by omega
          have r7 : (7 : Int) ≤ (t : Int) := by omega
          have r15 : (15 : Int) ≤ (t : Int) := by omega
          have r16 : (16 : Int) ≤ (t : Int) := by omega
          have d2 : ¬ t = t - 2 := by omega
          have d7 : ¬ t = t - 7 := by omega
          have d15 : ¬ t = t - 15 := by omega
          have d16 : ¬ t = t - 16 := by omega
          go_wp2
          go_region_held3 (fun w' => w'.cell? ⟨w.heap.size, t - 2, none⟩ = some (.int .u32 x2) ∧ w'.cell? ⟨w.heap.size, t - 7, none⟩ = some (.int .u32 x7) ∧
              w'.cell? ⟨w.heap.size, t - 15, none⟩ = some (.int .u32 x15) ∧ w'.cell? ⟨w.heap.size, t - 16, none⟩ = some (.int .u32 x16) ∧ w'.cell? ⟨w.heap.size, t, none⟩ = some (valAt w' w.heap.size t) ∧ w'.frozen? ⟨w.heap.size, t, none⟩ = false)
            ((refine ⟨?_, ?_, ?_, ?_, ?_, ?_⟩ <;> first
              | (simp [*, World.cell?_alloc_some, frozen?_alloc_cells]; done)
              | (refine valAt_some ?_; simp [*, World.cell?_alloc_some, isSome_set]; done)
              | (simp [*, World.cell?_alloc_some, cell_set_ne]; done)
              | (simp [*, frozen?_alloc_cells, frozen_set]; done)))
            (first
              | (go_at_call 76; (with_reducible refine (turned_17_19 x2 _ _ _ b2 ?_ ?_).mono ?_); (focus (simp [go_sem]; done)); (focus (simp [go_sem]; done)); rintro e w' ⟨rfl, rfl⟩)
              | (go_at_call 76; (with_reducible refine (turned_7_18 x15 _ _ _ b15 ?_ ?_).mono ?_); (focus (simp [go_sem]; done)); (focus (simp [go_sem]; done)); rintro e w' ⟨rfl, rfl⟩))
          all_goals
            go_wp2
            go_roundw
            case rel =>
              refine ⟨t + 1, by omega, by omega, by go_num, ?_, ?_⟩
              · have he := next_eq ws t x2 x7 x15 x16 HL.out HX.out b2 b15
                rw [he]
                have hset : (u32s (ws ++ List.replicate (64 - t) 0)).set t (.int .u32 ((Sha.next ws : Nat) : Int)) = u32s (Sha.grow (t + 1 - 16) (Sha.first s.data.toList 16) ++ List.replicate (64 - (t + 1)) 0) := by
                  rw [show t + 1 - 16 = (t - 16) + 1 from by omega, Sha.grow_succ, ← HW.out, show 64 - t = (64 - (t + 1)) + 1 from by omega, List.replicate_succ, List.append_assoc]
                  simp [u32s, HL.out]
                rw [← hset]
                exact ((HA.out.alloc _).alloc _).set t _
              · exact ((HE.out.alloc (Nat.le_of_lt HA.out.lt) _).alloc (by simp; have := HA.out.lt; omega) _).setCell (p := ⟨w.heap.size, t, none⟩) (Nat.le_refl _) _ |>.drew
            case measure => simp [intOf]; omega
        · have ht : t = 64 := by omega
          subst ht
          clear hat hbel
          obtain ⟨cs, hcs⟩ : ∃ cs, cs = u32s (Sha.grow (64 - 16) (Sha.first s.data.toList 16) ++ List.replicate (64 - 64) 0) := ⟨_, rfl⟩
          have hcs2 : cs = u32s (Sha.schedule s.data.toList) := by rw [hcs]; simp [Sha.schedule]
          rw [← hcs] at hat2
          clear hcs
          have HC := Lib.hid hcs2
          clear hcs2
          have hcl : cs.length = 64 := by rw [HC.out, u32s_length, Sha.schedule_length]
          have h1 : ∀ v ∈ cs, v.oneCell' = true := by
            intro v hv
            rw [HC.out] at hv
            simp only [u32s, List.mem_map] at hv
            obtain ⟨n, _, rfl⟩ := hv
            rfl
          have hi : (Tryd.prog.info? 81).map (·.size) = some cs.length := by rw [hcl]; kernel_rfl
          have HL := Lib.hid hcl
          have HI := Lib.hid hi
          have H1 := Lib.hid h1
          have HE := Lib.hid hbel2
          clear hcl hi h1 hbel2
          go_wp2_with (first
            | (with_reducible refine wpList_loadAll rfl 81 (.tmp 2) rfl _ rfl _ _ _ hat2 Tryd.underlying81 rfl HI.out ?_)
            | (with_reducible refine wpList_storeAll rfl 81 (.tmp 2) (.tmp 75) rfl _ rfl _ _ _ hat2 rfl rfl HI.out H1.out ?_; intro w3 hat3 hg3 hs3))
          refine ret_cellAll rfl rfl w.heap.size _ cs _ rfl hat3 Tryd.underlying81 rfl HI.out ⟨by rw [HC.out], ?_⟩
          exact HE.out.grown hg3 (Nat.le_of_lt hat2.lt) (by intro k hk; injection hk; omega)
end Go.Proofs.YtdfeiajdmmlllaaDoor
