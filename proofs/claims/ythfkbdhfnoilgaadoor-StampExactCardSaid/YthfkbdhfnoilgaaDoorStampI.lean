/- Layer 2: Hex: what it computes. -/
import Derived.Test.YthfkbdhfnoilgaaDoorStampH
import Derived.Deep.RegionHeld3
namespace Go.Proofs.YthfkbdhfnoilgaaDoor
open Go.RowKit

theorem step_append_Own {P : Program} (w : World) {ops : Array Oper} {o : Oper} {a : Act} {K : Act → World → Prop} {Q : Exit → Act → World → Prop} {E : Prop} (hgd : o.guard = none) (s x : Operand) (t : TypeId)
    (ho : o.op = .call { callee := .builtin .append, args := #[s, x], argTypes := #[t, t] })
    (base : Nat) (e : TypeId) (i : TypeInfo) (z : Value) (size bytes : Nat) (ht : P.underlying t = some (.slice e)) (hi : P.info? e = some i) (hz : i.zero = some z)
    (hsize : i.size = size) (hby : i.bytes = bytes) (hzs : z.cells.size = size) (hsz : 0 < size)
    (v : Value) (n : Nat) (xs : List Value) (hs : a.eval s = v) (hown : Own w base e size v n xs)
    (ad : Addr) (m c : Nat) (news : List Value) (hx : a.eval x = .slice (some ad) m c) (hl : news.length = m * size) (hnews : ∀ j u, news[j]? = some u → w.cell? (ad.add j) = some u) (h1 : ∀ u ∈ news, u.oneCell' = true)
    (h63 : n + m ≤ maxLen) (hbytes : (n + m) * bytes ≤ 140737488355328) (hbase : base ≤ w.heap.size)
    (h : ∀ v' w', Own w' base e size v' (n + m) (xs ++ news) → w.grownBy w' v.ownBlock → (v'.ownBlock = v.ownBlock ∨ v'.ownBlock = some w.heap.size) → K (a.put o.dst v') w') :
    if Region.wanted o (yielded ops a.tmps) = true then Oper.wp P o a w K Q else E := by
  have hw : Region.wanted o (yielded ops a.tmps) = true := by simp [Region.wanted, hgd]
  rw [if_pos hw]
  exact wp_append_Own w s x t ho base e i z size bytes ht hi hz hsize hby hzs hsz v n xs hs hown ad m c news hx hl hnews h1 h63 hbytes hbase h

theorem two_new (w : World) (x y : Value) (t : TypeId) : ∀ j u, [x, y][j]? = some u → ((w.alloc (.cells #[x, y] t)).drew).cell? ((⟨w.heap.size, 0, none⟩ : Addr).add j) = some u := by
  intro j u hu
  have h := At.new w t [x, y]
  have e : (⟨w.heap.size, 0, none⟩ : Addr).add j = ⟨w.heap.size, j, none⟩ := by unfold Addr.add; split <;> simp_all
  rw [e]
  exact h.drew.cell' hu
theorem oneCell_two (k : IntKind) (n m : Int) : ∀ u ∈ [Value.int k n, Value.int k m], u.oneCell' = true := by
  intro u hu
  simp at hu
  rcases hu with rfl | rfl <;> rfl
def hexd (k : Nat) : UInt8 := if k < 10 then UInt8.ofNat (48 + k) else UInt8.ofNat (87 + k)
def hexOf (b : UInt8) : List UInt8 := [hexd (b.toNat / 16), hexd (b.toNat % 16)]
def hexL (d : List UInt8) : List UInt8 := d.flatMap hexOf
theorem hexL_length (d : List UInt8) : (hexL d).length = 2 * d.length := by
  induction d with
  | nil => rfl
  | cons b d ih => simp only [hexL, List.flatMap_cons, List.length_append, List.length_cons] at ih ⊢; rw [ih]; simp [hexOf]; omega
theorem hexL_snoc (d : List UInt8) (b : UInt8) : hexL (d ++ [b]) = hexL d ++ hexOf b := by simp [hexL]
def hexDigits : ByteArray := ⟨#[48, 49, 50, 51, 52, 53, 54, 55, 56, 57, 97, 98, 99, 100, 101, 102]⟩
theorem hexd_at (k : Nat) (hk : k < 16) : hexDigits[k]'hk = hexd k := by
  have : ∀ k : Fin 16, hexDigits[k.val]'k.isLt = hexd k.val := by decide +kernel
  exact this ⟨k, hk⟩
theorem run_hex (w : World) (k : Nat) (hk : k < 16) : (Instr.index 9 (.string ⟨#[48, 49, 50, 51, 52, 53, 54, 55, 56, 57, 97, 98, 99, 100, 101, 102]⟩) (.int .u8 (k : Int))).run Tryd.prog w = .ok (.int .u8 ((hexd k).toNat : Int)) w := by
  have h0 : (0 : Int) ≤ (k : Int) ∧ (k : Int) < (hexDigits.size : Nat) := ⟨by omega, by show (k : Int) < (16 : Nat); omega⟩
  have := run_index_string (P := Tryd.prog) w 9 hexDigits .u8 (k : Int) Tryd.underlying9
  rw [dif_pos h0] at this
  rw [← hexd_at k hk]
  exact this
theorem and15 (x : Nat) (hx : x < 256) : bits .and .u8 (x : Int) 15 = ((x % 16 : Nat) : Int) := by
  have : ∀ x : Fin 256, bits .and .u8 (x.val : Int) 15 = ((x.val % 16 : Nat) : Int) := by decide +kernel
  exact this ⟨x, hx⟩

set_option maxRecDepth 100000 in
set_option maxHeartbeats 1000000 in
theorem hex_any (d : List UInt8) (hd : d.length = 32) (w : World) :
    Calls Tryd.prog 15 #[dgV d] w fun e w' => e = .returned (.string ⟨(hexL d).toArray⟩) ∧ Below w.heap.size w w' := by
  have h1 : At (w.alloc (.cells (u8s d).toArray 27)) w.heap.size 27 (u8s d) := At.new w _ _
  have hB : Below w.heap.size w (w.alloc (.cells (u8s d).toArray 27)) := (Below.refl _ _).alloc (Nat.le_refl _) _
  have HI := Lib.hid (show (Tryd.prog.info? 27).map (·.size) = some (u8s d).length by rw [u8s_length, hd]; kernel_rfl)
  have HD := Lib.hid hd
  obtain ⟨i0, hi, hz0, hz1, hz2⟩ := info_parts info_u8
  clear hd
  unfold dgV
  go_enter Tryd.func15, Tryd.ntmps15
  go_wp2_with (with_reducible refine wpList_loadAll rfl 27 (.tmp 1) rfl _ rfl _ _ _ h1 Tryd.underlying27 rfl HI.out ?_)
  generalize w.alloc (.cells (u8s d).toArray 27) = w1 at h1 hB ⊢
  obtain ⟨Bq, hBq⟩ : ∃ Bq, Bq = w1.heap.size := ⟨_, rfl⟩
  have hwB : w.heap.size ≤ Bq := by rw [hBq]; exact hB.size
  have HQ := Lib.hid (show Bq ≤ w1.heap.size by omega)
  have HB := Lib.hid hB
  clear h1 hB hBq
  go_loopw [3, 7] (fun v i wr => ∃ k : Nat, k ≤ 32 ∧ i = .int .i64 k ∧ Own wr Bq 5 1 v (2 * k) (u8s (hexL (d.take k))) ∧ Below w.heap.size w wr ∧ Bq ≤ wr.heap.size) (fun _ i _ => 32 - (intOf i).toNat)
  case atStart => exact ⟨0, by omega, rfl, Own.nil _ _ _ _, HB.out, HQ.out⟩
  case round =>
    rename_i v _
    obtain ⟨k, hk, rfl, hO, hb, hBl⟩ := hrel
    by_cases hlt : k < 32
    · obtain ⟨b, hbe⟩ : ∃ b, b = d.getD k 0 := ⟨_, rfl⟩
      obtain ⟨x, hx⟩ : ∃ x, x = b.toNat := ⟨_, rfl⟩
      have hx256 : x < 256 := by rw [hx]; exact b.toNat_lt
      have hidx : ∀ w, (Instr.index 27 (.agg (u8s d).toArray) (.int .i64 (k : Int))).run Tryd.prog w = .ok (.int .u8 (x : Int)) w := by
        intro w
        refine run_index_arr w 27 5 32 .i64 k _ _ Tryd.underlying27 (by kernel_rfl) Tryd.underlying5 hlt ?_
        have := HD.out
        rw [hx, hbe]
        simp [u8s, List.getD, this, hlt]
      obtain ⟨q, hq⟩ : ∃ q, q = x / 16 := ⟨_, rfl⟩
      obtain ⟨r, hr⟩ : ∃ r, r = x % 16 := ⟨_, rfl⟩
      have hq1 : (x : Int) / 16 = (q : Int) := by omega
      have hr1 : bits .and .u8 (x : Int) 15 = (r : Int) := by rw [and15 x hx256, hr]
      have hx1 := fun w => run_hex w q (by omega)
      have hx2 := fun w => run_hex w r (by omega)
      have HX := Lib.hid (And.intro hbe (And.intro hx (And.intro hq hr)))
      have HB2 := Lib.hid hb
      have HO := Lib.hid hO
      clear hbe hx hq hr hb hO
      go_wp2_with fail
      go_region_held3 (fun w' => True) (trivial)
        ((refine step_append_Own _ rfl (.tmp 10) (.tmp 17) 43 rfl Bq 5 i0 _ 1 1 Tryd.underlying43 hi hz0 hz1 hz2 rfl (by omega) _ _ _ rfl (HO.out.alloc _).drew ⟨_, 0, none⟩ 2 2 [.int .u8 ((hexd q).toNat : Int), .int .u8 ((hexd r).toNat : Int)] rfl rfl ?_ ?_ ?_ ?_ ?_ ?_; (focus (exact two_new _ _ _ _)); (focus (exact oneCell_two _ _ _)); (focus (unfold maxLen; omega)); (focus omega); (focus (simp; omega)); intro v2 w2 hO2 hg2 hat2))
      all_goals
        go_wp2_with fail
        go_roundw
        case rel =>
          refine ⟨k + 1, by omega, by go_num, ?_, ((HB2.out.alloc (by omega) _).drew).grown hg2 (by simp; omega) ?_, ?_⟩
          · have hdl := HD.out
            have hbk : d[k]'(by omega) = b := by
              rw [HX.out.1, List.getD, List.getElem?_eq_getElem (by omega)]
              rfl
            rw [take_snoc d k (by omega), hbk, hexL_snoc, u8s_append, show 2 * (k + 1) = 2 * k + 2 from by omega]
            have e : u8s (hexOf b) = [.int .u8 ((hexd q).toNat : Int), .int .u8 ((hexd r).toNat : Int)] := by
              rw [HX.out.2.2.1, HX.out.2.2.2, HX.out.2.1]
              rfl
            rw [e]
            exact hO2
          · intro g hg
            have := (HO.out.lt g hg).1
            omega
          · have := hg2.size
            simp at this
            omega
        case measure => simp [intOf]; omega
    · have hk32 : k = 32 := by omega
      subst hk32
      have hdl := HD.out
      rw [List.take_of_length_le (by omega)] at hO
      obtain ⟨g, cap, rfl, _, _, _, _⟩ := hO.form (by omega)
      have hc := run_convert_bytes_back (P := Tryd.prog) wr 43 9 5 ⟨g, 0, none⟩ cap (hexL d) Tryd.underlying43 Tryd.underlying5 Tryd.underlying9 (by
        intro j hj
        have e : (⟨g, 0, none⟩ : Addr).add j = ⟨g, j, none⟩ := by unfold Addr.add; split <;> simp_all
        rw [hexL_length] at hj
        rw [e, hO.cellAt rfl j (by omega)]
        simp [u8s, hexL_length, hj])
      rw [hexL_length, hdl] at hc
      have HB2 := Lib.hid hb
      clear hb hdl hO
      go_wp2_with fail
      go_ret
      exact ⟨rfl, HB2.out⟩
end Go.Proofs.YthfkbdhfnoilgaaDoor
