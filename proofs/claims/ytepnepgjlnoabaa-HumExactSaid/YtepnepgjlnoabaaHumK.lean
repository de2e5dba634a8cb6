/- Layer 11: Left; Take and Left at nil. -/
import Derived.Test.YtepnepgjlnoabaaHumJ
namespace Go.Proofs.Ytepnepgjlnoabaa
open Go.Proofs Stab Go.Shelf Go.RowKit Go.Lib Go.Sort Go.Maps

/-- rumours as cells, one behind the other -/
def rumsV (l : List Rum) : List Value := l.flatMap rumC
theorem info_rum : (Try.prog.info? 48).map (fun i => (i.zero, i.size, i.bytes)) = some (some (.agg (rumC ⟨Mem.zero, 0⟩).toArray), 4, 32) := by kernel_rfl
theorem rumAt (w : World) (r : Rum) : At (w.alloc (.cells #[.int .i64 r.m.n, .int .i64 r.m.i, .int .i64 r.m.s, .int .i64 r.k] 48)) w.heap.size 48 (rumC r) := At.newA _ _ rfl
theorem four_new (w : World) (r : Rum) : ∀ j u, (rumC r)[j]? = some u → (w.alloc (.cells #[.int .i64 r.m.n, .int .i64 r.m.i, .int .i64 r.m.s, .int .i64 r.k] 48)).cell? ((⟨w.heap.size, 0, none⟩ : Addr).add j) = some u := by
  intro j u hu
  have e : (⟨w.heap.size, 0, none⟩ : Addr).add j = ⟨w.heap.size, j, none⟩ := by unfold Addr.add; split <;> simp_all
  rw [e]
  exact (rumAt w r).cell' hu
theorem rumC_oneCell (r : Rum) : ∀ u ∈ rumC r, u.oneCell' = true := by
  intro u hu
  simp only [rumC, List.mem_cons, List.not_mem_nil, or_false] at hu
  rcases hu with rfl | rfl | rfl | rfl <;> rfl
theorem take_none (n : Int) (w : World) : Calls Try.prog 12 #[.pointer none, .int .i64 n] w fun e w' => e = .returned (.slice none 0 0) ∧ Below w.heap.size w w' := by
  go_enter Try.func12, Try.ntmps12
  go_wp2_with fail
  refine (sorted_none _).mono ?_
  rintro e w1 ⟨rfl, rfl⟩
  go_wp2_with fail
  refine (stable_r (w := w1) (B := 0) (v := .slice none 0 0) (n := 0) (l := []) (F := fun _ => none) (fun q hq => absurd hq List.not_mem_nil) (World.ownsRow_nil _ _ _ _) (fun x q hx => nomatch hx) (fun x q hx => nomatch hx) (Nat.zero_le _)).mono ?_
  rintro e w2 ⟨rfl, _, hg2⟩
  have HB := Lib.hid (show Below w1.heap.size w1 w2 from (Below.refl _ _).grown hg2 (Nat.le_refl _) (fun k hk => nomatch hk))
  clear hg2
  have hKK : min (max n 0) (0 : Int) = 0 := by omega
  go_wp2_with fail
  go_loopw [4, 20] (fun v4 i wr => v4 = .slice none 0 0 ∧ i = .int .i64 0 ∧ wr = w2) (fun _ _ _ => 0)
  case atStart => exact ⟨rfl, rfl, rfl⟩
  case round =>
    obtain ⟨rfl, rfl, rfl⟩ := hrel
    go_wp2_with fail
    go_ret
    exact ⟨rfl, HB.out⟩
theorem left_none (w : World) : Calls Try.prog 15 #[.pointer none] w fun e w' => e = .returned (.slice none 0 0) ∧ w' = w := by
  go_enter Try.func15, Try.ntmps15
  go_wp2_with fail
  refine (sorted_none _).mono ?_
  rintro e w1 ⟨rfl, rfl⟩
  go_wp2_with fail
  go_loopw [2, 8] (fun v2 i wr => v2 = .slice none 0 0 ∧ i = .int .i64 0 ∧ wr = w1) (fun _ _ _ => 0)
  case atStart => exact ⟨rfl, rfl, rfl⟩
  case round =>
    obtain ⟨rfl, rfl, rfl⟩ := hrel
    go_wp2_with fail
    go_ret
    exact ⟨rfl, rfl⟩
set_option maxRecDepth 100000 in
set_option maxHeartbeats 4000000 in
theorem left_any {H : Type} {w : World} {Z : Nat → Prop} {p b N : Nat} {t : Int} {f : Hm.St} (h : HumSt H w Z p b N t f) :
    Calls Try.prog 15 #[.pointer (some ⟨p, 0, none⟩)] w fun e w' => ∃ v, e = .returned v ∧ Own w' w.heap.size 48 4 v (Hm.all f).length (rumsV (Hm.all f)) ∧ Below w.heap.size w w' := by
  obtain ⟨⟨F, hF, hf, _⟩, _, _, _⟩ := h
  subst hf
  have HF := Lib.hid hF
  obtain ⟨i0, hi, hz0, hz1, hz2⟩ := info_parts info_rum
  clear hF
  go_enter Try.func15, Try.ntmps15
  go_wp2_with fail
  refine (sorted_any HF.out).mono ?_
  rintro e w1 ⟨v, rfl, hrow, hb1⟩
  have HB1 := Lib.hid hb1
  have HR := Lib.hid hrow
  clear hb1 hrow
  obtain ⟨L, hL⟩ : ∃ L, L = allB F := ⟨_, rfl⟩
  obtain ⟨len, hlen⟩ : ∃ len, len = (allB F).length := ⟨_, rfl⟩
  have h6 : len ≤ 6 := by rw [hlen]; exact allB_six F
  rw [← hlen, ← hL] at HR
  have hLl : L.length = len := by rw [hL, hlen]
  have hform : ∃ A c, v = .slice A len c := by
    rcases row_cases HR.out with ⟨rfl, h0, _⟩ | ⟨g, cap, rfl, _, _, hc, _⟩
    · exact ⟨none, 0, by rw [h0]⟩
    · exact ⟨_, _, rfl⟩
  obtain ⟨A, c, rfl⟩ := hform
  have HL := Lib.hid hL
  have HLl := Lib.hid hLl
  clear hL hLl hlen
  go_wp2_with fail
  obtain ⟨B, hBe⟩ : ∃ B, B = w1.heap.size := ⟨_, rfl⟩
  have hwB : w.heap.size ≤ B := by rw [hBe]; exact HB1.out.size
  have HBe := Lib.hid hBe
  clear hBe
  go_loopw [2, 8] (fun v2 i wr => ∃ k : Nat, k ≤ len ∧ i = .int .i64 k ∧ Own wr B 48 4 v2 k (rumsV ((L.take k).map fun q => q.2)) ∧ Below w1.heap.size w1 wr) (fun _ i _ => len - (RowKit.intOf i).toNat)
  case atStart => exact ⟨0, by omega, rfl, Own.nil _ _ _ _, Below.refl _ _⟩
  case round =>
    obtain ⟨k, hk, rfl, hO2, hb⟩ := hrel
    have hBw : Below w.heap.size w wr := HB1.out.trans (hb.mono HB1.out.size)
    have hLL := HLl.out
    by_cases hlt : k < len
    · obtain ⟨g, cap, hA, hgb, hgl, _, _⟩ := (own_ofRow HR.out).form (by omega)
      obtain ⟨rfl, rfl⟩ : A = some ⟨g, 0, none⟩ ∧ c = cap := by simpa using hA
      have hkL : k < L.length := by omega
      obtain ⟨⟨gq, r⟩, hq⟩ : ∃ q : Cell, q = L[k] := ⟨_, rfl⟩
      have hqF : F r.m.n = some (gq, r) := by
        have h := (mem_allB HF.out.sane (q := (gq, r))).1 (by rw [hq, ← HL.out]; exact List.getElem_mem hkL)
        exact h
      have hat := (HF.out.below hBw).at_ _ _ _ hqF
      have ck : wr.cell? ⟨g, k, none⟩ = some (ptrV gq) := by
        rw [hb.cell (p := ⟨g, k, none⟩) hgl, (own_ofRow HR.out).cellAt rfl k (by omega)]
        simp [ptrC, hkL, ← hq]
      simp only [ptrV] at ck
      have r0 := hat.cell' (i := 0) (v := .int .i64 r.m.n) rfl
      have r1 := hat.cell' (i := 1) (v := .int .i64 r.m.i) rfl
      have r2 := hat.cell' (i := 2) (v := .int .i64 r.m.s) rfl
      have r3 := hat.cell' (i := 3) (v := .int .i64 r.k) rfl
      have HQ := Lib.hid hq
      have HO2 := Lib.hid hO2
      have HBr := Lib.hid hb
      have HBq := Lib.hid (show B ≤ wr.heap.size from by rw [HBe.out]; exact hb.size)
      have i1 : (0 : Int) ≤ (k : Int) := by omega
      have i2 : (k : Int) < (len : Int) := by omega
      clear hq hqF hat hO2 hb hA hBw hLL
      go_wp2_with (at_builtin; (refine wpList_append_Own _ rfl (.tmp 12) (.tmp 16) 36 rfl B 48 i0 _ 4 32 Try.underlying36 hi hz0 hz1 hz2 rfl (by omega) _ _ _ rfl (HO2.out.alloc _) ⟨_, 0, none⟩ 1 1 (rumC r) rfl rfl (four_new _ _) (rumC_oneCell _) ?_ ?_ ?_ ?_); (focus (unfold maxLen; omega)); (focus omega); (focus (have := HBq.out; simp; omega)); intro v9 w9 hO9 hg9 hat9)
      go_roundw
      case rel =>
        refine ⟨k + 1, by omega, by go_num, ?_, ?_⟩
        · rw [take_snoc L k hkL, ← HQ.out, List.map_append]
          have e : rumsV ((L.take k).map (fun q => q.2) ++ [((gq, r) : Cell)].map fun q => q.2) = rumsV ((L.take k).map fun q => q.2) ++ rumC r := by simp [rumsV]
          rw [e]
          exact hO9
        · exact own_below2 (HO2.out.alloc _) (HBr.out.alloc HBr.out.size _) (by have := HBe.out; omega) (HBr.out.alloc HBr.out.size _).size hg9
      case measure => simp [RowKit.intOf]; omega
    · have hkl : k = len := by omega
      have HO2 := Lib.hid hO2
      have HBw := Lib.hid hBw
      have HKL := Lib.hid hkl
      clear hO2 hBw hkl hb
      go_wp2_with fail
      go_ret
      refine ⟨u2, rfl, ?_, HBw.out⟩
      have h := HO2.out
      have hm : (L.take k).map (fun q => q.2) = Hm.all (rums F) := by
        rw [List.take_of_length_le (by have := HKL.out; omega), HL.out]
        exact allB_rums F
      have hl : k = (Hm.all (rums F)).length := by rw [← hm, List.length_map, List.length_take, HLl.out]; omega
      rw [hm] at h
      rw [← hl]
      exact h.rebase hwB
end Go.Proofs.Ytepnepgjlnoabaa
