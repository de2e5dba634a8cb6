/- Layer 11: calls in a row; HumFresh: what was told least is told first. -/
import Derived.Test.YtepnepgjlnoabaaHumU
namespace Go.Proofs.Ytepnepgjlnoabaa
open Go.Proofs Stab Go.Shelf Go.RowKit Go.Lib Go.Sort Go.Maps

/-- a call: 1 Push(L), 2 Take(N) -/
structure ActM where
  kind : Int
  A : Option Addr
  c : Nat
  l : List Mem
  n : Int
def actC (x : ActM) : List Value := [.int .i64 x.kind, .slice x.A x.l.length x.c, .int .i64 x.n]
def ActM.Wf (x : ActM) : Prop := (-9223372036854775808 ≤ x.kind ∧ x.kind ≤ 9223372036854775807) ∧ (-9223372036854775808 ≤ x.n ∧ x.n ≤ 9223372036854775807) ∧ x.l.length ≤ x.c ∧ x.c ≤ maxLen
/-- the slice value holds these calls -/
def ActsIn (w : World) (A : Option Addr) (xs : List ActM) : Prop :=
  0 < xs.length → ∃ g off, A = some ⟨g, off, none⟩ ∧ g < w.heap.size ∧ ∀ i (h : i < xs.length), w.rangeAt g (off + i * 3) (actC xs[i]) ∧ MemsIn w xs[i].A xs[i].l ∧ xs[i].Wf
theorem ActsIn.cells {w w' : World} {A : Option Addr} {xs : List ActM} (h : ActsIn w A xs) (hb : Below w.heap.size w w') {k : Nat} (hk : k < xs.length) :
    ∃ g off, A = some ⟨g, off, none⟩ ∧ g < w.heap.size ∧ w'.cell? ⟨g, off + k * 3, none⟩ = some (.int .i64 xs[k].kind) ∧ w'.cell? ⟨g, off + k * 3 + 1, none⟩ = some (.slice xs[k].A xs[k].l.length xs[k].c) ∧ w'.cell? ⟨g, off + k * 3 + 2, none⟩ = some (.int .i64 xs[k].n) ∧ MemsIn w' xs[k].A xs[k].l ∧ xs[k].Wf := by
  obtain ⟨g, off, rfl, hlt, hc⟩ := h (by omega)
  obtain ⟨h1, h2, h3⟩ := hc k hk
  exact ⟨g, off, rfl, hlt, (hb.cell (p := ⟨g, off + k * 3, none⟩) hlt).trans (h1 0 _ rfl), (hb.cell (p := ⟨g, off + k * 3 + 1, none⟩) hlt).trans (h1 1 _ rfl), (hb.cell (p := ⟨g, off + k * 3 + 2, none⟩) hlt).trans (h1 2 _ rfl), h2.below hb, h3⟩
theorem ActsIn.mems {w : World} {A : Option Addr} {xs : List ActM} (h : ActsIn w A xs) {k : Nat} (hk : k < xs.length) : MemsIn w xs[k].A xs[k].l := by
  obtain ⟨g, off, rfl, hlt, hc⟩ := h (by omega)
  exact (hc k hk).2.1
theorem actAt (w : World) (x : ActM) : At (w.alloc (.cells #[.int .i64 x.kind, .slice x.A x.l.length x.c, .int .i64 x.n] 30)) w.heap.size 30 (actC x) := At.newA _ _ rfl
theorem HumSt.mono {H : Type} {w : World} {A : Nat → Prop} {p b N N' : Nat} {t : Int} {f : Hm.St} (h : HumSt H w A p b N t f) (hN : N ≤ N') : HumSt H w A p b N' t f := by
  obtain ⟨⟨F, h1, h2, h3⟩, h4, h5, h6⟩ := h
  exact ⟨⟨F, h1.mono hN, h2, h3⟩, h4, h5, h6⟩
namespace Hm
theorem mem_all_sorted {t : Int} {f : St} (h : Sane t f) {r : Rum} (hr : r ∈ all f) : r ∈ sorted f := (mem_sorted h).2 ((mem_all h).1 hr)
/-- a rumour whose member is told is told -/
theorem told_of_mem {t q : Int} {f : St} (h : Sane t f) {r : Rum} (hr : r ∈ all f) (hm : r.m ∈ (told q f).map (·.m)) : r ∈ told q f := by
  obtain ⟨r', h1, h2⟩ := List.mem_map.1 hm
  have h3 := told_node h h1
  have h4 := (mem_all h).1 hr
  rw [h2, h4] at h3
  rw [Option.some.inj h3]
  exact h1
theorem told_least {t q : Int} {f : St} (h : Sane t f) {r u : Rum} (hr : r ∈ all f) (hrt : r.m ∈ (told q f).map (·.m)) (hu : u ∈ all f) (hut : u.m ∉ (told q f).map (·.m)) : u.k ≤ r.k :=
  told_high (told_of_mem h hr hrt) (mem_all_sorted h hu) fun hm => hut (List.mem_map.2 ⟨u, hm, rfl⟩)
theorem told_len (q : Int) (f : St) : (told q f).length = min (max q 0).toNat (all f).length := by
  unfold told
  rw [List.length_take, sorted_len]
theorem all_six (f : St) : (all f).length ≤ 6 := List.length_filterMap_le _ nodes
end Hm
theorem exec_field0 {a : Act} {o : Oper} (x : Operand) (ho : o.op = .fieldAddr 48 x 0) (g off : Nat) (hx : a.eval x = .pointer (some ⟨g, off, none⟩)) (w : World) : (execOp a.eval o).run Try.prog w = .ok (.value (.pointer (some ⟨g, off, none⟩))) w := by
  unfold execOp
  simp only [ho, hx]
  go_simp
theorem rumsV_at (l : List Rum) (i : Nat) (hi : i < l.length) (j : Nat) (v : Value) (hv : (rumC l[i])[j]? = some v) : (rumsV l)[i * 4 + j]? = some v := by
  induction l generalizing i with
  | nil => simp at hi
  | cons m l ih =>
    cases i with
    | zero =>
      have hj : j < 4 := by
        have := (List.getElem?_eq_some_iff.1 hv).1
        simpa [rumC] using this
      unfold rumsV
      rw [List.flatMap_cons, Nat.zero_mul, Nat.zero_add, List.getElem?_append_left (by simpa [rumC] using hj)]
      exact hv
    | succ i =>
      unfold rumsV
      rw [List.flatMap_cons, List.getElem?_append_right (by simp [rumC]; omega)]
      have e : (i + 1) * 4 + j - (rumC m).length = i * 4 + j := by simp [rumC]; omega
      rw [e]
      exact ih i (by simpa using hi) hv
set_option maxRecDepth 100000 in
set_option maxHeartbeats 4000000 in
theorem fresh_walk (n : Int) (A : Option Addr) (c : Nat) (xs : List ActM) (w : World) (hx : ActsIn w A xs) (hlen : xs.length ≤ maxLen) :
    Calls Try.prog 5 #[.int .i64 n, .slice A xs.length c] w fun e w' => e = .returned (.bool true) ∧ Below w.heap.size w w' := by
  have HX := Lib.hid hx
  have hlen' : xs.length ≤ 9223372036854775807 := hlen
  clear hx hlen
  go_enter Try.func5, Try.ntmps5
  go_wp2_with fail
  refine (awake_any _).mono ?_
  rintro e w1 ⟨rfl, hb1⟩
  have HB1 := Lib.hid hb1
  clear hb1
  go_wp2_with fail
  refine (hum_new (H := Unit) n _).mono ?_
  rintro e w2 ⟨p, b, rfl, hV, hb2, hp, hbb⟩
  obtain ⟨T, hT⟩ : ∃ T, T = min (max n 1) 100 := ⟨_, rfl⟩
  rw [← hT] at hV
  have hT1 : 1 ≤ T ∧ T ≤ 100 := by omega
  have hs1 := HB1.out.size
  have hS2 : HumSt Unit w2 (fun i => i < w.heap.size) p b 0 T (fun _ => none) := ⟨⟨_, hV, rfl, fun x g r h => nomatch h⟩, by show ¬ p < _; omega, by show ¬ b < _; omega, fun i (hi : i < w.heap.size) => by have := hb2.size; omega⟩
  have HB2 := Lib.hid (HB1.out.trans (hb2.mono hs1))
  have HS2 := Lib.hid hS2
  have HT := Lib.hid hT1
  have HBB := Lib.hid (show w.heap.size ≤ b by omega)
  clear hV hb2 hS2 hT hT1 hp hbb hs1
  go_wp2_with fail
  go_loopw [6] (fun i6 wr => ∃ (k : Nat) (f : Hm.St), k ≤ xs.length ∧ k ≤ 100 ∧ i6 = .int .i64 k ∧ HumSt Unit wr (fun i => i < w.heap.size) p b (40 * k) T f ∧ Below w.heap.size w wr) (fun i6 _ => 100 - (RowKit.intOf i6).toNat)
  case atStart => exact ⟨0, _, by omega, by omega, rfl, HS2.out, HB2.out⟩
  case round =>
    obtain ⟨k, f, hk, hk100, rfl, hS, hB⟩ := hrel
    clear HS2 HB2
    have HS := Lib.hid hS
    have HB := Lib.hid hB
    clear hS hB
    by_cases hlt : k < xs.length ∧ k < 100
    · obtain ⟨hlt1, hlt2⟩ := hlt
      obtain ⟨g, off, rfl, hgl, c0, c1, c2, hM, hW⟩ := HX.out.cells HB.out hlt1
      have hMw := HX.out.mems hlt1
      obtain ⟨⟨kd, xA, xc, xl, xn⟩, hxk⟩ : ∃ x, x = xs[k] := ⟨_, rfl⟩
      rw [← hxk] at c0 c1 c2 hM hW hMw
      simp only at c0 c1 c2 hM hMw
      have HM := Lib.hid hM
      have HMw := Lib.hid hMw
      have i0 : (0 : Int) ≤ (k : Int) := by omega
      have i1 : (k : Int) < (xs.length : Int) := by omega
      have i2 : (k : Int) < 100 := by omega
      have hbn : (-9223372036854775808 ≤ xn ∧ xn ≤ 9223372036854775807) := hW.2.1
      have hxl : (xl.length : Int) ≤ 9223372036854775807 := by have h1 : xl.length ≤ xc := hW.2.2.1; have h2 : xc ≤ maxLen := hW.2.2.2; unfold maxLen at h2; omega
      obtain ⟨w5, hw5⟩ : ∃ w5, w5 = wr.alloc (.cells #[.int .i64 kd, .slice xA xl.length xc, .int .i64 xn] 30) := ⟨_, rfl⟩
      have HA5 := Lib.hid (show At w5 wr.heap.size 30 (actC ⟨kd, xA, xc, xl, xn⟩) by rw [hw5]; exact actAt wr ⟨kd, xA, xc, xl, xn⟩)
      have HB5 := Lib.hid (show Below wr.heap.size wr w5 by rw [hw5]; exact (Below.refl _ _).alloc (Nat.le_refl _) _)
      clear hM hW hxk hMw
      by_cases h40 : 40 < xl.length
      · have h40z : (40 : Int) < (xl.length : Int) := by omega
        have HWF := Lib.hid (HB.out.trans (HB5.out.mono HB.out.size))
        have HW5 := Lib.hid hw5
        clear hw5
        go_wp2_with fail
        go_ret
        exact ⟨rfl, by rw [← HW5.out]; exact HWF.out⟩
      · have h40z : ¬ (40 : Int) < (xl.length : Int) := by omega
        by_cases hkd : kd = 1
        · subst hkd
          have HW5 := Lib.hid hw5
          clear hw5
          go_wp2_with fail
          rw [← HW5.out]
          refine (push_any (HS.out.below HB5.out) HT.out.1 xA xc xl (HM.out.below HB5.out) (fun g' off' h0 e => by obtain ⟨g2, off2, e', hlt, _⟩ := HMw.out h0; rw [e] at e'; injection e' with e'; injection e'; have := HBB.out; omega) (by omega)).mono ?_
          rintro e w6 ⟨rfl, hS6, hg6⟩
          have HS6 := Lib.hid (show HumSt Unit w6 (fun i => i < w.heap.size) p b (40 * (k + 1)) T (Hm.push T f xl) from hS6.mono (by omega))
          have HB6 := Lib.hid (Below.ofGrown (HB.out.trans (HB5.out.mono HB.out.size)) hg6 (HB.out.trans (HB5.out.mono HB.out.size)).size HBB.out)
          clear hS6 hg6
          go_wp2_with fail
          go_roundw
          case rel => exact ⟨k + 1, _, by omega, by omega, by go_num, HS6.out, HB6.out⟩
          case measure => simp [RowKit.intOf]; omega
        · have HW5 := Lib.hid hw5
          clear hw5
          go_wp2_with fail
          rw [← HW5.out]
          refine (left_any (HS.out.below HB5.out)).mono ?_
          rintro e w6 ⟨v6, rfl, hO6, hb6⟩
          obtain ⟨W, hWf⟩ : ∃ W, W = Hm.all f := ⟨_, rfl⟩
          obtain ⟨nw, hnw⟩ : ∃ nw, nw = (Hm.all f).length := ⟨_, rfl⟩
          rw [← hnw, ← hWf] at hO6
          have hw6 : nw ≤ 6 := by rw [hnw]; exact Hm.all_six f
          have HWL := Lib.hid (And.intro hWf hnw)
          obtain ⟨A6, c6, hv6⟩ : ∃ A c, v6 = .slice A nw c := by
            rcases hO6.2 with ⟨h1, h2⟩ | ⟨g, cap, cur, fr, h1, _⟩
            · exact ⟨none, 0, by rw [h1, h2]⟩
            · exact ⟨_, _, h1⟩
          subst hv6
          have hA6 := HA5.out.below hb6 HA5.out.lt
          have d2 := hA6.cell' (i := 2) (v := .int .i64 xn) rfl
          have HO6 := Lib.hid hO6
          have HA6 := Lib.hid hA6
          have HB6 := Lib.hid hb6
          have HWF := Lib.hid (HB5.out.trans (hb6.mono HB5.out.size))
          clear hO6 hA6 hb6 hWf hnw
          go_wp2_with fail
          have hS6 := HS.out.more HWF.out (A' := fun i => i < w.heap.size ∨ (wr.heap.size ≤ i ∧ i < w6.heap.size)) (fun i hi => hi)
          refine (take_any hS6 xn (by have := HT.out; omega)).mono ?_
          rintro e w7 ⟨v7, rfl, hS7, hK7, hO7⟩
          obtain ⟨L, hL⟩ : ∃ L, L = (Hm.told xn f).map (·.m) := ⟨_, rfl⟩
          obtain ⟨nl, hnl⟩ : ∃ nl, nl = (Hm.told xn f).length := ⟨_, rfl⟩
          rw [← hnl, ← hL] at hO7
          have hln : nl = min (max xn 0).toNat nw := by rw [hnl, Hm.told_len, ← HWL.out.2]
          have HLL := Lib.hid (And.intro hL hnl)
          obtain ⟨A7, c7, hv7⟩ : ∃ A c, v7 = .slice A nl c := by
            rcases hO7.2 with ⟨h1, h2⟩ | ⟨g, cap, cur, fr, h1, _⟩
            · exact ⟨none, 0, by rw [h1, h2]⟩
            · exact ⟨_, _, h1⟩
          subst hv7
          have hs65 := HB6.out.size
          have hs5 := HA5.out.lt
          have hA7 := HA6.out.keeps hK7 (.inr ⟨Nat.le_refl _, by omega⟩)
          have d2 := hA7.cell' (i := 2) (v := .int .i64 xn) rfl
          have HW7 := Lib.hid (HO6.out.keeps hK7 (fun k hk => .inr ⟨by have := (HO6.out.lt k hk).1; have := HB5.out.size; omega, (HO6.out.lt k hk).2⟩))
          have HO7 := Lib.hid hO7
          have HS7 := Lib.hid (hS7.less (A' := fun i => i < w.heap.size) (fun i hi => .inl (.inl hi)))
          have HB7 := Lib.hid ((HB.out.trans (HWF.out.mono HB.out.size)).trans ((hK7.mono (fun i (hi : i < w.heap.size) => .inl hi)).below (fun i hi => hi) (HB.out.trans (HWF.out.mono HB.out.size)).size))
          have HLN := Lib.hid hln
          have z1 : ¬ (xn < 1 ∧ ¬ (nl : Int) = 0) := by omega
          have z2 : ¬ max xn 0 < (nl : Int) := by omega
          have z3 : ¬ (nl : Int) < min (nw : Int) (max xn 0) := by omega
          have hl6 : nl ≤ 6 := by omega
          clear hS7 hK7 hO7 hL hnl hA7 hS6 hs65 hs5 hln HA6 HO6
          --FILL
          have HSAN := Lib.hid HS.out.sane
          have HWN := Lib.hid (show W.length = nw by rw [HWL.out.1, HWL.out.2])
          have HLN2 := Lib.hid (show L.length = nl by rw [HLL.out.1, HLL.out.2, List.length_map])
          clear HM HMw HBB HB5 HA5 HW5 HB6 HWF HB HS HLN
          by_cases hx1 : xn < 1
          · have hn0 : (nl : Int) = 0 := by omega
            clear z1
            go_wp2_with fail
            clear hn0
            have hall : ∀ u ∈ W, u.k ≤ 1048576 := fun u hu => by
              rw [HWL.out.1] at hu
              have h1 := HSAN.out _ u ((Hm.mem_all HSAN.out).1 hu)
              have h2 := HT.out.2
              omega
            have HALL := Lib.hid hall
            clear hall
            go_loopw [10, 11] (fun s10 s11 wr => ∃ (a : Nat) (v : Int), a ≤ nw ∧ s11 = .int .i64 a ∧ s10 = .int .i64 v ∧ Hid (∀ u ∈ W, u.m ∉ L → u.k ≤ v) ∧ Below w7.heap.size w7 wr) (fun _ s11 _ => nw - (RowKit.intOf s11).toNat)
            case atStart => exact ⟨0, 1048576, by omega, rfl, rfl, fun u hu _ => HALL.out u hu, Below.refl _ _⟩
            case round =>
              obtain ⟨a, v, ha, rfl, rfl, HV, hbr⟩ := hrel
              have HBr := Lib.hid hbr
              clear hbr
              by_cases hlta : a < nw
              · have a1 : (0 : Int) ≤ (a : Int) := by omega
                have a2 : (a : Int) < (nw : Int) := by omega
                obtain ⟨gw, cw, hAw, _, _, _, _⟩ := HW7.out.form (by omega)
                obtain ⟨rfl, rfl⟩ : A6 = some ⟨gw, 0, none⟩ ∧ c6 = cw := by simpa using hAw
                obtain ⟨r, hr⟩ : ∃ r, r = W[a]'(by rw [HWN.out]; exact hlta) := ⟨_, rfl⟩
                have HRW := Lib.hid (show r ∈ W by rw [hr]; exact List.getElem_mem _)
                have HRow := Lib.hid (show ∀ w', Below w7.heap.size w7 w' → w'.rangeAt gw (a * 4) (rumC r) from fun w' h i v hv => by
                  have hi : i < 4 := (List.getElem?_eq_some_iff.1 hv).1
                  rw [(HW7.out.below h).cellAt rfl (a * 4 + i) (by omega)]
                  exact rumsV_at W a (by rw [HWN.out]; exact hlta) i v (by rw [← hr]; exact hv))
                clear hAw hr
                go_wp2_with fail
                go_loopw [12, 13] (fun si sj wr => ∃ (j : Nat) (B : Bool), j ≤ nl ∧ sj = .int .i64 j ∧ si = .bool B ∧ B = decide (r.m ∈ L.take j) ∧ Below w7.heap.size w7 wr) (fun _ sj _ => nl - (RowKit.intOf sj).toNat)
                case atStart => exact ⟨0, false, by omega, rfl, rfl, by simp, HBr.out⟩
                case round =>
                  obtain ⟨j, B, hj, rfl, rfl, hBe, hbj⟩ := hrel
                  have HBj := Lib.hid hbj
                  have HBe := Lib.hid hBe
                  clear hbj hBe
                  by_cases hltj : j < nl
                  · have j1 : (0 : Int) ≤ (j : Int) := by omega
                    have j2 : (j : Int) < (nl : Int) := by omega
                    obtain ⟨gl, oc, hAl, _, _, _, _⟩ := HO7.out.form (by omega)
                    obtain ⟨rfl, rfl⟩ : A7 = some ⟨gl, 0, none⟩ ∧ c7 = oc := by simpa using hAl
                    obtain ⟨y, hy⟩ : ∃ y, y = L[j]'(by rw [HLN2.out]; exact hltj) := ⟨_, rfl⟩
                    have HY := Lib.hid hy
                    have hsn : L.take (j + 1) = L.take j ++ [y] := by rw [hy]; exact take_snoc L j (by rw [HLN2.out]; exact hltj)
                    have HSN := Lib.hid hsn
                    have HLr := Lib.hid (show ∀ w', Behind wr w' → w'.rangeAt gl (j * 3) (cellsM y) from fun w' h i v hv => by
                      have hi : i < 3 := (List.getElem?_eq_some_iff.1 hv).1
                      rw [((HO7.out.below HBj.out).below h).cellAt rfl (j * 3 + i) (by omega)]
                      exact memsV_at L j (by rw [HLN2.out]; exact hltj) i v (by rw [← HY.out]; exact hv))
                    have HWr := Lib.hid (show ∀ w', Behind wr w' → w'.rangeAt gw (a * 4) (cellsM r.m) from fun w' h i v hv => by
                      have hi : i < 3 := (List.getElem?_eq_some_iff.1 hv).1
                      exact HRow.out w' (HBj.out.trans (Below.mono h HBj.out.size)) i v (by
                        match i, hi with
                        | 0, _ => exact hv
                        | 1, _ => exact hv
                        | 2, _ => exact hv))
                    have HU := Lib.hid Try.underlying41
                    have HI3 := Lib.hid (info_memC (m := y))
                    have HI4 := Lib.hid (info_memC (m := r.m))
                    clear hAl hy hsn
                    cases B
                    · obtain ⟨be, hbe⟩ : ∃ be, be = decide (y = r.m) := ⟨_, rfl⟩
                      have HQ := Lib.hid (show ∀ w, (binOp .eql 41 (memV y) (memV r.m)).run Try.prog w = .ok (.bool be) w from fun w => by rw [hbe]; exact run_eql_mem w y r.m)
                      have HBEQ := Lib.hid hbe
                      clear hbe
                      go_wp2_with fail
                      refine wp_region_class (Behind wr) (by kernel_rfl) (by kernel_rfl) (Below.refl _ _).drew ?_
                      iterate 14 (first
                        | go_big_quiet_skip
                        | (with_reducible refine wpQuiet_loadAll (by with_unfolding_all rfl) 41 _ (by with_unfolding_all rfl) gl (j * 3) (by with_unfolding_all rfl) (cellsM y) _ (fun w h => HLr.out w h) HU.out (by with_unfolding_all rfl) HI3.out ?_; simp only [Act.put, List.setIfInBounds_toArray, List.set_cons_zero, List.set_cons_succ])
                        | (with_reducible refine wpQuiet_loadAll (by with_unfolding_all rfl) 41 _ (by with_unfolding_all rfl) gw (a * 4) (by with_unfolding_all rfl) (cellsM r.m) _ (fun w h => HWr.out w h) HU.out (by with_unfolding_all rfl) HI4.out ?_; simp only [Act.put, List.setIfInBounds_toArray, List.set_cons_zero, List.set_cons_succ])
                        | (with_reducible refine wpQuiet_val (.pointer (some ⟨gw, a * 4, none⟩)) (by with_unfolding_all rfl) (fun w _ => exec_field0 _ (by with_unfolding_all rfl) gw (a * 4) (by with_unfolding_all rfl) w) ?_; simp only [Act.put, List.setIfInBounds_toArray, List.set_cons_zero, List.set_cons_succ])
                        | (with_reducible refine wpQuiet_bin (by with_unfolding_all rfl) .eql 41 _ _ _ (by with_unfolding_all rfl) (memV y) (memV r.m) (.bool be) (by with_unfolding_all rfl) (by with_unfolding_all rfl) (fun w => run_eqGuard_mem w _ _ _ y r.m) (fun w => HQ.out w) ?_; simp only [Act.put, List.setIfInBounds_toArray, List.set_cons_zero, List.set_cons_succ])
                        | (go_big_quiet_step (exact fun _ => rfl)))
                      with_reducible refine wpQuiet_nil ?_
                      intro wy hwy
                      have HBy := Lib.hid (HBj.out.trans (Below.mono hwy HBj.out.size))
                      clear HLr HWr HQ hwy
                      go_wp2_with fail
                      go_roundw
                      case rel =>
                        refine ⟨j + 1, be, by omega, by go_num, rfl, ?_, HBy.out⟩
                        have h0 := of_decide_eq_false HBe.out.symm
                        rw [HSN.out, HBEQ.out, Bool.eq_iff_iff]
                        simp only [decide_eq_true_eq, List.mem_append, List.mem_singleton]
                        exact ⟨fun h => .inr h.symm, fun h => h.elim (fun h => absurd h h0) (fun h => h.symm)⟩
                      case measure => simp [RowKit.intOf]; omega
                    · go_wp2_with fail
                      refine wp_region_class (Behind wr) (by kernel_rfl) (by kernel_rfl) (Below.refl _ _).drew ?_
                      iterate 14 (first
                        | go_big_quiet_skip
                        | (go_big_quiet_step (exact fun _ => rfl)))
                      with_reducible refine wpQuiet_nil ?_
                      intro wy hwy
                      have HBy := Lib.hid (HBj.out.trans (Below.mono hwy HBj.out.size))
                      clear HLr HWr hwy
                      go_wp2_with fail
                      go_roundw
                      case rel =>
                        refine ⟨j + 1, true, by omega, by go_num, rfl, ?_, HBy.out⟩
                        have h0 := of_decide_eq_true HBe.out.symm
                        rw [HSN.out]
                        exact (decide_eq_true (List.mem_append_left _ h0)).symm
                      case measure => simp [RowKit.intOf]; omega
                  · have hjn : j = nl := by omega
                    have HJN := Lib.hid hjn
                    have hm : B = decide (r.m ∈ L) := by
                      rw [HBe.out, HJN.out, List.take_of_length_le (by rw [HLN2.out]; exact Nat.le_refl _)]
                    have HMB := Lib.hid hm
                    clear hjn hm
                    have f3 := HRow.out wr HBj.out 3 (.int .i64 r.k) rfl
                    cases B
                    · go_wp2_with fail
                      go_roundw
                      case rel => exact ⟨a + 1, v, by omega, by go_num, rfl, HV, HBj.out⟩
                      case measure => simp [RowKit.intOf]; omega
                    · go_wp2_with fail
                      go_roundw
                      case rel =>
                        refine ⟨a + 1, min v r.k, by omega, by go_num, rfl, ?_, HBj.out⟩
                        intro u hu hum
                        have h1 := HV.out u hu hum
                        have h2 : u.k ≤ r.k := by
                          have hu2 := hu
                          have hr2 := HRW.out
                          rw [HWL.out.1] at hu2 hr2
                          have hrl := of_decide_eq_true HMB.out.symm
                          rw [HLL.out.1] at hrl hum
                          exact Hm.told_least HSAN.out hr2 hrl hu2 hum
                        omega
                      case measure => simp [RowKit.intOf]; omega
              · clear ha
                have HV := HV
                go_wp2_with fail
                go_loopw [14] (fun s14 wr => ∃ a : Nat, a ≤ nw ∧ s14 = .int .i64 a ∧ Below w7.heap.size w7 wr) (fun s14 _ => nw - (RowKit.intOf s14).toNat)
                case atStart => exact ⟨0, by omega, rfl, HBr.out⟩
                case round =>
                  clear HBr hlta
                  obtain ⟨a, ha, rfl, hbr⟩ := hrel
                  have HBr := Lib.hid hbr
                  clear hbr
                  by_cases hlta : a < nw
                  · have a1 : (0 : Int) ≤ (a : Int) := by omega
                    have a2 : (a : Int) < (nw : Int) := by omega
                    obtain ⟨gw, cw, hAw, _, _, _, _⟩ := HW7.out.form (by omega)
                    obtain ⟨rfl, rfl⟩ : A6 = some ⟨gw, 0, none⟩ ∧ c6 = cw := by simpa using hAw
                    obtain ⟨r, hr⟩ : ∃ r, r = W[a]'(by rw [HWN.out]; exact hlta) := ⟨_, rfl⟩
                    have HRW := Lib.hid (show r ∈ W by rw [hr]; exact List.getElem_mem _)
                    have HRow := Lib.hid (show ∀ w', Below w7.heap.size w7 w' → w'.rangeAt gw (a * 4) (rumC r) from fun w' h i v hv => by
                      have hi : i < 4 := (List.getElem?_eq_some_iff.1 hv).1
                      rw [(HW7.out.below h).cellAt rfl (a * 4 + i) (by omega)]
                      exact rumsV_at W a (by rw [HWN.out]; exact hlta) i v (by rw [← hr]; exact hv))
                    clear hAw hr
                    go_wp2_with fail
                    go_loopw [15, 16] (fun si sj wr => ∃ (j : Nat) (B : Bool), j ≤ nl ∧ sj = .int .i64 j ∧ si = .bool B ∧ B = decide (r.m ∈ L.take j) ∧ Below w7.heap.size w7 wr) (fun _ sj _ => nl - (RowKit.intOf sj).toNat)
                    case atStart => exact ⟨0, false, by omega, rfl, rfl, by simp, HBr.out⟩
                    case round =>
                      obtain ⟨j, B, hj, rfl, rfl, hBe, hbj⟩ := hrel
                      have HBj := Lib.hid hbj
                      have HBe := Lib.hid hBe
                      clear hbj hBe
                      by_cases hltj : j < nl
                      · have j1 : (0 : Int) ≤ (j : Int) := by omega
                        have j2 : (j : Int) < (nl : Int) := by omega
                        obtain ⟨gl, oc, hAl, _, _, _, _⟩ := HO7.out.form (by omega)
                        obtain ⟨rfl, rfl⟩ : A7 = some ⟨gl, 0, none⟩ ∧ c7 = oc := by simpa using hAl
                        obtain ⟨y, hy⟩ : ∃ y, y = L[j]'(by rw [HLN2.out]; exact hltj) := ⟨_, rfl⟩
                        have HY := Lib.hid hy
                        have hsn : L.take (j + 1) = L.take j ++ [y] := by rw [hy]; exact take_snoc L j (by rw [HLN2.out]; exact hltj)
                        have HSN := Lib.hid hsn
                        have HLr := Lib.hid (show ∀ w', Behind wr w' → w'.rangeAt gl (j * 3) (cellsM y) from fun w' h i v hv => by
                          have hi : i < 3 := (List.getElem?_eq_some_iff.1 hv).1
                          rw [((HO7.out.below HBj.out).below h).cellAt rfl (j * 3 + i) (by omega)]
                          exact memsV_at L j (by rw [HLN2.out]; exact hltj) i v (by rw [← HY.out]; exact hv))
                        have HWr := Lib.hid (show ∀ w', Behind wr w' → w'.rangeAt gw (a * 4) (cellsM r.m) from fun w' h i v hv => by
                          have hi : i < 3 := (List.getElem?_eq_some_iff.1 hv).1
                          exact HRow.out w' (HBj.out.trans (Below.mono h HBj.out.size)) i v (by
                            match i, hi with
                            | 0, _ => exact hv
                            | 1, _ => exact hv
                            | 2, _ => exact hv))
                        have HU := Lib.hid Try.underlying41
                        have HI3 := Lib.hid (info_memC (m := y))
                        have HI4 := Lib.hid (info_memC (m := r.m))
                        clear hAl hy hsn
                        cases B
                        · obtain ⟨be, hbe⟩ : ∃ be, be = decide (y = r.m) := ⟨_, rfl⟩
                          have HQ := Lib.hid (show ∀ w, (binOp .eql 41 (memV y) (memV r.m)).run Try.prog w = .ok (.bool be) w from fun w => by rw [hbe]; exact run_eql_mem w y r.m)
                          have HBEQ := Lib.hid hbe
                          clear hbe
                          go_wp2_with fail
                          refine wp_region_class (Behind wr) (by kernel_rfl) (by kernel_rfl) (Below.refl _ _).drew ?_
                          iterate 14 (first
                            | go_big_quiet_skip
                            | (with_reducible refine wpQuiet_loadAll (by with_unfolding_all rfl) 41 _ (by with_unfolding_all rfl) gl (j * 3) (by with_unfolding_all rfl) (cellsM y) _ (fun w h => HLr.out w h) HU.out (by with_unfolding_all rfl) HI3.out ?_; simp only [Act.put, List.setIfInBounds_toArray, List.set_cons_zero, List.set_cons_succ])
                            | (with_reducible refine wpQuiet_loadAll (by with_unfolding_all rfl) 41 _ (by with_unfolding_all rfl) gw (a * 4) (by with_unfolding_all rfl) (cellsM r.m) _ (fun w h => HWr.out w h) HU.out (by with_unfolding_all rfl) HI4.out ?_; simp only [Act.put, List.setIfInBounds_toArray, List.set_cons_zero, List.set_cons_succ])
                            | (with_reducible refine wpQuiet_val (.pointer (some ⟨gw, a * 4, none⟩)) (by with_unfolding_all rfl) (fun w _ => exec_field0 _ (by with_unfolding_all rfl) gw (a * 4) (by with_unfolding_all rfl) w) ?_; simp only [Act.put, List.setIfInBounds_toArray, List.set_cons_zero, List.set_cons_succ])
                            | (with_reducible refine wpQuiet_bin (by with_unfolding_all rfl) .eql 41 _ _ _ (by with_unfolding_all rfl) (memV y) (memV r.m) (.bool be) (by with_unfolding_all rfl) (by with_unfolding_all rfl) (fun w => run_eqGuard_mem w _ _ _ y r.m) (fun w => HQ.out w) ?_; simp only [Act.put, List.setIfInBounds_toArray, List.set_cons_zero, List.set_cons_succ])
                            | (go_big_quiet_step (exact fun _ => rfl)))
                          with_reducible refine wpQuiet_nil ?_
                          intro wy hwy
                          have HBy := Lib.hid (HBj.out.trans (Below.mono hwy HBj.out.size))
                          clear HLr HWr HQ hwy
                          go_wp2_with fail
                          go_roundw
                          case rel =>
                            refine ⟨j + 1, be, by omega, by go_num, rfl, ?_, HBy.out⟩
                            have h0 := of_decide_eq_false HBe.out.symm
                            rw [HSN.out, HBEQ.out, Bool.eq_iff_iff]
                            simp only [decide_eq_true_eq, List.mem_append, List.mem_singleton]
                            exact ⟨fun h => .inr h.symm, fun h => h.elim (fun h => absurd h h0) (fun h => h.symm)⟩
                          case measure => simp [RowKit.intOf]; omega
                        · go_wp2_with fail
                          refine wp_region_class (Behind wr) (by kernel_rfl) (by kernel_rfl) (Below.refl _ _).drew ?_
                          iterate 14 (first
                            | go_big_quiet_skip
                            | (go_big_quiet_step (exact fun _ => rfl)))
                          with_reducible refine wpQuiet_nil ?_
                          intro wy hwy
                          have HBy := Lib.hid (HBj.out.trans (Below.mono hwy HBj.out.size))
                          clear HLr HWr hwy
                          go_wp2_with fail
                          go_roundw
                          case rel =>
                            refine ⟨j + 1, true, by omega, by go_num, rfl, ?_, HBy.out⟩
                            have h0 := of_decide_eq_true HBe.out.symm
                            rw [HSN.out]
                            exact (decide_eq_true (List.mem_append_left _ h0)).symm
                          case measure => simp [RowKit.intOf]; omega
                      · have hjn : j = nl := by omega
                        have HJN := Lib.hid hjn
                        have hm : B = decide (r.m ∈ L) := by
                          rw [HBe.out, HJN.out, List.take_of_length_le (by rw [HLN2.out]; exact Nat.le_refl _)]
                        have HMB := Lib.hid hm
                        clear hjn hm
                        have f3 := HRow.out wr HBj.out 3 (.int .i64 r.k) rfl
                        cases B
                        · have hle : ¬ v < r.k := by
                            have := HV.out r HRW.out (of_decide_eq_false HMB.out.symm)
                            omega
                          go_wp2_with fail
                          go_roundw
                          case rel => exact ⟨a + 1, by omega, by go_num, HBj.out⟩
                          case measure => simp [RowKit.intOf]; omega
                        · go_wp2_with fail
                          go_roundw
                          case rel => exact ⟨a + 1, by omega, by go_num, HBj.out⟩
                          case measure => simp [RowKit.intOf]; omega
                  · clear ha
                    go_wp2_with fail
                    go_roundw
                    case rel => exact ⟨k + 1, _, by omega, by omega, by go_num, (HS7.out.below HBr.out).mono (by omega), HB7.out.trans (HBr.out.mono HB7.out.size)⟩
                    case measure => simp [RowKit.intOf]; omega
          · clear z1
            go_wp2_with fail
            have hall : ∀ u ∈ W, u.k ≤ 1048576 := fun u hu => by
              rw [HWL.out.1] at hu
              have h1 := HSAN.out _ u ((Hm.mem_all HSAN.out).1 hu)
              have h2 := HT.out.2
              omega
            have HALL := Lib.hid hall
            clear hall
            go_loopw [10, 11] (fun s10 s11 wr => ∃ (a : Nat) (v : Int), a ≤ nw ∧ s11 = .int .i64 a ∧ s10 = .int .i64 v ∧ Hid (∀ u ∈ W, u.m ∉ L → u.k ≤ v) ∧ Below w7.heap.size w7 wr) (fun _ s11 _ => nw - (RowKit.intOf s11).toNat)
            case atStart => exact ⟨0, 1048576, by omega, rfl, rfl, fun u hu _ => HALL.out u hu, Below.refl _ _⟩
            case round =>
              obtain ⟨a, v, ha, rfl, rfl, HV, hbr⟩ := hrel
              have HBr := Lib.hid hbr
              clear hbr
              by_cases hlta : a < nw
              · have a1 : (0 : Int) ≤ (a : Int) := by omega
                have a2 : (a : Int) < (nw : Int) := by omega
                obtain ⟨gw, cw, hAw, _, _, _, _⟩ := HW7.out.form (by omega)
                obtain ⟨rfl, rfl⟩ : A6 = some ⟨gw, 0, none⟩ ∧ c6 = cw := by simpa using hAw
                obtain ⟨r, hr⟩ : ∃ r, r = W[a]'(by rw [HWN.out]; exact hlta) := ⟨_, rfl⟩
                have HRW := Lib.hid (show r ∈ W by rw [hr]; exact List.getElem_mem _)
                have HRow := Lib.hid (show ∀ w', Below w7.heap.size w7 w' → w'.rangeAt gw (a * 4) (rumC r) from fun w' h i v hv => by
                  have hi : i < 4 := (List.getElem?_eq_some_iff.1 hv).1
                  rw [(HW7.out.below h).cellAt rfl (a * 4 + i) (by omega)]
                  exact rumsV_at W a (by rw [HWN.out]; exact hlta) i v (by rw [← hr]; exact hv))
                clear hAw hr
                go_wp2_with fail
                go_loopw [12, 13] (fun si sj wr => ∃ (j : Nat) (B : Bool), j ≤ nl ∧ sj = .int .i64 j ∧ si = .bool B ∧ B = decide (r.m ∈ L.take j) ∧ Below w7.heap.size w7 wr) (fun _ sj _ => nl - (RowKit.intOf sj).toNat)
                case atStart => exact ⟨0, false, by omega, rfl, rfl, by simp, HBr.out⟩
                case round =>
                  obtain ⟨j, B, hj, rfl, rfl, hBe, hbj⟩ := hrel
                  have HBj := Lib.hid hbj
                  have HBe := Lib.hid hBe
                  clear hbj hBe
                  by_cases hltj : j < nl
                  · have j1 : (0 : Int) ≤ (j : Int) := by omega
                    have j2 : (j : Int) < (nl : Int) := by omega
                    obtain ⟨gl, oc, hAl, _, _, _, _⟩ := HO7.out.form (by omega)
                    obtain ⟨rfl, rfl⟩ : A7 = some ⟨gl, 0, none⟩ ∧ c7 = oc := by simpa using hAl
                    obtain ⟨y, hy⟩ : ∃ y, y = L[j]'(by rw [HLN2.out]; exact hltj) := ⟨_, rfl⟩
                    have HY := Lib.hid hy
                    have hsn : L.take (j + 1) = L.take j ++ [y] := by rw [hy]; exact take_snoc L j (by rw [HLN2.out]; exact hltj)
                    have HSN := Lib.hid hsn
                    have HLr := Lib.hid (show ∀ w', Behind wr w' → w'.rangeAt gl (j * 3) (cellsM y) from fun w' h i v hv => by
                      have hi : i < 3 := (List.getElem?_eq_some_iff.1 hv).1
                      rw [((HO7.out.below HBj.out).below h).cellAt rfl (j * 3 + i) (by omega)]
                      exact memsV_at L j (by rw [HLN2.out]; exact hltj) i v (by rw [← HY.out]; exact hv))
                    have HWr := Lib.hid (show ∀ w', Behind wr w' → w'.rangeAt gw (a * 4) (cellsM r.m) from fun w' h i v hv => by
                      have hi : i < 3 := (List.getElem?_eq_some_iff.1 hv).1
                      exact HRow.out w' (HBj.out.trans (Below.mono h HBj.out.size)) i v (by
                        match i, hi with
                        | 0, _ => exact hv
                        | 1, _ => exact hv
                        | 2, _ => exact hv))
                    have HU := Lib.hid Try.underlying41
                    have HI3 := Lib.hid (info_memC (m := y))
                    have HI4 := Lib.hid (info_memC (m := r.m))
                    clear hAl hy hsn
                    cases B
                    · obtain ⟨be, hbe⟩ : ∃ be, be = decide (y = r.m) := ⟨_, rfl⟩
                      have HQ := Lib.hid (show ∀ w, (binOp .eql 41 (memV y) (memV r.m)).run Try.prog w = .ok (.bool be) w from fun w => by rw [hbe]; exact run_eql_mem w y r.m)
                      have HBEQ := Lib.hid hbe
                      clear hbe
                      go_wp2_with fail
                      refine wp_region_class (Behind wr) (by kernel_rfl) (by kernel_rfl) (Below.refl _ _).drew ?_
                      iterate 14 (first
                        | go_big_quiet_skip
                        | (with_reducible refine wpQuiet_loadAll (by with_unfolding_all rfl) 41 _ (by with_unfolding_all rfl) gl (j * 3) (by with_unfolding_all rfl) (cellsM y) _ (fun w h => HLr.out w h) HU.out (by with_unfolding_all rfl) HI3.out ?_; simp only [Act.put, List.setIfInBounds_toArray, List.set_cons_zero, List.set_cons_succ])
                        | (with_reducible refine wpQuiet_loadAll (by with_unfolding_all rfl) 41 _ (by with_unfolding_all rfl) gw (a * 4) (by with_unfolding_all rfl) (cellsM r.m) _ (fun w h => HWr.out w h) HU.out (by with_unfolding_all rfl) HI4.out ?_; simp only [Act.put, List.setIfInBounds_toArray, List.set_cons_zero, List.set_cons_succ])
                        | (with_reducible refine wpQuiet_val (.pointer (some ⟨gw, a * 4, none⟩)) (by with_unfolding_all rfl) (fun w _ => exec_field0 _ (by with_unfolding_all rfl) gw (a * 4) (by with_unfolding_all rfl) w) ?_; simp only [Act.put, List.setIfInBounds_toArray, List.set_cons_zero, List.set_cons_succ])
                        | (with_reducible refine wpQuiet_bin (by with_unfolding_all rfl) .eql 41 _ _ _ (by with_unfolding_all rfl) (memV y) (memV r.m) (.bool be) (by with_unfolding_all rfl) (by with_unfolding_all rfl) (fun w => run_eqGuard_mem w _ _ _ y r.m) (fun w => HQ.out w) ?_; simp only [Act.put, List.setIfInBounds_toArray, List.set_cons_zero, List.set_cons_succ])
                        | (go_big_quiet_step (exact fun _ => rfl)))
                      with_reducible refine wpQuiet_nil ?_
                      intro wy hwy
                      have HBy := Lib.hid (HBj.out.trans (Below.mono hwy HBj.out.size))
                      clear HLr HWr HQ hwy
                      go_wp2_with fail
                      go_roundw
                      case rel =>
                        refine ⟨j + 1, be, by omega, by go_num, rfl, ?_, HBy.out⟩
                        have h0 := of_decide_eq_false HBe.out.symm
                        rw [HSN.out, HBEQ.out, Bool.eq_iff_iff]
                        simp only [decide_eq_true_eq, List.mem_append, List.mem_singleton]
                        exact ⟨fun h => .inr h.symm, fun h => h.elim (fun h => absurd h h0) (fun h => h.symm)⟩
                      case measure => simp [RowKit.intOf]; omega
                    · go_wp2_with fail
                      refine wp_region_class (Behind wr) (by kernel_rfl) (by kernel_rfl) (Below.refl _ _).drew ?_
                      iterate 14 (first
                        | go_big_quiet_skip
                        | (go_big_quiet_step (exact fun _ => rfl)))
                      with_reducible refine wpQuiet_nil ?_
                      intro wy hwy
                      have HBy := Lib.hid (HBj.out.trans (Below.mono hwy HBj.out.size))
                      clear HLr HWr hwy
                      go_wp2_with fail
                      go_roundw
                      case rel =>
                        refine ⟨j + 1, true, by omega, by go_num, rfl, ?_, HBy.out⟩
                        have h0 := of_decide_eq_true HBe.out.symm
                        rw [HSN.out]
                        exact (decide_eq_true (List.mem_append_left _ h0)).symm
                      case measure => simp [RowKit.intOf]; omega
                  · have hjn : j = nl := by omega
                    have HJN := Lib.hid hjn
                    have hm : B = decide (r.m ∈ L) := by
                      rw [HBe.out, HJN.out, List.take_of_length_le (by rw [HLN2.out]; exact Nat.le_refl _)]
                    have HMB := Lib.hid hm
                    clear hjn hm
                    have f3 := HRow.out wr HBj.out 3 (.int .i64 r.k) rfl
                    cases B
                    · go_wp2_with fail
                      go_roundw
                      case rel => exact ⟨a + 1, v, by omega, by go_num, rfl, HV, HBj.out⟩
                      case measure => simp [RowKit.intOf]; omega
                    · go_wp2_with fail
                      go_roundw
                      case rel =>
                        refine ⟨a + 1, min v r.k, by omega, by go_num, rfl, ?_, HBj.out⟩
                        intro u hu hum
                        have h1 := HV.out u hu hum
                        have h2 : u.k ≤ r.k := by
                          have hu2 := hu
                          have hr2 := HRW.out
                          rw [HWL.out.1] at hu2 hr2
                          have hrl := of_decide_eq_true HMB.out.symm
                          rw [HLL.out.1] at hrl hum
                          exact Hm.told_least HSAN.out hr2 hrl hu2 hum
                        omega
                      case measure => simp [RowKit.intOf]; omega
              · clear ha
                have HV := HV
                go_wp2_with fail
                go_loopw [14] (fun s14 wr => ∃ a : Nat, a ≤ nw ∧ s14 = .int .i64 a ∧ Below w7.heap.size w7 wr) (fun s14 _ => nw - (RowKit.intOf s14).toNat)
                case atStart => exact ⟨0, by omega, rfl, HBr.out⟩
                case round =>
                  clear HBr hlta
                  obtain ⟨a, ha, rfl, hbr⟩ := hrel
                  have HBr := Lib.hid hbr
                  clear hbr
                  by_cases hlta : a < nw
                  · have a1 : (0 : Int) ≤ (a : Int) := by omega
                    have a2 : (a : Int) < (nw : Int) := by omega
                    obtain ⟨gw, cw, hAw, _, _, _, _⟩ := HW7.out.form (by omega)
                    obtain ⟨rfl, rfl⟩ : A6 = some ⟨gw, 0, none⟩ ∧ c6 = cw := by simpa using hAw
                    obtain ⟨r, hr⟩ : ∃ r, r = W[a]'(by rw [HWN.out]; exact hlta) := ⟨_, rfl⟩
                    have HRW := Lib.hid (show r ∈ W by rw [hr]; exact List.getElem_mem _)
                    have HRow := Lib.hid (show ∀ w', Below w7.heap.size w7 w' → w'.rangeAt gw (a * 4) (rumC r) from fun w' h i v hv => by
                      have hi : i < 4 := (List.getElem?_eq_some_iff.1 hv).1
                      rw [(HW7.out.below h).cellAt rfl (a * 4 + i) (by omega)]
                      exact rumsV_at W a (by rw [HWN.out]; exact hlta) i v (by rw [← hr]; exact hv))
                    clear hAw hr
                    go_wp2_with fail
                    go_loopw [15, 16] (fun si sj wr => ∃ (j : Nat) (B : Bool), j ≤ nl ∧ sj = .int .i64 j ∧ si = .bool B ∧ B = decide (r.m ∈ L.take j) ∧ Below w7.heap.size w7 wr) (fun _ sj _ => nl - (RowKit.intOf sj).toNat)
                    case atStart => exact ⟨0, false, by omega, rfl, rfl, by simp, HBr.out⟩
                    case round =>
                      obtain ⟨j, B, hj, rfl, rfl, hBe, hbj⟩ := hrel
                      have HBj := Lib.hid hbj
                      have HBe := Lib.hid hBe
                      clear hbj hBe
                      by_cases hltj : j < nl
                      · have j1 : (0 : Int) ≤ (j : Int) := by omega
                        have j2 : (j : Int) < (nl : Int) := by omega
                        obtain ⟨gl, oc, hAl, _, _, _, _⟩ := HO7.out.form (by omega)
                        obtain ⟨rfl, rfl⟩ : A7 = some ⟨gl, 0, none⟩ ∧ c7 = oc := by simpa using hAl
                        obtain ⟨y, hy⟩ : ∃ y, y = L[j]'(by rw [HLN2.out]; exact hltj) := ⟨_, rfl⟩
                        have HY := Lib.hid hy
                        have hsn : L.take (j + 1) = L.take j ++ [y] := by rw [hy]; exact take_snoc L j (by rw [HLN2.out]; exact hltj)
                        have HSN := Lib.hid hsn
                        have HLr := Lib.hid (show ∀ w', Behind wr w' → w'.rangeAt gl (j * 3) (cellsM y) from fun w' h i v hv => by
                          have hi : i < 3 := (List.getElem?_eq_some_iff.1 hv).1
                          rw [((HO7.out.below HBj.out).below h).cellAt rfl (j * 3 + i) (by omega)]
                          exact memsV_at L j (by rw [HLN2.out]; exact hltj) i v (by rw [← HY.out]; exact hv))
                        have HWr := Lib.hid (show ∀ w', Behind wr w' → w'.rangeAt gw (a * 4) (cellsM r.m) from fun w' h i v hv => by
                          have hi : i < 3 := (List.getElem?_eq_some_iff.1 hv).1
                          exact HRow.out w' (HBj.out.trans (Below.mono h HBj.out.size)) i v (by
                            match i, hi with
                            | 0, _ => exact hv
                            | 1, _ => exact hv
                            | 2, _ => exact hv))
                        have HU := Lib.hid Try.underlying41
                        have HI3 := Lib.hid (info_memC (m := y))
                        have HI4 := Lib.hid (info_memC (m := r.m))
                        clear hAl hy hsn
                        cases B
                        · obtain ⟨be, hbe⟩ : ∃ be, be = decide (y = r.m) := ⟨_, rfl⟩
                          have HQ := Lib.hid (show ∀ w, (binOp .eql 41 (memV y) (memV r.m)).run Try.prog w = .ok (.bool be) w from fun w => by rw [hbe]; exact run_eql_mem w y r.m)
                          have HBEQ := Lib.hid hbe
                          clear hbe
                          go_wp2_with fail
                          refine wp_region_class (Behind wr) (by kernel_rfl) (by kernel_rfl) (Below.refl _ _).drew ?_
                          iterate 14 (first
                            | go_big_quiet_skip
                            | (with_reducible refine wpQuiet_loadAll (by with_unfolding_all rfl) 41 _ (by with_unfolding_all rfl) gl (j * 3) (by with_unfolding_all rfl) (cellsM y) _ (fun w h => HLr.out w h) HU.out (by with_unfolding_all rfl) HI3.out ?_; simp only [Act.put, List.setIfInBounds_toArray, List.set_cons_zero, List.set_cons_succ])
                            | (with_reducible refine wpQuiet_loadAll (by with_unfolding_all rfl) 41 _ (by with_unfolding_all rfl) gw (a * 4) (by with_unfolding_all rfl) (cellsM r.m) _ (fun w h => HWr.out w h) HU.out (by with_unfolding_all rfl) HI4.out ?_; simp only [Act.put, List.setIfInBounds_toArray, List.set_cons_zero, List.set_cons_succ])
                            | (with_reducible refine wpQuiet_val (.pointer (some ⟨gw, a * 4, none⟩)) (by with_unfolding_all rfl) (fun w _ => exec_field0 _ (by with_unfolding_all rfl) gw (a * 4) (by with_unfolding_all rfl) w) ?_; simp only [Act.put, List.setIfInBounds_toArray, List.set_cons_zero, List.set_cons_succ])
                            | (with_reducible refine wpQuiet_bin (by with_unfolding_all rfl) .eql 41 _ _ _ (by with_unfolding_all rfl) (memV y) (memV r.m) (.bool be) (by with_unfolding_all rfl) (by with_unfolding_all rfl) (fun w => run_eqGuard_mem w _ _ _ y r.m) (fun w => HQ.out w) ?_; simp only [Act.put, List.setIfInBounds_toArray, List.set_cons_zero, List.set_cons_succ])
                            | (go_big_quiet_step (exact fun _ => rfl)))
                          with_reducible refine wpQuiet_nil ?_
                          intro wy hwy
                          have HBy := Lib.hid (HBj.out.trans (Below.mono hwy HBj.out.size))
                          clear HLr HWr HQ hwy
                          go_wp2_with fail
                          go_roundw
                          case rel =>
                            refine ⟨j + 1, be, by omega, by go_num, rfl, ?_, HBy.out⟩
                            have h0 := of_decide_eq_false HBe.out.symm
                            rw [HSN.out, HBEQ.out, Bool.eq_iff_iff]
                            simp only [decide_eq_true_eq, List.mem_append, List.mem_singleton]
                            exact ⟨fun h => .inr h.symm, fun h => h.elim (fun h => absurd h h0) (fun h => h.symm)⟩
                          case measure => simp [RowKit.intOf]; omega
                        · go_wp2_with fail
                          refine wp_region_class (Behind wr) (by kernel_rfl) (by kernel_rfl) (Below.refl _ _).drew ?_
                          iterate 14 (first
                            | go_big_quiet_skip
                            | (go_big_quiet_step (exact fun _ => rfl)))
                          with_reducible refine wpQuiet_nil ?_
                          intro wy hwy
                          have HBy := Lib.hid (HBj.out.trans (Below.mono hwy HBj.out.size))
                          clear HLr HWr hwy
                          go_wp2_with fail
                          go_roundw
                          case rel =>
                            refine ⟨j + 1, true, by omega, by go_num, rfl, ?_, HBy.out⟩
                            have h0 := of_decide_eq_true HBe.out.symm
                            rw [HSN.out]
                            exact (decide_eq_true (List.mem_append_left _ h0)).symm
                          case measure => simp [RowKit.intOf]; omega
                      · have hjn : j = nl := by omega
                        have HJN := Lib.hid hjn
                        have hm : B = decide (r.m ∈ L) := by
                          rw [HBe.out, HJN.out, List.take_of_length_le (by rw [HLN2.out]; exact Nat.le_refl _)]
                        have HMB := Lib.hid hm
                        clear hjn hm
                        have f3 := HRow.out wr HBj.out 3 (.int .i64 r.k) rfl
                        cases B
                        · have hle : ¬ v < r.k := by
                            have := HV.out r HRW.out (of_decide_eq_false HMB.out.symm)
                            omega
                          go_wp2_with fail
                          go_roundw
                          case rel => exact ⟨a + 1, by omega, by go_num, HBj.out⟩
                          case measure => simp [RowKit.intOf]; omega
                        · go_wp2_with fail
                          go_roundw
                          case rel => exact ⟨a + 1, by omega, by go_num, HBj.out⟩
                          case measure => simp [RowKit.intOf]; omega
                  · clear ha
                    go_wp2_with fail
                    go_roundw
                    case rel => exact ⟨k + 1, _, by omega, by omega, by go_num, (HS7.out.below HBr.out).mono (by omega), HB7.out.trans (HBr.out.mono HB7.out.size)⟩
                    case measure => simp [RowKit.intOf]; omega
    · have hend : (¬ (k : Int) < (xs.length : Int)) ∨ ((k : Int) < (xs.length : Int) ∧ ¬ (k : Int) < 100) := by omega
      clear hlt
      rcases hend with he1 | ⟨he1, he2⟩
      · go_wp2_with fail
        refine (push_none _ _).mono ?_
        rintro e w6 ⟨rfl, hw6⟩
        have HB6 := Lib.hid (show Below w.heap.size w w6 by rw [hw6]; exact HB.out.alloc HB.out.size _)
        clear hw6
        go_wp2_with fail
        refine (take_none 3 _).mono ?_
        rintro e w7 ⟨rfl, hb7⟩
        have HB7 := Lib.hid (HB6.out.trans (hb7.mono HB6.out.size))
        clear hb7
        go_wp2_with fail
        refine (left_none _).mono ?_
        rintro e w8 ⟨rfl, hw8⟩
        have HB8 := Lib.hid (show Below w.heap.size w w8 by rw [hw8]; exact HB7.out)
        clear hw8
        go_wp2_with fail
        go_ret
        exact ⟨rfl, HB8.out⟩
      · go_wp2_with fail
        refine (push_none _ _).mono ?_
        rintro e w6 ⟨rfl, hw6⟩
        have HB6 := Lib.hid (show Below w.heap.size w w6 by rw [hw6]; exact HB.out.alloc HB.out.size _)
        clear hw6
        go_wp2_with fail
        refine (take_none 3 _).mono ?_
        rintro e w7 ⟨rfl, hb7⟩
        have HB7 := Lib.hid (HB6.out.trans (hb7.mono HB6.out.size))
        clear hb7
        go_wp2_with fail
        refine (left_none _).mono ?_
        rintro e w8 ⟨rfl, hw8⟩
        have HB8 := Lib.hid (show Below w.heap.size w w8 by rw [hw8]; exact HB7.out)
        clear hw8
        go_wp2_with fail
        go_ret
        exact ⟨rfl, HB8.out⟩
theorem fresh_any (n : Int) (A : Option Addr) (c : Nat) (xs : List ActM) (w : World) (_hn : -9223372036854775808 ≤ n ∧ n ≤ 9223372036854775807) (hx : ActsIn w A xs) (h1 : xs.length ≤ c) (h2 : c ≤ maxLen) :
    Calls Try.prog 5 #[.int .i64 n, .slice A xs.length c] w fun e w' => e = .returned (.bool true) ∧ Below w.heap.size w w' := fresh_walk n A c xs w hx (Nat.le_trans h1 h2)
end Go.Proofs.Ytepnepgjlnoabaa
