/- HedgeSorts: the walk. -/
import Derived.Test.YtefbllhpibfojaaDoorGrpJ
namespace Go.Proofs.YtefbllhpibfojaaDoor
open Go.Proofs Stab Go.Shelf Go.RowKit Go.Lib Go.Sort

theorem range_key {w : World} {b o : Nat} {x : Rec} (h : w.rangeAt b o (encR x)) : w.rangeAt b o (u8s x.key) := fun j v hv => h j v (by
  unfold encR
  rw [List.getElem?_append_left (List.getElem?_eq_some_iff.1 hv).1]
  exact hv)
/-- how many records of a key there are -/
def cntK (l : List Rec) (y : Rec) : Nat := (l.filter fun x => x.key == y.key).length
/-- whether the last one of a key is that one -/
def isK (l : List Rec) (y : Rec) : Bool := l.foldl (fun acc x => if x.key = y.key then decide (x = y) else acc) false
theorem cntK_snoc (l : List Rec) (x y : Rec) : cntK (l ++ [x]) y = cntK l y + if x.key = y.key then 1 else 0 := by
  unfold cntK
  rw [List.filter_append, List.length_append, List.filter_cons]
  by_cases h : x.key = y.key <;> simp [h]
theorem isK_snoc (l : List Rec) (x y : Rec) : isK (l ++ [x]) y = if x.key = y.key then decide (x = y) else isK l y := by
  unfold isK
  rw [List.foldl_append]
  rfl
theorem isK_none (l : List Rec) (y : Rec) (b : Bool) (h : ∀ x ∈ l, x.key ≠ y.key) : l.foldl (fun acc x => if x.key = y.key then decide (x = y) else acc) b = b := by
  induction l generalizing b with
  | nil => rfl
  | cons x r ih =>
    rw [List.foldl_cons, if_neg (h x List.mem_cons_self)]
    exact ih b fun z hz => h z (List.mem_cons_of_mem _ hz)
theorem rising_keyed : ∀ {L : List Rec}, Rising L → ∀ {z y : Rec}, find L y.key = some z → cntK L y = 1 ∧ isK L y = decide (z = y)
  | [], _, z, y, hf => by cases hf
  | x :: r, h, z, y, hf => by
    have h1 := List.pairwise_cons.1 h
    rw [find_cons] at hf
    by_cases hx : x.key = y.key
    · rw [if_pos hx] at hf
      injection hf with hf
      subst hf
      have hne : ∀ u ∈ r, u.key ≠ y.key := fun u hu e => by
        have := h1.1 u hu
        rw [hx, ← e, less_irrefl] at this
        cases this
      constructor
      · unfold cntK
        rw [List.filter_cons]
        have : (r.filter fun u => u.key == y.key) = [] := List.filter_eq_nil_iff.2 fun u hu => by simpa using hne u hu
        simp [hx, this]
      · unfold isK
        rw [List.foldl_cons, if_pos hx, isK_none r y _ hne]
    · rw [if_neg hx] at hf
      have ih := rising_keyed h1.2 hf
      constructor
      · have h2 := ih.1
        unfold cntK at h2 ⊢
        rw [List.filter_cons]
        have : (x.key == y.key) = false := by simp [hx]
        rw [this]
        exact h2
      · have h2 := ih.2
        unfold isK at h2 ⊢
        rw [List.foldl_cons, if_neg hx]
        exact h2
theorem first_find (l : List Rec) (i : Nat) (hi : i < l.length) (h : (l.take i).all (fun z => !(z.key == l[i].key)) = true) : find l l[i].key = some l[i] := by
  have e : l = l.take i ++ l[i] :: l.drop (i + 1) := by rw [← List.drop_eq_getElem_cons hi, List.take_append_drop]
  rw [List.all_eq_true] at h
  have h0 : find (l.take i) l[i].key = none := find_none fun x hx => by have := h x hx; simpa using this
  have h1 : find l l[i].key = (find (l.take i) l[i].key).or (find (l[i] :: l.drop (i + 1)) l[i].key) := by
    rw [← find_append, ← e]
  rw [h1, h0, find_cons, if_pos rfl]
  rfl
theorem sortR_pos (l : List Rec) : (0 < (sortR l).length) ↔ 0 < l.length := by
  constructor
  · intro h
    have := sortR_len l
    omega
  · intro h
    cases l with
    | nil => cases h
    | cons x r =>
      obtain ⟨y, hy⟩ := find_isSome (l := x :: r) (x := x) List.mem_cons_self
      rw [← find_sortR] at hy
      exact List.length_pos_of_mem (find_some hy).1

set_option maxRecDepth 100000 in
set_option maxHeartbeats 2000000 in
theorem sorts_any (A : Option Addr) (c : Nat) (l : List Rec) (w : World) (hE : EncIn encR 65 w A l) (hlc : l.length ≤ c) (hcm : c ≤ maxLen) (_ : A = none → c = 0) (hwd : Tab w 0 (u32s Sha.words)) :
    Calls Tryd.prog 4 #[.slice A l.length c] w fun e w' => e = .returned (.bool true) ∧ Below w.heap.size w w' := by
  have hn63 : l.length ≤ 9223372036854775807 := by unfold maxLen at hcm; omega
  have HE := Lib.hid hE
  have HW := Lib.hid hwd
  have HUD := Lib.hid Tryd.underlying24
  have HUR := Lib.hid Tryd.underlying38
  have HDG := Lib.hid (show ∀ l : List UInt8, l.length = 32 → (Tryd.prog.info? 24).map (·.size) = some (u8s l).length from fun l hl => by rw [u8s_length, hl]; exact infoDg)
  have HLR := Lib.hid (show ∀ x, (Tryd.prog.info? 38).map (·.size) = some (encR x).length from fun x => by rw [encR_len]; exact infoRec)
  clear hE hwd hlc hcm
  obtain ⟨n, hn⟩ : ∃ n, n = l.length := ⟨_, rfl⟩
  rw [← hn] at hn63 ⊢
  have HN := Lib.hid hn
  clear hn
  go_enter Tryd.func4, Tryd.ntmps4
  by_cases h80 : 80 < n
  · go_wp2_with (go_at_call 13; refine (awake_any w HW.out).mono ?_; rintro e w1 ⟨rfl, hb⟩; have HB1 := Lib.hid hb; clear hb)
    go_ret
    exact ⟨rfl, HB1.out⟩
  obtain ⟨L, hL⟩ : ∃ L, L = sortR l := ⟨_, rfl⟩
  have HL := Lib.hid hL
  have hLn : L.length ≤ n := by rw [hL, HN.out]; exact sortR_len l
  have HLN := Lib.hid hLn
  have HRI := Lib.hid (show Rising L by rw [hL]; exact sortR_rising l)
  obtain ⟨m, hm⟩ : ∃ m, m = L.length := ⟨_, rfl⟩
  have HM := Lib.hid hm
  have hmb : m ≤ 80 := by omega
  clear hL hLn hm
  go_wp2_with (first
    | (go_at_call 13; refine (awake_any w HW.out).mono ?_; rintro e w1 ⟨rfl, hb⟩; have HB1 := Lib.hid hb; clear hb)
    | (go_at_call 20; rw [HN.out]; refine (sort_any A c l w1 (HE.out.up HB1.out) (by have := HN.out; omega)).mono ?_; rintro e w2 ⟨v, rfl, hO, hb⟩; rw [← HL.out] at hO; obtain ⟨A2, c2, rfl, _, hE2⟩ := hO.rows rfl (fun x _ => encR_len x); have HE2 := Lib.hid hE2; have HB2 := Lib.hid (HB1.out.trans (hb.mono HB1.out.size)); clear hO hb hE2; rw [← HM.out, ← HN.out]))
  go_loopg [4] m (fun gg s4 wr => ∃ i : Nat, s4 = .int .i64 i ∧ 1 ≤ i ∧ (i ≤ m ∨ i = 1) ∧ m - i ≤ gg ∧ Hid (Below w2.heap.size w2 wr))
  case atStart => exact ⟨1, rfl, Nat.le_refl _, .inr rfl, by omega, Below.refl _ _⟩
  case round =>
    obtain ⟨i, rfl, hi1, hi2, hgg, HBW⟩ := hrel
    by_cases hlt : i < m
    · have hltz : (i : Int) < (m : Int) := by omega
      have i0 : (0 : Int) ≤ (i : Int) := by omega
      have i1 : (0 : Int) ≤ (i : Int) - 1 := by omega
      have i2 : (i : Int) - 1 < (m : Int) := by omega
      have i3 : IntKind.i64.wrap ((i : Int) - 1) = (i : Int) - 1 := by rw [IntKind.wrap_i64]; omega
      have i4 : ((i : Int) - 1).toNat = i - 1 := by omega
      have hiL : i < L.length := by have := HM.out; omega
      have hiL1 : i - 1 < L.length := by omega
      obtain ⟨g, off, hA, hgl, hr⟩ := (HE2.out.up HBW.out) (by omega)
      have hr1 := hr i hiL
      have hr2 := hr (i - 1) hiL1
      have hls := List.pairwise_iff_getElem.1 HRI.out (i - 1) i hiL1 hiL (by omega)
      obtain ⟨x, hx⟩ : ∃ x, x = L[i - 1] := ⟨_, rfl⟩
      obtain ⟨y, hy⟩ : ∃ x, x = L[i] := ⟨_, rfl⟩
      rw [← hx, ← hy] at hls
      rw [← hy] at hr1
      rw [← hx] at hr2
      have HR1 := Lib.hid (show ∀ W, Behind wr W → W.rangeAt g (off + i * 65) (encR y) from fun W hW => range_below' hr1 hW hgl)
      have HR2 := Lib.hid (show ∀ W, Behind wr W → W.rangeAt g (off + (i - 1) * 65) (encR x) from fun W hW => range_below' hr2 hW hgl)
      have HLS := Lib.hid hls
      have HIL := Lib.hid (And.intro hiL hiL1)
      have HCL := Lib.hid (show ∀ W', Behind wr W' → Calls Tryd.prog 21 #[.agg (u8s x.key).toArray, .agg (u8s y.key).toArray] W' fun e w' => e = .returned (.bool true) ∧ Behind wr w' from fun W' h => behind_call h (by rw [← hls]; exact less_any x.key y.key x.hk y.hk _))
      clear hr hr1 hr2 hls hx hy hgl hiL hiL1
      subst hA
      go_wp2_with fail
      refine wp_region_class (Behind wr) (by kernel_rfl) (by kernel_rfl) (Below.refl _ _).drew ?_
      iterate 13 (first
        | go_big_quiet_skip
        | (with_reducible refine wpQuiet_loadAll (by with_unfolding_all rfl) 24 _ (by with_unfolding_all rfl) g (off + i * 65) (by with_unfolding_all rfl) (u8s y.key) _ (fun w h => range_key (HR1.out w h)) HUD.out (by with_unfolding_all rfl) (HDG.out _ y.hk) ?_; simp only [Act.put, List.setIfInBounds_toArray, List.set_cons_zero, List.set_cons_succ])
        | (with_reducible refine wpQuiet_loadAll (by with_unfolding_all rfl) 24 _ (by with_unfolding_all rfl) g (off + (i - 1) * 65) (by with_unfolding_all rfl) (u8s x.key) _ (fun w h => range_key (HR2.out w h)) HUD.out (by with_unfolding_all rfl) (HDG.out _ x.hk) ?_; simp only [Act.put, List.setIfInBounds_toArray, List.set_cons_zero, List.set_cons_succ])
        | (with_reducible refine wpQuiet_call 21 [.agg (u8s x.key).toArray, .agg (u8s y.key).toArray] (.bool true) (by with_unfolding_all rfl) _ _ (by with_unfolding_all rfl) (by with_unfolding_all rfl) (fun _ => by kernel_rfl) (fun w' h => HCL.out w' h) ?_; simp only [Act.put, List.setIfInBounds_toArray, List.set_cons_zero, List.set_cons_succ])
        | (go_big_quiet_step (exact fun _ => rfl)))
      with_reducible refine wpQuiet_nil ?_
      intro w3 hw3
      have HBw3 := Lib.hid (show Below wr.heap.size wr w3 from hw3)
      clear hw3
      go_wp2_with fail
      go_roundg (m - (i + 1))
      case measure => omega
      case rel => exact ⟨i + 1, by go_num, by omega, by omega, by omega, HBW.out.trans (HBw3.out.mono HBW.out.size)⟩
    · have hltz : ¬ (i : Int) < (m : Int) := by omega
      have hB3 := HB2.out.trans (HBW.out.mono HB2.out.size)
      have HB3 := Lib.hid hB3
      have HEL := Lib.hid (HE2.out.up HBW.out)
      have HEA := Lib.hid (HE.out.up hB3)
      clear hB3 hgg hi1 hi2
      go_wp2_with fail
      obtain ⟨w3, hw3⟩ : ∃ w3, w3 = wr := ⟨_, rfl⟩
      rw [← hw3] at HB3 HEL HEA ⊢
      clear hw3 HBW hlt hltz
      go_loopg [5] n (fun gg s5 wr => ∃ i : Nat, s5 = .int .i64 i ∧ i ≤ n ∧ n - i ≤ gg ∧ Hid (Below w3.heap.size w3 wr))
      case atStart => exact ⟨0, rfl, Nat.zero_le _, by omega, Below.refl _ _⟩
      case round =>
        obtain ⟨i, rfl, hin, hgg, HBW⟩ := hrel
        by_cases hlt : i < n
        · have hltz : (i : Int) < (n : Int) := by omega
          have i0 : (0 : Int) ≤ (i : Int) := by omega
          have hil : i < l.length := by have := HN.out; omega
          obtain ⟨gA, offA, hA, hglA, hrA⟩ := (HEA.out.up HBW.out) (by omega)
          obtain ⟨y, hy⟩ : ∃ x, x = l[i] := ⟨_, rfl⟩
          have hrAi := hrA i hil
          rw [← hy] at hrAi
          have HY := Lib.hid hy
          have HRA := Lib.hid hrA
          have HRAi := Lib.hid hrAi
          have HGA := Lib.hid hglA
          have HIL := Lib.hid hil
          clear hrA hrAi hglA hy
          subst hA
          go_wp2_with fail
          obtain ⟨w4, hw4⟩ : ∃ w4, w4 = wr := ⟨_, rfl⟩
          rw [← hw4] at HBW HRA HRAi HGA ⊢
          clear hw4
          go_loopg [6, 7] i (fun gg s6 s7 wr => ∃ k : Nat, s6 = .bool ((l.take k).all fun z => !(z.key == y.key)) ∧ s7 = .int .i64 k ∧ k ≤ i ∧ i - k ≤ gg ∧ Hid (Below w4.heap.size w4 wr))
          case atStart => exact ⟨0, rfl, rfl, Nat.zero_le _, by omega, Below.refl _ _⟩
          case round =>
            obtain ⟨k, rfl, rfl, hk, hgg3, HBX⟩ := hrel
            by_cases hlt3 : k < i
            · have hltz3 : (k : Int) < (i : Int) := by omega
              have k0 : (0 : Int) ≤ (k : Int) := by omega
              have hkn : (k : Int) < (n : Int) := by omega
              have hkl : k < l.length := by have := HIL.out; omega
              obtain ⟨z, hz⟩ : ∃ x, x = l[k] := ⟨_, rfl⟩
              have hrz := HRA.out k hkl
              rw [← hz] at hrz
              have HRz := Lib.hid (show ∀ W, Behind wr W → W.rangeAt gA (offA + k * 65) (encR z) from fun W hW => range_below' (range_below' hrz HBX.out HGA.out) hW (Nat.lt_of_lt_of_le HGA.out HBX.out.size))
              have HRy := Lib.hid (show ∀ W, Behind wr W → W.rangeAt gA (offA + i * 65) (encR y) from fun W hW => range_below' (range_below' HRAi.out HBX.out HGA.out) hW (Nat.lt_of_lt_of_le HGA.out HBX.out.size))
              have htk : (l.take (k + 1)).all (fun z => !(z.key == y.key)) = ((l.take k).all (fun z => !(z.key == y.key)) && !(z.key == y.key)) := by
                rw [List.take_succ_eq_append_getElem hkl, List.all_append, ← hz]
                simp
              have HTK := Lib.hid htk
              clear hrz hz htk hkl
              cases hq : (l.take k).all (fun z => !(z.key == y.key)) with
              | false =>
                rw [hq] at HTK
                clear hq
                go_wp2_with fail
                refine wp_region_class (Behind wr) (by kernel_rfl) (by kernel_rfl) (Below.refl _ _).drew ?_
                iterate 15 (first
                  | go_big_quiet_skip
                  | (go_big_quiet_step (exact fun _ => rfl)))
                with_reducible refine wpQuiet_nil ?_
                intro w5 hw5
                have HBw5 := Lib.hid (show Below wr.heap.size wr w5 from hw5)
                clear hw5
                go_wp2_with fail
                go_roundg (i - (k + 1))
                case measure => omega
                case rel => exact ⟨k + 1, by rw [HTK.out]; rfl, by go_num, by omega, by omega, HBX.out.trans (HBw5.out.mono HBX.out.size)⟩
              | true =>
                rw [hq] at HTK
                clear hq
                cases hzy : (z.key == y.key) with
                | false =>
                  rw [hzy] at HTK
                  have HNE := Lib.hid (show ∀ w, (binOp .neq 24 (.agg (u8s z.key).toArray) (.agg (u8s y.key).toArray)).run Tryd.prog w = .ok (.bool true) w from fun w => by have h := run_neq_dg w z.key y.key z.hk y.hk; rw [hzy] at h; exact h)
                  clear hzy
                  go_wp2_with fail
                  refine wp_region_class (Behind wr) (by kernel_rfl) (by kernel_rfl) (Below.refl _ _).drew ?_
                  iterate 15 (first
                    | go_big_quiet_skip
                    | (with_reducible refine wpQuiet_loadAll (by with_unfolding_all rfl) 24 _ (by with_unfolding_all rfl) gA (offA + k * 65) (by with_unfolding_all rfl) (u8s z.key) _ (fun w h => range_key (HRz.out w h)) HUD.out (by with_unfolding_all rfl) (HDG.out _ z.hk) ?_; simp only [Act.put, List.setIfInBounds_toArray, List.set_cons_zero, List.set_cons_succ])
                    | (with_reducible refine wpQuiet_loadAll (by with_unfolding_all rfl) 24 _ (by with_unfolding_all rfl) gA (offA + i * 65) (by with_unfolding_all rfl) (u8s y.key) _ (fun w h => range_key (HRy.out w h)) HUD.out (by with_unfolding_all rfl) (HDG.out _ y.hk) ?_; simp only [Act.put, List.setIfInBounds_toArray, List.set_cons_zero, List.set_cons_succ])
                    | (with_reducible refine wpQuiet_bin (by with_unfolding_all rfl) .neq 24 _ _ _ (by with_unfolding_all rfl) (.agg (u8s z.key).toArray) (.agg (u8s y.key).toArray) (.bool true) (by with_unfolding_all rfl) (by with_unfolding_all rfl) (fun w => run_eqGuard_dg w _ _ _ _ _) HNE.out ?_; simp only [Act.put, List.setIfInBounds_toArray, List.set_cons_zero, List.set_cons_succ])
                    | (go_big_quiet_step (exact fun _ => rfl)))
                  with_reducible refine wpQuiet_nil ?_
                  intro w5 hw5
                  have HBw5 := Lib.hid (show Below wr.heap.size wr w5 from hw5)
                  clear hw5
                  go_wp2_with fail
                  go_roundg (i - (k + 1))
                  case measure => omega
                  case rel => exact ⟨k + 1, by rw [HTK.out]; rfl, by go_num, by omega, by omega, HBX.out.trans (HBw5.out.mono HBX.out.size)⟩
                | true =>
                  rw [hzy] at HTK
                  have HNE := Lib.hid (show ∀ w, (binOp .neq 24 (.agg (u8s z.key).toArray) (.agg (u8s y.key).toArray)).run Tryd.prog w = .ok (.bool false) w from fun w => by have h := run_neq_dg w z.key y.key z.hk y.hk; rw [hzy] at h; exact h)
                  clear hzy
                  go_wp2_with fail
                  refine wp_region_class (Behind wr) (by kernel_rfl) (by kernel_rfl) (Below.refl _ _).drew ?_
                  iterate 15 (first
                    | go_big_quiet_skip
                    | (with_reducible refine wpQuiet_loadAll (by with_unfolding_all rfl) 24 _ (by with_unfolding_all rfl) gA (offA + k * 65) (by with_unfolding_all rfl) (u8s z.key) _ (fun w h => range_key (HRz.out w h)) HUD.out (by with_unfolding_all rfl) (HDG.out _ z.hk) ?_; simp only [Act.put, List.setIfInBounds_toArray, List.set_cons_zero, List.set_cons_succ])
                    | (with_reducible refine wpQuiet_loadAll (by with_unfolding_all rfl) 24 _ (by with_unfolding_all rfl) gA (offA + i * 65) (by with_unfolding_all rfl) (u8s y.key) _ (fun w h => range_key (HRy.out w h)) HUD.out (by with_unfolding_all rfl) (HDG.out _ y.hk) ?_; simp only [Act.put, List.setIfInBounds_toArray, List.set_cons_zero, List.set_cons_succ])
                    | (with_reducible refine wpQuiet_bin (by with_unfolding_all rfl) .neq 24 _ _ _ (by with_unfolding_all rfl) (.agg (u8s z.key).toArray) (.agg (u8s y.key).toArray) (.bool false) (by with_unfolding_all rfl) (by with_unfolding_all rfl) (fun w => run_eqGuard_dg w _ _ _ _ _) HNE.out ?_; simp only [Act.put, List.setIfInBounds_toArray, List.set_cons_zero, List.set_cons_succ])
                    | (go_big_quiet_step (exact fun _ => rfl)))
                  with_reducible refine wpQuiet_nil ?_
                  intro w5 hw5
                  have HBw5 := Lib.hid (show Below wr.heap.size wr w5 from hw5)
                  clear hw5
                  go_wp2_with fail
                  go_roundg (i - (k + 1))
                  case measure => omega
                  case rel => exact ⟨k + 1, by rw [HTK.out]; rfl, by go_num, by omega, by omega, HBX.out.trans (HBw5.out.mono HBX.out.size)⟩
            · have hltz3 : ¬ (k : Int) < (i : Int) := by omega
              obtain rfl : i = k := by omega
              obtain ⟨fb, hfb⟩ : ∃ fb, fb = (l.take i).all fun z => !(z.key == y.key) := ⟨_, rfl⟩
              rw [← hfb]
              obtain ⟨zz, hzz⟩ := find_isSome (l := l) (x := y) (by rw [HY.out]; exact List.getElem_mem _)
              have hzL : find L y.key = some zz := by rw [HL.out, find_sortR]; exact hzz
              have hrk := rising_keyed HRI.out hzL
              have hfz : fb = true → zz = y := fun h => by
                rw [hfb] at h
                have h2 := HY.out
                have h1 := first_find l i hil (by rw [← h2]; exact h)
                rw [← h2, hzz] at h1
                injection h1
              have HRK := Lib.hid hrk
              have HFZ := Lib.hid hfz
              have HBY := Lib.hid HBX.out
              clear hfb hzz hzL hrk hfz hk hgg3 hltz3 hlt3 HBX
              go_wp2_with fail
              obtain ⟨w5, hw5⟩ : ∃ w5, w5 = wr := ⟨_, rfl⟩
              rw [← hw5] at HBY ⊢
              have hEL := HEL.out.up (HBW.out.trans (HBY.out.mono HBW.out.size))
              have HEL5 := Lib.hid hEL
              have HRA5 := Lib.hid (range_below' HRAi.out HBY.out HGA.out)
              have HGA5 := Lib.hid (Nat.lt_of_lt_of_le HGA.out HBY.out.size)
              clear hw5 hEL
              go_loopg [8, 9, 10] m (fun gg s8 s9 s10 wr => ∃ k : Nat, s8 = .int .i64 ((cntK (L.take k) y : Nat)) ∧ s9 = .bool (isK (L.take k) y) ∧ s10 = .int .i64 k ∧ k ≤ m ∧ m - k ≤ gg ∧ Hid (Below w5.heap.size w5 wr))
              case atStart => exact ⟨0, rfl, rfl, rfl, Nat.zero_le _, by omega, Below.refl _ _⟩
              case round =>
                obtain ⟨k, rfl, rfl, rfl, hk, hgg4, HBX⟩ := hrel
                by_cases hlt4 : k < m
                · have hltz4 : (k : Int) < (m : Int) := by omega
                  have k0 : (0 : Int) ≤ (k : Int) := by omega
                  have hkL : k < L.length := by have := HM.out; omega
                  obtain ⟨gL, offL, hA, hglL, hrL⟩ := (HEL5.out.up HBX.out) (by omega)
                  obtain ⟨z, hz⟩ : ∃ x, x = L[k] := ⟨_, rfl⟩
                  have hrz := hrL k hkL
                  rw [← hz] at hrz
                  have HRz := Lib.hid (show ∀ W, Behind wr W → W.rangeAt gL (offL + k * 65) (encR z) from fun W hW => range_below' hrz hW hglL)
                  have HRy := Lib.hid (show ∀ W, Behind wr W → W.rangeAt gA (offA + i * 65) (encR y) from fun W hW => range_below' (range_below' HRA5.out HBX.out HGA5.out) hW (Nat.lt_of_lt_of_le HGA5.out HBX.out.size))
                  have hcs : cntK (L.take (k + 1)) y = cntK (L.take k) y + if z.key = y.key then 1 else 0 := by rw [List.take_succ_eq_append_getElem hkL, cntK_snoc, ← hz]
                  have his : isK (L.take (k + 1)) y = if z.key = y.key then decide (z = y) else isK (L.take k) y := by rw [List.take_succ_eq_append_getElem hkL, isK_snoc, ← hz]
                  have hcb : cntK (L.take k) y ≤ 80 := by
                    unfold cntK
                    have h1 := List.length_filter_le (fun x => x.key == y.key) (L.take k)
                    have h2 := List.length_take_le k L
                    omega
                  have HCS := Lib.hid (And.intro hcs his)
                  clear hrL hrz hz hglL hcs his hkL
                  subst hA
                  generalize cntK (L.take k) y = cn at HCS hcb ⊢
                  generalize isK (L.take k) y = is at HCS ⊢
                  by_cases hzy : z.key = y.key
                  · have HNE := Lib.hid (show ∀ w, (binOp .eql 24 (.agg (u8s z.key).toArray) (.agg (u8s y.key).toArray)).run Tryd.prog w = .ok (.bool true) w from fun w => by have h := run_eql_dg w z.key y.key z.hk y.hk; rw [beq_iff_eq.2 hzy] at h; exact h)
                    have HRE := Lib.hid (show ∀ w, (binOp .eql 38 (.agg (encR z).toArray) (.agg (encR y).toArray)).run Tryd.prog w = .ok (.bool (decide (z = y))) w from fun w => run_eql_rec w z y)
                    have HZY := Lib.hid hzy
                    clear hzy
                    go_wp2_with fail
                    refine wp_region_class (Behind wr) (by kernel_rfl) (by kernel_rfl) (Below.refl _ _).drew ?_
                    iterate 11 (first
                      | go_big_quiet_skip
                      | (with_reducible refine wpQuiet_loadAll (by with_unfolding_all rfl) 24 _ (by with_unfolding_all rfl) gL (offL + k * 65) (by with_unfolding_all rfl) (u8s z.key) _ (fun w h => range_key (HRz.out w h)) HUD.out (by with_unfolding_all rfl) (HDG.out _ z.hk) ?_; simp only [Act.put, List.setIfInBounds_toArray, List.set_cons_zero, List.set_cons_succ])
                      | (with_reducible refine wpQuiet_loadAll (by with_unfolding_all rfl) 24 _ (by with_unfolding_all rfl) gA (offA + i * 65) (by with_unfolding_all rfl) (u8s y.key) _ (fun w h => range_key (HRy.out w h)) HUD.out (by with_unfolding_all rfl) (HDG.out _ y.hk) ?_; simp only [Act.put, List.setIfInBounds_toArray, List.set_cons_zero, List.set_cons_succ])
                      | (with_reducible refine wpQuiet_bin (by with_unfolding_all rfl) .eql 24 _ _ _ (by with_unfolding_all rfl) (.agg (u8s z.key).toArray) (.agg (u8s y.key).toArray) (.bool true) (by with_unfolding_all rfl) (by with_unfolding_all rfl) (fun w => run_eqGuard_dg w _ _ _ _ _) HNE.out ?_; simp only [Act.put, List.setIfInBounds_toArray, List.set_cons_zero, List.set_cons_succ])
                      | (go_big_quiet_step (exact fun _ => rfl)))
                    with_reducible refine wpQuiet_nil ?_
                    intro w6 hw6
                    have HBw6 := Lib.hid (show Below wr.heap.size wr w6 from hw6)
                    clear hw6
                    have HRz2 := Lib.hid (show ∀ W, Behind w6 W → W.rangeAt gL (offL + k * 65) (encR z) from fun W hW => HRz.out W (HBw6.out.trans (Below.mono hW HBw6.out.size)))
                    have HRy2 := Lib.hid (show ∀ W, Behind w6 W → W.rangeAt gA (offA + i * 65) (encR y) from fun W hW => HRy.out W (HBw6.out.trans (Below.mono hW HBw6.out.size)))
                    go_wp2_with fail
                    refine wp_region_class (Behind w6) (by kernel_rfl) (by kernel_rfl) (Below.refl _ _).drew ?_
                    iterate 10 (first
                      | go_big_quiet_skip
                      | (with_reducible refine wpQuiet_loadAll (by with_unfolding_all rfl) 38 _ (by with_unfolding_all rfl) gL (offL + k * 65) (by with_unfolding_all rfl) (encR z) _ (fun w h => HRz2.out w h) HUR.out (by with_unfolding_all rfl) (HLR.out _) ?_; simp only [Act.put, List.setIfInBounds_toArray, List.set_cons_zero, List.set_cons_succ])
                      | (with_reducible refine wpQuiet_loadAll (by with_unfolding_all rfl) 38 _ (by with_unfolding_all rfl) gA (offA + i * 65) (by with_unfolding_all rfl) (encR y) _ (fun w h => HRy2.out w h) HUR.out (by with_unfolding_all rfl) (HLR.out _) ?_; simp only [Act.put, List.setIfInBounds_toArray, List.set_cons_zero, List.set_cons_succ])
                      | (with_reducible refine wpQuiet_bin (by with_unfolding_all rfl) .eql 38 _ _ _ (by with_unfolding_all rfl) (.agg (encR z).toArray) (.agg (encR y).toArray) (.bool (decide (z = y))) (by with_unfolding_all rfl) (by with_unfolding_all rfl) (fun w => run_eqGuard_rec w _ _ _ _ _) HRE.out ?_; simp only [Act.put, List.setIfInBounds_toArray, List.set_cons_zero, List.set_cons_succ])
                      | (go_big_quiet_step (exact fun _ => rfl)))
                    with_reducible refine wpQuiet_nil ?_
                    intro w7 hw7
                    have HBw7 := Lib.hid (show Below w6.heap.size w6 w7 from hw7)
                    clear hw7
                    go_wp2_with fail
                    go_roundg (m - (k + 1))
                    case measure => omega
                    case rel => exact ⟨k + 1, by rw [HCS.out.1, if_pos HZY.out]; go_num, by rw [HCS.out.2, if_pos HZY.out], by go_num, by omega, by omega, HBX.out.trans ((HBw6.out.trans (HBw7.out.mono HBw6.out.size)).mono HBX.out.size)⟩
                  · have HNE := Lib.hid (show ∀ w, (binOp .eql 24 (.agg (u8s z.key).toArray) (.agg (u8s y.key).toArray)).run Tryd.prog w = .ok (.bool false) w from fun w => by have h := run_eql_dg w z.key y.key z.hk y.hk; rw [beq_eq_false_iff_ne.2 hzy] at h; exact h)
                    have HZY := Lib.hid hzy
                    clear hzy
                    go_wp2_with fail
                    refine wp_region_class (Behind wr) (by kernel_rfl) (by kernel_rfl) (Below.refl _ _).drew ?_
                    iterate 11 (first
                      | go_big_quiet_skip
                      | (with_reducible refine wpQuiet_loadAll (by with_unfolding_all rfl) 24 _ (by with_unfolding_all rfl) gL (offL + k * 65) (by with_unfolding_all rfl) (u8s z.key) _ (fun w h => range_key (HRz.out w h)) HUD.out (by with_unfolding_all rfl) (HDG.out _ z.hk) ?_; simp only [Act.put, List.setIfInBounds_toArray, List.set_cons_zero, List.set_cons_succ])
                      | (with_reducible refine wpQuiet_loadAll (by with_unfolding_all rfl) 24 _ (by with_unfolding_all rfl) gA (offA + i * 65) (by with_unfolding_all rfl) (u8s y.key) _ (fun w h => range_key (HRy.out w h)) HUD.out (by with_unfolding_all rfl) (HDG.out _ y.hk) ?_; simp only [Act.put, List.setIfInBounds_toArray, List.set_cons_zero, List.set_cons_succ])
                      | (with_reducible refine wpQuiet_bin (by with_unfolding_all rfl) .eql 24 _ _ _ (by with_unfolding_all rfl) (.agg (u8s z.key).toArray) (.agg (u8s y.key).toArray) (.bool false) (by with_unfolding_all rfl) (by with_unfolding_all rfl) (fun w => run_eqGuard_dg w _ _ _ _ _) HNE.out ?_; simp only [Act.put, List.setIfInBounds_toArray, List.set_cons_zero, List.set_cons_succ])
                      | (go_big_quiet_step (exact fun _ => rfl)))
                    with_reducible refine wpQuiet_nil ?_
                    intro w6 hw6
                    have HBw6 := Lib.hid (show Below wr.heap.size wr w6 from hw6)
                    clear hw6
                    go_wp2_with fail
                    go_roundg (m - (k + 1))
                    case measure => omega
                    case rel => exact ⟨k + 1, by rw [HCS.out.1, if_neg HZY.out]; rfl, by rw [HCS.out.2, if_neg HZY.out], by go_num, by omega, by omega, HBX.out.trans (HBw6.out.mono HBX.out.size)⟩
                · have hltz4 : ¬ (k : Int) < (m : Int) := by omega
                  have hkm : L.take k = L := List.take_of_length_le (by have := HM.out; omega)
                  rw [hkm, HRK.out.1, HRK.out.2]
                  have HB6 := Lib.hid (HBY.out.trans (HBX.out.mono HBY.out.size))
                  clear hkm
                  cases fb with
                  | false =>
                    clear HFZ
                    generalize decide (zz = y) = is
                    go_wp2_with fail
                    go_roundg (n - (i + 1))
                    case measure => omega
                    case rel => exact ⟨i + 1, by go_num, by omega, by omega, HBW.out.trans (HB6.out.mono HBW.out.size)⟩
                  | true =>
                    have hzz := HFZ.out rfl
                    rw [hzz, decide_eq_true rfl]
                    clear hzz HFZ
                    go_wp2_with fail
                    go_roundg (n - (i + 1))
                    case measure => omega
                    case rel => exact ⟨i + 1, by go_num, by omega, by omega, HBW.out.trans (HB6.out.mono HBW.out.size)⟩
        · have hltz : ¬ (i : Int) < (n : Int) := by omega
          have HB4 := Lib.hid (HB3.out.trans (HBW.out.mono HB3.out.size))
          have hpos := sortR_pos l
          rw [← HL.out, ← HM.out, ← HN.out] at hpos
          have hmn : (m : Int) ≤ (n : Int) := by have := HM.out; have := HLN.out; omega
          have HPOS := Lib.hid hpos
          clear hpos
          go_wp2_with fail
          go_ret
          refine ⟨?_, HB4.out⟩
          show Ending.returned (.bool (decide (0 < m) == decide (0 < n))) = _
          rw [decide_eq_decide.2 HPOS.out, beq_self_eq_true]
end Go.Proofs.YtefbllhpibfojaaDoor
