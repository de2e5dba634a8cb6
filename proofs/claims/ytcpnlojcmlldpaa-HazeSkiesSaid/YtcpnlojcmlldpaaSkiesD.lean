/- HazeSkies: the walk. -/
import Derived.Test.YtcpnlojcmlldpaaSkiesC
namespace Go.Proofs.Ytcpnlojcmlldpaa
open Go.RowKit Go.Maps Go.Sort

/-- a call of HazeSkies -/
structure ActM where
  kind : Int
  node : Int
  h : List UInt8
  key : List UInt8
  now : Int
def actCells (x : ActM) : List Value := [.int .i64 x.kind, .int .i64 x.node] ++ (u8s x.h ++ (u8s x.key ++ [.int .i64 x.now]))
def ActM.Wf (x : ActM) : Prop := x.h.length = 64 ∧ x.key.length = 32 ∧ -9223372036854775808 ≤ x.node ∧ x.node ≤ 9223372036854775807
def ActsIn (w : World) (A : Option Addr) (l : List ActM) : Prop :=
  0 < l.length → ∃ g off, A = some ⟨g, off, none⟩ ∧ g < w.heap.size ∧ ∀ i (h : i < l.length), w.rangeAt g (off + i * 99) (actCells l[i])
theorem actCells_len {x : ActM} (h : x.Wf) : (actCells x).length = 99 := by
  unfold actCells
  simp only [List.length_append, u8s_len, h.1, h.2.1, List.length_cons, List.length_nil]
theorem act_kind (x : ActM) : (actCells x)[0]? = some (.int .i64 x.kind) := rfl
theorem act_node (x : ActM) : (actCells x)[1]? = some (.int .i64 x.node) := rfl
theorem act_h {x : ActM} {j : Nat} {v : Value} (hv : (u8s x.h)[j]? = some v) : (actCells x)[2 + j]? = some v := by
  unfold actCells
  rw [List.getElem?_append_right (by simp), List.length_cons, List.length_cons, List.length_nil, Nat.zero_add, Nat.add_sub_cancel_left, List.getElem?_append_left (List.getElem?_eq_some_iff.1 hv).1]
  exact hv
theorem act_key {x : ActM} (hx : x.Wf) {j : Nat} {v : Value} (hv : (u8s x.key)[j]? = some v) : (actCells x)[66 + j]? = some v := by
  unfold actCells
  have e : 66 + j = 2 + (64 + j) := by omega
  rw [e, List.getElem?_append_right (by simp), List.length_cons, List.length_cons, List.length_nil, Nat.zero_add, Nat.add_sub_cancel_left, List.getElem?_append_right (by rw [u8s_len, hx.1]; omega), u8s_len, hx.1, Nat.add_sub_cancel_left, List.getElem?_append_left (List.getElem?_eq_some_iff.1 hv).1]
  exact hv
theorem act_now {x : ActM} (hx : x.Wf) : (actCells x)[98]? = some (.int .i64 x.now) := by
  unfold actCells
  rw [List.getElem?_append_right (by simp), List.getElem?_append_right (by rw [u8s_len, hx.1]; simp), List.getElem?_append_right (by rw [u8s_len, u8s_len, hx.1, hx.2.1]; simp), u8s_len, u8s_len, hx.1, hx.2.1]
  rfl
theorem act_one (x : ActM) : ∀ v ∈ actCells x, v.oneCell' = true := by
  unfold actCells
  intro v hv
  simp only [List.mem_append, List.mem_cons, List.not_mem_nil, or_false] at hv
  rcases hv with (rfl | rfl) | hv | hv | rfl
  · rfl
  · rfl
  · exact u8s_one _ v hv
  · exact u8s_one _ v hv
  · rfl
def zAct : ActM := ⟨0, 0, Hz.zero, List.replicate 32 0, 0⟩
def zSky : List Value := List.replicate 448 (.int .u8 0) ++ (List.replicate 7 (.int .i64 0) ++ List.replicate 7 (.bool false))
theorem built_zSky : Try.prog.built 39 [] = some zSky.toArray := by kernel_rfl
theorem zero_act (w : World) : (zeroValue 41).run Try.prog w = .ok (.agg (actCells zAct).toArray) w := by kernel_rfl
theorem zSky_cells : SkyCells zSky (fun _ => none) := by
  refine ⟨by kernel_rfl, fun n hn => ⟨?_, fun c hc => by cases hc⟩⟩
  unfold zSky
  rw [List.getElem?_append_right (by rw [List.length_replicate]; omega), List.length_replicate, List.getElem?_append_right (by rw [List.length_replicate]; omega), List.length_replicate, List.getElem?_replicate, if_pos (by omega)]
  rfl
theorem mayS_len (f : Clouds) (key : List UInt8) (now : Int) : (mayS f key now).length ≤ 6 := by
  rw [mayS_told]
  exact Nat.le_trans (List.length_filter_le _ _) (keysOf_len f)
theorem sane_out {w : World} {p b N : Nat} {f : Clouds} (h : SkyAt Unit w p b N f) : ∀ k, ¬ (1 ≤ k ∧ k ≤ 6) → f k = none := fun k hk => by
  cases hf : f k with
  | none => rfl
  | some c =>
    have := h.2.2.1.1 k c hf
    simp only [Sk.nodes, List.mem_cons, List.not_mem_nil, or_false] at this
    omega
set_option maxRecDepth 100000 in
set_option maxHeartbeats 1000000 in
theorem skies_any (A : Option Addr) (c : Nat) (l : List ActM) (w : World) (hl : ActsIn w A l) (hwf : ∀ x ∈ l, x.Wf) (hlc : l.length ≤ c) (hcm : c ≤ maxLen) (_ : A = none → c = 0) :
    Calls Try.prog 4 #[.slice A l.length c] w fun e w' => e = .returned (.bool true) ∧ Below w.heap.size w w' := by
  have HL := Lib.hid hl
  have HWFS := Lib.hid hwf
  have HUH := Lib.hid Try.underlying26
  have HUD := Lib.hid Try.underlying23
  have HUI := Lib.hid Try.underlying3
  have HUA := Lib.hid Try.underlying41
  have his : (Try.prog.info? 39).map (·.size) = some zSky.toArray.size := by kernel_rfl
  have hn : l.length ≤ 9223372036854775807 := Nat.le_trans hlc hcm
  clear hl hwf
  go_enter Try.func4, Try.ntmps4
  go_wp2_with fail
  refine (awake_any _).mono ?_
  rintro e w1 ⟨rfl, hb⟩
  have HB1 := Lib.hid hb
  clear hb
  go_wp2_with fail
  refine (sky_new (H := Unit) w1).mono ?_
  rintro e w2 ⟨p, b, rfl, hS2, hb, hp, hbb⟩
  have HS2 := Lib.hid hS2
  have HB2 := Lib.hid (HB1.out.trans (hb.mono HB1.out.size))
  have hpl := hS2.1.lt
  have hbl := hS2.2.1.lt
  have hwp : w.heap.size ≤ p := Nat.le_trans HB1.out.size hp
  have hwb : w.heap.size ≤ b := Nat.le_trans HB1.out.size hbb
  clear hb hS2 hp hbb HB1
  go_wp2_with (first
    | (refine wpList_build zSky.toArray rfl 39 #[] rfl (by simp only [List.map_toArray, List.map_nil]; exact built_zSky) ?_))
  obtain ⟨q, hq⟩ : ∃ q, q = w2.heap.size := ⟨_, rfl⟩
  have hR3 : RSky (w2.alloc (.cells zSky.toArray 39)) q (fun _ => none) := ⟨zSky, by rw [hq]; exact At.newA w2 _ rfl, zSky_cells⟩
  have hS3 := sky_below HS2.out ((Below.refl w2.heap.size w2).alloc (Nat.le_refl _) (.cells zSky.toArray 39))
  have hB3 : Below w.heap.size w (w2.alloc (.cells zSky.toArray 39)) := HB2.out.alloc HB2.out.size _
  rw [← hq]
  rw [← hq] at hpl hbl
  have hwq : w.heap.size ≤ q := by rw [hq]; exact HB2.out.size
  clear hq HS2 HB2 his
  generalize w2.alloc (.cells zSky.toArray 39) = w3 at hR3 hS3 hB3 ⊢
  have HR3 := Lib.hid hR3
  have HS3 := Lib.hid hS3
  have HB3 := Lib.hid hB3
  clear hR3 hS3 hB3
  go_loopw [5] (fun i wr => ∃ (n : Nat) (f : Clouds), n ≤ l.length ∧ n ≤ 100 ∧ i = .int .i64 n ∧ SkyAt Unit wr p b n f ∧ RSky wr q f ∧ Below w.heap.size w wr) (fun i _ => 100 - (RowKit.intOf i).toNat)
  case atStart => exact ⟨0, fun _ => none, by omega, by omega, rfl, HS3.out, HR3.out, HB3.out⟩
  case round =>
    obtain ⟨n, f, hnl, hn100, rfl, hS, hR, hb⟩ := hrel
    have HBr := Lib.hid hb
    have hql := hR.lt
    by_cases hlt : n < l.length
    · by_cases h100 : n < 100
      · obtain ⟨x, hx⟩ : ∃ x, x = l[n] := ⟨_, rfl⟩
        have HWF := Lib.hid (show x.Wf by rw [hx]; exact HWFS.out _ (List.getElem_mem hlt))
        obtain ⟨g, off, rfl, hgl, hc⟩ := HL.out (by omega)
        have HRow := Lib.hid (show wr.rangeAt g (off + n * 99) (actCells x) from fun j v hv => by
          rw [hx] at hv
          exact (hb.cell (p := ⟨g, off + n * 99 + j, none⟩) hgl).trans (hc n hlt j v hv))
        have HIAx := Lib.hid (show (Try.prog.info? 41).map (·.size) = some (actCells x).length by rw [actCells_len HWF.out]; kernel_rfl)
        have HLZ := Lib.hid (show (actCells x).length = (actCells zAct).length by rw [actCells_len HWF.out]; rfl)
        have HZa := Lib.hid (show At (wr.alloc (.cells (actCells zAct).toArray 41)) wr.heap.size 41 (actCells zAct) from At.newA wr _ rfl)
        have HGx := Lib.hid (fun (w3 : World) (hg3 : (wr.alloc (.cells (actCells zAct).toArray 41)).grownBy w3 (some wr.heap.size)) => show Below wr.heap.size wr w3 from Below.ofGrown ((Below.refl _ _).alloc (Nat.le_refl _) _) hg3 ((Below.refl _ _).alloc (Nat.le_refl _) _).size (Nat.le_refl _))
        have HRH := Lib.hid (show ∀ w', At w' wr.heap.size 41 (actCells x) → w'.rangeAt wr.heap.size 2 (u8s x.h) from fun w' h j v hv => h.cell' (act_h hv))
        have HIHx := Lib.hid (HaveHzInfo HWF.out.1)
        have HIK := Lib.hid (show (Try.prog.info? 23).map (·.size) = some (u8s x.key).length by rw [u8s_len, HWF.out.2.1]; kernel_rfl)
        have HSr := Lib.hid hS
        have HRr := Lib.hid hR
        have hzc := zero_act wr
        have i1 : (0 : Int) ≤ (n : Int) := by omega
        have i2 : (n : Int) < (l.length : Int) := by omega
        clear hS hR hb hx hc
        by_cases hk1 : x.kind = 1
        · skip
          go_wp2_with (first
            | (with_reducible refine wpList_loadW rfl 41 (.tmp 24) rfl g (off + n * 99) rfl (actCells x) _ HRow.out HUA.out rfl HIAx.out ?_)
            | (refine wpList_storeAll rfl 41 (.tmp 6) (.tmp 25) rfl _ rfl _ (actCells zAct) (actCells x) HZa.out rfl HLZ.out HIAx.out (act_one x) ?_; intro wx hatx hgx hsx; have a0 := hatx.cell' (act_kind x); have a1 := hatx.cell' (act_node x); have a98 := hatx.cell' (act_now HWF.out); have HAc := Lib.hid hatx; have hbx := HGx.out wx hgx; have HBx := Lib.hid hbx; clear hgx hatx hbx hsx)
            | (with_reducible refine wpList_loadW rfl 26 (.tmp 33) rfl wr.heap.size 2 rfl (u8s x.h) _ (HRH.out _ HAc.out) HUH.out rfl HIHx.out ?_))
          have HSc := Lib.hid (sky_below HSr.out HBx.out)
          have HRc := Lib.hid (HRr.out.below HBx.out)
          have HBc := Lib.hid (HBr.out.trans (HBx.out.mono HBr.out.size))
          clear HSr HRr HBr HBx a0 HRow HZa HGx hzc
          refine (sky_put HSc.out (by omega) x.node x.h HWF.out.1 x.now HWF.out.2.2).mono ?_
          rintro e wp ⟨rfl, hS, hg⟩
          have HR' := Lib.hid (HRc.out.grown hg (by intro e; injection e with e; omega))
          have HA' := Lib.hid (HAc.out.grown hg (by intro e; injection e with e; omega))
          have HB' := Lib.hid (Below.ofGrown HBc.out hg HBc.out.size (by omega))
          clear HAc HBc a1 a98
          have HAc := HA'
          have HBc := HB'
          clear HA' HB'
          clear HSc HRc
          have HSc := Lib.hid hS
          have HRc := HR'
          clear hS hg HR'
          have a1 := HAc.out.cell' (act_node x)
          have a98 := HAc.out.cell' (act_now HWF.out)
          go_wp2_with (first
            | (with_reducible refine wpList_loadW rfl 26 (.tmp 33) rfl wr.heap.size 2 rfl (u8s x.h) _ (HRH.out _ HAc.out) HUH.out rfl HIHx.out ?_)
            | (with_reducible refine wpList_loadW rfl 26 (.tmp 41) rfl wr.heap.size 2 rfl (u8s x.h) _ (HRH.out _ HAc.out) HUH.out rfl HIHx.out ?_))
          refine (refput_any HRc.out x.node x.h HWF.out.1 x.now).mono ?_
          rintro e wq ⟨rfl, hR, hg⟩
          have HS' := Lib.hid (sky_grown HSc.out hg (by intro e; injection e with e; omega) (by intro e; injection e with e; omega))
          have HA' := Lib.hid (HAc.out.grown hg (by intro e; injection e with e; omega))
          have HB' := Lib.hid (Below.ofGrown HBc.out hg HBc.out.size (by omega))
          clear HAc HBc a1 a98
          have HAc := HA'
          have HBc := HB'
          clear HA' HB'
          clear HSc HRc
          have HSc := HS'
          have HRc := Lib.hid hR
          clear hR hg HS'
          obtain ⟨F, hF⟩ : ∃ F, F = putS f x.node x.h x.now := ⟨_, rfl⟩
          rw [← hF] at HSc HRc
          clear hF
          go_wp2_with fail
          have hAx := HAc.out
          have HRKy := Lib.hid (show ∀ w', Behind wq w' → w'.rangeAt wr.heap.size 66 (u8s x.key) from fun w' h j v hv => (hAx.below h hAx.lt).cell' (act_key HWF.out hv))
          have HNow := Lib.hid (show ∀ w', Behind wq w' → w'.cell? ⟨wr.heap.size, 98, none⟩ = some (.int .i64 x.now) from fun w' h => (hAx.below h hAx.lt).cell' (act_now HWF.out))
          clear hAx
          refine wp_region_mix [(0, true), (1, true), (2, true), (3, true), (4, true), (6, true), (7, true), (8, true), (9, true), (10, true), (5, false), (11, false), (12, false), (13, true)] (Behind wq)
            (by kernel_rfl) (by kernel_rfl) (fun _ _ d _ _ h => by cases d <;> exact h) (by kernel_rfl) (by decide) (Below.refl _ _).drew ?_
          have hS0 : Behind wq wq.drew := (Below.refl _ _).drew
          (with_reducible refine wpMix_val (.pointer (some ⟨p, 0, none⟩)) (by with_unfolding_all rfl) (by with_unfolding_all rfl) (fun w _ => by with_unfolding_all rfl) ?_; simp only [Act.put, List.setIfInBounds_toArray, List.set_cons_zero, List.set_cons_succ])
          (with_reducible refine wpMix_val (.pointer (some ⟨wr.heap.size, 66, none⟩)) (by with_unfolding_all rfl) (by with_unfolding_all rfl) (fun w _ => by go_simp) ?_; simp only [Act.put, List.setIfInBounds_toArray, List.set_cons_zero, List.set_cons_succ])
          (with_reducible refine wpMix_loadAll (by with_unfolding_all rfl) (by with_unfolding_all rfl) 23 _ (by with_unfolding_all rfl) wr.heap.size (66) (by with_unfolding_all rfl) (u8s x.key) _ (fun w h => HRKy.out w h) HUD.out (by with_unfolding_all rfl) HIK.out ?_; simp only [Act.put, List.setIfInBounds_toArray, List.set_cons_zero, List.set_cons_succ])
          (with_reducible refine wpMix_val (.pointer (some ⟨wr.heap.size, 98, none⟩)) (by with_unfolding_all rfl) (by with_unfolding_all rfl) (fun w _ => by go_simp) ?_; simp only [Act.put, List.setIfInBounds_toArray, List.set_cons_zero, List.set_cons_succ])
          (with_reducible refine wpMix_load1 (.int .i64 x.now) (by with_unfolding_all rfl) (by with_unfolding_all rfl) 3 _ (by with_unfolding_all rfl) .i64 HUI.out wr.heap.size (98) (by with_unfolding_all rfl) (fun w h => HNow.out w h) ?_; simp only [Act.put, List.setIfInBounds_toArray, List.set_cons_zero, List.set_cons_succ])
          (with_reducible refine wpMix_val (.pointer (some ⟨q, 0, none⟩)) (by with_unfolding_all rfl) (by with_unfolding_all rfl) (fun w _ => by with_unfolding_all rfl) ?_; simp only [Act.put, List.setIfInBounds_toArray, List.set_cons_zero, List.set_cons_succ])
          (with_reducible refine wpMix_val (.pointer (some ⟨wr.heap.size, 66, none⟩)) (by with_unfolding_all rfl) (by with_unfolding_all rfl) (fun w _ => by go_simp) ?_; simp only [Act.put, List.setIfInBounds_toArray, List.set_cons_zero, List.set_cons_succ])
          (with_reducible refine wpMix_loadAll (by with_unfolding_all rfl) (by with_unfolding_all rfl) 23 _ (by with_unfolding_all rfl) wr.heap.size (66) (by with_unfolding_all rfl) (u8s x.key) _ (fun w h => HRKy.out w h) HUD.out (by with_unfolding_all rfl) HIK.out ?_; simp only [Act.put, List.setIfInBounds_toArray, List.set_cons_zero, List.set_cons_succ])
          (with_reducible refine wpMix_val (.pointer (some ⟨wr.heap.size, 98, none⟩)) (by with_unfolding_all rfl) (by with_unfolding_all rfl) (fun w _ => by go_simp) ?_; simp only [Act.put, List.setIfInBounds_toArray, List.set_cons_zero, List.set_cons_succ])
          (with_reducible refine wpMix_load1 (.int .i64 x.now) (by with_unfolding_all rfl) (by with_unfolding_all rfl) 3 _ (by with_unfolding_all rfl) .i64 HUI.out wr.heap.size (98) (by with_unfolding_all rfl) (fun w h => HNow.out w h) ?_; simp only [Act.put, List.setIfInBounds_toArray, List.set_cons_zero, List.set_cons_succ])
          refine wpMix_call 19 [.pointer (some ⟨p, 0, none⟩), hzV x.key, .int .i64 x.now] (fun v w' => ∃ A c, v = .slice A (mayS F x.key x.now).length c ∧ IntsIn w' A (mayS F x.key x.now)) (by with_unfolding_all rfl) (by with_unfolding_all rfl) (by with_unfolding_all rfl) ((may_any (sky_below HSc.out hS0) x.key HWF.out.2.1 x.now).mono (fun e w' ⟨v, he, hO, hb⟩ => by
            obtain ⟨A, c, hv, hI⟩ := ints_own hO
            exact ⟨v, he, behind_up hS0 hb, A, c, hv, hI⟩)) ?_
          rintro v1 wa hSa ⟨A1, c1, hv1, hI1⟩
          subst hv1
          simp only [Act.put, List.setIfInBounds_toArray, List.set_cons_zero, List.set_cons_succ]
          refine wpMix_call 20 [.pointer (some ⟨q, 0, none⟩), hzV x.key, .int .i64 x.now] (fun v w' => (∃ A c, v = .slice A (mayS F x.key x.now).length c ∧ IntsIn w' A (mayS F x.key x.now)) ∧ IntsIn w' A1 (mayS F x.key x.now)) (by with_unfolding_all rfl) (by with_unfolding_all rfl) (by with_unfolding_all rfl) ((refmay_any (HRc.out.below hSa) (sane_out HSc.out) (fun k c hc => (HSc.out.2.2.1.2 k c hc).2) x.key HWF.out.2.1 x.now).mono (fun e w' ⟨A, c, he, hI, hb⟩ => ⟨_, he, behind_up hSa hb, ⟨A, c, rfl, hI⟩, hI1.below hb⟩)) ?_
          rintro v2 wb hSb ⟨⟨A2, c2, hv2, hI2⟩, hI1b⟩
          subst hv2
          simp only [Act.put, List.setIfInBounds_toArray, List.set_cons_zero, List.set_cons_succ]
          refine wpMix_callv 18 [.slice A1 (mayS F x.key x.now).length c1, .slice A2 (mayS F x.key x.now).length c2] (.bool true) (by with_unfolding_all rfl) (by with_unfolding_all rfl) (by with_unfolding_all rfl) (behind_call hSb ((refInts_any A1 A2 c1 c2 _ _ wb (by have := mayS_len F x.key x.now; omega) hI1b hI2).mono (fun _ _ he => ⟨by rw [he.1]; simp, he.2⟩))) ?_
          intro wz hSz
          simp only [Act.put, List.setIfInBounds_toArray, List.set_cons_zero, List.set_cons_succ]
          refine wpMix_val (.bool false) (by with_unfolding_all rfl) (by with_unfolding_all rfl) (fun w _ => by with_unfolding_all rfl) ?_
          simp only [Act.put, List.setIfInBounds_toArray, List.set_cons_zero, List.set_cons_succ]
          refine wpMix_nil ?_
          have HS9 := Lib.hid (sky_below HSc.out hSz)
          have HR9 := Lib.hid (HRc.out.below hSz)
          have HB9 := Lib.hid (HBc.out.trans (Below.mono hSz HBc.out.size))
          clear hS0 hSa hSb hSz hI1 hI1b hI2 HSc HRc HAc HBc HRKy HNow
          go_wp2_with fail
          go_roundw
          case rel => exact ⟨n + 1, F, by omega, by omega, by go_num, HS9.out, HR9.out, HB9.out⟩
          case measure => simp [RowKit.intOf]; omega
        by_cases hk2 : x.kind = 2
        · skip
          go_wp2_with (first
            | (with_reducible refine wpList_loadW rfl 41 (.tmp 24) rfl g (off + n * 99) rfl (actCells x) _ HRow.out HUA.out rfl HIAx.out ?_)
            | (refine wpList_storeAll rfl 41 (.tmp 6) (.tmp 25) rfl _ rfl _ (actCells zAct) (actCells x) HZa.out rfl HLZ.out HIAx.out (act_one x) ?_; intro wx hatx hgx hsx; have a0 := hatx.cell' (act_kind x); have a1 := hatx.cell' (act_node x); have a98 := hatx.cell' (act_now HWF.out); have HAc := Lib.hid hatx; have hbx := HGx.out wx hgx; have HBx := Lib.hid hbx; clear hgx hatx hbx hsx)
            | (with_reducible refine wpList_loadW rfl 26 (.tmp 33) rfl wr.heap.size 2 rfl (u8s x.h) _ (HRH.out _ HAc.out) HUH.out rfl HIHx.out ?_))
          have HSc := Lib.hid (sky_below HSr.out HBx.out)
          have HRc := Lib.hid (HRr.out.below HBx.out)
          have HBc := Lib.hid (HBr.out.trans (HBx.out.mono HBr.out.size))
          clear HSr HRr HBr HBx a0 HRow HZa HGx hzc
          refine (sky_drop HSc.out x.node HWF.out.2.2).mono ?_
          rintro e wp ⟨rfl, hS, hg⟩
          have HR' := Lib.hid (HRc.out.grown hg (by intro e; injection e with e; omega))
          have HSane := Lib.hid (sane_out HSc.out)
          have HA' := Lib.hid (HAc.out.grown hg (by intro e; injection e with e; omega))
          have HB' := Lib.hid (Below.ofGrown HBc.out hg HBc.out.size (by omega))
          clear HAc HBc a1 a98
          have HAc := HA'
          have HBc := HB'
          clear HA' HB'
          clear HSc HRc
          have HSc := Lib.hid (sky_more hS)
          have HRc := HR'
          clear hS hg HR'
          have a1 := HAc.out.cell' (act_node x)
          have a98 := HAc.out.cell' (act_now HWF.out)
          go_wp2_with (first
            | (with_reducible refine wpList_loadW rfl 26 (.tmp 33) rfl wr.heap.size 2 rfl (u8s x.h) _ (HRH.out _ HAc.out) HUH.out rfl HIHx.out ?_)
            | (with_reducible refine wpList_loadW rfl 26 (.tmp 41) rfl wr.heap.size 2 rfl (u8s x.h) _ (HRH.out _ HAc.out) HUH.out rfl HIHx.out ?_))
          refine (refdrop_any HRc.out HSane.out x.node).mono ?_
          rintro e wq ⟨rfl, hR, hg⟩
          have HS' := Lib.hid (sky_grown HSc.out hg (by intro e; injection e with e; omega) (by intro e; injection e with e; omega))
          have HA' := Lib.hid (HAc.out.grown hg (by intro e; injection e with e; omega))
          have HB' := Lib.hid (Below.ofGrown HBc.out hg HBc.out.size (by omega))
          clear HAc HBc a1 a98
          have HAc := HA'
          have HBc := HB'
          clear HA' HB'
          clear HSc HRc
          have HSc := HS'
          have HRc := Lib.hid hR
          clear hR hg HS'
          obtain ⟨F, hF⟩ : ∃ F, F = Sk.del f x.node := ⟨_, rfl⟩
          rw [← hF] at HSc HRc
          clear hF
          go_wp2_with fail
          have hAx := HAc.out
          have HRKy := Lib.hid (show ∀ w', Behind wq w' → w'.rangeAt wr.heap.size 66 (u8s x.key) from fun w' h j v hv => (hAx.below h hAx.lt).cell' (act_key HWF.out hv))
          have HNow := Lib.hid (show ∀ w', Behind wq w' → w'.cell? ⟨wr.heap.size, 98, none⟩ = some (.int .i64 x.now) from fun w' h => (hAx.below h hAx.lt).cell' (act_now HWF.out))
          clear hAx
          refine wp_region_mix [(0, true), (1, true), (2, true), (3, true), (4, true), (6, true), (7, true), (8, true), (9, true), (10, true), (5, false), (11, false), (12, false), (13, true)] (Behind wq)
            (by kernel_rfl) (by kernel_rfl) (fun _ _ d _ _ h => by cases d <;> exact h) (by kernel_rfl) (by decide) (Below.refl _ _).drew ?_
          have hS0 : Behind wq wq.drew := (Below.refl _ _).drew
          (with_reducible refine wpMix_val (.pointer (some ⟨p, 0, none⟩)) (by with_unfolding_all rfl) (by with_unfolding_all rfl) (fun w _ => by with_unfolding_all rfl) ?_; simp only [Act.put, List.setIfInBounds_toArray, List.set_cons_zero, List.set_cons_succ])
          (with_reducible refine wpMix_val (.pointer (some ⟨wr.heap.size, 66, none⟩)) (by with_unfolding_all rfl) (by with_unfolding_all rfl) (fun w _ => by go_simp) ?_; simp only [Act.put, List.setIfInBounds_toArray, List.set_cons_zero, List.set_cons_succ])
          (with_reducible refine wpMix_loadAll (by with_unfolding_all rfl) (by with_unfolding_all rfl) 23 _ (by with_unfolding_all rfl) wr.heap.size (66) (by with_unfolding_all rfl) (u8s x.key) _ (fun w h => HRKy.out w h) HUD.out (by with_unfolding_all rfl) HIK.out ?_; simp only [Act.put, List.setIfInBounds_toArray, List.set_cons_zero, List.set_cons_succ])
          (with_reducible refine wpMix_val (.pointer (some ⟨wr.heap.size, 98, none⟩)) (by with_unfolding_all rfl) (by with_unfolding_all rfl) (fun w _ => by go_simp) ?_; simp only [Act.put, List.setIfInBounds_toArray, List.set_cons_zero, List.set_cons_succ])
          (with_reducible refine wpMix_load1 (.int .i64 x.now) (by with_unfolding_all rfl) (by with_unfolding_all rfl) 3 _ (by with_unfolding_all rfl) .i64 HUI.out wr.heap.size (98) (by with_unfolding_all rfl) (fun w h => HNow.out w h) ?_; simp only [Act.put, List.setIfInBounds_toArray, List.set_cons_zero, List.set_cons_succ])
          (with_reducible refine wpMix_val (.pointer (some ⟨q, 0, none⟩)) (by with_unfolding_all rfl) (by with_unfolding_all rfl) (fun w _ => by with_unfolding_all rfl) ?_; simp only [Act.put, List.setIfInBounds_toArray, List.set_cons_zero, List.set_cons_succ])
          (with_reducible refine wpMix_val (.pointer (some ⟨wr.heap.size, 66, none⟩)) (by with_unfolding_all rfl) (by with_unfolding_all rfl) (fun w _ => by go_simp) ?_; simp only [Act.put, List.setIfInBounds_toArray, List.set_cons_zero, List.set_cons_succ])
          (with_reducible refine wpMix_loadAll (by with_unfolding_all rfl) (by with_unfolding_all rfl) 23 _ (by with_unfolding_all rfl) wr.heap.size (66) (by with_unfolding_all rfl) (u8s x.key) _ (fun w h => HRKy.out w h) HUD.out (by with_unfolding_all rfl) HIK.out ?_; simp only [Act.put, List.setIfInBounds_toArray, List.set_cons_zero, List.set_cons_succ])
          (with_reducible refine wpMix_val (.pointer (some ⟨wr.heap.size, 98, none⟩)) (by with_unfolding_all rfl) (by with_unfolding_all rfl) (fun w _ => by go_simp) ?_; simp only [Act.put, List.setIfInBounds_toArray, List.set_cons_zero, List.set_cons_succ])
          (with_reducible refine wpMix_load1 (.int .i64 x.now) (by with_unfolding_all rfl) (by with_unfolding_all rfl) 3 _ (by with_unfolding_all rfl) .i64 HUI.out wr.heap.size (98) (by with_unfolding_all rfl) (fun w h => HNow.out w h) ?_; simp only [Act.put, List.setIfInBounds_toArray, List.set_cons_zero, List.set_cons_succ])
          refine wpMix_call 19 [.pointer (some ⟨p, 0, none⟩), hzV x.key, .int .i64 x.now] (fun v w' => ∃ A c, v = .slice A (mayS F x.key x.now).length c ∧ IntsIn w' A (mayS F x.key x.now)) (by with_unfolding_all rfl) (by with_unfolding_all rfl) (by with_unfolding_all rfl) ((may_any (sky_below HSc.out hS0) x.key HWF.out.2.1 x.now).mono (fun e w' ⟨v, he, hO, hb⟩ => by
            obtain ⟨A, c, hv, hI⟩ := ints_own hO
            exact ⟨v, he, behind_up hS0 hb, A, c, hv, hI⟩)) ?_
          rintro v1 wa hSa ⟨A1, c1, hv1, hI1⟩
          subst hv1
          simp only [Act.put, List.setIfInBounds_toArray, List.set_cons_zero, List.set_cons_succ]
          refine wpMix_call 20 [.pointer (some ⟨q, 0, none⟩), hzV x.key, .int .i64 x.now] (fun v w' => (∃ A c, v = .slice A (mayS F x.key x.now).length c ∧ IntsIn w' A (mayS F x.key x.now)) ∧ IntsIn w' A1 (mayS F x.key x.now)) (by with_unfolding_all rfl) (by with_unfolding_all rfl) (by with_unfolding_all rfl) ((refmay_any (HRc.out.below hSa) (sane_out HSc.out) (fun k c hc => (HSc.out.2.2.1.2 k c hc).2) x.key HWF.out.2.1 x.now).mono (fun e w' ⟨A, c, he, hI, hb⟩ => ⟨_, he, behind_up hSa hb, ⟨A, c, rfl, hI⟩, hI1.below hb⟩)) ?_
          rintro v2 wb hSb ⟨⟨A2, c2, hv2, hI2⟩, hI1b⟩
          subst hv2
          simp only [Act.put, List.setIfInBounds_toArray, List.set_cons_zero, List.set_cons_succ]
          refine wpMix_callv 18 [.slice A1 (mayS F x.key x.now).length c1, .slice A2 (mayS F x.key x.now).length c2] (.bool true) (by with_unfolding_all rfl) (by with_unfolding_all rfl) (by with_unfolding_all rfl) (behind_call hSb ((refInts_any A1 A2 c1 c2 _ _ wb (by have := mayS_len F x.key x.now; omega) hI1b hI2).mono (fun _ _ he => ⟨by rw [he.1]; simp, he.2⟩))) ?_
          intro wz hSz
          simp only [Act.put, List.setIfInBounds_toArray, List.set_cons_zero, List.set_cons_succ]
          refine wpMix_val (.bool false) (by with_unfolding_all rfl) (by with_unfolding_all rfl) (fun w _ => by with_unfolding_all rfl) ?_
          simp only [Act.put, List.setIfInBounds_toArray, List.set_cons_zero, List.set_cons_succ]
          refine wpMix_nil ?_
          have HS9 := Lib.hid (sky_below HSc.out hSz)
          have HR9 := Lib.hid (HRc.out.below hSz)
          have HB9 := Lib.hid (HBc.out.trans (Below.mono hSz HBc.out.size))
          clear hS0 hSa hSb hSz hI1 hI1b hI2 HSc HRc HAc HBc HRKy HNow
          go_wp2_with fail
          go_roundw
          case rel => exact ⟨n + 1, F, by omega, by omega, by go_num, HS9.out, HR9.out, HB9.out⟩
          case measure => simp [RowKit.intOf]; omega
        go_wp2_with (first
          | (with_reducible refine wpList_loadW rfl 41 (.tmp 24) rfl g (off + n * 99) rfl (actCells x) _ HRow.out HUA.out rfl HIAx.out ?_)
          | (refine wpList_storeAll rfl 41 (.tmp 6) (.tmp 25) rfl _ rfl _ (actCells zAct) (actCells x) HZa.out rfl HLZ.out HIAx.out (act_one x) ?_; intro wx hatx hgx hsx; have a0 := hatx.cell' (act_kind x); have a1 := hatx.cell' (act_node x); have a98 := hatx.cell' (act_now HWF.out); have HAc := Lib.hid hatx; have hbx := HGx.out wx hgx; have HBx := Lib.hid hbx; clear hgx hatx hbx hsx)
          | (with_reducible refine wpList_loadW rfl 26 (.tmp 33) rfl wr.heap.size 2 rfl (u8s x.h) _ (HRH.out _ HAc.out) HUH.out rfl HIHx.out ?_))
        have HSc := Lib.hid (sky_below HSr.out HBx.out)
        have HRc := Lib.hid (HRr.out.below HBx.out)
        have HBc := Lib.hid (HBr.out.trans (HBx.out.mono HBr.out.size))
        clear HSr HRr HBr HBx a0 HRow HZa HGx hzc
        have HSc' := Lib.hid (sky_more HSc.out)
        clear HSc
        have HSc := HSc'
        clear HSc' a1 a98
        have hAx := HAc.out
        have HRKy := Lib.hid (show ∀ w', Behind wx w' → w'.rangeAt wr.heap.size 66 (u8s x.key) from fun w' h j v hv => (hAx.below h hAx.lt).cell' (act_key HWF.out hv))
        have HNow := Lib.hid (show ∀ w', Behind wx w' → w'.cell? ⟨wr.heap.size, 98, none⟩ = some (.int .i64 x.now) from fun w' h => (hAx.below h hAx.lt).cell' (act_now HWF.out))
        clear hAx
        refine wp_region_mix [(0, true), (1, true), (2, true), (3, true), (4, true), (6, true), (7, true), (8, true), (9, true), (10, true), (5, false), (11, false), (12, false), (13, true)] (Behind wx)
          (by kernel_rfl) (by kernel_rfl) (fun _ _ d _ _ h => by cases d <;> exact h) (by kernel_rfl) (by decide) (Below.refl _ _).drew ?_
        have hS0 : Behind wx wx.drew := (Below.refl _ _).drew
        (with_reducible refine wpMix_val (.pointer (some ⟨p, 0, none⟩)) (by with_unfolding_all rfl) (by with_unfolding_all rfl) (fun w _ => by with_unfolding_all rfl) ?_; simp only [Act.put, List.setIfInBounds_toArray, List.set_cons_zero, List.set_cons_succ])
        (with_reducible refine wpMix_val (.pointer (some ⟨wr.heap.size, 66, none⟩)) (by with_unfolding_all rfl) (by with_unfolding_all rfl) (fun w _ => by go_simp) ?_; simp only [Act.put, List.setIfInBounds_toArray, List.set_cons_zero, List.set_cons_succ])
        (with_reducible refine wpMix_loadAll (by with_unfolding_all rfl) (by with_unfolding_all rfl) 23 _ (by with_unfolding_all rfl) wr.heap.size (66) (by with_unfolding_all rfl) (u8s x.key) _ (fun w h => HRKy.out w h) HUD.out (by with_unfolding_all rfl) HIK.out ?_; simp only [Act.put, List.setIfInBounds_toArray, List.set_cons_zero, List.set_cons_succ])
        (with_reducible refine wpMix_val (.pointer (some ⟨wr.heap.size, 98, none⟩)) (by with_unfolding_all rfl) (by with_unfolding_all rfl) (fun w _ => by go_simp) ?_; simp only [Act.put, List.setIfInBounds_toArray, List.set_cons_zero, List.set_cons_succ])
        (with_reducible refine wpMix_load1 (.int .i64 x.now) (by with_unfolding_all rfl) (by with_unfolding_all rfl) 3 _ (by with_unfolding_all rfl) .i64 HUI.out wr.heap.size (98) (by with_unfolding_all rfl) (fun w h => HNow.out w h) ?_; simp only [Act.put, List.setIfInBounds_toArray, List.set_cons_zero, List.set_cons_succ])
        (with_reducible refine wpMix_val (.pointer (some ⟨q, 0, none⟩)) (by with_unfolding_all rfl) (by with_unfolding_all rfl) (fun w _ => by with_unfolding_all rfl) ?_; simp only [Act.put, List.setIfInBounds_toArray, List.set_cons_zero, List.set_cons_succ])
        (with_reducible refine wpMix_val (.pointer (some ⟨wr.heap.size, 66, none⟩)) (by with_unfolding_all rfl) (by with_unfolding_all rfl) (fun w _ => by go_simp) ?_; simp only [Act.put, List.setIfInBounds_toArray, List.set_cons_zero, List.set_cons_succ])
        (with_reducible refine wpMix_loadAll (by with_unfolding_all rfl) (by with_unfolding_all rfl) 23 _ (by with_unfolding_all rfl) wr.heap.size (66) (by with_unfolding_all rfl) (u8s x.key) _ (fun w h => HRKy.out w h) HUD.out (by with_unfolding_all rfl) HIK.out ?_; simp only [Act.put, List.setIfInBounds_toArray, List.set_cons_zero, List.set_cons_succ])
        (with_reducible refine wpMix_val (.pointer (some ⟨wr.heap.size, 98, none⟩)) (by with_unfolding_all rfl) (by with_unfolding_all rfl) (fun w _ => by go_simp) ?_; simp only [Act.put, List.setIfInBounds_toArray, List.set_cons_zero, List.set_cons_succ])
        (with_reducible refine wpMix_load1 (.int .i64 x.now) (by with_unfolding_all rfl) (by with_unfolding_all rfl) 3 _ (by with_unfolding_all rfl) .i64 HUI.out wr.heap.size (98) (by with_unfolding_all rfl) (fun w h => HNow.out w h) ?_; simp only [Act.put, List.setIfInBounds_toArray, List.set_cons_zero, List.set_cons_succ])
        refine wpMix_call 19 [.pointer (some ⟨p, 0, none⟩), hzV x.key, .int .i64 x.now] (fun v w' => ∃ A c, v = .slice A (mayS f x.key x.now).length c ∧ IntsIn w' A (mayS f x.key x.now)) (by with_unfolding_all rfl) (by with_unfolding_all rfl) (by with_unfolding_all rfl) ((may_any (sky_below HSc.out hS0) x.key HWF.out.2.1 x.now).mono (fun e w' ⟨v, he, hO, hb⟩ => by
          obtain ⟨A, c, hv, hI⟩ := ints_own hO
          exact ⟨v, he, behind_up hS0 hb, A, c, hv, hI⟩)) ?_
        rintro v1 wa hSa ⟨A1, c1, hv1, hI1⟩
        subst hv1
        simp only [Act.put, List.setIfInBounds_toArray, List.set_cons_zero, List.set_cons_succ]
        refine wpMix_call 20 [.pointer (some ⟨q, 0, none⟩), hzV x.key, .int .i64 x.now] (fun v w' => (∃ A c, v = .slice A (mayS f x.key x.now).length c ∧ IntsIn w' A (mayS f x.key x.now)) ∧ IntsIn w' A1 (mayS f x.key x.now)) (by with_unfolding_all rfl) (by with_unfolding_all rfl) (by with_unfolding_all rfl) ((refmay_any (HRc.out.below hSa) (sane_out HSc.out) (fun k c hc => (HSc.out.2.2.1.2 k c hc).2) x.key HWF.out.2.1 x.now).mono (fun e w' ⟨A, c, he, hI, hb⟩ => ⟨_, he, behind_up hSa hb, ⟨A, c, rfl, hI⟩, hI1.below hb⟩)) ?_
        rintro v2 wb hSb ⟨⟨A2, c2, hv2, hI2⟩, hI1b⟩
        subst hv2
        simp only [Act.put, List.setIfInBounds_toArray, List.set_cons_zero, List.set_cons_succ]
        refine wpMix_callv 18 [.slice A1 (mayS f x.key x.now).length c1, .slice A2 (mayS f x.key x.now).length c2] (.bool true) (by with_unfolding_all rfl) (by with_unfolding_all rfl) (by with_unfolding_all rfl) (behind_call hSb ((refInts_any A1 A2 c1 c2 _ _ wb (by have := mayS_len f x.key x.now; omega) hI1b hI2).mono (fun _ _ he => ⟨by rw [he.1]; simp, he.2⟩))) ?_
        intro wz hSz
        simp only [Act.put, List.setIfInBounds_toArray, List.set_cons_zero, List.set_cons_succ]
        refine wpMix_val (.bool false) (by with_unfolding_all rfl) (by with_unfolding_all rfl) (fun w _ => by with_unfolding_all rfl) ?_
        simp only [Act.put, List.setIfInBounds_toArray, List.set_cons_zero, List.set_cons_succ]
        refine wpMix_nil ?_
        have HS9 := Lib.hid (sky_below HSc.out hSz)
        have HR9 := Lib.hid (HRc.out.below hSz)
        have HB9 := Lib.hid (HBc.out.trans (Below.mono hSz HBc.out.size))
        clear hS0 hSa hSb hSz hI1 hI1b hI2 HSc HRc HAc HBc HRKy HNow
        go_wp2_with fail
        go_roundw
        case rel => exact ⟨n + 1, f, by omega, by omega, by go_num, HS9.out, HR9.out, HB9.out⟩
        case measure => simp [RowKit.intOf]; omega
      · go_wp2_with fail
        go_ret
        exact ⟨rfl, HBr.out⟩
    · go_wp2_with fail
      go_ret
      exact ⟨rfl, HBr.out⟩
end Go.Proofs.Ytcpnlojcmlldpaa
