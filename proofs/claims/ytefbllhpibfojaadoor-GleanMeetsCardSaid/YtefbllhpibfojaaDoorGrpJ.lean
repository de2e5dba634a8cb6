/- Layer 15: Of, Parts; awake; equality of records and ranges. -/
import Derived.Test.YtefbllhpibfojaaDoorGrpI
import Derived.Test.YtefbllhpibfojaaDoorGrpH
import Derived.BigQuiet
import Derived.Laws.StructEq
namespace Go.Proofs.YtefbllhpibfojaaDoor
open Go.Proofs Stab Go.Shelf Go.RowKit Go.Lib Go.Sort

/-- a record's bytes in a range's row -/
def rowB (x : Rec) : List UInt8 := x.key ++ Sap.num x.code ++ x.out
theorem rowB_len (x : Rec) : (rowB x).length ≤ 73 := by
  have := Sap.num_length x.code
  simp only [rowB, List.length_append, x.hk, x.ho]
  omega
theorem cat_sizes (x : Rec) : (⟨x.key.toArray⟩ : ByteArray).size + (⟨(Sap.num x.code).toArray⟩ : ByteArray).size ≤ 9223372036854775807 ∧ (⟨x.key.toArray⟩ ++ ⟨(Sap.num x.code).toArray⟩ : ByteArray).size + (⟨x.out.toArray⟩ : ByteArray).size ≤ 9223372036854775807 := by
  have h := Sap.num_length x.code
  have h1 := x.hk
  have h2 := x.ho
  have e : ∀ l : List UInt8, (⟨l.toArray⟩ : ByteArray).size = l.length := fun l => by simp [ByteArray.size]
  rw [ByteArray.size_append, e, e, e]
  omega
/-- a range of which nothing is known but its place -/
def bare (r : Rng) : Rng := ⟨r.depth, r.pref, 0, zero32', rfl, r.hd, r.hp, by omega⟩
def clampN (n : Nat) : Nat := min n 1099511627776
theorem clampN_eq {n : Nat} (h : n < 1099511627776) : clampN n = n := by unfold clampN; omega
theorem sha_len (l : List UInt8) : (Sha.sha l).length = 32 := by rw [Sha.sha, digest_length]
/-- the range at a place, of records -/
def ofR (r : Rng) (l : List Rec) : Rng :=
  ⟨r.depth, r.pref, clampN (itemsR (bare r) l).length, Sha.sha (Sap.row ((itemsR (bare r) l).map rowB)), sha_len _, r.hd, r.hp, by unfold clampN; omega⟩
theorem itemsR_len (r : Rng) (l : List Rec) : (itemsR r l).length ≤ l.length := Nat.le_trans (List.length_filter_le _ _) (sortR_len l)
theorem built_rng0 : Tryd.prog.built 26 [] = some (encG Rng.zero).toArray := by kernel_rfl
theorem built_rng (d p : Int) : Tryd.prog.built 26 [(0, .int .i64 d), (1, .int .i64 p)] = some (Value.int .i64 d :: Value.int .i64 p :: Value.int .i64 0 :: u8s zero32').toArray := by kernel_rfl
theorem built_at {P : Program} {t : Nat} {ps qs : List (Nat × Value)} {cells : Array Value} (h : P.built t ps = some cells) (e : qs = ps) : P.built t qs = some cells := e ▸ h
theorem built_bare (r : Rng) : Tryd.prog.built 26 [(0, .int .i64 r.depth), (1, .int .i64 r.pref)] = some (encG (bare r)).toArray := built_rng r.depth r.pref

set_option maxRecDepth 100000 in
set_option maxHeartbeats 1000000 in
theorem of_bad (r : Rng) (hq : placeB r.depth r.pref = false) (A : Option Addr) (n c : Nat) (w : World) :
    Calls Tryd.prog 15 #[.int .i64 r.depth, .int .i64 r.pref, .slice A n c] w fun e w' => e = .returned (.tuple #[.agg (encG Rng.zero).toArray, .int .i64 1]) ∧ Below w.heap.size w w' := by
  have hpl : ∀ W, Calls Tryd.prog 44 #[.int .i64 r.depth, .int .i64 r.pref] W fun e w' => e = .returned (.bool false) ∧ W = w' := fun W => by rw [← hq]; exact place_any _ _ W r.hp
  have HP := Lib.hid hpl
  have HL := Lib.hid (show (Tryd.prog.info? 26).map (·.size) = some (encG Rng.zero).length by rw [encG_len]; exact infoRng)
  have HLL := Lib.hid (show (encG Rng.zero).length = (encG default).length by rw [encG_len, encG_len])
  clear hpl
  go_enter Tryd.func15, Tryd.ntmps15
  go_wp2_with (first
    | (with_reducible refine wpList_allocZ (o := ⟨some 6, _, _, _, _, _⟩) 26 (encG default) rfl rfl zeroRng ?_; intro g6 w2 hg2 hat2 hb2; have HAT2 := Lib.hid hat2; have HB2 := Lib.hid hb2; have HG2 := Lib.hid hg2; clear hat2 hb2 hg2)
    | (go_at_call 44; refine Calls.mono (HP.out _) ?_; rintro e w' ⟨rfl, rfl⟩)
    | (with_reducible refine wpList_build (encG Rng.zero).toArray (by with_unfolding_all rfl) 26 #[] rfl built_rng0 ?_)
    | (with_reducible refine wpList_storeAll rfl 26 (.tmp 6) (.tmp 16) rfl g6 rfl _ _ (encG Rng.zero) HAT2.out rfl HLL.out HL.out (encG_one _) ?_; intro w3 hat3 hg3 hs3; have HAT3 := Lib.hid hat3; have HG3 := Lib.hid hg3; clear hat3 hg3 hs3))
  refine ret_cellTmp rfl rfl g6 _ _ _ rfl HAT3.out Tryd.underlying26 rfl HL.out _ rfl ⟨rfl, ?_⟩
  exact Below.ofGrown HB2.out HG3.out HB2.out.size (Nat.le_of_eq HG2.out.symm)

theorem flat_rows (l : List Rec) : (flat (l.map fun x => (⟨(rowB x).toArray⟩ : ByteArray))).length ≤ 73 * l.length := by
  induction l with
  | nil => simp [flat]
  | cons x r ih =>
    have h := rowB_len x
    simp only [flat, List.map_cons, List.flatMap_cons, List.length_append, List.length_cons] at ih ⊢
    have e : (⟨(rowB x).toArray⟩ : ByteArray).data.toList.length = (rowB x).length := by simp
    omega
theorem at_ofR {r : Rng} {l : List Rec} {n : Nat} (hn : (n : Int) = (ofR r l).count) {w : World} {g : Nat} (h : At w g 26 (((encG (bare r)).set 2 (.int .i64 n)).take 3 ++ u8s (ofR r l).sum ++ ((encG (bare r)).set 2 (.int .i64 n)).drop (3 + (u8s (ofR r l).sum).length))) : At w g 26 (encG (ofR r l)) := by
  have e1 : ((encG (bare r)).set 2 (.int .i64 n)).take 3 = [.int .i64 r.depth, .int .i64 r.pref, .int .i64 n] := rfl
  have e2 : ((encG (bare r)).set 2 (.int .i64 n)).drop (3 + (u8s (ofR r l).sum).length) = [] := by
    rw [List.drop_eq_nil_iff, List.length_set, encG_len, u8s_length, (ofR r l).hs]
    omega
  rw [e1, e2, List.append_nil, hn] at h
  exact h
/-- a variable that holds a record -/
def AtRec (g : Nat) (x : Rec) (w : World) : Prop := At w g 38 (encR x)
set_option maxRecDepth 100000 in
set_option maxHeartbeats 2000000 in
theorem of_good (r : Rng) (hq : placeB r.depth r.pref = true) (A : Option Addr) (c : Nat) (l : List Rec) (w : World) (hE : EncIn encR 65 w A l) (hn : l.length < 1073741824) (hwd : Tab w 0 (u32s Sha.words)) :
    Calls Tryd.prog 15 #[.int .i64 r.depth, .int .i64 r.pref, .slice A l.length c] w fun e w' => e = .returned (.tuple #[.agg (encG (ofR r l)).toArray, .int .i64 0]) ∧ Below w.heap.size w w' := by
  have hpl : ∀ W, Calls Tryd.prog 44 #[.int .i64 r.depth, .int .i64 r.pref] W fun e w' => e = .returned (.bool true) ∧ W = w' := fun W => by rw [← hq]; exact place_any _ _ W r.hp
  have hit := fun W (hE : EncIn encR 65 W A l) => items_any (bare r) A c l W hE (by omega)
  have hil := itemsR_len (bare r) l
  have HP := Lib.hid hpl
  have HIT := Lib.hid hit
  have HL := Lib.hid (show (Tryd.prog.info? 26).map (·.size) = some (encG (bare r)).length by rw [encG_len]; exact infoRng)
  have HL2 := Lib.hid (show ∀ x, (Tryd.prog.info? 38).map (·.size) = some (encR x).length from fun x => by rw [encR_len]; exact infoRec)
  have HL3 := Lib.hid (show ∀ x, (Tryd.prog.info? 26).map (·.size) = some (encG x).length from fun x => by rw [encG_len]; exact infoRng)
  have HLL := Lib.hid (show ∀ x y, (encG x).length = (encG y).length from fun x y => by rw [encG_len, encG_len])
  have HLR := Lib.hid (show ∀ x y, (encR x).length = (encR y).length from fun x y => by rw [encR_len, encR_len])
  have HE := Lib.hid hE
  have HW := Lib.hid hwd
  obtain ⟨its, hits⟩ : ∃ its, its = itemsR (bare r) l := ⟨_, rfl⟩
  have HITS := Lib.hid hits
  have HN := Lib.hid (show its.length < 1073741824 by rw [hits]; omega)
  clear hpl hit hE hwd hn hil hits
  go_enter Tryd.func15, Tryd.ntmps15
  go_wp2_with (first
    | (with_reducible refine wpList_allocZ (o := ⟨some 6, _, _, _, _, _⟩) 26 (encG default) rfl rfl zeroRng ?_; intro g6 w2 hg2 hat2 hb2; have HAT2 := Lib.hid hat2; have HB2 := Lib.hid hb2; have HG2 := Lib.hid hg2; clear hat2 hb2 hg2)
    | (go_at_call 44; refine Calls.mono (HP.out _) ?_; rintro e w' ⟨rfl, rfl⟩)
    | (with_reducible refine wpList_build (encG (bare r)).toArray (by with_unfolding_all rfl) 26 #[(0, .tmp 17), (1, .tmp 18)] rfl (built_at (built_bare r) (by with_unfolding_all rfl)) ?_)
    | (with_reducible refine wpList_allocZ (o := ⟨some 8, _, _, _, _, _⟩) 26 (encG default) rfl rfl zeroRng ?_; intro g8 w3 hg3 hat3 hb3; have HAT3 := Lib.hid hat3; have HB3 := Lib.hid hb3; have HG3 := Lib.hid hg3; clear hat3 hb3 hg3)
    | (with_reducible refine wpList_storeAll rfl 26 (.tmp 8) (.tmp 19) rfl g8 rfl _ _ (encG (bare r)) HAT3.out rfl (HLL.out _ _) HL.out (encG_one _) ?_; intro w4 hat4 hg4 hs4; have HAT4 := Lib.hid hat4; have HB4 := Lib.hid (HB3.out.trans (Below.ofGrown (Below.refl _ _) hg4 HB3.out.size (Nat.le_of_eq HG3.out.symm))); clear hat4 hg4 hs4)
    | (with_reducible refine wpList_loadAll rfl 26 (.tmp 8) rfl g8 rfl _ _ _ HAT4.out Tryd.underlying26 rfl HL.out ?_)
    | (go_at_call 17; refine Calls.mono (HIT.out _ (HE.out.up (HB2.out.trans (HB4.out.mono HB2.out.size)))) ?_; rintro e w5 ⟨v5, rfl, hO, hb⟩; rw [← HITS.out] at hO; obtain ⟨A5, c5, rfl, _, hE5⟩ := hO.rows rfl (fun x _ => encR_len x); have HE5 := Lib.hid hE5; have HB5 := Lib.hid hb; clear hO hb hE5))
  obtain ⟨n, hn⟩ : ∃ n, n = its.length := ⟨_, rfl⟩
  rw [← hn]
  have HNN := Lib.hid hn
  have hnb : n < 1073741824 := by rw [hn]; exact HN.out
  clear hn
  go_loopg [9, 24] n (fun gg s9 s24 wr => ∃ (k : Nat) (v9 : Value), v9 = s9 ∧ s24 = .int .i64 k ∧ k ≤ n ∧ n - k ≤ gg ∧ Hid (Own wr w5.heap.size 9 1 v9 k (((its.take k).map fun x => (⟨(rowB x).toArray⟩ : ByteArray)).map Value.string)) ∧ Hid (Below w5.heap.size w5 wr))
  case atStart => exact ⟨0, _, rfl, rfl, Nat.zero_le _, by omega, Own.nil _ _ _ _, Below.refl _ _⟩
  case round =>
    obtain ⟨k, v9, hv9, rfl, hk, hgg, HO, HBW⟩ := hrel
    subst hv9
    by_cases hlt : k < n
    · have hltz : (k : Int) < (n : Int) := by omega
      have i0 : (0 : Int) ≤ (k : Int) := by omega
      have hkl : k < its.length := by have := HNN.out; omega
      obtain ⟨gA, off, hA, hgA, hrg⟩ := (HE5.out.up HBW.out).at hkl
      obtain ⟨x, hx⟩ : ∃ x, x = its[k] := ⟨_, rfl⟩
      rw [← hx] at hrg
      have HR := Lib.hid hrg
      have HX := Lib.hid hx
      clear hrg hx hgA
      subst hA
      go_upto_region 8 with (first
        | (with_reducible refine wpList_load_mid rfl 38 (.tmp 26) rfl gA (off + k * 65) ?_ _ _ HR.out Tryd.underlying38 rfl (HL2.out x) ?_; (focus (go_simp)))
        | (with_reducible refine wpList_allocZ (o := ⟨some 11, _, _, _, _, _⟩) 38 (encR default) rfl rfl zeroRec ?_; intro g11 w6 hg6 hat6 hb6; have HAT6 := Lib.hid hat6; have HB6 := Lib.hid hb6; have HG6 := Lib.hid hg6; clear hat6 hb6 hg6)
        | (with_reducible refine wpList_storeAll rfl 38 (.tmp 11) (.tmp 27) rfl g11 rfl _ _ (encR x) HAT6.out rfl (HLR.out _ _) (HL2.out x) (encR_one _) ?_; intro w7 hat7 hg7 hs7; have HAT7 := Lib.hid hat7; have HB7 := Lib.hid (Below.ofGrown HB6.out hg7 HB6.out.size (Nat.le_of_eq HG6.out.symm)); clear hat7 hg7 hs7))
      obtain ⟨iS, hiS, hzS, hsS, hbS⟩ := info_parts infoStr
      have HIS := Lib.hid (And.intro hiS (And.intro hzS (And.intro hsS hbS)))
      have HSZ := Lib.hid (cat_sizes x)
      clear hiS hzS hsS hbS
      have HUe := Lib.hid Tryd.underlying29
      refine wp_region_mix [(0, true), (1, true), (2, true), (3, true), (4, true), (5, true), (8, true), (9, true), (10, true), (6, false), (7, true), (11, true), (12, false), (13, false), (14, true)] (AtRec g11 x)
        (by kernel_rfl) (by kernel_rfl) (fun _ _ d _ _ h => by cases d <;> exact h) (by kernel_rfl) (by decide) HAT7.out ?_
      refine wpMix_val (v9) (by with_unfolding_all rfl) (by with_unfolding_all rfl) (fun w _ => by with_unfolding_all rfl) ?_; simp only [Act.put, List.setIfInBounds_toArray, List.set_cons_zero, List.set_cons_succ]
      refine wpMix_val (.pointer (some ⟨g11, 0, none⟩)) (by with_unfolding_all rfl) (by with_unfolding_all rfl) (fun w _ => by go_simp) ?_; simp only [Act.put, List.setIfInBounds_toArray, List.set_cons_zero, List.set_cons_succ]
      refine wpMix_val (.slice (some ⟨g11, 0, none⟩) 32 32) (by with_unfolding_all rfl) (by with_unfolding_all rfl) (fun w _ => by go_simp) ?_; simp only [Act.put, List.setIfInBounds_toArray, List.set_cons_zero, List.set_cons_succ]
      refine wpMix_val (.string ⟨x.key.toArray⟩) (by with_unfolding_all rfl) (by with_unfolding_all rfl) (fun w h => exec_conv (.tmp 30) (by with_unfolding_all rfl) (by with_unfolding_all rfl) x.hk.symm (At.key h)) ?_; simp only [Act.put, List.setIfInBounds_toArray, List.set_cons_zero, List.set_cons_succ]
      refine wpMix_val (.pointer (some ⟨g11, 32, none⟩)) (by with_unfolding_all rfl) (by with_unfolding_all rfl) (fun w _ => by go_simp) ?_; simp only [Act.put, List.setIfInBounds_toArray, List.set_cons_zero, List.set_cons_succ]
      refine wpMix_load1 (.int .i64 x.code) (by with_unfolding_all rfl) (by with_unfolding_all rfl) 29 _ (by with_unfolding_all rfl) .i64 HUe.out g11 32 (by with_unfolding_all rfl) (fun w h => At.code h) ?_; simp only [Act.put, List.setIfInBounds_toArray, List.set_cons_zero, List.set_cons_succ]
      refine wpMix_val (.pointer (some ⟨g11, 33, none⟩)) (by with_unfolding_all rfl) (by with_unfolding_all rfl) (fun w _ => by go_simp) ?_; simp only [Act.put, List.setIfInBounds_toArray, List.set_cons_zero, List.set_cons_succ]
      refine wpMix_val (.slice (some ⟨g11, 33, none⟩) 32 32) (by with_unfolding_all rfl) (by with_unfolding_all rfl) (fun w _ => by go_simp) ?_; simp only [Act.put, List.setIfInBounds_toArray, List.set_cons_zero, List.set_cons_succ]
      refine wpMix_val (.string ⟨x.out.toArray⟩) (by with_unfolding_all rfl) (by with_unfolding_all rfl) (fun w h => exec_conv (.tmp 37) (by with_unfolding_all rfl) (by with_unfolding_all rfl) x.ho.symm (At.out h)) ?_; simp only [Act.put, List.setIfInBounds_toArray, List.set_cons_zero, List.set_cons_succ]
      refine wpMix_call 45 [.int .i64 x.code] (fun v w' => v = .string ⟨(Sap.num x.code).toArray⟩ ∧ Below w7.heap.size w7 w') (by with_unfolding_all rfl) (by with_unfolding_all rfl) (by with_unfolding_all rfl) ((num_any x.code x.hc.1 x.hc.2 w7.drew).mono (fun e w' ⟨he, hb⟩ => ⟨_, he, At.below (At.drew HAT7.out) hb (At.drew HAT7.out).lt, rfl, (Below.refl _ _).drew.trans hb⟩)) ?_
      rintro v8 w8 hS8 ⟨rfl, hb8⟩
      have HAT8 := Lib.hid hS8
      have HB8 := Lib.hid (HB7.out.trans (hb8.mono HB7.out.size))
      clear hS8 hb8
      simp only [Act.put, List.setIfInBounds_toArray, List.set_cons_zero, List.set_cons_succ]
      refine wpMix_val (.string (⟨x.key.toArray⟩ ++ ⟨(Sap.num x.code).toArray⟩)) (by with_unfolding_all rfl) (by with_unfolding_all rfl) (fun w _ => exec_cat (.tmp 31) (.tmp 34) _ (by with_unfolding_all rfl) (by with_unfolding_all rfl) (by with_unfolding_all rfl) HSZ.out.1 w) ?_; simp only [Act.put, List.setIfInBounds_toArray, List.set_cons_zero, List.set_cons_succ]
      refine wpMix_val (.string (⟨x.key.toArray⟩ ++ ⟨(Sap.num x.code).toArray⟩ ++ ⟨x.out.toArray⟩)) (by with_unfolding_all rfl) (by with_unfolding_all rfl) (fun w _ => exec_cat (.tmp 35) (.tmp 38) _ (by with_unfolding_all rfl) (by with_unfolding_all rfl) (by with_unfolding_all rfl) HSZ.out.2 w) ?_; simp only [Act.put, List.setIfInBounds_toArray, List.set_cons_zero, List.set_cons_succ]
      have hs9 : (⟨x.key.toArray⟩ ++ ⟨(Sap.num x.code).toArray⟩ ++ ⟨x.out.toArray⟩ : ByteArray) = ⟨(rowB x).toArray⟩ := by
        apply ByteArray.ext
        simp [ByteArray.data_append, rowB]
      rw [hs9]
      refine wpMix_put (.slice (some ⟨w8.heap.size, 0, none⟩) 1 1) (w8.alloc (.cells #[.string ⟨(rowB x).toArray⟩] 9)) (by with_unfolding_all rfl) (by with_unfolding_all rfl) (exec_one_str (.tmp 39) (by with_unfolding_all rfl) (by with_unfolding_all rfl) w8) (HAT8.out.alloc _) ?_; simp only [Act.put, List.setIfInBounds_toArray, List.set_cons_zero, List.set_cons_succ]
      have HO8 := Lib.hid ((HO.out.below HB8.out).alloc (.cells #[.string ⟨(rowB x).toArray⟩] 9))
      refine wpMix_step (by with_unfolding_all rfl) (by with_unfolding_all rfl) (fun K hK => wp_append_Own (w8.alloc (.cells #[.string ⟨(rowB x).toArray⟩] 9)) (.tmp 28) (.tmp 40) 69 (by with_unfolding_all rfl) w5.heap.size 9 _ _ 1 16 Tryd.underlying69 HIS.out.1 HIS.out.2.1 HIS.out.2.2.1 HIS.out.2.2.2 rfl (by decide) v9 k _ (by with_unfolding_all rfl) HO8.out ⟨w8.heap.size, 0, none⟩ 1 1 [.string ⟨(rowB x).toArray⟩] (by with_unfolding_all rfl) rfl (one_new w8 _ _) (by intro u hu; rw [List.mem_singleton.1 hu]; rfl) (by unfold maxLen; omega) (by omega) (by have := HBW.out.size; have := HB8.out.size; simp; omega) ?_)
      intro v10 w10 hO10 hg10 _
      have hat10 : At w10 g11 38 (encR x) := (HAT8.out.alloc _).grown hg10 (fun e => by
        have h1 := (HO.out.lt _ e.symm).2
        have h2 := HG6.out
        omega)
      refine hK _ _ hat10 ?_
      refine wpMix_val v10 (by with_unfolding_all rfl) (by with_unfolding_all rfl) (fun w _ => by with_unfolding_all rfl) ?_; simp only [Act.put, List.setIfInBounds_toArray, List.set_cons_zero, List.set_cons_succ]
      refine wpMix_nil ?_
      have HO10 := Lib.hid hO10
      have HB10 := Lib.hid (own_below2 HO8.out ((HBW.out.trans (HB8.out.mono HBW.out.size)).alloc (Nat.le_trans HBW.out.size HB8.out.size) _) (Nat.le_refl _) (by have := HBW.out.size; have := HB8.out.size; simp; omega) hg10)
      clear hO10 hg10 hat10 hK
      go_wp2_with fail
      go_roundg (n - (k + 1))
      case measure => omega
      case rel =>
        refine ⟨k + 1, v10, rfl, by go_num, by omega, Nat.le_refl _, ?_, HB10.out⟩
        show Own _ _ _ _ _ _ _
        rw [List.take_succ_eq_append_getElem hkl, List.map_append, List.map_append, ← HX.out]
        exact HO10.out
    · have hkn : k = n := by omega
      have hltz : ¬ (k : Int) < (n : Int) := by omega
      have hkt : its.take k = its := List.take_of_length_le (by have := HNN.out; omega)
      obtain ⟨ss, hss⟩ : ∃ ss, ss = its.map fun x => (⟨(rowB x).toArray⟩ : ByteArray) := ⟨_, rfl⟩
      have hO := HO.out
      rw [hkt, ← hss, hkn] at hO
      have hsn : ss.length = n := by rw [hss, List.length_map]; exact HNN.out.symm
      obtain ⟨A9, c9, rfl, hst⟩ := hO.strs hsn.symm (p := wr.heap.size) (.inr (Nat.le_refl _))
      have hrow := row_any A9 c9 ss wr hst (by rw [hss]; have h1 := flat_rows its; have h2 := HN.out; omega) (by omega) ((HW.out.below ((HB2.out.trans (HB4.out.mono HB2.out.size)).trans ((HB5.out.mono (Nat.le_trans HB2.out.size HB4.out.size)).trans (HBW.out.mono (Nat.le_trans (Nat.le_trans HB2.out.size HB4.out.size) HB5.out.size)))) HW.out.lt))
      rw [hsn] at hrow
      have hdg : dgV (Sha.sha (Sap.row (lists ss))) = .agg (u8s (ofR r l).sum).toArray := by
        have : lists ss = (itemsR (bare r) l).map rowB := by rw [hss, HITS.out]; simp [lists]
        rw [this]; rfl
      rw [hdg] at hrow
      have HROW := Lib.hid hrow
      have HSL := Lib.hid (show (Tryd.prog.info? 24).map (·.size) = some (u8s (ofR r l).sum).length by rw [u8s_length, (ofR r l).hs]; exact infoDg)
      have HCN := Lib.hid (show (n : Int) = (ofR r l).count by
        show (n : Int) = ((clampN (itemsR (bare r) l).length : Nat) : Int)
        rw [← HITS.out, ← HNN.out, clampN_eq (by omega)])
      have hat8 : At wr g8 26 (encG (bare r)) := (HAT4.out.below HB5.out HAT4.out.lt).below HBW.out (HAT4.out.below HB5.out HAT4.out.lt).lt
      have hat6 : At wr g6 26 (encG default) := ((HAT2.out.below HB4.out HAT2.out.lt).below HB5.out (HAT2.out.below HB4.out HAT2.out.lt).lt).below HBW.out (Nat.lt_of_lt_of_le (HAT2.out.below HB4.out HAT2.out.lt).lt HB5.out.size)
      have hbr : Below w.heap.size w wr := (HB2.out.trans (HB4.out.mono HB2.out.size)).trans ((HB5.out.mono (Nat.le_trans HB2.out.size HB4.out.size)).trans (HBW.out.mono (Nat.le_trans (Nat.le_trans HB2.out.size HB4.out.size) HB5.out.size)))
      have HA8 := Lib.hid hat8
      have HA6 := Lib.hid hat6
      have HBR := Lib.hid hbr
      have HG68 := Lib.hid (show g6 < g8 ∧ w.heap.size ≤ g6 by have h1 := HG2.out; have h2 := HG3.out; have h3 := HAT2.out.lt; omega)
      clear hO hst hrow hdg hat8 hat6 hbr hss hkn hsn hkt
      go_wp2_with (first
        | (go_at_call 43; refine Calls.mono HROW.out ?_; rintro e w11 ⟨rfl, hb⟩; have HB11 := Lib.hid hb; have HA8b := Lib.hid (HA8.out.below hb HA8.out.lt); clear hb)
        | (with_reducible refine wpList_store1 rfl 3 (.tmp 47) (.tmp 44) rfl g8 2 .i64 n rfl rfl (by kernel_rfl) 26 (encG (bare r)) HA8b.out (by rw [encG_len]; omega) ?_; intro w12 hat12 hg12 _; have HA12 := Lib.hid hat12; have HG12 := Lib.hid hg12; clear hat12 hg12)
        | (with_reducible refine wpList_storePart rfl 24 (.tmp 48) (.tmp 46) rfl g8 3 (u8s (ofR r l).sum) rfl rfl 26 _ HA12.out (by rw [u8s_length, (ofR r l).hs, List.length_set, encG_len]; omega) HSL.out (u8s_oneCell _) ?_; intro w13 hat13 hg13 _; have HA13 := Lib.hid (at_ofR HCN.out hat13); have HG13 := Lib.hid (grown_trans HG12.out hg13); have HA6b := Lib.hid (((HA6.out.below HB11.out HA6.out.lt)).grown HG13.out (fun e => absurd (Option.some.inj e) (Nat.ne_of_lt HG68.out.1))); clear hat13 hg13)
        | (with_reducible refine wpList_loadAll rfl 26 (.tmp 8) rfl g8 rfl _ _ _ HA13.out Tryd.underlying26 rfl (HL3.out _) ?_)
        | (with_reducible refine wpList_storeAll rfl 26 (.tmp 6) (.tmp 49) rfl g6 rfl _ _ (encG (ofR r l)) HA6b.out rfl (HLL.out _ _) (HL3.out _) (encG_one _) ?_; intro w14 hat14 hg14 hs14; have HA14 := Lib.hid hat14; have HG14 := Lib.hid hg14; clear hat14 hg14 hs14))
      refine ret_cellTmp rfl rfl g6 _ _ _ rfl HA14.out Tryd.underlying26 rfl (HL3.out _) _ rfl ⟨rfl, ?_⟩
      have hb13 := Below.ofGrown (HBR.out.trans (HB11.out.mono HBR.out.size)) HG13.out (Nat.le_trans HBR.out.size HB11.out.size) (by have := HG68.out; omega)
      exact Below.ofGrown hb13 HG14.out hb13.size HG68.out.2
end Go.Proofs.YtefbllhpibfojaaDoor

namespace Go.Proofs.YtefbllhpibfojaaDoor
open Go.Proofs Stab Go.Shelf Go.RowKit Go.Lib Go.Sort

/-- of a range the i-th part's place -/
def sub (r : Rng) (i : Nat) : Rng :=
  if h : 0 ≤ r.depth ∧ r.depth < 8 ∧ 0 ≤ r.pref ∧ r.pref < 65536 ∧ i < 4 then ⟨r.depth + 1, 4 * r.pref + i, 0, zero32', rfl, by omega, by omega, by omega⟩ else Rng.zero
theorem pow_le (d : Int) (h0 : 0 ≤ d) (h8 : d < 8) : (4 : Int) ^ d.toNat ≤ 16384 ∧ (4 : Int) ^ (d + 1).toNat = 4 * 4 ^ d.toNat := by
  have hd : d = 0 ∨ d = 1 ∨ d = 2 ∨ d = 3 ∨ d = 4 ∨ d = 5 ∨ d = 6 ∨ d = 7 := by omega
  rcases hd with rfl | rfl | rfl | rfl | rfl | rfl | rfl | rfl <;> decide +kernel
theorem good_bounds {r : Rng} (h : goodB r = true) (h8 : r.depth ≠ 8) : 0 ≤ r.depth ∧ r.depth < 8 ∧ 0 ≤ r.pref ∧ r.pref < 16384 := by
  have hp := goodB_place h
  have := (pow_le r.depth hp.1 (by omega)).1
  omega
theorem sub_eq {r : Rng} (h : goodB r = true) (h8 : r.depth ≠ 8) {i : Nat} (hi : i < 4) : (sub r i).depth = r.depth + 1 ∧ (sub r i).pref = 4 * r.pref + i ∧ (sub r i).count = 0 ∧ placeB (sub r i).depth (sub r i).pref = true := by
  have hb := good_bounds h h8
  have hp := goodB_place h
  have hpw := (pow_le r.depth hp.1 hb.2.1).2
  have e : sub r i = ⟨r.depth + 1, 4 * r.pref + i, 0, zero32', rfl, by omega, by omega, by omega⟩ := by
    unfold sub
    rw [dif_pos ⟨hb.1, hb.2.1, hb.2.2.1, by omega, hi⟩]
  rw [e]
  refine ⟨rfl, rfl, rfl, ?_⟩
  show placeB (r.depth + 1) (4 * r.pref + i) = true
  unfold placeB
  rw [decide_eq_true_eq, hpw]
  omega
theorem info2Rng : (Tryd.prog.info? 26).map (fun i => (i.zero.isSome, i.size)) = some (true, 35) := by kernel_rfl
def partsR (r : Rng) (l : List Rec) : List Rng := (List.range 4).map fun i => ofR (sub r i) l
theorem partsR_take (r : Rng) (l : List Rec) (k : Nat) (hk : k < 4) : (partsR r l).take (k + 1) = (partsR r l).take k ++ [ofR (sub r k) l] := by
  rw [List.take_succ_eq_append_getElem (by simp [partsR]; omega)]
  simp [partsR]

set_option maxRecDepth 100000 in
set_option maxHeartbeats 1000000 in
theorem parts_bad (r : Rng) (hq : goodB r = false ∨ r.depth = 8) (A : Option Addr) (n c : Nat) (w : World) :
    Calls Tryd.prog 24 #[.agg (encG r).toArray, .slice A n c] w fun e w' => e = .returned (.tuple #[.slice none 0 0, .int .i64 1]) ∧ Below w.heap.size w w' := by
  have h1 : At (w.alloc (.cells (encG r).toArray 26)) w.heap.size 26 (encG r) := At.new w _ _
  have hB : Below w.heap.size w (w.alloc (.cells (encG r).toArray 26)) := (Below.refl _ _).alloc (Nat.le_refl _) _
  have hgd : ∀ W, Calls Tryd.prog 14 #[.agg (encG r).toArray] W fun e w' => e = .returned (.bool (goodB r)) ∧ Below W.heap.size W w' := fun W => good_any r W
  have H1 := Lib.hid h1
  have HB := Lib.hid hB
  have HG := Lib.hid hgd
  have HL := Lib.hid (show (Tryd.prog.info? 26).map (·.size) = some (encG r).length by rw [encG_len]; exact infoRng)
  clear h1 hB hgd
  cases hg : goodB r with
  | false =>
    rw [hg] at HG
    clear hq
    go_enter Tryd.func24, Tryd.ntmps24
    go_wp2_with (first
      | (with_reducible refine wpList_loadAll rfl 26 (.tmp 2) rfl w.heap.size rfl _ _ _ H1.out Tryd.underlying26 rfl HL.out ?_)
      | (go_at_call 14; refine Calls.mono (HG.out _) ?_; rintro e w' ⟨rfl, hb⟩; have HB2 := Lib.hid (HB.out.trans (hb.mono HB.out.size)); clear hb))
    go_ret2
    exact ⟨rfl, HB2.out⟩
  | true =>
    rw [hg] at HG
    have h8 : r.depth = 8 := by
      rcases hq with h | h
      · rw [hg] at h; cases h
      · exact h
    have H8 := Lib.hid h8
    clear hq h8 hg
    go_enter Tryd.func24, Tryd.ntmps24
    go_wp2_with (first
      | (with_reducible refine wpList_loadAll rfl 26 (.tmp 2) rfl w.heap.size rfl _ _ _ H1.out Tryd.underlying26 rfl HL.out ?_)
      | (go_at_call 14; refine Calls.mono (HG.out _) ?_; rintro e w' ⟨rfl, hb⟩; have hc := (H1.out.below hb H1.out.lt).depth; rw [H8.out] at hc; have HB2 := Lib.hid (HB.out.trans (hb.mono HB.out.size)); clear hb))
    go_ret2
    exact ⟨rfl, HB2.out⟩

set_option maxRecDepth 100000 in
set_option maxHeartbeats 2000000 in
theorem parts_good (r : Rng) (hq : goodB r = true) (h8 : r.depth ≠ 8) (A : Option Addr) (c : Nat) (l : List Rec) (w : World) (hE : EncIn encR 65 w A l) (hn : l.length < 1073741824) (hwd : Tab w 0 (u32s Sha.words)) :
    Calls Tryd.prog 24 #[.agg (encG r).toArray, .slice A l.length c] w fun e w' => ∃ v, e = .returned (.tuple #[v, .int .i64 0]) ∧ Own w' w.heap.size 26 35 v 4 ((partsR r l).flatMap encG) ∧ Below w.heap.size w w' := by
  have h1 : At (w.alloc (.cells (encG r).toArray 26)) w.heap.size 26 (encG r) := At.new w _ _
  have hB : Below w.heap.size w (w.alloc (.cells (encG r).toArray 26)) := (Below.refl _ _).alloc (Nat.le_refl _) _
  have hgd : ∀ W, Calls Tryd.prog 14 #[.agg (encG r).toArray] W fun e w' => e = .returned (.bool true) ∧ Below W.heap.size W w' := fun W => by rw [← hq]; exact good_any r W
  have hof := fun W i (hE : EncIn encR 65 W A l) (hW : Tab W 0 (u32s Sha.words)) (hi : i < 4) => of_good (sub r i) (sub_eq hq h8 hi).2.2.2 A c l W hE hn hW
  have hbd := good_bounds hq h8
  have HQ := Lib.hid (And.intro hq h8)
  have H1 := Lib.hid h1
  have HB := Lib.hid hB
  have HG := Lib.hid hgd
  have HOF := Lib.hid hof
  have HE := Lib.hid hE
  have HW := Lib.hid hwd
  have HL3 := Lib.hid (show ∀ x, (Tryd.prog.info? 26).map (·.size) = some (encG x).length from fun x => by rw [encG_len]; exact infoRng)
  have HLL := Lib.hid (show ∀ x y, (encG x).length = (encG y).length from fun x y => by rw [encG_len, encG_len])
  have hd8 : (r.depth == 8) = false := by simp [h8]
  have hd1 : IntKind.i64.wrap (r.depth + 1) = r.depth + 1 := IntWalk.i64_in _ (by omega)
  have hp4 : IntKind.i64.wrap (4 * r.pref) = 4 * r.pref := IntWalk.i64_in _ (by omega)
  have hpb : 0 ≤ r.pref := hbd.2.2.1
  have hpc : r.pref < 16384 := hbd.2.2.2
  clear h1 hB hgd hof hE hwd hq h8 hn hbd
  go_enter Tryd.func24, Tryd.ntmps24
  go_wp2_with (first
    | (with_reducible refine wpList_loadAll rfl 26 (.tmp 2) rfl w.heap.size rfl _ _ _ H1.out Tryd.underlying26 rfl (HL3.out _) ?_)
    | (go_at_call 14; refine Calls.mono (HG.out _) ?_; rintro e w1 ⟨rfl, hb⟩; have hc := (H1.out.below hb H1.out.lt).depth; have HA1 := Lib.hid (H1.out.below hb H1.out.lt); have HB1 := Lib.hid (HB.out.trans (hb.mono HB.out.size)); clear hb))
  clear hc
  go_loopg [6, 18] 4 (fun gg s6 s18 wr => ∃ (k : Nat) (v6 : Value), v6 = s6 ∧ s18 = .int .i64 k ∧ k ≤ 4 ∧ 4 - k ≤ gg ∧ Hid (Own wr w1.heap.size 26 35 v6 k (((partsR r l).take k).flatMap encG)) ∧ Hid (Below w1.heap.size w1 wr) ∧ Hid (Below w.heap.size w wr))
  case atStart => exact ⟨0, _, rfl, rfl, Nat.zero_le _, by omega, Own.nil _ _ _ _, Below.refl _ _, HB1.out⟩
  case round =>
    obtain ⟨k, v6, hv6, rfl, hk, hgg, HO, HBW, HBX⟩ := hrel
    subst hv6
    by_cases hlt : k < 4
    · have hltz : (k : Int) < 4 := by omega
      have i0 : (0 : Int) ≤ (k : Int) := by omega
      have hA := HA1.out.below HBW.out HA1.out.lt
      have hc0 := hA.depth
      have hc1 := hA.pref
      have hcall := HOF.out wr k (HE.out.up HBX.out) (HW.out.below HBX.out HW.out.lt) hlt
      rw [(sub_eq HQ.out.1 HQ.out.2 hlt).1, (sub_eq HQ.out.1 HQ.out.2 hlt).2.1] at hcall
      have HCA := Lib.hid hcall
      have HLT := Lib.hid hlt
      clear hA hcall
      go_wp2_with (first
        | (go_at_call 15; refine Calls.mono HCA.out ?_; rintro e w2 ⟨rfl, hb⟩; have HB2 := Lib.hid (HBX.out.trans (hb.mono HBX.out.size)); have HC2 := Lib.hid hb; clear hb)
        | (with_reducible refine wpList_allocZ (o := ⟨some 8, _, _, _, _, _⟩) 26 (encG default) rfl rfl zeroRng ?_; intro g8 w3 hg3 hat3 hb3; have HAT3 := Lib.hid hat3; have HB3 := Lib.hid hb3; have HG3 := Lib.hid hg3; clear hat3 hb3 hg3)
        | (with_reducible refine wpList_storeAll rfl 26 (.tmp 8) (.tmp 32) rfl g8 rfl _ _ (encG (ofR (sub r k) l)) HAT3.out rfl (HLL.out _ _) (HL3.out _) (encG_one _) ?_; intro w4 hat4 hg4 hs4; have HAT4 := Lib.hid hat4; have HB4 := Lib.hid (Below.ofGrown HB3.out hg4 HB3.out.size (Nat.le_of_eq HG3.out.symm)); clear hat4 hg4 hs4)
        | (with_reducible refine wpList_loadAll rfl 26 (.tmp 8) rfl g8 rfl _ _ _ HAT4.out Tryd.underlying26 rfl (HL3.out _) ?_)
        | (with_reducible refine wpList_one (enc := encG) rfl 45 26 35 (ofR (sub r k) l) (.tmp 35) rfl rfl Tryd.underlying45 info2Rng (by decide) (by decide) (encG_len _) ?_; intro g5 w5 hg5 hb5 hE5; have HE5 := Lib.hid hE5; have HB5 := Lib.hid (HB4.out.trans (hb5.mono HB4.out.size)); clear hb5 hE5 hg5)
        | (at_builtin; refine wpList_append_enc (enc := encG) (k := 35) rfl rfl (.tmp 34) (.tmp 36) 45 26 56 rfl _ Tryd.underlying45 info3Rng rfl (by decide) w1.heap.size v6 k ((partsR r l).take k) [ofR (sub r k) l] rfl ((HO.out.below HC2.out).below HB5.out) (fun _ _ => encG_len _) (fun _ _ => encG_one _) (some ⟨g5, 0, none⟩) 1 1 rfl rfl HE5.out (by unfold maxLen; simp; omega) (by simp; omega) (Nat.le_trans (Nat.le_trans HBW.out.size HC2.out.size) HB5.out.size) ?_; intro v7 w7 hO7 hg7 _; have HO7 := Lib.hid hO7; have HG7 := Lib.hid hg7; clear hO7 hg7))
      go_roundg (4 - (k + 1))
      case measure => omega
      case rel =>
        have h6 : Below w1.heap.size w1 w5 := HBW.out.trans ((HC2.out.trans (HB5.out.mono HC2.out.size)).mono HBW.out.size)
        have h7 := own_below2 ((HO.out.below HC2.out).below HB5.out) h6 (Nat.le_refl _) h6.size HG7.out
        refine ⟨k + 1, v7, rfl, by go_num, by omega, Nat.le_refl _, ?_, h7, HB1.out.trans (h7.mono HB1.out.size)⟩
        show Own _ _ _ _ _ _ _
        rw [partsR_take r l k HLT.out]
        exact HO7.out
    · have hk4 : k = 4 := by omega
      have hltz : ¬ (k : Int) < 4 := by omega
      have HK := Lib.hid hk4
      clear hk4
      go_wp2_with fail
      go_ret2
      refine ⟨_, rfl, ?_, HBX.out⟩
      have hO := HO.out
      rw [HK.out, List.take_of_length_le (by simp [partsR])] at hO
      exact hO.rebase HB1.out.size
end Go.Proofs.YtefbllhpibfojaaDoor

namespace Go.Proofs.YtefbllhpibfojaaDoor
open Go.Proofs Stab Go.Shelf Go.RowKit Go.Lib Go.Sort

theorem behind_call {P : Program} {f : FuncId} {args : Array Value} {w0 w : World} {v : Value} (h : Behind w0 w) (hc : Calls P f args w fun e w' => e = .returned v ∧ Below w.heap.size w w') : Calls P f args w fun e w' => e = .returned v ∧ Behind w0 w' :=
  hc.mono fun _ _ ⟨h1, h2⟩ => ⟨h1, Below.trans h (h2.mono (Below.size h))⟩
theorem mix_callv {P : Program} {ops : Array Oper} {Q : Exit → Act → World → Prop} {S : World → Prop} {i : Nat} {r : List (Nat × Bool)} {a : Act} {w : World} {o : Oper} (f : FuncId) (args : List Value) (v : Value) (ho : ops.toList[i]? = some o) (hw : Region.wanted o (yielded ops a.tmps) = true) (hv : (execOp a.eval o).run P w = .ok (.enter f args.toArray) w)
    (hc : Calls P f args.toArray w fun e w' => e = .returned v ∧ S w') (h : ∀ w', S w' → wpMix P ops S Q r (a.put o.dst v) w') : wpMix P ops S Q ((i, false) :: r) a w :=
  wpMix_call f args (fun x _ => x = v) ho hw hv (hc.mono fun _ _ ⟨h1, h2⟩ => ⟨v, h1, h2, rfl⟩) (fun x w' hS hx => by rw [hx]; exact h w' hS)
theorem sortR_one (x : Rec) : sortR [x] = [x] := by
  refine (sortR_eq (List.pairwise_singleton _ _) fun k => rfl).symm
theorem sortR_two (x : Rec) : sortR [x, x] = [x] := by
  refine (sortR_eq (List.pairwise_singleton _ _) fun k => ?_).symm
  rw [find_cons, find_cons, find_cons]
  by_cases h : x.key = k
  · rw [if_pos h, if_pos h]
  · rw [if_neg h, if_neg h]
theorem sortR_nil : sortR [] = [] := rfl
def key27 : List UInt8 := 27 :: List.replicate 31 0
def x27 : Rec := ⟨key27, 0, zero32', rfl, rfl, by omega⟩
def r00 : Rng := ⟨0, 0, 0, zero32', rfl, by omega, by omega, by omega⟩
def r427 : Rng := ⟨4, 27, 0, zero32', rfl, by omega, by omega, by omega⟩
def r4256 : Rng := ⟨4, 256, 0, zero32', rfl, by omega, by omega, by omega⟩
def r9 : Rng := ⟨9, 0, 0, zero32', rfl, by omega, by omega, by omega⟩
theorem place00 : placeB r00.depth r00.pref = true := by decide +kernel
theorem place427 : placeB r427.depth r427.pref = true := by decide +kernel
theorem place4256 : placeB r4256.depth r4256.pref = false := by decide +kernel
theorem good9 : goodB r9 = false := by decide +kernel
theorem items00 : itemsR (bare r00) [] = [] := rfl
theorem in427 : inB (bare r427) key27 = true := by decide +kernel
theorem items427 : itemsR (bare r427) [x27] = [x27] := by
  unfold itemsR
  rw [sortR_one, List.filter_cons]
  have h : inB (bare r427) x27.key = true := in427
  simp [h]
theorem count00 : (ofR r00 []).count = 0 := by
  show ((clampN (itemsR (bare r00) []).length : Nat) : Int) = 0
  rw [items00]
  simp [clampN]
theorem sum00 : (ofR r00 []).sum = Sha.sha (Sap.row []) := by
  show Sha.sha (Sap.row ((itemsR (bare r00) []).map rowB)) = _
  rw [items00, List.map_nil]
theorem count427 : (ofR r427 [x27]).count = 1 := by
  show ((clampN (itemsR (bare r427) [x27]).length : Nat) : Int) = 1
  rw [items427]
  simp [clampN]
theorem good427 : goodB (ofR r427 [x27]) = true := by
  have h : placeB (ofR r427 [x27]).depth (ofR r427 [x27]).pref = true := place427
  unfold goodB
  rw [h, count427]
  rfl
theorem in427' : inB (ofR r427 [x27]) x27.key = true := by
  unfold inB
  rw [good427]
  have h : decide ((first16 x27.key : Int) / 4 ^ (8 - (ofR r427 [x27]).depth).toNat = (ofR r427 [x27]).pref) = true := by
    show decide ((first16 key27 : Int) / 4 ^ (8 - (4 : Int)).toNat = 27) = true
    decide +kernel
  rw [h]
  rfl
theorem items427' : itemsR (ofR r427 [x27]) [x27, x27] = [x27] := by
  unfold itemsR
  rw [sortR_two, List.filter_cons, in427']
  rfl
theorem built_key27 : Tryd.prog.built 24 [(0, .int .u8 27)] = some (u8s key27).toArray := by kernel_rfl
theorem built_x27 : Tryd.prog.built 38 [(0, .agg (u8s key27).toArray)] = some (encR x27).toArray := by kernel_rfl
theorem built_r9 : Tryd.prog.built 26 [(0, .int .i64 9)] = some (encG r9).toArray := by kernel_rfl
theorem info2Rec : (Tryd.prog.info? 38).map (fun i => (i.zero.isSome, i.size)) = some (true, 65) := by kernel_rfl

set_option maxRecDepth 100000 in
set_option maxHeartbeats 2000000 in
theorem awake_any (w : World) (hwd : Tab w 0 (u32s Sha.words)) : Calls Tryd.prog 13 #[] w fun e w' => e = .returned (.bool true) ∧ Below w.heap.size w w' := by
  have hof0 : ∀ W, Tab W 0 (u32s Sha.words) → Calls Tryd.prog 15 #[.int .i64 0, .int .i64 0, .slice none 0 0] W fun e w' => e = .returned (.tuple #[.agg (encG (ofR r00 [])).toArray, .int .i64 0]) ∧ Below W.heap.size W w' := fun W hW => of_good r00 place00 none 0 [] W EncIn.nil (by simp) hW
  have hof1 : ∀ W A, EncIn encR 65 W A [x27] → Tab W 0 (u32s Sha.words) → Calls Tryd.prog 15 #[.int .i64 4, .int .i64 27, .slice A 1 1] W fun e w' => e = .returned (.tuple #[.agg (encG (ofR r427 [x27])).toArray, .int .i64 0]) ∧ Below W.heap.size W w' := fun W A hA hW => of_good r427 place427 A 1 [x27] W hA (by simp) hW
  have hof2 : ∀ W, Calls Tryd.prog 15 #[.int .i64 4, .int .i64 256, .slice none 0 0] W fun e w' => e = .returned (.tuple #[.agg (encG Rng.zero).toArray, .int .i64 1]) ∧ Below W.heap.size W w' := fun W => of_bad r4256 place4256 none 0 0 W
  have HW := Lib.hid hwd
  have HO0 := Lib.hid hof0
  have HO1 := Lib.hid hof1
  have HO2 := Lib.hid hof2
  have HLG := Lib.hid (show ∀ x, (Tryd.prog.info? 26).map (·.size) = some (encG x).length from fun x => by rw [encG_len]; exact infoRng)
  have HLL := Lib.hid (show ∀ x y, (encG x).length = (encG y).length from fun x y => by rw [encG_len, encG_len])
  have HLR := Lib.hid (show ∀ x, (Tryd.prog.info? 38).map (·.size) = some (encR x).length from fun x => by rw [encR_len]; exact infoRec)
  have HLM := Lib.hid (show ∀ x y, (encR x).length = (encR y).length from fun x y => by rw [encR_len, encR_len])
  clear hwd hof0 hof1 hof2
  go_enter Tryd.func13, Tryd.ntmps13
  go_upto_region 5 with (first
    | (go_at_call 15; (with_reducible refine Calls.mono (HO0.out _ HW.out) ?_); rintro e w1 ⟨rfl, hb⟩; have HB1 := Lib.hid hb; clear hb)
    | ((with_reducible refine wpList_allocZ (o := ⟨some 1, _, _, _, _, _⟩) 26 (encG default) rfl rfl zeroRng ?_); intro g1 w2 hg2 hat2 hb2; have HAT1 := Lib.hid hat2; have HB2 := Lib.hid (HB1.out.trans (hb2.mono HB1.out.size)); have HG1 := Lib.hid (show w.heap.size ≤ g1 by rw [hg2]; exact HB1.out.size); clear hat2 hb2 hg2)
    | ((with_reducible refine wpList_storeAll rfl 26 (.tmp 1) (.tmp 10) rfl g1 rfl _ _ (encG (ofR r00 [])) HAT1.out rfl (HLL.out _ _) (HLG.out _) (encG_one _) ?_); intro w3 hat3 hg3 hs3; have HA1 := Lib.hid hat3; have HB3 := Lib.hid (Below.ofGrown HB2.out hg3 HB2.out.size HG1.out); clear hat3 hg3 hs3)
    | (with_reducible refine wpList_build (u8s key27).toArray (by with_unfolding_all rfl) 24 #[(0, .const (.int .u8 27))] rfl (built_at built_key27 (by with_unfolding_all rfl)) ?_)
    | (with_reducible refine wpList_build (encR x27).toArray (by with_unfolding_all rfl) 38 #[(0, .tmp 12)] rfl (built_at built_x27 (by with_unfolding_all rfl)) ?_)
    | ((with_reducible refine wpList_allocZ (o := ⟨some 3, _, _, _, _, _⟩) 38 (encR default) rfl rfl zeroRec ?_); intro g3 w4 hg4 hat4 hb4; have HAT3 := Lib.hid hat4; have HB4 := Lib.hid (HB3.out.trans (hb4.mono HB3.out.size)); have HG3 := Lib.hid (show w.heap.size ≤ g3 by rw [hg4]; exact HB3.out.size); have HA1b := Lib.hid (HA1.out.below hb4 HA1.out.lt); have HNE := Lib.hid (show g1 < g3 by rw [hg4]; exact HA1.out.lt); clear hat4 hb4 hg4)
    | ((with_reducible refine wpList_storeAll rfl 38 (.tmp 3) (.tmp 13) rfl g3 rfl _ _ (encR x27) HAT3.out rfl (HLM.out _ _) (HLR.out _) (encR_one _) ?_); intro w5 hat5 hg5 hs5; have HA3 := Lib.hid hat5; have HB5 := Lib.hid (Below.ofGrown HB4.out hg5 HB4.out.size HG3.out); have HA1c := Lib.hid (HA1b.out.grown hg5 (fun e => absurd (Option.some.inj e) (Nat.ne_of_lt HNE.out))); clear hat5 hg5 hs5)
    | (with_reducible refine wpList_loadAll rfl 38 (.tmp 3) rfl g3 rfl _ _ _ HA3.out Tryd.underlying38 rfl (HLR.out _) ?_)
    | ((with_reducible refine wpList_one (enc := encR) rfl 22 38 65 x27 (.tmp 15) rfl rfl Tryd.underlying22 info2Rec (by decide) (by decide) (encR_len _) ?_); intro g6 w6 hg6 hb6 hE6; clear hg6; have HE6 := Lib.hid hE6; have HB6 := Lib.hid (HB5.out.trans (hb6.mono HB5.out.size)); have HA1d := Lib.hid (HA1c.out.below hb6 HA1c.out.lt); have HA3d := Lib.hid (HA3.out.below hb6 HA3.out.lt); clear hb6 hE6)
    | (go_at_call 15; (with_reducible refine Calls.mono (HO1.out _ _ HE6.out (HW.out.below HB6.out HW.out.lt)) ?_); rintro e w7 ⟨rfl, hb⟩; have HB7 := Lib.hid (HB6.out.trans (hb.mono HB6.out.size)); have HA1e := Lib.hid (HA1d.out.below hb HA1d.out.lt); have HA3e := Lib.hid (HA3d.out.below hb HA3d.out.lt); clear hb)
    | ((with_reducible refine wpList_allocZ (o := ⟨some 4, _, _, _, _, _⟩) 26 (encG default) rfl rfl zeroRng ?_); intro g4 w8 hg8 hat8 hb8; have HAT4 := Lib.hid hat8; have HB8 := Lib.hid (HB7.out.trans (hb8.mono HB7.out.size)); have HG4 := Lib.hid (show w.heap.size ≤ g4 ∧ g1 < g4 ∧ g3 < g4 by rw [hg8]; exact ⟨HB7.out.size, HA1e.out.lt, HA3e.out.lt⟩); have HA1f := Lib.hid (HA1e.out.below hb8 HA1e.out.lt); have HA3f := Lib.hid (HA3e.out.below hb8 HA3e.out.lt); clear hat8 hb8 hg8)
    | ((with_reducible refine wpList_storeAll rfl 26 (.tmp 4) (.tmp 18) rfl g4 rfl _ _ (encG (ofR r427 [x27])) HAT4.out rfl (HLL.out _ _) (HLG.out _) (encG_one _) ?_); intro w9 hat9 hg9 hs9; have HA4 := Lib.hid hat9; have HB9 := Lib.hid (Below.ofGrown HB8.out hg9 HB8.out.size HG4.out.1); have HA1g := Lib.hid (HA1f.out.grown hg9 (fun e => absurd (Option.some.inj e) (Nat.ne_of_lt HG4.out.2.1))); have HA3g := Lib.hid (HA3f.out.grown hg9 (fun e => absurd (Option.some.inj e) (Nat.ne_of_lt HG4.out.2.2))); clear hat9 hg9 hs9)
    | (go_at_call 15; (with_reducible refine Calls.mono (HO2.out _) ?_); rintro e w10 ⟨rfl, hb⟩; have HB10 := Lib.hid (HB9.out.trans (hb.mono HB9.out.size)); have HA1h := Lib.hid (HA1g.out.below hb HA1g.out.lt); have HA3h := Lib.hid (HA3g.out.below hb HA3g.out.lt); have HA4h := Lib.hid (HA4.out.below hb HA4.out.lt); clear hb)
    | ((with_reducible refine wpList_allocZ (o := ⟨some 6, _, _, _, _, _⟩) 26 (encG default) rfl rfl zeroRng ?_); intro g6a w11 hg11 hat11 hb11; have HAT6 := Lib.hid hat11; have HB11 := Lib.hid (HB10.out.trans (hb11.mono HB10.out.size)); have HG6 := Lib.hid (show w.heap.size ≤ g6a ∧ g1 < g6a ∧ g3 < g6a ∧ g4 < g6a by rw [hg11]; exact ⟨HB10.out.size, HA1h.out.lt, HA3h.out.lt, HA4h.out.lt⟩); have HA1i := Lib.hid (HA1h.out.below hb11 HA1h.out.lt); have HA3i := Lib.hid (HA3h.out.below hb11 HA3h.out.lt); have HA4i := Lib.hid (HA4h.out.below hb11 HA4h.out.lt); clear hat11 hb11 hg11)
    | ((with_reducible refine wpList_storeAll rfl 26 (.tmp 6) (.tmp 22) rfl g6a rfl _ _ (encG Rng.zero) HAT6.out rfl (HLL.out _ _) (HLG.out _) (encG_one _) ?_); intro w12 hat12 hg12 hs12; clear hat12; have HB12 := Lib.hid (Below.ofGrown HB11.out hg12 HB11.out.size HG6.out.1); have HZ1 := Lib.hid (HA1i.out.grown hg12 (fun e => absurd (Option.some.inj e) (Nat.ne_of_lt HG6.out.2.1))); have HZ3 := Lib.hid (HA3i.out.grown hg12 (fun e => absurd (Option.some.inj e) (Nat.ne_of_lt HG6.out.2.2.1))); have HZ4 := Lib.hid (HA4i.out.grown hg12 (fun e => absurd (Option.some.inj e) (Nat.ne_of_lt HG6.out.2.2.2))); clear hg12 hs12))
  clear HA1 HA1b HA1c HA1d HA1e HA1f HA1g HA1h HA1i HA3 HA3d HA3e HA3f HA3g HA3h HA3i HA4 HA4h HA4i HB1 HB2 HB3 HB4 HB5 HB6 HB7 HB8 HB9 HB10 HB11 HG1 HG3 HG4 HG6 HNE HE6 HAT1 HAT3 HAT4 HAT6 HO0 HO1 HO2
  have HS1 := Lib.hid (show ∀ W, Behind w12 W → At W g1 26 (encG (ofR r00 [])) from fun W h => HZ1.out.below h HZ1.out.lt)
  have HS3 := Lib.hid (show ∀ W, Behind w12 W → At W g3 38 (encR x27) from fun W h => HZ3.out.below h HZ3.out.lt)
  have HS4 := Lib.hid (show ∀ W, Behind w12 W → At W g4 26 (encG (ofR r427 [x27])) from fun W h => HZ4.out.below h HZ4.out.lt)
  have HT := Lib.hid (show ∀ W, Behind w12 W → Tab W 0 (u32s Sha.words) from fun W h => HW.out.below (HB12.out.trans (Below.mono h HB12.out.size)) HW.out.lt)
  have HDG := Lib.hid (show ∀ l : List UInt8, l.length = 32 → (Tryd.prog.info? 24).map (·.size) = some (u8s l).length from fun l hl => by rw [u8s_length, hl]; exact infoDg)
  have HUI := Lib.hid Tryd.underlying3
  have HEQ := Lib.hid (show ∀ w, (binOp .eql 24 (.agg (u8s (ofR r00 []).sum).toArray) (.agg (u8s (Sha.sha (Sap.row []))).toArray)).run Tryd.prog w = .ok (.bool true) w from fun w => by
    have h := run_eql_dg w (Sha.sha (Sap.row [])) (Sha.sha (Sap.row [])) (sha_len _) (sha_len _)
    rw [sum00]
    simpa [dgV] using h)
  refine wp_region_mix [(0, true), (1, true), (2, true), (3, true), (4, true), (5, true), (6, true), (7, true), (8, true), (9, true), (10, false), (11, true), (12, true), (13, true), (14, true), (15, true), (16, true), (17, true), (18, true), (19, true), (20, true), (21, true), (22, true), (23, true), (24, true), (25, true), (26, true), (27, true), (28, true), (29, true), (30, false), (31, true), (32, true), (33, true), (34, false), (35, true), (36, true), (37, true), (38, false), (39, true), (40, true), (41, true), (42, true), (43, true), (44, true), (45, false), (46, false), (47, true), (48, true), (49, true), (50, true)] (Behind w12)
    (by kernel_rfl) (by kernel_rfl) (fun _ _ d _ _ h => by cases d <;> exact h) (by kernel_rfl) (by decide) (Below.refl _ _).drew ?_
  have hz0 : Behind w12 w12.drew := (Below.refl _ _).drew
  refine wpMix_val (.int .i64 0) (by with_unfolding_all rfl) (by with_unfolding_all rfl) (fun w _ => by with_unfolding_all rfl) ?_
  simp only [Act.put, List.setIfInBounds_toArray, List.set_cons_zero, List.set_cons_succ]
  refine wpMix_val (.bool true) (by with_unfolding_all rfl) (by with_unfolding_all rfl) (fun w _ => by go_simp) ?_
  simp only [Act.put, List.setIfInBounds_toArray, List.set_cons_zero, List.set_cons_succ]
  refine wpMix_val (.bool true) (by with_unfolding_all rfl) (by with_unfolding_all rfl) (fun w _ => by with_unfolding_all rfl) ?_
  simp only [Act.put, List.setIfInBounds_toArray, List.set_cons_zero, List.set_cons_succ]
  refine wpMix_val (.pointer (some ⟨g1, 2, none⟩)) (by with_unfolding_all rfl) (by with_unfolding_all rfl) (fun w _ => by go_simp) ?_
  simp only [Act.put, List.setIfInBounds_toArray, List.set_cons_zero, List.set_cons_succ]
  refine wpMix_load1 (.int .i64 0) (by with_unfolding_all rfl) (by with_unfolding_all rfl) 3 _ (by with_unfolding_all rfl) .i64 HUI.out g1 (2) (by with_unfolding_all rfl) (fun w h => by have := (HS1.out w h).count; rwa [count00] at this) ?_
  simp only [Act.put, List.setIfInBounds_toArray, List.set_cons_zero, List.set_cons_succ]
  refine wpMix_val (.bool true) (by with_unfolding_all rfl) (by with_unfolding_all rfl) (fun w _ => by go_simp) ?_
  simp only [Act.put, List.setIfInBounds_toArray, List.set_cons_zero, List.set_cons_succ]
  refine wpMix_val (.bool true) (by with_unfolding_all rfl) (by with_unfolding_all rfl) (fun w _ => by with_unfolding_all rfl) ?_
  simp only [Act.put, List.setIfInBounds_toArray, List.set_cons_zero, List.set_cons_succ]
  refine wpMix_val (.bool true) (by with_unfolding_all rfl) (by with_unfolding_all rfl) (fun w _ => by with_unfolding_all rfl) ?_
  simp only [Act.put, List.setIfInBounds_toArray, List.set_cons_zero, List.set_cons_succ]
  refine wpMix_val (.pointer (some ⟨g1, 3, none⟩)) (by with_unfolding_all rfl) (by with_unfolding_all rfl) (fun w _ => by go_simp) ?_
  simp only [Act.put, List.setIfInBounds_toArray, List.set_cons_zero, List.set_cons_succ]
  refine wpMix_loadAll (by with_unfolding_all rfl) (by with_unfolding_all rfl) 24 _ (by with_unfolding_all rfl) g1 (3) (by with_unfolding_all rfl) (u8s (ofR r00 []).sum) _ (fun w h => (HS1.out w h).sum) Tryd.underlying24 (by with_unfolding_all rfl) (HDG.out _ (ofR r00 []).hs) ?_
  simp only [Act.put, List.setIfInBounds_toArray, List.set_cons_zero, List.set_cons_succ]
  refine mix_callv 43 [.slice none 0 0] (.agg (u8s (Sha.sha (Sap.row []))).toArray) (by with_unfolding_all rfl) (by with_unfolding_all rfl) (by with_unfolding_all rfl) (behind_call hz0 (row_any none 0 [] _ (fun h => absurd h (by decide)) (by simp [flat]) (by simp) (HT.out _ hz0))) ?_
  intro z1 hz1
  simp only [Act.put, List.setIfInBounds_toArray, List.set_cons_zero, List.set_cons_succ]
  refine wpMix_bin (by with_unfolding_all rfl) (by with_unfolding_all rfl) .eql 24 _ _ _ (by with_unfolding_all rfl) (.agg (u8s (ofR r00 []).sum).toArray) (.agg (u8s (Sha.sha (Sap.row []))).toArray) (.bool true) (by with_unfolding_all rfl) (by with_unfolding_all rfl) (fun w => run_eqGuard_dg w _ _ _ _ _) HEQ.out ?_
  simp only [Act.put, List.setIfInBounds_toArray, List.set_cons_zero, List.set_cons_succ]
  refine wpMix_val (.bool true) (by with_unfolding_all rfl) (by with_unfolding_all rfl) (fun w _ => by with_unfolding_all rfl) ?_
  simp only [Act.put, List.setIfInBounds_toArray, List.set_cons_zero, List.set_cons_succ]
  refine wpMix_val (.bool true) (by with_unfolding_all rfl) (by with_unfolding_all rfl) (fun w _ => by with_unfolding_all rfl) ?_
  simp only [Act.put, List.setIfInBounds_toArray, List.set_cons_zero, List.set_cons_succ]
  refine wpMix_val (.int .i64 0) (by with_unfolding_all rfl) (by with_unfolding_all rfl) (fun w _ => by with_unfolding_all rfl) ?_
  simp only [Act.put, List.setIfInBounds_toArray, List.set_cons_zero, List.set_cons_succ]
  refine wpMix_val (.bool true) (by with_unfolding_all rfl) (by with_unfolding_all rfl) (fun w _ => by go_simp) ?_
  simp only [Act.put, List.setIfInBounds_toArray, List.set_cons_zero, List.set_cons_succ]
  refine wpMix_val (.bool true) (by with_unfolding_all rfl) (by with_unfolding_all rfl) (fun w _ => by with_unfolding_all rfl) ?_
  simp only [Act.put, List.setIfInBounds_toArray, List.set_cons_zero, List.set_cons_succ]
  refine wpMix_val (.bool true) (by with_unfolding_all rfl) (by with_unfolding_all rfl) (fun w _ => by with_unfolding_all rfl) ?_
  simp only [Act.put, List.setIfInBounds_toArray, List.set_cons_zero, List.set_cons_succ]
  refine wpMix_val (.pointer (some ⟨g4, 2, none⟩)) (by with_unfolding_all rfl) (by with_unfolding_all rfl) (fun w _ => by go_simp) ?_
  simp only [Act.put, List.setIfInBounds_toArray, List.set_cons_zero, List.set_cons_succ]
  refine wpMix_load1 (.int .i64 1) (by with_unfolding_all rfl) (by with_unfolding_all rfl) 3 _ (by with_unfolding_all rfl) .i64 HUI.out g4 (2) (by with_unfolding_all rfl) (fun w h => by have := (HS4.out w h).count; rwa [count427] at this) ?_
  simp only [Act.put, List.setIfInBounds_toArray, List.set_cons_zero, List.set_cons_succ]
  refine wpMix_val (.bool true) (by with_unfolding_all rfl) (by with_unfolding_all rfl) (fun w _ => by go_simp) ?_
  simp only [Act.put, List.setIfInBounds_toArray, List.set_cons_zero, List.set_cons_succ]
  refine wpMix_val (.bool true) (by with_unfolding_all rfl) (by with_unfolding_all rfl) (fun w _ => by with_unfolding_all rfl) ?_
  simp only [Act.put, List.setIfInBounds_toArray, List.set_cons_zero, List.set_cons_succ]
  refine wpMix_val (.bool true) (by with_unfolding_all rfl) (by with_unfolding_all rfl) (fun w _ => by with_unfolding_all rfl) ?_
  simp only [Act.put, List.setIfInBounds_toArray, List.set_cons_zero, List.set_cons_succ]
  refine wpMix_val (.int .i64 1) (by with_unfolding_all rfl) (by with_unfolding_all rfl) (fun w _ => by with_unfolding_all rfl) ?_
  simp only [Act.put, List.setIfInBounds_toArray, List.set_cons_zero, List.set_cons_succ]
  refine wpMix_val (.bool true) (by with_unfolding_all rfl) (by with_unfolding_all rfl) (fun w _ => by go_simp) ?_
  simp only [Act.put, List.setIfInBounds_toArray, List.set_cons_zero, List.set_cons_succ]
  refine wpMix_val (.bool true) (by with_unfolding_all rfl) (by with_unfolding_all rfl) (fun w _ => by with_unfolding_all rfl) ?_
  simp only [Act.put, List.setIfInBounds_toArray, List.set_cons_zero, List.set_cons_succ]
  refine wpMix_val (.bool true) (by with_unfolding_all rfl) (by with_unfolding_all rfl) (fun w _ => by with_unfolding_all rfl) ?_
  simp only [Act.put, List.setIfInBounds_toArray, List.set_cons_zero, List.set_cons_succ]
  refine wpMix_loadAll (by with_unfolding_all rfl) (by with_unfolding_all rfl) 26 _ (by with_unfolding_all rfl) g4 (0) (by with_unfolding_all rfl) (encG (ofR r427 [x27])) _ (fun w h => (HS4.out w h).all) Tryd.underlying26 (by with_unfolding_all rfl) (HLG.out _) ?_
  simp only [Act.put, List.setIfInBounds_toArray, List.set_cons_zero, List.set_cons_succ]
  refine wpMix_val (.pointer (some ⟨g3, 0, none⟩)) (by with_unfolding_all rfl) (by with_unfolding_all rfl) (fun w _ => by go_simp) ?_
  simp only [Act.put, List.setIfInBounds_toArray, List.set_cons_zero, List.set_cons_succ]
  refine wpMix_loadAll (by with_unfolding_all rfl) (by with_unfolding_all rfl) 24 _ (by with_unfolding_all rfl) g3 (0) (by with_unfolding_all rfl) (u8s x27.key) _ (fun w h => (HS3.out w h).key) Tryd.underlying24 (by with_unfolding_all rfl) (HDG.out _ x27.hk) ?_
  simp only [Act.put, List.setIfInBounds_toArray, List.set_cons_zero, List.set_cons_succ]
  refine mix_callv 22 [.agg (encG (ofR r427 [x27])).toArray, .agg (u8s x27.key).toArray] (.bool true) (by with_unfolding_all rfl) (by with_unfolding_all rfl) (by with_unfolding_all rfl) (behind_call hz1 (by rw [← in427']; exact in_any _ _ x27.hk _)) ?_
  intro z2 hz2
  simp only [Act.put, List.setIfInBounds_toArray, List.set_cons_zero, List.set_cons_succ]
  refine wpMix_val (.bool true) (by with_unfolding_all rfl) (by with_unfolding_all rfl) (fun w _ => by with_unfolding_all rfl) ?_
  simp only [Act.put, List.setIfInBounds_toArray, List.set_cons_zero, List.set_cons_succ]
  refine wpMix_val (.bool true) (by with_unfolding_all rfl) (by with_unfolding_all rfl) (fun w _ => by with_unfolding_all rfl) ?_
  simp only [Act.put, List.setIfInBounds_toArray, List.set_cons_zero, List.set_cons_succ]
  refine wpMix_loadAll (by with_unfolding_all rfl) (by with_unfolding_all rfl) 26 _ (by with_unfolding_all rfl) g4 (0) (by with_unfolding_all rfl) (encG (ofR r427 [x27])) _ (fun w h => (HS4.out w h).all) Tryd.underlying26 (by with_unfolding_all rfl) (HLG.out _) ?_
  simp only [Act.put, List.setIfInBounds_toArray, List.set_cons_zero, List.set_cons_succ]
  refine mix_callv 14 [.agg (encG (ofR r427 [x27])).toArray] (.bool true) (by with_unfolding_all rfl) (by with_unfolding_all rfl) (by with_unfolding_all rfl) (behind_call hz2 (by rw [← good427]; exact good_any _ _)) ?_
  intro z3 hz3
  simp only [Act.put, List.setIfInBounds_toArray, List.set_cons_zero, List.set_cons_succ]
  refine wpMix_val (.bool true) (by with_unfolding_all rfl) (by with_unfolding_all rfl) (fun w _ => by with_unfolding_all rfl) ?_
  simp only [Act.put, List.setIfInBounds_toArray, List.set_cons_zero, List.set_cons_succ]
  refine wpMix_val (.bool true) (by with_unfolding_all rfl) (by with_unfolding_all rfl) (fun w _ => by with_unfolding_all rfl) ?_
  simp only [Act.put, List.setIfInBounds_toArray, List.set_cons_zero, List.set_cons_succ]
  refine wpMix_val (.agg (encG r9).toArray) (by with_unfolding_all rfl) (by with_unfolding_all rfl) (fun w _ => exec_build 26 #[(0, .const (.int .i64 9))] _ (by with_unfolding_all rfl) (built_at built_r9 (by with_unfolding_all rfl)) w) ?_
  simp only [Act.put, List.setIfInBounds_toArray, List.set_cons_zero, List.set_cons_succ]
  refine mix_callv 14 [.agg (encG r9).toArray] (.bool false) (by with_unfolding_all rfl) (by with_unfolding_all rfl) (by with_unfolding_all rfl) (behind_call hz3 (by rw [← good9]; exact good_any _ _)) ?_
  intro z4 hz4
  simp only [Act.put, List.setIfInBounds_toArray, List.set_cons_zero, List.set_cons_succ]
  refine wpMix_val (.bool true) (by with_unfolding_all rfl) (by with_unfolding_all rfl) (fun w _ => by with_unfolding_all rfl) ?_
  simp only [Act.put, List.setIfInBounds_toArray, List.set_cons_zero, List.set_cons_succ]
  refine wpMix_val (.bool true) (by with_unfolding_all rfl) (by with_unfolding_all rfl) (fun w _ => by with_unfolding_all rfl) ?_
  simp only [Act.put, List.setIfInBounds_toArray, List.set_cons_zero, List.set_cons_succ]
  refine wpMix_val (.bool true) (by with_unfolding_all rfl) (by with_unfolding_all rfl) (fun w _ => by with_unfolding_all rfl) ?_
  simp only [Act.put, List.setIfInBounds_toArray, List.set_cons_zero, List.set_cons_succ]
  refine wpMix_loadAll (by with_unfolding_all rfl) (by with_unfolding_all rfl) 26 _ (by with_unfolding_all rfl) g4 (0) (by with_unfolding_all rfl) (encG (ofR r427 [x27])) _ (fun w h => (HS4.out w h).all) Tryd.underlying26 (by with_unfolding_all rfl) (HLG.out _) ?_
  simp only [Act.put, List.setIfInBounds_toArray, List.set_cons_zero, List.set_cons_succ]
  refine wpMix_loadAll (by with_unfolding_all rfl) (by with_unfolding_all rfl) 38 _ (by with_unfolding_all rfl) g3 (0) (by with_unfolding_all rfl) (encR x27) _ (fun w h => (HS3.out w h).all) Tryd.underlying38 (by with_unfolding_all rfl) (HLR.out _) ?_
  simp only [Act.put, List.setIfInBounds_toArray, List.set_cons_zero, List.set_cons_succ]
  refine wpMix_loadAll (by with_unfolding_all rfl) (by with_unfolding_all rfl) 38 _ (by with_unfolding_all rfl) g3 (0) (by with_unfolding_all rfl) (encR x27) _ (fun w h => (HS3.out w h).all) Tryd.underlying38 (by with_unfolding_all rfl) (HLR.out _) ?_
  simp only [Act.put, List.setIfInBounds_toArray, List.set_cons_zero, List.set_cons_succ]
  have hz5 : Behind w12 (z4.alloc (.cells (([x27, x27] : List Rec).flatMap encR).toArray 38)) := Below.trans hz4 ((Below.refl _ _).alloc (Nat.le_refl _) _ |>.mono (Below.size hz4))
  refine wpMix_put (.slice (some ⟨z4.heap.size, 0, none⟩) 2 2) (z4.alloc (.cells (([x27, x27] : List Rec).flatMap encR).toArray 38)) (by with_unfolding_all rfl) (by with_unfolding_all rfl) (exec_rowsE (enc := encR) 22 38 65 [x27, x27] #[(0, .tmp 67), (1, .tmp 68)] (by with_unfolding_all rfl) Tryd.underlying22 info2Rec (by decide) (by decide) (by decide) (fun x _ => encR_len x) (by with_unfolding_all rfl) z4) hz5 ?_
  simp only [Act.put, List.setIfInBounds_toArray, List.set_cons_zero, List.set_cons_succ]
  refine wpMix_call 17 [.agg (encG (ofR r427 [x27])).toArray, .slice (some ⟨z4.heap.size, 0, none⟩) 2 2] (fun v w' => ∃ A c, v = .slice A 1 c) (by with_unfolding_all rfl) (by with_unfolding_all rfl) (by with_unfolding_all rfl) ((items_any (ofR r427 [x27]) (some ⟨z4.heap.size, 0, none⟩) 2 [x27, x27] _ (enc_laid (fun x _ => encR_len x) z4 38) (by simp)).mono (fun e w' ⟨v, he, hO, hb⟩ => by
    rw [items427'] at hO
    obtain ⟨A, c, hv, _, _⟩ := hO.rows rfl (fun x _ => encR_len x)
    exact ⟨v, he, Below.trans hz5 (hb.mono (Below.size hz5)), A, c, hv⟩)) ?_
  rintro v6 z6 hz6 ⟨A5, c5, hv6⟩
  subst hv6
  simp only [Act.put, List.setIfInBounds_toArray, List.set_cons_zero, List.set_cons_succ]
  refine wpMix_val (.int .i64 1) (by with_unfolding_all rfl) (by with_unfolding_all rfl) (fun w _ => by go_simp) ?_
  simp only [Act.put, List.setIfInBounds_toArray, List.set_cons_zero, List.set_cons_succ]
  refine wpMix_val (.bool true) (by with_unfolding_all rfl) (by with_unfolding_all rfl) (fun w _ => by go_simp) ?_
  simp only [Act.put, List.setIfInBounds_toArray, List.set_cons_zero, List.set_cons_succ]
  refine wpMix_val (.bool true) (by with_unfolding_all rfl) (by with_unfolding_all rfl) (fun w _ => by with_unfolding_all rfl) ?_
  simp only [Act.put, List.setIfInBounds_toArray, List.set_cons_zero, List.set_cons_succ]
  refine wpMix_val (.bool true) (by with_unfolding_all rfl) (by with_unfolding_all rfl) (fun w _ => by with_unfolding_all rfl) ?_
  simp only [Act.put, List.setIfInBounds_toArray, List.set_cons_zero]
  refine wpMix_nil ?_
  go_wp2_with fail
  go_ret
  exact ⟨rfl, HB12.out.trans (Below.mono hz6 HB12.out.size)⟩
end Go.Proofs.YtefbllhpibfojaaDoor

namespace Go.Proofs.YtefbllhpibfojaaDoor
open Go.Proofs Stab Go.Shelf Go.RowKit Go.Lib Go.Sort

theorem run_part_dg (w : World) (cs : List Value) (off : Nat) : (part 24 cs.toArray off).run Tryd.prog w = .ok (.agg ((cs.drop off).take 32).toArray) w := by
  have h1 : ∀ w, (isAgg 24).run Tryd.prog w = .ok true w := Tryd.isAgg24
  have h2 : ∀ w, (Go.sizeOf 24).run Tryd.prog w = .ok 32 w := Tryd.sizeOf24
  unfold part
  simp only [Sem.run_bind, h1, h2, Result.andThen_ok, if_true, Sem.run_pure]
  congr 2
  apply Array.ext'
  simp only [Array.toList_extract, List.extract_eq_take_drop]
  congr 1
  omega
theorem run_part_int (w : World) (t : TypeId) (h1 : ∀ w, (isAgg t).run Tryd.prog w = .ok false w) (cs : List Value) (off : Nat) (v : Value) (h : cs[off]? = some v) : (part t cs.toArray off).run Tryd.prog w = .ok v w := by
  unfold part
  simp only [Sem.run_bind, h1, Result.andThen_ok, Bool.false_eq_true, if_false]
  rw [List.getElem?_toArray, h]
  rfl
theorem run_equalIn_dg (d : Nat) (w : World) (a b : List UInt8) (ha : a.length = 32) (hb : b.length = 32) : (Op.equalIn (d + 2) 24 (.agg (u8s a).toArray) (.agg (u8s b).toArray)).run Tryd.prog w = .ok (a == b) w := by
  have h := run_equalIn_arr (P := Tryd.prog) w d 24 5 32 .u8 Tryd.underlying24 Tryd.underlying5 (by kernel_rfl) (a.map fun b => (b.toNat : Int)) (b.map fun b => (b.toNat : Int)) (by simpa using ha) (by simpa using hb)
  rw [ints_inj, ← dg_ints, ← dg_ints] at h
  exact h
theorem run_equalIn_int (d : Nat) (w : World) (t : TypeId) (ht : Tryd.prog.underlying t = some (.int .i64)) (a b : Int) : (Op.equalIn (d + 1) t (.int .i64 a) (.int .i64 b)).run Tryd.prog w = .ok (a == b) w := by
  simp only [Op.equalIn, Sem.run_bind, run_underlying ht, Result.andThen_ok, if_true, Sem.run_pure]
theorem rec_beq (x y : Rec) : (x.key == y.key && (x.code == y.code && x.out == y.out)) = decide (x = y) := by
  rw [Bool.eq_iff_iff]
  simp only [Bool.and_eq_true, beq_iff_eq, decide_eq_true_eq]
  exact ⟨fun ⟨h1, h2, h3⟩ => Rec.ext' h1 h2 h3, fun h => by subst h; exact ⟨rfl, rfl, rfl⟩⟩
theorem rng_beq (x y : Rng) : (x.depth == y.depth && (x.pref == y.pref && (x.count == y.count && x.sum == y.sum))) = decide (x = y) := by
  rw [Bool.eq_iff_iff]
  simp only [Bool.and_eq_true, beq_iff_eq, decide_eq_true_eq]
  exact ⟨fun ⟨h1, h2, h3, h4⟩ => Rng.ext' h1 h2 h3 h4, fun h => by subst h; exact ⟨rfl, rfl, rfl, rfl⟩⟩
theorem fieldsRec : Tryd.prog.underlying 38 = some (.struct (Tryd.prog.fieldsOf 38)) := by kernel_rfl
theorem stoodRec : Tryd.prog.stoodInHeld 38 = false := by kernel_rfl
theorem fieldsRng : Tryd.prog.underlying 26 = some (.struct (Tryd.prog.fieldsOf 26)) := by kernel_rfl
theorem stoodRng : Tryd.prog.stoodInHeld 26 = false := by kernel_rfl
theorem listRec : ((Tryd.prog.fieldsOf 38).toList.map fun f => (f.name, f.type, f.offset)) = [("Key", 24, 0), ("Code", 29, 32), ("Out", 24, 33)] := by kernel_rfl
theorem listRng : ((Tryd.prog.fieldsOf 26).toList.map fun f => (f.name, f.type, f.offset)) = [("Depth", 3, 0), ("Prefix", 3, 1), ("Count", 3, 2), ("Sum", 24, 3)] := by kernel_rfl
theorem three_of {α β : Type} {f : α → β} {l : List α} {a b c : β} (h : l.map f = [a, b, c]) : ∃ x y z, l = [x, y, z] ∧ f x = a ∧ f y = b ∧ f z = c := by
  match l, h with
  | [x, y, z], h => simp at h; exact ⟨x, y, z, rfl, h.1, h.2.1, h.2.2⟩
theorem four_of {α β : Type} {f : α → β} {l : List α} {a b c d : β} (h : l.map f = [a, b, c, d]) : ∃ x y z u, l = [x, y, z, u] ∧ f x = a ∧ f y = b ∧ f z = c ∧ f u = d := by
  match l, h with
  | [x, y, z, u], h => simp at h; exact ⟨x, y, z, u, rfl, h.1, h.2.1, h.2.2.1, h.2.2.2⟩
theorem isAggInt : ∀ w, (isAgg 3).run Tryd.prog w = .ok false w := Tryd.isAgg3
theorem isAggErr : ∀ w, (isAgg 29).run Tryd.prog w = .ok false w := Tryd.isAgg29
theorem eqF_no {d : Nat} {xs ys : Array Value} {f : Field} {fs : List Field} {w : World} (n : f.name ≠ "_") {a b : Value} (ha : (part f.type xs f.offset).run Tryd.prog w = .ok a w) (hb : (part f.type ys f.offset).run Tryd.prog w = .ok b w) (hr : (Op.equalIn d f.type a b).run Tryd.prog w = .ok false w) : (Op.eqFields d xs ys (f :: fs)).run Tryd.prog w = .ok false w := by
  simp [Op.eqFields, n, ha, hb, hr]
theorem eqF_yes {d : Nat} {xs ys : Array Value} {f : Field} {fs : List Field} {w : World} (n : f.name ≠ "_") {a b : Value} (ha : (part f.type xs f.offset).run Tryd.prog w = .ok a w) (hb : (part f.type ys f.offset).run Tryd.prog w = .ok b w) (hr : (Op.equalIn d f.type a b).run Tryd.prog w = .ok true w) : (Op.eqFields d xs ys (f :: fs)).run Tryd.prog w = (Op.eqFields d xs ys fs).run Tryd.prog w := by
  simp [Op.eqFields, n, ha, hb, hr]
theorem eqF_nil {d : Nat} {xs ys : Array Value} {w : World} : (Op.eqFields d xs ys []).run Tryd.prog w = .ok true w := rfl
theorem run_equalIn_rec (d : Nat) (w : World) (x y : Rec) : (Op.equalIn (d + 2 + 1) 38 (.agg (encR x).toArray) (.agg (encR y).toArray)).run Tryd.prog w = .ok (decide (x = y)) w := by
  refine (run_equalIn_struct w (d + 2) 38 _ _ fieldsRec stoodRec).trans ?_
  obtain ⟨f1, f2, f3, hl, h1, h2, h3⟩ := three_of listRec
  rw [hl, ← rec_beq]
  simp only [Prod.mk.injEq] at h1 h2 h3
  obtain ⟨n1, t1, o1⟩ := h1
  obtain ⟨n2, t2, o2⟩ := h2
  obtain ⟨n3, t3, o3⟩ := h3
  have k1 := run_equalIn_dg d w x.key y.key x.hk y.hk
  have k2 := run_equalIn_int (d + 1) w 29 Tryd.underlying29 x.code y.code
  have k3 := run_equalIn_dg d w x.out y.out x.ho y.ho
  have p1 : ∀ (x : Rec), (part 24 (encR x).toArray 0).run Tryd.prog w = .ok (.agg (u8s x.key).toArray) w := fun x => by rw [run_part_dg, encR_key]
  have p2 : ∀ (x : Rec), (part 29 (encR x).toArray 32).run Tryd.prog w = .ok (.int .i64 x.code) w := fun x => run_part_int w _ isAggErr _ _ _ (encR_code x)
  have p3 : ∀ (x : Rec), (part 24 (encR x).toArray 33).run Tryd.prog w = .ok (.agg (u8s x.out).toArray) w := fun x => by rw [run_part_dg, encR_out]
  cases e1 : (x.key == y.key)
  · rw [e1] at k1
    exact eqF_no (by rw [n1]; decide) (by rw [t1, o1]; exact p1 x) (by rw [t1, o1]; exact p1 y) (by rw [t1]; exact k1)
  · rw [e1] at k1
    rw [eqF_yes (by rw [n1]; decide) (by rw [t1, o1]; exact p1 x) (by rw [t1, o1]; exact p1 y) (by rw [t1]; exact k1)]
    cases e2 : (x.code == y.code)
    · rw [e2] at k2
      exact eqF_no (by rw [n2]; decide) (by rw [t2, o2]; exact p2 x) (by rw [t2, o2]; exact p2 y) (by rw [t2]; exact k2)
    · rw [e2] at k2
      rw [eqF_yes (by rw [n2]; decide) (by rw [t2, o2]; exact p2 x) (by rw [t2, o2]; exact p2 y) (by rw [t2]; exact k2)]
      cases e3 : (x.out == y.out)
      · rw [e3] at k3
        exact eqF_no (by rw [n3]; decide) (by rw [t3, o3]; exact p3 x) (by rw [t3, o3]; exact p3 y) (by rw [t3]; exact k3)
      · rw [e3] at k3
        rw [eqF_yes (by rw [n3]; decide) (by rw [t3, o3]; exact p3 x) (by rw [t3, o3]; exact p3 y) (by rw [t3]; exact k3)]
        exact eqF_nil
theorem run_equalIn_rng (d : Nat) (w : World) (x y : Rng) : (Op.equalIn (d + 2 + 1) 26 (.agg (encG x).toArray) (.agg (encG y).toArray)).run Tryd.prog w = .ok (decide (x = y)) w := by
  refine (run_equalIn_struct w (d + 2) 26 _ _ fieldsRng stoodRng).trans ?_
  obtain ⟨f1, f2, f3, f4, hl, h1, h2, h3, h4⟩ := four_of listRng
  rw [hl, ← rng_beq]
  simp only [Prod.mk.injEq] at h1 h2 h3 h4
  obtain ⟨n1, t1, o1⟩ := h1
  obtain ⟨n2, t2, o2⟩ := h2
  obtain ⟨n3, t3, o3⟩ := h3
  obtain ⟨n4, t4, o4⟩ := h4
  have k1 := run_equalIn_int (d + 1) w 3 Tryd.underlying3 x.depth y.depth
  have k2 := run_equalIn_int (d + 1) w 3 Tryd.underlying3 x.pref y.pref
  have k3 := run_equalIn_int (d + 1) w 3 Tryd.underlying3 x.count y.count
  have k4 := run_equalIn_dg d w x.sum y.sum x.hs y.hs
  have p1 : ∀ (x : Rng), (part 3 (encG x).toArray 0).run Tryd.prog w = .ok (.int .i64 x.depth) w := fun x => run_part_int w _ isAggInt _ _ _ rfl
  have p2 : ∀ (x : Rng), (part 3 (encG x).toArray 1).run Tryd.prog w = .ok (.int .i64 x.pref) w := fun x => run_part_int w _ isAggInt _ _ _ rfl
  have p3 : ∀ (x : Rng), (part 3 (encG x).toArray 2).run Tryd.prog w = .ok (.int .i64 x.count) w := fun x => run_part_int w _ isAggInt _ _ _ rfl
  have p4 : ∀ (x : Rng), (part 24 (encG x).toArray 3).run Tryd.prog w = .ok (.agg (u8s x.sum).toArray) w := fun x => by rw [run_part_dg, encG_sum]
  cases e1 : (x.depth == y.depth)
  · rw [e1] at k1
    exact eqF_no (by rw [n1]; decide) (by rw [t1, o1]; exact p1 x) (by rw [t1, o1]; exact p1 y) (by rw [t1]; exact k1)
  · rw [e1] at k1
    rw [eqF_yes (by rw [n1]; decide) (by rw [t1, o1]; exact p1 x) (by rw [t1, o1]; exact p1 y) (by rw [t1]; exact k1)]
    cases e2 : (x.pref == y.pref)
    · rw [e2] at k2
      exact eqF_no (by rw [n2]; decide) (by rw [t2, o2]; exact p2 x) (by rw [t2, o2]; exact p2 y) (by rw [t2]; exact k2)
    · rw [e2] at k2
      rw [eqF_yes (by rw [n2]; decide) (by rw [t2, o2]; exact p2 x) (by rw [t2, o2]; exact p2 y) (by rw [t2]; exact k2)]
      cases e3 : (x.count == y.count)
      · rw [e3] at k3
        exact eqF_no (by rw [n3]; decide) (by rw [t3, o3]; exact p3 x) (by rw [t3, o3]; exact p3 y) (by rw [t3]; exact k3)
      · rw [e3] at k3
        rw [eqF_yes (by rw [n3]; decide) (by rw [t3, o3]; exact p3 x) (by rw [t3, o3]; exact p3 y) (by rw [t3]; exact k3)]
        cases e4 : (x.sum == y.sum)
        · rw [e4] at k4
          exact eqF_no (by rw [n4]; decide) (by rw [t4, o4]; exact p4 x) (by rw [t4, o4]; exact p4 y) (by rw [t4]; exact k4)
        · rw [e4] at k4
          rw [eqF_yes (by rw [n4]; decide) (by rw [t4, o4]; exact p4 x) (by rw [t4, o4]; exact p4 y) (by rw [t4]; exact k4)]
          exact eqF_nil
theorem run_eql_rec (w : World) (x y : Rec) : (binOp .eql 38 (.agg (encR x).toArray) (.agg (encR y).toArray)).run Tryd.prog w = .ok (.bool (decide (x = y))) w := by
  have h := run_equalIn_rec 9997 w x y
  rw [show 9997 + 2 + 1 = 10000 from rfl] at h
  simp only [binOp, Op.equal, Op.maxDepth, Sem.run_bind, Sem.run_pure, h, Result.andThen_ok]
theorem run_neq_rec (w : World) (x y : Rec) : (binOp .neq 38 (.agg (encR x).toArray) (.agg (encR y).toArray)).run Tryd.prog w = .ok (.bool (!decide (x = y))) w := by
  have h := run_equalIn_rec 9997 w x y
  rw [show 9997 + 2 + 1 = 10000 from rfl] at h
  simp only [binOp, Op.equal, Op.maxDepth, Sem.run_bind, Sem.run_pure, h, Result.andThen_ok]
theorem run_eqGuard_rec (w : World) (op : BinOp) (x y : Operand) (a b : Rec) : (eqGuard op 38 x y (.agg (encR a).toArray) (.agg (encR b).toArray)).run Tryd.prog w = .ok () w :=
  run_eqGuard_agg w op 38 x y _ _ (by kernel_rfl)
theorem run_eql_rng (w : World) (x y : Rng) : (binOp .eql 26 (.agg (encG x).toArray) (.agg (encG y).toArray)).run Tryd.prog w = .ok (.bool (decide (x = y))) w := by
  have h := run_equalIn_rng 9997 w x y
  rw [show 9997 + 2 + 1 = 10000 from rfl] at h
  simp only [binOp, Op.equal, Op.maxDepth, Sem.run_bind, Sem.run_pure, h, Result.andThen_ok]
theorem run_neq_rng (w : World) (x y : Rng) : (binOp .neq 26 (.agg (encG x).toArray) (.agg (encG y).toArray)).run Tryd.prog w = .ok (.bool (!decide (x = y))) w := by
  have h := run_equalIn_rng 9997 w x y
  rw [show 9997 + 2 + 1 = 10000 from rfl] at h
  simp only [binOp, Op.equal, Op.maxDepth, Sem.run_bind, Sem.run_pure, h, Result.andThen_ok]
theorem run_eqGuard_rng (w : World) (op : BinOp) (x y : Operand) (a b : Rng) : (eqGuard op 26 x y (.agg (encG a).toArray) (.agg (encG b).toArray)).run Tryd.prog w = .ok () w :=
  run_eqGuard_agg w op 26 x y _ _ (by kernel_rfl)
end Go.Proofs.YtefbllhpibfojaaDoor
