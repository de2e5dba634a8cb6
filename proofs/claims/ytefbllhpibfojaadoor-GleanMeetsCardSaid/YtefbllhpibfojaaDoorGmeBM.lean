/- GleanMeets: veiled: where it says no, no range in which two lists differ has one Sum of both. -/
import Derived.Test.YtefbllhpibfojaaDoorGmeAM
namespace Go.Proofs.YtefbllhpibfojaaDoor
open Go.Proofs Stab Go.Shelf Go.RowKit Go.Lib Go.Sort

/-- what is looked at: the range at a depth around a key -/
def okAt (a b : List Rec) (k : List UInt8) (d : Int) : Prop := ∀ q, goodB q = true → q.depth = d → inB q k = true → ofR q a = ofR q b → itemsR q a = itemsR q b
def prefAt (k : List UInt8) (d : Nat) : Nat := first16 k / 4 ^ (8 - d)
theorem prefAt_lt (k : List UInt8) (d : Nat) (hd : d ≤ 8) : prefAt k d < 4 ^ d := by
  unfold prefAt
  have h := first16_lt k
  refine Nat.div_lt_of_lt_mul ?_
  rw [← Nat.pow_add, Nat.sub_add_cancel hd]
  exact h
theorem pow_eight (d : Nat) (hd : d ≤ 8) : 4 ^ d ≤ 65536 := by
  have : (4 : Nat) ^ d ≤ 4 ^ 8 := Nat.pow_le_pow_right (by decide) hd
  exact this
def rngAt (k : List UInt8) (d : Nat) (hd : d ≤ 8) : Rng := ⟨d, prefAt k d, 0, zero32', rfl, by omega, by have := prefAt_lt k d hd; have := pow_eight d hd; omega, by omega⟩
theorem placeAt (k : List UInt8) (d : Nat) (hd : d ≤ 8) : placeB (rngAt k d hd).depth (rngAt k d hd).pref = true := by
  have h := prefAt_lt k d hd
  unfold placeB
  rw [decide_eq_true_eq]
  show (0 : Int) ≤ d ∧ (d : Int) ≤ 8 ∧ (0 : Int) ≤ prefAt k d ∧ (prefAt k d : Int) < 4 ^ (d : Int).toNat
  have e : ((4 ^ d : Nat) : Int) = 4 ^ (d : Int).toNat := by rw [Int.toNat_natCast, Int.natCast_pow]; rfl
  rw [← e]
  omega
theorem ofR_at {q r : Rng} (hd : q.depth = r.depth) (hp : q.pref = r.pref) (l : List Rec) : ofR q l = ofR r l := by
  have hb : itemsR (bare q) l = itemsR (bare r) l := by
    have : bare q = bare r := Rng.ext' hd hp rfl rfl
    rw [this]
  refine Rng.ext' hd hp ?_ ?_
  · show ((clampN (itemsR (bare q) l).length : Nat) : Int) = ((clampN (itemsR (bare r) l).length : Nat) : Int)
    rw [hb]
  · show Sha.sha (Sap.row ((itemsR (bare q) l).map rowB)) = Sha.sha (Sap.row ((itemsR (bare r) l).map rowB))
    rw [hb]
theorem items_at16 {q r : Rng} (hg : goodB q = true) (hr : goodB r = true) (hd : q.depth = r.depth) (hp : q.pref = r.pref) (l : List Rec) : itemsR q l = itemsR r l := by
  rw [itemsR_bare hg, itemsR_bare hr]
  have : bare q = bare r := Rng.ext' hd hp rfl rfl
  rw [this]
theorem in_at {q : Rng} {k : List UInt8} {d : Nat} (hd : d ≤ 8) (hq : q.depth = (d : Int)) (h : inB q k = true) : q.pref = (rngAt k d hd).pref := by
  unfold inB at h
  rw [Bool.and_eq_true, decide_eq_true_eq, hq] at h
  rw [← h.2]
  show (first16 k : Int) / 4 ^ (8 - (d : Int)).toNat = ((first16 k / 4 ^ (8 - d) : Nat) : Int)
  have e : (8 - (d : Int)).toNat = 8 - d := by omega
  rw [e, Int.natCast_ediv, Int.natCast_pow]
  rfl
/-- looked at, and met -/
theorem okAt_same {a b : List Rec} {k : List UInt8} {d : Nat} (hd : d ≤ 8) (hl : a.length < 1048577) (h : itemsR (ofR (rngAt k d hd) a) a = itemsR (ofR (rngAt k d hd) a) b) : okAt a b k d := by
  intro q hg hq hi _
  have hgz : goodB (ofR (rngAt k d hd) a) = true := goodB_ofR (placeAt k d hd) hl
  have hp := in_at hd hq hi
  rw [items_at16 hg hgz hq hp, items_at16 hg hgz hq hp, h]
theorem okAt_unlike {a b : List Rec} {k : List UInt8} {d : Nat} (hd : d ≤ 8) (h : ofR (rngAt k d hd) a ≠ ofR (rngAt k d hd) b) : okAt a b k d := by
  intro q hg hq hi e
  have hp := in_at hd hq hi
  rw [ofR_at hq hp, ofR_at hq hp] at e
  exact absurd e h
/-- all are looked at -/
theorem okAt_all {a b : List Rec} (h : ∀ x ∈ keptR a b, ∀ d : Nat, d ≤ 8 → okAt a b x.key d) : NoVeil a b := by
  intro q hg e
  have hd := goodB_place hg
  obtain ⟨d, hd'⟩ : ∃ d : Nat, q.depth = (d : Int) := ⟨q.depth.toNat, by omega⟩
  have key : ∀ x, (x ∈ itemsR q a ∨ x ∈ itemsR q b) → itemsR q a = itemsR q b := fun x hx => by
    have hk : inB q x.key = true := by rcases hx with hx | hx <;> exact (items_mem.1 hx).2
    have hf : find (keptR a b) x.key ≠ none := by
      rw [find_kept]
      refine or_ne.2 ?_
      rcases hx with hx | hx
      · left; rw [(items_mem.1 hx).1]; simp
      · right; rw [(items_mem.1 hx).1]; simp
    obtain ⟨y, hy, hyk⟩ := find_has.1 hf
    have := h y hy d (by omega)
    rw [hyk] at this
    exact this q hg hd' hk e
  cases h1 : itemsR q a with
  | cons x r => rw [← h1]; exact key x (.inl (by rw [h1]; exact List.mem_cons_self))
  | nil =>
    cases h2 : itemsR q b with
    | nil => rfl
    | cons x r => rw [← h1, ← h2]; exact key x (.inr (by rw [h2]; exact List.mem_cons_self))
theorem shr_at (k : List UInt8) (d : Nat) : (first16 k : Int) / 2 ^ (2 * (8 - d)) = ((prefAt k d : Nat) : Int) := by
  have e : (2 : Int) ^ (2 * (8 - d)) = ((4 ^ (8 - d) : Nat) : Int) := by
    rw [Int.pow_mul, Int.natCast_pow]
    rfl
  rw [e]
  unfold prefAt
  rw [Int.natCast_ediv]
def Veils (a b : List Rec) (w : World) (e : Ending) (w' : World) : Prop := ∃ v, e = .returned (.bool v) ∧ (v = false → NoVeil a b) ∧ Below w.heap.size w w'
set_option maxRecDepth 100000 in
set_option maxHeartbeats 8000000 in
theorem veiled_any (A : Option Addr) (c n : Nat) (a : List Rec) (B : Option Addr) (d m : Nat) (b : List Rec) (w : World) (hna : n = a.length) (hnb : m = b.length) (hA : EncIn encR 65 w A a) (hB : EncIn encR 65 w B b) (hla : n ≤ 1000) (hlb : m ≤ 1000) (hwd : Tab w 0 (u32s Sha.words)) :
    Calls Tryd.prog 39 #[.slice A n c, .slice B m d] w fun e w' => Veils a b w e w' := by
  have HA := Lib.hid (show ∀ W, Behind w W → EncIn encR 65 W A a from fun W h => hA.up h)
  have HB := Lib.hid (show ∀ W, Behind w W → EncIn encR 65 W B b from fun W h => hB.up h)
  have HNA := Lib.hid hna
  have HNB := Lib.hid hnb
  have HW := Lib.hid (show ∀ W, Behind w W → Tab W 0 (u32s Sha.words) from fun W h => hwd.below h hwd.lt)
  have HLG := Lib.hid (show ∀ x, (Tryd.prog.info? 26).map (·.size) = some (encG x).length from fun x => by rw [encG_len]; exact infoRng)
  have HLL := Lib.hid (show ∀ x y, (encG x).length = (encG y).length from fun x y => by rw [encG_len, encG_len])
  obtain ⟨L, hL⟩ : ∃ L, L = keptR a b := ⟨_, rfl⟩
  obtain ⟨N, hN⟩ : ∃ N, N = L.length := ⟨_, rfl⟩
  have hN2 : N ≤ 2000 := by
    have h1 := sortR_len (a ++ b)
    rw [List.length_append] at h1
    rw [hN, hL]
    show (sortR (a ++ b)).length ≤ 2000
    omega
  have HK := Lib.hid (show Calls Tryd.prog 38 #[.slice A n c, .slice B m d] w fun e w' => ∃ A' c', e = .returned (.slice A' N c') ∧ N ≤ c' ∧ EncIn encR 65 w' A' L ∧ Below w.heap.size w w' from by rw [hL] at hN ⊢; exact kept_any A c n a B d m b w hna hnb hA hB (by omega) (by omega) N hN)
  have HLe := Lib.hid hL
  have HN := Lib.hid hN
  clear hA hB hna hnb hwd hL hN
  go_enter Tryd.func39, Tryd.ntmps39
  go_upto_region 2 with (first
    | (go_at_call 38; (with_reducible refine Calls.mono HK.out ?_); rintro e w1 ⟨A5, c5, rfl, _, hE, hb⟩; have HE5 := Lib.hid hE; have HB1 := Lib.hid (show Behind w w1 from hb); clear hE hb))
  have HS5 := Lib.hid (show ∀ W, Behind w1 W → EncIn encR 65 W A5 L from fun W h => HE5.out.up h)
  go_wp2_with fail
  go_loopg [6] N (fun gg s6 wr => ∃ i : Nat, s6 = .int .i64 i ∧ i ≤ N ∧ N - i ≤ gg ∧ Hid (∀ j (h : j < L.length), j < i → ∀ d : Nat, d ≤ 8 → okAt a b L[j].key d) ∧ Hid (Behind w1 wr))
  case atStart => exact ⟨0, rfl, Nat.zero_le _, by omega, (show Hid _ from fun j h hj => absurd hj (Nat.not_lt_zero _)), Behind.refl _⟩
  case round =>
    obtain ⟨i, rfl, hi, hgg, HO, HQ⟩ := hrel
    generalize wr = wo at *
    by_cases hlt : i < N
    · have hltz : (i : Int) < (N : Int) := by omega
      have i0 : (0 : Int) ≤ (i : Int) := by omega
      have hil : i < L.length := by have := HN.out; omega
      obtain ⟨gX, oX, hAX, hgX, hrX⟩ := (HS5.out w1 (Behind.refl _)).at hil
      obtain ⟨k, hk⟩ : ∃ k, k = L[i].key := ⟨_, rfl⟩
      have hkl : k.length = 32 := by rw [hk]; exact L[i].hk
      have hr := rec_key hrX
      rw [← hk] at hr
      obtain ⟨x0, hx0⟩ : ∃ x, x = k.getD 0 0 := ⟨_, rfl⟩
      obtain ⟨x1, hx1⟩ : ∃ x, x = k.getD 1 0 := ⟨_, rfl⟩
      have HX0 := Lib.hid (show ∀ W, Behind w1 W → W.cell? ⟨gX, oX + i * 65, none⟩ = some (.int .u8 (x0.toNat : Int)) from fun W h => range_below' hr h hgX 0 _ (by rw [hx0]; exact u8s_getD k 0 (by omega)))
      have HX1 := Lib.hid (show ∀ W, Behind w1 W → W.cell? ⟨gX, oX + i * 65 + 1, none⟩ = some (.int .u8 (x1.toNat : Int)) from fun W h => range_below' hr h hgX 1 _ (by rw [hx1]; exact u8s_getD k 1 (by omega)))
      have lx0 := x0.toNat_lt
      have lx1 := x1.toNat_lt
      obtain ⟨F, hF⟩ : ∃ F, F = first16 k := ⟨_, rfl⟩
      have hFe : F = x0.toNat * 256 + x1.toNat := by rw [hF, hx0, hx1]; rfl
      have hor : bits .or .i64 ((x0.toNat : Int) * 256) (x1.toNat : Int) = (F : Int) := by rw [first_num, ← hFe]
      have hFl : F < 65536 := by omega
      obtain ⟨u0, hu0⟩ : ∃ u, u = x0.toNat := ⟨_, rfl⟩
      obtain ⟨u1, hu1⟩ : ∃ u, u = x1.toNat := ⟨_, rfl⟩
      rw [← hu0] at HX0 lx0 hor
      rw [← hu1] at HX1 lx1 hor
      have HF := Lib.hid hF
      have HKK := Lib.hid hk
      clear hr hrX hgX hx0 hx1 hF hFe hk hkl hu0 hu1
      subst hAX
      go_upto_region 6 with fail
      go_wp2_with fail
      go_loopg [7] 9 (fun gg s7 wr => ∃ e : Nat, s7 = .int .i64 e ∧ e ≤ 9 ∧ 9 - e ≤ gg ∧ Hid (∀ d : Nat, d < e → okAt a b k d) ∧ Hid (Behind w1 wr))
      case atStart => exact ⟨0, rfl, Nat.zero_le _, by omega, (show Hid _ from fun j hj => absurd hj (Nat.not_lt_zero _)), HQ.out⟩
      case round =>
        obtain ⟨e, rfl, he, hee, HD, HQ2⟩ := hrel
        by_cases hle : e ≤ 8
        · have hlez : (e : Int) ≤ 8 := by omega
          have e0 : (0 : Int) ≤ (e : Int) := by omega
          have e1 : IntKind.i64.wrap (8 - (e : Int)) = 8 - e := IntWalk.i64_in _ (by omega)
          have e2 : IntKind.i64.wrap (2 * (8 - (e : Int))) = 2 * (8 - e) := IntWalk.i64_in _ (by omega)
          have e3 : (0 : Int) ≤ 2 * (8 - (e : Int)) := by omega
          obtain ⟨p, hp⟩ : ∃ p, p = prefAt k e := ⟨_, rfl⟩
          have hsh : (F : Int) / 2 ^ (2 * (8 - e)) = (p : Int) := by rw [HF.out, hp]; exact shr_at k e
          obtain ⟨q, hq⟩ : ∃ q, q = rngAt k e hle := ⟨_, rfl⟩
          have hqd : q.depth = (e : Int) := by rw [hq]; rfl
          have hqp : q.pref = (p : Int) := by rw [hq, hp]; rfl
          have hpl : placeB q.depth q.pref = true := by rw [hq]; exact placeAt k e hle
          obtain ⟨za, hza⟩ : ∃ z, z = ofR q a := ⟨_, rfl⟩
          obtain ⟨zb, hzb⟩ : ∃ z, z = ofR q b := ⟨_, rfl⟩
          have HOA := Lib.hid (show ∀ W, Behind w W → Calls Tryd.prog 15 #[.int .i64 (e : Int), .int .i64 (p : Int), .slice A n c] W fun e w' => e = .returned (.tuple #[.agg (encG za).toArray, .int .i64 0]) ∧ Below W.heap.size W w' from fun W hW => by
            have h := of_at q hpl A c n a W HNA.out (HA.out W hW) (by omega) (HW.out W hW) za hza
            rw [hqd, hqp] at h
            exact h)
          have HOB := Lib.hid (show ∀ W, Behind w W → Calls Tryd.prog 15 #[.int .i64 (e : Int), .int .i64 (p : Int), .slice B m d] W fun e w' => e = .returned (.tuple #[.agg (encG zb).toArray, .int .i64 0]) ∧ Below W.heap.size W w' from fun W hW => by
            have h := of_at q hpl B d m b W HNB.out (HB.out W hW) (by omega) (HW.out W hW) zb hzb
            rw [hqd, hqp] at h
            exact h)
          have HSH := Lib.hid hsh
          have HPZ := Lib.hid (show q = rngAt k e hle ∧ za = ofR q a ∧ zb = ofR q b from ⟨hq, hza, hzb⟩)
          clear hp hsh hq hqd hqp hpl hza hzb
          go_wp2_with fail
          refine wp_region_class (Behind wr) (by kernel_rfl) (by kernel_rfl) (Below.refl _ _).drew ?_
          iterate 21 (first
            | go_big_quiet_skip
            | ((with_reducible refine wpQuiet_load1 (.int .u8 (u0 : Int)) (by with_unfolding_all rfl) 5 _ (by with_unfolding_all rfl) .u8 Tryd.underlying5 gX (oX + i * 65) (by with_unfolding_all rfl) (fun w h => HX0.out w (Behind.trM HQ2.out h)) ?_); simp only [Act.put, List.setIfInBounds_toArray, List.set_cons_zero, List.set_cons_succ])
            | ((with_reducible refine wpQuiet_load1 (.int .u8 (u1 : Int)) (by with_unfolding_all rfl) 5 _ (by with_unfolding_all rfl) .u8 Tryd.underlying5 gX (oX + i * 65 + 1) (by with_unfolding_all rfl) (fun w h => HX1.out w (Behind.trM HQ2.out h)) ?_); simp only [Act.put, List.setIfInBounds_toArray, List.set_cons_zero, List.set_cons_succ])
            | (go_big_quiet_step (exact fun _ => rfl)))
          with_reducible refine wpQuiet_nil ?_
          intro w8 hw8
          have HQ8 := Lib.hid (show Behind wr w8 from hw8)
          clear hw8
          have HQw := Lib.hid (show Behind w w8 from Behind.trM HB1.out (Behind.trM HQ2.out HQ8.out))
          rw [HSH.out]
          go_upto_region 11 with (first
            | (go_at_call 15; (with_reducible refine Calls.mono (HOA.out _ HQw.out) ?_); rintro e wa ⟨rfl, hb⟩; have HQwa := Lib.hid (show Behind w8 wa from hb); clear hb)
            | ((with_reducible refine wpList_allocZ (o := ⟨some 9, _, _, _, _, _⟩) 26 (encG default) rfl rfl zeroRng ?_); intro g9 wb hg hat hb; have HAT9 := Lib.hid hat; have HBA9 := Lib.hid hb; have HGE9 := Lib.hid hg; clear hat hb hg)
            | ((with_reducible refine wpList_storeAll rfl 26 (.tmp 9) (.tmp 51) rfl g9 rfl _ _ (encG za) HAT9.out rfl (HLL.out _ _) (HLG.out _) (encG_one _) ?_); intro wc hat hg hs; have hbb := Below.ofGrown HBA9.out hg HBA9.out.size (Nat.le_of_eq HGE9.out.symm); have HZ9wc := Lib.hid hat; have HQwc := Lib.hid (show Behind w8 wc from HQwa.out.trans (hbb.mono HQwa.out.size)); clear hat hg hs hbb)
            | (go_at_call 15; (with_reducible refine Calls.mono (HOB.out _ (Behind.trM HQw.out HQwc.out)) ?_); rintro e wd ⟨rfl, hb⟩; have HQwd := Lib.hid (show Behind w8 wd from HQwc.out.trans (hb.mono HQwc.out.size)); have HZ9wd := Lib.hid (HZ9wc.out.below hb HZ9wc.out.lt); clear hb)
            | ((with_reducible refine wpList_allocZ (o := ⟨some 11, _, _, _, _, _⟩) 26 (encG default) rfl rfl zeroRng ?_); intro g11 we hg hat hb; have HAT11 := Lib.hid hat; have HBA11 := Lib.hid hb; have HGE11 := Lib.hid hg; clear hat hb hg)
            | ((with_reducible refine wpList_storeAll rfl 26 (.tmp 11) (.tmp 58) rfl g11 rfl _ _ (encG zb) HAT11.out rfl (HLL.out _ _) (HLG.out _) (encG_one _) ?_); intro wf hat hg hs; have hbb := Below.ofGrown HBA11.out hg HBA11.out.size (Nat.le_of_eq HGE11.out.symm); have HZ11wf := Lib.hid hat; have HQwf := Lib.hid (show Behind w8 wf from HQwd.out.trans (hbb.mono HQwd.out.size)); have HZ9wf := Lib.hid (HZ9wd.out.below hbb HZ9wd.out.lt); have HBwf := Lib.hid (show Behind w wf from Behind.trM HQw.out HQwf.out); have HKwf := Lib.hid (show Behind w1 wf from Behind.trM HQ2.out (Behind.trM HQ8.out HQwf.out)); clear hat hg hs hbb))
          have HSA := Lib.hid (show ∀ W, Behind wf W → At W g9 26 (encG za) from fun W h => HZ9wf.out.below h HZ9wf.out.lt)
          have HSB := Lib.hid (show ∀ W, Behind wf W → At W g11 26 (encG zb) from fun W h => HZ11wf.out.below h HZ11wf.out.lt)
          have HQf := Lib.hid (show Behind w wf from HBwf.out)
          have HQf1 := Lib.hid (show Behind w1 wf from HKwf.out)
          by_cases hz : za = zb
          · have HEQ := Lib.hid (show ∀ w, (binOp .eql 26 (.agg (encG za).toArray) (.agg (encG zb).toArray)).run Tryd.prog w = .ok (.bool true) w from fun w => by have h := run_eql_rng w za zb; rw [decide_eq_true hz] at h; exact h)
            obtain ⟨Ia, hIa⟩ : ∃ I, I = itemsR za a := ⟨_, rfl⟩
            obtain ⟨Ib, hIb⟩ : ∃ I, I = itemsR za b := ⟨_, rfl⟩
            obtain ⟨na, hna⟩ : ∃ k, k = Ia.length := ⟨_, rfl⟩
            obtain ⟨nb, hnb⟩ : ∃ k, k = Ib.length := ⟨_, rfl⟩
            have hna1 : na ≤ 1000 := by have := itemsR_len za a; have := HNA.out; rw [hna, hIa]; omega
            have hnb1 : nb ≤ 1000 := by have := itemsR_len za b; have := HNB.out; rw [hnb, hIb]; omega
            have HIA := Lib.hid (show ∀ W, Behind w W → Calls Tryd.prog 17 #[.agg (encG za).toArray, .slice A n c] W fun e w' => ∃ A' c', e = .returned (.slice A' na c') ∧ na ≤ c' ∧ EncIn encR 65 w' A' Ia ∧ Below W.heap.size W w' from fun W hW => by rw [hIa] at hna ⊢; exact items_slice za A c a W n na HNA.out hna (HA.out W hW) (by omega))
            have HIB := Lib.hid (show ∀ W, Behind w W → Calls Tryd.prog 17 #[.agg (encG za).toArray, .slice B m d] W fun e w' => ∃ A' c', e = .returned (.slice A' nb c') ∧ nb ≤ c' ∧ EncIn encR 65 w' A' Ib ∧ Below W.heap.size W w' from fun W hW => by rw [hIb] at hnb ⊢; exact items_slice za B d b W m nb HNB.out hnb (HB.out W hW) (by omega))
            obtain ⟨sm, hsm⟩ : ∃ s, s = decide (Ia = Ib) := ⟨_, rfl⟩
            have HSM := Lib.hid hsm
            have HIE := Lib.hid (And.intro hIa hIb)
            have HNI := Lib.hid (And.intro hna hnb)
            have HZZ := Lib.hid hz
            clear hz hIa hIb hna hnb hsm
            refine wp_region_mix [(0, true), (1, true), (2, true), (3, true), (4, true), (5, true), (6, true), (7, true), (8, true), (9, true), (10, true), (11, true), (12, true), (13, true), (15, true), (16, true), (14, false), (17, false), (18, false), (19, true), (20, true)] (Behind wf)
              (by kernel_rfl) (by kernel_rfl) (fun _ _ d _ _ h => by cases d <;> exact h) (by kernel_rfl) (by decide) (Below.refl _ _).drew ?_
            have hz0 : Behind wf wf.drew := (Below.refl _ _).drew
            repeat (
              refine wpMix_q (by with_unfolding_all rfl) (by kernel_rfl) ?_
              first
                | go_big_quiet_skip
                | ((with_reducible refine wpQuiet_loadAll (by with_unfolding_all rfl) 26 _ (by with_unfolding_all rfl) g9 (0) (by with_unfolding_all rfl) (encG za) _ (fun w h => (HSA.out w h).all) Tryd.underlying26 (by with_unfolding_all rfl) (HLG.out za) ?_); simp only [Act.put, List.setIfInBounds_toArray, List.set_cons_zero, List.set_cons_succ])
                | ((with_reducible refine wpQuiet_loadAll (by with_unfolding_all rfl) 26 _ (by with_unfolding_all rfl) g11 (0) (by with_unfolding_all rfl) (encG zb) _ (fun w h => (HSB.out w h).all) Tryd.underlying26 (by with_unfolding_all rfl) (HLG.out zb) ?_); simp only [Act.put, List.setIfInBounds_toArray, List.set_cons_zero, List.set_cons_succ])
                | ((with_reducible refine wpQuiet_bin (by with_unfolding_all rfl) .eql 26 _ _ _ (by with_unfolding_all rfl) (.agg (encG za).toArray) (.agg (encG zb).toArray) (.bool true) (by with_unfolding_all rfl) (by with_unfolding_all rfl) (fun w => run_eqGuard_rng w _ _ _ _ _) HEQ.out ?_); simp only [Act.put, List.setIfInBounds_toArray, List.set_cons_zero, List.set_cons_succ])
                | (go_big_quiet_step (exact fun _ => rfl))
              refine wpMix_qnil ?_)
            refine wpMix_call 17 [.agg (encG za).toArray, .slice A n c] (fun v w' => ∃ A' c', v = .slice A' na c' ∧ EncIn encR 65 w' A' Ia) (by with_unfolding_all rfl) (by with_unfolding_all rfl) (by with_unfolding_all rfl) ((HIA.out _ (Behind.trM HQf.out hz0)).mono (fun e w' ⟨A', c', he, _, hE, hb⟩ => ⟨_, he, Behind.trans' hz0 hb, A', c', rfl, hE⟩)) ?_
            rintro v1 z1 hz1 ⟨A1, c1, rfl, hE1⟩
            simp only [Act.put, List.setIfInBounds_toArray, List.set_cons_zero, List.set_cons_succ]
            refine wpMix_call 17 [.agg (encG za).toArray, .slice B m d] (fun v w' => ∃ A' c', v = .slice A' nb c' ∧ EncIn encR 65 w' A' Ib ∧ Below z1.heap.size z1 w') (by with_unfolding_all rfl) (by with_unfolding_all rfl) (by with_unfolding_all rfl) ((HIB.out _ (Behind.trM HQf.out hz1)).mono (fun e w' ⟨A', c', he, _, hE, hb⟩ => ⟨_, he, Behind.trans' hz1 hb, A', c', rfl, hE, hb⟩)) ?_
            rintro v2 z2 hz2 ⟨A2, c2, rfl, hE2, hb2⟩
            simp only [Act.put, List.setIfInBounds_toArray, List.set_cons_zero, List.set_cons_succ]
            refine mix_callv 76 [.slice A1 na c1, .slice A2 nb c2] (.bool sm) (by with_unfolding_all rfl) (by with_unfolding_all rfl) (by with_unfolding_all rfl) ((same16_any A1 A2 c1 c2 Ia Ib na nb z2 HNI.out.1 HNI.out.2 (hE1.up hb2) hE2 (by omega) (by omega)).mono (fun e w' ⟨he, hb⟩ => ⟨by rw [he, HSM.out], Behind.trans' hz2 hb⟩)) ?_
            intro z3 hz3
            simp only [Act.put, List.setIfInBounds_toArray, List.set_cons_zero, List.set_cons_succ]
            repeat (
              refine wpMix_q (by with_unfolding_all rfl) (by kernel_rfl) ?_
              first
                | go_big_quiet_skip
                | (go_big_quiet_step (exact fun _ => rfl))
              refine wpMix_qnil ?_)
            refine wpMix_nil ?_
            have HQ3 := Lib.hid (show Behind wf z3 from hz3)
            clear hz0 hz1 hE1 hz2 hE2 hb2 hz3
            cases sm with
            | true =>
              have HOK := Lib.hid (show okAt a b k e by
                have h1 := HIE.out
                have h2 := of_decide_eq_true HSM.out.symm
                rw [h1.1, h1.2, HPZ.out.2.1, HPZ.out.1] at h2
                exact okAt_same hle (by have := HNA.out; omega) h2)
              go_wp2_with fail
              go_roundg (9 - (e + 1))
              case measure => omega
              case rel => exact ⟨e + 1, by go_num, by omega, Nat.le_refl _, (show Hid _ from fun d' h => by rcases Nat.lt_or_eq_of_le (Nat.le_of_lt_succ h) with h | h; exact HD.out d' h; exact h ▸ HOK.out), Behind.trM HQf1.out HQ3.out⟩
            | false =>
              go_wp2_with fail
              go_ret
              exact ⟨_, rfl, fun h => (by cases h), Behind.trM HQf.out HQ3.out⟩
          · have HEQ := Lib.hid (show ∀ w, (binOp .eql 26 (.agg (encG za).toArray) (.agg (encG zb).toArray)).run Tryd.prog w = .ok (.bool false) w from fun w => by have h := run_eql_rng w za zb; rw [decide_eq_false hz] at h; exact h)
            have HOK := Lib.hid (show okAt a b k e by
              have h1 := HPZ.out
              rw [h1.2.1, h1.2.2, h1.1] at hz
              exact okAt_unlike hle hz)
            clear hz
            refine wp_region_mix [(0, true), (1, true), (2, true), (3, true), (4, true), (5, true), (6, true), (7, true), (8, true), (9, true), (10, true), (11, true), (12, true), (13, true), (15, true), (16, true), (14, false), (17, false), (18, false), (19, true), (20, true)] (Behind wf)
              (by kernel_rfl) (by kernel_rfl) (fun _ _ d _ _ h => by cases d <;> exact h) (by kernel_rfl) (by decide) (Below.refl _ _).drew ?_
            have hz0 : Behind wf wf.drew := (Below.refl _ _).drew
            repeat (
              refine wpMix_q (by with_unfolding_all rfl) (by kernel_rfl) ?_
              first
                | go_big_quiet_skip
                | ((with_reducible refine wpQuiet_loadAll (by with_unfolding_all rfl) 26 _ (by with_unfolding_all rfl) g9 (0) (by with_unfolding_all rfl) (encG za) _ (fun w h => (HSA.out w h).all) Tryd.underlying26 (by with_unfolding_all rfl) (HLG.out za) ?_); simp only [Act.put, List.setIfInBounds_toArray, List.set_cons_zero, List.set_cons_succ])
                | ((with_reducible refine wpQuiet_loadAll (by with_unfolding_all rfl) 26 _ (by with_unfolding_all rfl) g11 (0) (by with_unfolding_all rfl) (encG zb) _ (fun w h => (HSB.out w h).all) Tryd.underlying26 (by with_unfolding_all rfl) (HLG.out zb) ?_); simp only [Act.put, List.setIfInBounds_toArray, List.set_cons_zero, List.set_cons_succ])
                | ((with_reducible refine wpQuiet_bin (by with_unfolding_all rfl) .eql 26 _ _ _ (by with_unfolding_all rfl) (.agg (encG za).toArray) (.agg (encG zb).toArray) (.bool false) (by with_unfolding_all rfl) (by with_unfolding_all rfl) (fun w => run_eqGuard_rng w _ _ _ _ _) HEQ.out ?_); simp only [Act.put, List.setIfInBounds_toArray, List.set_cons_zero, List.set_cons_succ])
                | (go_big_quiet_step (exact fun _ => rfl))
              refine wpMix_qnil ?_)
            refine wpMix_skip (by with_unfolding_all rfl) (by with_unfolding_all rfl) hz0 ?_
            simp only [Act.put, List.setIfInBounds_toArray, List.set_cons_zero, List.set_cons_succ]
            refine wpMix_skip (by with_unfolding_all rfl) (by with_unfolding_all rfl) hz0 ?_
            simp only [Act.put, List.setIfInBounds_toArray, List.set_cons_zero, List.set_cons_succ]
            refine wpMix_skip (by with_unfolding_all rfl) (by with_unfolding_all rfl) hz0 ?_
            simp only [Act.put, List.setIfInBounds_toArray, List.set_cons_zero, List.set_cons_succ]
            repeat (
              refine wpMix_q (by with_unfolding_all rfl) (by kernel_rfl) ?_
              first
                | go_big_quiet_skip
                | (go_big_quiet_step (exact fun _ => rfl))
              refine wpMix_qnil ?_)
            refine wpMix_nil ?_
            have hz3 : Behind wf wf.drew := hz0
            generalize wf.drew = z3 at hz3 ⊢
            have HQ3 := Lib.hid (show Behind wf z3 from hz3)
            clear hz0 hz3
            go_wp2_with fail
            go_roundg (9 - (e + 1))
            case measure => omega
            case rel => exact ⟨e + 1, by go_num, by omega, Nat.le_refl _, (show Hid _ from fun d' h => by rcases Nat.lt_or_eq_of_le (Nat.le_of_lt_succ h) with h | h; exact HD.out d' h; exact h ▸ HOK.out), Behind.trM HQf1.out HQ3.out⟩
        · have hlez : ¬ (e : Int) ≤ 8 := by omega
          have HNX := Lib.hid (show ∀ j (h : j < L.length), j < i + 1 → ∀ d : Nat, d ≤ 8 → okAt a b L[j].key d from fun j h hj d hd => by
            rcases Nat.lt_or_eq_of_le (Nat.le_of_lt_succ hj) with h2 | h2
            · exact HO.out j h h2 d hd
            · subst h2
              rw [← HKK.out]
              exact HD.out d (by omega))
          go_wp2_with fail
          go_roundg (N - (i + 1))
          case measure => omega
          case rel => exact ⟨i + 1, by go_num, by omega, Nat.le_refl _, HNX.out, HQ2.out⟩
    · have hltz : ¬ (i : Int) < (N : Int) := by omega
      have hin : N ≤ i := by omega
      go_wp2_with fail
      go_ret
      refine ⟨_, rfl, fun _ => okAt_all fun x hx d hd => ?_, Behind.trM HB1.out HQ.out⟩
      rw [← HLe.out] at hx
      obtain ⟨j, hj, rfl⟩ := List.getElem_of_mem hx
      exact HO.out j hj (by have := HN.out; omega) d hd
end Go.Proofs.YtefbllhpibfojaaDoor
