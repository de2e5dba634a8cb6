/- HazeAges: the plain law, the walk. -/
import Derived.Test.YtcpnlojcmlldpaaMixB
import Derived.Test.YtcpnlojcmlldpaaJoinsP
namespace Go.Proofs.Ytcpnlojcmlldpaa
open Go.RowKit Go.Maps Go.Sort

/-- one node is known -/
def onlyC (n : Int) (c : Cloud) : Clouds := fun k => if k = n then some c else none
theorem upd_none (n : Int) (c : Cloud) : Sk.upd (fun _ => none) n c = onlyC n c := by
  funext k
  unfold Sk.upd onlyC
  rfl
theorem upd_only (n : Int) (c c' : Cloud) : Sk.upd (onlyC n c) n c' = onlyC n c' := by
  funext k
  unfold Sk.upd onlyC
  split <;> rfl
theorem del_only (n : Int) (c : Cloud) : Sk.del (onlyC n c) n = fun _ => none := by
  funext k
  unfold Sk.del onlyC
  by_cases h : k = n <;> simp [h]
theorem may_none (key : List UInt8) (now : Int) : mayS (fun _ => none) key now = [] := by
  unfold mayS keysOf
  simp
theorem may_only {n : Int} (h1 : 1 ≤ n) (h2 : n ≤ 6) (c : Cloud) (key : List UInt8) (now : Int) : mayS (onlyC n c) key now = if tells key now c = true then [n] else [] := by
  have hn : n = 1 ∨ n = 2 ∨ n = 3 ∨ n = 4 ∨ n = 5 ∨ n = 6 := by omega
  rcases hn with rfl | rfl | rfl | rfl | rfl | rfl <;> (unfold mayS keysOf onlyC Sk.nodes; cases h : tells key now c <;> simp [h])
theorem put_only {n from' : Int} (h1 : 1 ≤ n) (h2 : n ≤ 6) (h3 : 0 ≤ from') (h4 : from' ≤ 1099511627776) (f : Clouds) (h : List UInt8) : putS f n h from' = Sk.upd f n ⟨h, from'⟩ := by
  unfold putS
  rw [if_pos ⟨h1, h2, h3, h4⟩]

theorem has_zero (a : List UInt8) : Hz.has Hz.zero a = false := by
  rw [Bool.eq_false_iff]
  intro h
  have := (Hz.has_iff rfl a).1 h (Hz.mark a 0) List.mem_cons_self
  rw [Hz.bit_zero] at this
  cases this
theorem may_yes {n : Int} (h1 : 1 ≤ n) (h2 : n ≤ 6) {c : Cloud} {key : List UInt8} {now : Int} (h : tells key now c = true) : mayS (onlyC n c) key now = [n] := by rw [may_only h1 h2, h]; rfl
theorem may_no {n : Int} (h1 : 1 ≤ n) (h2 : n ≤ 6) {c : Cloud} {key : List UInt8} {now : Int} (h : tells key now c = false) : mayS (onlyC n c) key now = [] := by rw [may_only h1 h2, h]; rfl
theorem node_num (node : Int) : 1 ≤ wrap64 (1 + wrap64 ((IntKind.u64.wrap node).tmod 6)) ∧ wrap64 (1 + wrap64 ((IntKind.u64.wrap node).tmod 6)) ≤ 6 := by
  have h0 : 0 ≤ IntKind.u64.wrap node := by rw [IntKind.wrap_u64]; omega
  rw [Int.tmod_eq_emod_of_nonneg h0]
  unfold wrap64
  omega
theorem at_range {w : World} {b : Nat} {t : TypeId} {cs : List Value} (h : At w b t cs) : w.rangeAt b 0 cs := fun j v hv => by
  rw [Nat.zero_add]
  exact h.cell' hv

set_option maxRecDepth 100000 in
set_option maxHeartbeats 400000 in
theorem ages_any (node : Int) (key : List UInt8) (frm now : Int) (w : World) (_ : -9223372036854775808 ≤ node ∧ node ≤ 9223372036854775807) (hk : key.length = 32) (_ : -9223372036854775808 ≤ frm ∧ frm ≤ 9223372036854775807) (hnow : -9223372036854775808 ≤ now ∧ now ≤ 9223372036854775807) :
    Calls Try.prog 5 #[.int .i64 node, .agg (u8s key).toArray, .int .i64 frm, .int .i64 now] w fun e w' => e = .returned (.bool true) ∧ Below w.heap.size w w' := by
  have hik : (Try.prog.info? 23).map (·.size) = some (u8s key).toArray.size := by
    rw [List.size_toArray, u8s_len, hk]
    kernel_rfl
  have HUD := Lib.hid Try.underlying23
  have HIK := Lib.hid (show (Try.prog.info? 23).map (·.size) = some (u8s key).length by rw [u8s_len, hk]; kernel_rfl)
  have HLK := Lib.hid hk
  clear hk
  go_enter Try.func5, Try.ntmps5
  go_wp2_with fail
  refine (awake_any _).mono ?_
  rintro e w1 ⟨rfl, hb⟩
  have hA0 : At (w.alloc (.cells (u8s key).toArray 23)) w.heap.size 23 (u8s key) := At.newA w _ rfl
  have hA1 := hA0.below hb hA0.lt
  have hb1 : Below w.heap.size w w1 := ((Below.refl _ _).alloc (Nat.le_refl _) _).trans (hb.mono (by simp))
  have HA1 := Lib.hid hA1
  have HB1 := Lib.hid hb1
  clear hA0 hA1 hb hb1 hik
  have HAc := HA1
  have HBc := HB1
  clear HA1 HB1
  by_cases hf1 : frm < 0
  · go_wp2_with fail
    go_ret
    exact ⟨rfl, HBc.out⟩
  by_cases hf2 : 1099511627776 < frm
  · go_wp2_with fail
    go_ret
    exact ⟨rfl, HBc.out⟩
  go_wp2_with fail
  obtain ⟨n, hn⟩ : ∃ n, n = wrap64 (1 + wrap64 ((IntKind.u64.wrap node).tmod 6)) := ⟨_, rfl⟩
  have hn12 : 1 ≤ n ∧ n ≤ 6 := by rw [hn]; exact node_num node
  rw [← hn]
  obtain ⟨hn1, hn2⟩ := hn12
  clear hn
  obtain ⟨h, hh⟩ : ∃ h, h = Hz.withKeys Hz.zero [key] := ⟨_, rfl⟩
  have hhl : h.length = 64 := by rw [hh, Hz.withKeys_len]; rfl
  have HH := Lib.hid hh
  have HHL := Lib.hid hhl
  have HTF := Lib.hid (show tells key frm ⟨h, frm⟩ = true by unfold tells; simp only [hh, Hz.has_keys (l := [key]) Hz.zero_len List.mem_cons_self]; simp; omega)
  have HHK := Lib.hid (show Hz.has h key = true by rw [hh]; exact Hz.has_keys (l := [key]) Hz.zero_len List.mem_cons_self)
  have HT0 := Lib.hid (show tells key frm ⟨Hz.zero, frm⟩ = false by unfold tells; simp only [has_zero]; simp)
  clear hh hhl
  refine (sky_new (H := Unit) w1).mono ?_
  rintro e w2 ⟨p, b, rfl, hS2, hb, hp, hbb⟩
  have hbw : w.heap.size ≤ b := Nat.le_trans HBc.out.size hbb
  have hqb : w.heap.size < b := Nat.lt_of_lt_of_le HAc.out.lt hbb
  have HA' := Lib.hid (HAc.out.below hb HAc.out.lt)
  have HB' := Lib.hid (HBc.out.trans (hb.mono HBc.out.size))
  clear HAc HBc hb
  have HAc := HA'
  have HBc := HB'
  have HSc := Lib.hid hS2
  clear HA' HB' hS2
  go_wp2_with (first | (with_reducible refine wpList_loadW rfl 23 (.tmp 5) rfl _ 0 rfl _ _ (at_range HAc.out) HUD.out rfl HIK.out ?_) | (refine wpList_build_dg rfl key HLK.out (.tmp 29) rfl rfl ?_))
  refine (of_any _ _ [key] _ (one_key_at _ key rfl) (by intro x hx; rw [List.mem_singleton.1 hx]; exact HLK.out) (by simp [maxLen])).mono ?_
  rw [← HH.out]
  rintro e wo ⟨rfl, hbo⟩
  have hb := Below.trans ((Below.refl _ _).alloc (Nat.le_refl _) _) (hbo.mono (by simp))
  clear hbo
  have HA' := Lib.hid (HAc.out.below hb HAc.out.lt)
  have HB' := Lib.hid (HBc.out.trans (hb.mono HBc.out.size))
  have HS' := Lib.hid (sky_below HSc.out hb)
  clear HAc HBc HSc hb
  have HAc := HA'
  have HBc := HB'
  have HSc := HS'
  clear HA' HB' HS'
  go_wp2_with fail
  refine (sky_put HSc.out (by omega) n h HHL.out frm (by omega)).mono ?_
  rintro e wp ⟨rfl, hS, hg⟩
  rw [put_only hn1 hn2 hf1 hf2] at hS
  have HA' := Lib.hid (HAc.out.grown hg (by intro e; injection e with e; omega))
  have HB' := Lib.hid (Below.ofGrown HBc.out hg HBc.out.size hbw)
  clear HAc HBc HSc hg
  have HAc := HA'
  have HBc := HB'
  clear HA' HB'
  rw [upd_none] at hS
  have HSc := Lib.hid hS
  clear hS
  go_wp2_with (first | (with_reducible refine wpList_loadW rfl 23 (.tmp 5) rfl _ 0 rfl _ _ (at_range HAc.out) HUD.out rfl HIK.out ?_))
  by_cases hx1 : frm ≤ now
  · by_cases hx2 : now ≤ frm + 40
    · have HT := Lib.hid (show tells key now ⟨h, frm⟩ = true from by unfold tells; simp only [HHK.out]; simp; omega)
      refine (may_any HSc.out key HLK.out now).mono ?_
      rw [may_yes hn1 hn2 HT.out]
      rintro e wm ⟨v1, rfl, hO, hb⟩
      obtain ⟨A1, c1, rfl, hI⟩ := ints_own hO
      have HI := Lib.hid hI
      have HA' := Lib.hid (HAc.out.below hb HAc.out.lt)
      have HB' := Lib.hid (HBc.out.trans (hb.mono HBc.out.size))
      have HS' := Lib.hid (sky_below HSc.out hb)
      clear HAc HBc HSc hb
      have HAc := HA'
      have HBc := HB'
      have HSc := HS'
      clear HA' HB' HS'
      clear hO hI
      obtain ⟨gI, oI, rfl, hgI, hcI⟩ := HI.out (by simp)
      have cI := hcI 0 (by simp)
      rw [Nat.add_zero, List.getElem_cons_zero] at cI
      have hx3 : now - frm ≤ 40 := by omega
      clear hcI HI
      go_wp2_with (first | (with_reducible refine wpList_loadW rfl 23 (.tmp 5) rfl _ 0 rfl _ _ (at_range HAc.out) HUD.out rfl HIK.out ?_))
      refine (may_any HSc.out key HLK.out frm).mono ?_
      rw [may_yes hn1 hn2 HTF.out]
      rintro e wm ⟨v2, rfl, hO, hb⟩
      obtain ⟨A2', c2', rfl, _⟩ := ints_own hO
      have HA' := Lib.hid (HAc.out.below hb HAc.out.lt)
      have HB' := Lib.hid (HBc.out.trans (hb.mono HBc.out.size))
      have HS' := Lib.hid (sky_below HSc.out hb)
      clear HAc HBc HSc hb
      have HAc := HA'
      have HBc := HB'
      have HSc := HS'
      clear HA' HB' HS'
      clear hO
      go_wp2_with fail
      refine (sky_put HSc.out (by omega) n Hz.zero rfl frm (by omega)).mono ?_
      rintro e wp ⟨rfl, hS, hg⟩
      rw [put_only hn1 hn2 hf1 hf2] at hS
      have HA' := Lib.hid (HAc.out.grown hg (by intro e; injection e with e; omega))
      have HB' := Lib.hid (Below.ofGrown HBc.out hg HBc.out.size hbw)
      clear HAc HBc HSc hg
      have HAc := HA'
      have HBc := HB'
      clear HA' HB'
      rw [upd_only] at hS
      have HSc := Lib.hid hS
      clear hS
      go_wp2_with (first | (with_reducible refine wpList_loadW rfl 23 (.tmp 5) rfl _ 0 rfl _ _ (at_range HAc.out) HUD.out rfl HIK.out ?_))
      refine (may_any HSc.out key HLK.out frm).mono ?_
      rw [may_no hn1 hn2 HT0.out]
      rintro e wm ⟨v2, rfl, hO, hb⟩
      obtain ⟨A2, c2, rfl, _⟩ := ints_own hO
      have HA' := Lib.hid (HAc.out.below hb HAc.out.lt)
      have HB' := Lib.hid (HBc.out.trans (hb.mono HBc.out.size))
      have HS' := Lib.hid (sky_below HSc.out hb)
      clear HAc HBc HSc hb
      have HAc := HA'
      have HBc := HB'
      have HSc := HS'
      clear HA' HB' HS'
      clear hO
      go_wp2_with (first | (with_reducible refine wpList_loadW rfl 23 (.tmp 5) rfl _ 0 rfl _ _ (at_range HAc.out) HUD.out rfl HIK.out ?_) | (refine wpList_build_dg rfl key HLK.out (.tmp 83) rfl rfl ?_))
      refine (of_any _ _ [key] _ (one_key_at _ key rfl) (by intro x hx; rw [List.mem_singleton.1 hx]; exact HLK.out) (by simp [maxLen])).mono ?_
      rw [← HH.out]
      rintro e wo ⟨rfl, hbo⟩
      have hb := Below.trans ((Below.refl _ _).alloc (Nat.le_refl _) _) (hbo.mono (by simp))
      clear hbo
      have HA' := Lib.hid (HAc.out.below hb HAc.out.lt)
      have HB' := Lib.hid (HBc.out.trans (hb.mono HBc.out.size))
      have HS' := Lib.hid (sky_below HSc.out hb)
      clear HAc HBc HSc hb
      have HAc := HA'
      have HBc := HB'
      have HSc := HS'
      clear HA' HB' HS'
      go_wp2_with fail
      refine (sky_put HSc.out (by omega) n h HHL.out frm (by omega)).mono ?_
      rintro e wp ⟨rfl, hS, hg⟩
      rw [put_only hn1 hn2 hf1 hf2] at hS
      have HA' := Lib.hid (HAc.out.grown hg (by intro e; injection e with e; omega))
      have HB' := Lib.hid (Below.ofGrown HBc.out hg HBc.out.size hbw)
      clear HAc HBc HSc hg
      have HAc := HA'
      have HBc := HB'
      clear HA' HB'
      rw [upd_only] at hS
      have HSc := Lib.hid hS
      clear hS
      go_wp2_with fail
      refine (sky_drop HSc.out n (by omega)).mono ?_
      rintro e wd ⟨rfl, hS, hg⟩
      rw [del_only] at hS
      have HA' := Lib.hid (HAc.out.grown hg (by intro e; injection e with e; omega))
      have HB' := Lib.hid (Below.ofGrown HBc.out hg HBc.out.size hbw)
      clear HAc HBc HSc hg
      have HAc := HA'
      have HBc := HB'
      have HSc := Lib.hid hS
      clear HA' HB' hS
      go_wp2_with (first | (refine wpList_build (u8s Hz.zero).toArray rfl 26 #[] rfl built_zero ?_))
      refine (nil_put 1 Hz.zero 0 _).mono ?_
      rintro e wq ⟨rfl, hb⟩
      have HA' := Lib.hid (HAc.out.below hb HAc.out.lt)
      have HB' := Lib.hid (HBc.out.trans (hb.mono HBc.out.size))
      have HS' := Lib.hid (sky_below HSc.out hb)
      clear HAc HBc HSc hb
      have HAc := HA'
      have HBc := HB'
      have HSc := HS'
      clear HA' HB' HS'
      go_wp2_with fail
      refine (nil_drop 1 _).mono ?_
      rintro e wq ⟨rfl, hb⟩
      have HA' := Lib.hid (HAc.out.below hb HAc.out.lt)
      have HB' := Lib.hid (HBc.out.trans (hb.mono HBc.out.size))
      have HS' := Lib.hid (sky_below HSc.out hb)
      clear HAc HBc HSc hb
      have HAc := HA'
      have HBc := HB'
      have HSc := HS'
      clear HA' HB' HS'
      go_wp2_with (first | (with_reducible refine wpList_loadW rfl 23 (.tmp 5) rfl _ 0 rfl _ _ (at_range HAc.out) HUD.out rfl HIK.out ?_))
      refine (may_any HSc.out key HLK.out frm).mono ?_
      rw [may_none]
      rintro e wm ⟨v3, rfl, hO, hb⟩
      obtain ⟨A3, c3, rfl, _⟩ := ints_own hO
      have HA' := Lib.hid (HAc.out.below hb HAc.out.lt)
      have HB' := Lib.hid (HBc.out.trans (hb.mono HBc.out.size))
      have HS' := Lib.hid (sky_below HSc.out hb)
      clear HAc HBc HSc hb
      have HAc := HA'
      have HBc := HB'
      have HSc := HS'
      clear HA' HB' HS'
      clear hO
      go_wp2_with (first | (with_reducible refine wpList_loadW rfl 23 (.tmp 5) rfl _ 0 rfl _ _ (at_range HAc.out) HUD.out rfl HIK.out ?_))
      refine (nil_may key HLK.out 0 _).mono ?_
      rintro e wm ⟨rfl, hb⟩
      have HA' := Lib.hid (HAc.out.below hb HAc.out.lt)
      have HB' := Lib.hid (HBc.out.trans (hb.mono HBc.out.size))
      have HS' := Lib.hid (sky_below HSc.out hb)
      clear HAc HBc HSc hb
      have HAc := HA'
      have HBc := HB'
      have HSc := HS'
      clear HA' HB' HS'
      go_wp2_with fail
      go_ret
      exact ⟨rfl, HBc.out⟩
    · have HT := Lib.hid (show tells key now ⟨h, frm⟩ = false from by unfold tells; simp [hx2])
      refine (may_any HSc.out key HLK.out now).mono ?_
      rw [may_no hn1 hn2 HT.out]
      rintro e wm ⟨v1, rfl, hO, hb⟩
      obtain ⟨A1, c1, rfl, hI⟩ := ints_own hO
      have HI := Lib.hid hI
      have HA' := Lib.hid (HAc.out.below hb HAc.out.lt)
      have HB' := Lib.hid (HBc.out.trans (hb.mono HBc.out.size))
      have HS' := Lib.hid (sky_below HSc.out hb)
      clear HAc HBc HSc hb
      have HAc := HA'
      have HBc := HB'
      have HSc := HS'
      clear HA' HB' HS'
      clear hO hI
      have hx3 : ¬ now - frm ≤ 40 := by omega
      go_wp2_with (first | (with_reducible refine wpList_loadW rfl 23 (.tmp 5) rfl _ 0 rfl _ _ (at_range HAc.out) HUD.out rfl HIK.out ?_))
      refine (may_any HSc.out key HLK.out frm).mono ?_
      rw [may_yes hn1 hn2 HTF.out]
      rintro e wm ⟨v2, rfl, hO, hb⟩
      obtain ⟨A2', c2', rfl, _⟩ := ints_own hO
      have HA' := Lib.hid (HAc.out.below hb HAc.out.lt)
      have HB' := Lib.hid (HBc.out.trans (hb.mono HBc.out.size))
      have HS' := Lib.hid (sky_below HSc.out hb)
      clear HAc HBc HSc hb
      have HAc := HA'
      have HBc := HB'
      have HSc := HS'
      clear HA' HB' HS'
      clear hO
      go_wp2_with fail
      refine (sky_put HSc.out (by omega) n Hz.zero rfl frm (by omega)).mono ?_
      rintro e wp ⟨rfl, hS, hg⟩
      rw [put_only hn1 hn2 hf1 hf2] at hS
      have HA' := Lib.hid (HAc.out.grown hg (by intro e; injection e with e; omega))
      have HB' := Lib.hid (Below.ofGrown HBc.out hg HBc.out.size hbw)
      clear HAc HBc HSc hg
      have HAc := HA'
      have HBc := HB'
      clear HA' HB'
      rw [upd_only] at hS
      have HSc := Lib.hid hS
      clear hS
      go_wp2_with (first | (with_reducible refine wpList_loadW rfl 23 (.tmp 5) rfl _ 0 rfl _ _ (at_range HAc.out) HUD.out rfl HIK.out ?_))
      refine (may_any HSc.out key HLK.out frm).mono ?_
      rw [may_no hn1 hn2 HT0.out]
      rintro e wm ⟨v2, rfl, hO, hb⟩
      obtain ⟨A2, c2, rfl, _⟩ := ints_own hO
      have HA' := Lib.hid (HAc.out.below hb HAc.out.lt)
      have HB' := Lib.hid (HBc.out.trans (hb.mono HBc.out.size))
      have HS' := Lib.hid (sky_below HSc.out hb)
      clear HAc HBc HSc hb
      have HAc := HA'
      have HBc := HB'
      have HSc := HS'
      clear HA' HB' HS'
      clear hO
      go_wp2_with (first | (with_reducible refine wpList_loadW rfl 23 (.tmp 5) rfl _ 0 rfl _ _ (at_range HAc.out) HUD.out rfl HIK.out ?_) | (refine wpList_build_dg rfl key HLK.out (.tmp 83) rfl rfl ?_))
      refine (of_any _ _ [key] _ (one_key_at _ key rfl) (by intro x hx; rw [List.mem_singleton.1 hx]; exact HLK.out) (by simp [maxLen])).mono ?_
      rw [← HH.out]
      rintro e wo ⟨rfl, hbo⟩
      have hb := Below.trans ((Below.refl _ _).alloc (Nat.le_refl _) _) (hbo.mono (by simp))
      clear hbo
      have HA' := Lib.hid (HAc.out.below hb HAc.out.lt)
      have HB' := Lib.hid (HBc.out.trans (hb.mono HBc.out.size))
      have HS' := Lib.hid (sky_below HSc.out hb)
      clear HAc HBc HSc hb
      have HAc := HA'
      have HBc := HB'
      have HSc := HS'
      clear HA' HB' HS'
      go_wp2_with fail
      refine (sky_put HSc.out (by omega) n h HHL.out frm (by omega)).mono ?_
      rintro e wp ⟨rfl, hS, hg⟩
      rw [put_only hn1 hn2 hf1 hf2] at hS
      have HA' := Lib.hid (HAc.out.grown hg (by intro e; injection e with e; omega))
      have HB' := Lib.hid (Below.ofGrown HBc.out hg HBc.out.size hbw)
      clear HAc HBc HSc hg
      have HAc := HA'
      have HBc := HB'
      clear HA' HB'
      rw [upd_only] at hS
      have HSc := Lib.hid hS
      clear hS
      go_wp2_with fail
      refine (sky_drop HSc.out n (by omega)).mono ?_
      rintro e wd ⟨rfl, hS, hg⟩
      rw [del_only] at hS
      have HA' := Lib.hid (HAc.out.grown hg (by intro e; injection e with e; omega))
      have HB' := Lib.hid (Below.ofGrown HBc.out hg HBc.out.size hbw)
      clear HAc HBc HSc hg
      have HAc := HA'
      have HBc := HB'
      have HSc := Lib.hid hS
      clear HA' HB' hS
      go_wp2_with (first | (refine wpList_build (u8s Hz.zero).toArray rfl 26 #[] rfl built_zero ?_))
      refine (nil_put 1 Hz.zero 0 _).mono ?_
      rintro e wq ⟨rfl, hb⟩
      have HA' := Lib.hid (HAc.out.below hb HAc.out.lt)
      have HB' := Lib.hid (HBc.out.trans (hb.mono HBc.out.size))
      have HS' := Lib.hid (sky_below HSc.out hb)
      clear HAc HBc HSc hb
      have HAc := HA'
      have HBc := HB'
      have HSc := HS'
      clear HA' HB' HS'
      go_wp2_with fail
      refine (nil_drop 1 _).mono ?_
      rintro e wq ⟨rfl, hb⟩
      have HA' := Lib.hid (HAc.out.below hb HAc.out.lt)
      have HB' := Lib.hid (HBc.out.trans (hb.mono HBc.out.size))
      have HS' := Lib.hid (sky_below HSc.out hb)
      clear HAc HBc HSc hb
      have HAc := HA'
      have HBc := HB'
      have HSc := HS'
      clear HA' HB' HS'
      go_wp2_with (first | (with_reducible refine wpList_loadW rfl 23 (.tmp 5) rfl _ 0 rfl _ _ (at_range HAc.out) HUD.out rfl HIK.out ?_))
      refine (may_any HSc.out key HLK.out frm).mono ?_
      rw [may_none]
      rintro e wm ⟨v3, rfl, hO, hb⟩
      obtain ⟨A3, c3, rfl, _⟩ := ints_own hO
      have HA' := Lib.hid (HAc.out.below hb HAc.out.lt)
      have HB' := Lib.hid (HBc.out.trans (hb.mono HBc.out.size))
      have HS' := Lib.hid (sky_below HSc.out hb)
      clear HAc HBc HSc hb
      have HAc := HA'
      have HBc := HB'
      have HSc := HS'
      clear HA' HB' HS'
      clear hO
      go_wp2_with (first | (with_reducible refine wpList_loadW rfl 23 (.tmp 5) rfl _ 0 rfl _ _ (at_range HAc.out) HUD.out rfl HIK.out ?_))
      refine (nil_may key HLK.out 0 _).mono ?_
      rintro e wm ⟨rfl, hb⟩
      have HA' := Lib.hid (HAc.out.below hb HAc.out.lt)
      have HB' := Lib.hid (HBc.out.trans (hb.mono HBc.out.size))
      have HS' := Lib.hid (sky_below HSc.out hb)
      clear HAc HBc HSc hb
      have HAc := HA'
      have HBc := HB'
      have HSc := HS'
      clear HA' HB' HS'
      go_wp2_with fail
      go_ret
      exact ⟨rfl, HBc.out⟩
  · have HT := Lib.hid (show tells key now ⟨h, frm⟩ = false from by unfold tells; simp [hx1])
    refine (may_any HSc.out key HLK.out now).mono ?_
    rw [may_no hn1 hn2 HT.out]
    rintro e wm ⟨v1, rfl, hO, hb⟩
    obtain ⟨A1, c1, rfl, hI⟩ := ints_own hO
    have HI := Lib.hid hI
    have HA' := Lib.hid (HAc.out.below hb HAc.out.lt)
    have HB' := Lib.hid (HBc.out.trans (hb.mono HBc.out.size))
    have HS' := Lib.hid (sky_below HSc.out hb)
    clear HAc HBc HSc hb
    have HAc := HA'
    have HBc := HB'
    have HSc := HS'
    clear HA' HB' HS'
    clear hO hI
    go_wp2_with (first | (with_reducible refine wpList_loadW rfl 23 (.tmp 5) rfl _ 0 rfl _ _ (at_range HAc.out) HUD.out rfl HIK.out ?_))
    refine (may_any HSc.out key HLK.out frm).mono ?_
    rw [may_yes hn1 hn2 HTF.out]
    rintro e wm ⟨v2, rfl, hO, hb⟩
    obtain ⟨A2', c2', rfl, _⟩ := ints_own hO
    have HA' := Lib.hid (HAc.out.below hb HAc.out.lt)
    have HB' := Lib.hid (HBc.out.trans (hb.mono HBc.out.size))
    have HS' := Lib.hid (sky_below HSc.out hb)
    clear HAc HBc HSc hb
    have HAc := HA'
    have HBc := HB'
    have HSc := HS'
    clear HA' HB' HS'
    clear hO
    go_wp2_with fail
    refine (sky_put HSc.out (by omega) n Hz.zero rfl frm (by omega)).mono ?_
    rintro e wp ⟨rfl, hS, hg⟩
    rw [put_only hn1 hn2 hf1 hf2] at hS
    have HA' := Lib.hid (HAc.out.grown hg (by intro e; injection e with e; omega))
    have HB' := Lib.hid (Below.ofGrown HBc.out hg HBc.out.size hbw)
    clear HAc HBc HSc hg
    have HAc := HA'
    have HBc := HB'
    clear HA' HB'
    rw [upd_only] at hS
    have HSc := Lib.hid hS
    clear hS
    go_wp2_with (first | (with_reducible refine wpList_loadW rfl 23 (.tmp 5) rfl _ 0 rfl _ _ (at_range HAc.out) HUD.out rfl HIK.out ?_))
    refine (may_any HSc.out key HLK.out frm).mono ?_
    rw [may_no hn1 hn2 HT0.out]
    rintro e wm ⟨v2, rfl, hO, hb⟩
    obtain ⟨A2, c2, rfl, _⟩ := ints_own hO
    have HA' := Lib.hid (HAc.out.below hb HAc.out.lt)
    have HB' := Lib.hid (HBc.out.trans (hb.mono HBc.out.size))
    have HS' := Lib.hid (sky_below HSc.out hb)
    clear HAc HBc HSc hb
    have HAc := HA'
    have HBc := HB'
    have HSc := HS'
    clear HA' HB' HS'
    clear hO
    go_wp2_with (first | (with_reducible refine wpList_loadW rfl 23 (.tmp 5) rfl _ 0 rfl _ _ (at_range HAc.out) HUD.out rfl HIK.out ?_) | (refine wpList_build_dg rfl key HLK.out (.tmp 83) rfl rfl ?_))
    refine (of_any _ _ [key] _ (one_key_at _ key rfl) (by intro x hx; rw [List.mem_singleton.1 hx]; exact HLK.out) (by simp [maxLen])).mono ?_
    rw [← HH.out]
    rintro e wo ⟨rfl, hbo⟩
    have hb := Below.trans ((Below.refl _ _).alloc (Nat.le_refl _) _) (hbo.mono (by simp))
    clear hbo
    have HA' := Lib.hid (HAc.out.below hb HAc.out.lt)
    have HB' := Lib.hid (HBc.out.trans (hb.mono HBc.out.size))
    have HS' := Lib.hid (sky_below HSc.out hb)
    clear HAc HBc HSc hb
    have HAc := HA'
    have HBc := HB'
    have HSc := HS'
    clear HA' HB' HS'
    go_wp2_with fail
    refine (sky_put HSc.out (by omega) n h HHL.out frm (by omega)).mono ?_
    rintro e wp ⟨rfl, hS, hg⟩
    rw [put_only hn1 hn2 hf1 hf2] at hS
    have HA' := Lib.hid (HAc.out.grown hg (by intro e; injection e with e; omega))
    have HB' := Lib.hid (Below.ofGrown HBc.out hg HBc.out.size hbw)
    clear HAc HBc HSc hg
    have HAc := HA'
    have HBc := HB'
    clear HA' HB'
    rw [upd_only] at hS
    have HSc := Lib.hid hS
    clear hS
    go_wp2_with fail
    refine (sky_drop HSc.out n (by omega)).mono ?_
    rintro e wd ⟨rfl, hS, hg⟩
    rw [del_only] at hS
    have HA' := Lib.hid (HAc.out.grown hg (by intro e; injection e with e; omega))
    have HB' := Lib.hid (Below.ofGrown HBc.out hg HBc.out.size hbw)
    clear HAc HBc HSc hg
    have HAc := HA'
    have HBc := HB'
    have HSc := Lib.hid hS
    clear HA' HB' hS
    go_wp2_with (first | (refine wpList_build (u8s Hz.zero).toArray rfl 26 #[] rfl built_zero ?_))
    refine (nil_put 1 Hz.zero 0 _).mono ?_
    rintro e wq ⟨rfl, hb⟩
    have HA' := Lib.hid (HAc.out.below hb HAc.out.lt)
    have HB' := Lib.hid (HBc.out.trans (hb.mono HBc.out.size))
    have HS' := Lib.hid (sky_below HSc.out hb)
    clear HAc HBc HSc hb
    have HAc := HA'
    have HBc := HB'
    have HSc := HS'
    clear HA' HB' HS'
    go_wp2_with fail
    refine (nil_drop 1 _).mono ?_
    rintro e wq ⟨rfl, hb⟩
    have HA' := Lib.hid (HAc.out.below hb HAc.out.lt)
    have HB' := Lib.hid (HBc.out.trans (hb.mono HBc.out.size))
    have HS' := Lib.hid (sky_below HSc.out hb)
    clear HAc HBc HSc hb
    have HAc := HA'
    have HBc := HB'
    have HSc := HS'
    clear HA' HB' HS'
    go_wp2_with (first | (with_reducible refine wpList_loadW rfl 23 (.tmp 5) rfl _ 0 rfl _ _ (at_range HAc.out) HUD.out rfl HIK.out ?_))
    refine (may_any HSc.out key HLK.out frm).mono ?_
    rw [may_none]
    rintro e wm ⟨v3, rfl, hO, hb⟩
    obtain ⟨A3, c3, rfl, _⟩ := ints_own hO
    have HA' := Lib.hid (HAc.out.below hb HAc.out.lt)
    have HB' := Lib.hid (HBc.out.trans (hb.mono HBc.out.size))
    have HS' := Lib.hid (sky_below HSc.out hb)
    clear HAc HBc HSc hb
    have HAc := HA'
    have HBc := HB'
    have HSc := HS'
    clear HA' HB' HS'
    clear hO
    go_wp2_with (first | (with_reducible refine wpList_loadW rfl 23 (.tmp 5) rfl _ 0 rfl _ _ (at_range HAc.out) HUD.out rfl HIK.out ?_))
    refine (nil_may key HLK.out 0 _).mono ?_
    rintro e wm ⟨rfl, hb⟩
    have HA' := Lib.hid (HAc.out.below hb HAc.out.lt)
    have HB' := Lib.hid (HBc.out.trans (hb.mono HBc.out.size))
    have HS' := Lib.hid (sky_below HSc.out hb)
    clear HAc HBc HSc hb
    have HAc := HA'
    have HBc := HB'
    have HSc := HS'
    clear HA' HB' HS'
    go_wp2_with fail
    go_ret
    exact ⟨rfl, HBc.out⟩
end Go.Proofs.Ytcpnlojcmlldpaa
