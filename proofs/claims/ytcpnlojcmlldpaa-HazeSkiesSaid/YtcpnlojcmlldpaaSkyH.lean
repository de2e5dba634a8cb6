/- Layer 14: May. -/
import Derived.Test.YtcpnlojcmlldpaaSkyG
namespace Go.Proofs.Ytcpnlojcmlldpaa
open Go.RowKit Go.Maps Go.Sort

theorem info_int : (Try.prog.info? 3).map (fun i => (i.zero, i.size, i.bytes)) = some (some (.int .i64 0), 1, 8) := by kernel_rfl
theorem one_new_at (w : World) (x : Value) (t : TypeId) {q : Nat} (hq : q = w.heap.size) : ∀ j u, [x][j]? = some u → (w.alloc (.cells #[x] t)).cell? ((⟨q, 0, none⟩ : Addr).add j) = some u := by subst hq; exact one_new w x t
/-- whether a node is told -/
def toldB (f : Clouds) (key : List UInt8) (now : Int) (n : Int) : Bool := match f n with
  | some c => tells key now c
  | none => false
theorem mayS_told (f : Clouds) (key : List UInt8) (now : Int) : mayS f key now = (keysOf f).filter (toldB f key now) := rfl
/-- what is told of the first nodes -/
def mayT (f : Clouds) (key : List UInt8) (now : Int) (l : List Int) (k : Nat) : List Int := (l.take k).filter (toldB f key now)
theorem mayT_snoc (f : Clouds) (key : List UInt8) (now : Int) (l : List Int) (k : Nat) (hk : k < l.length) {m : Cloud} (hm : f l[k] = some m) : mayT f key now l (k + 1) = mayT f key now l k ++ (if tells key now m = true then [l[k]] else []) := by
  unfold mayT
  rw [take_snoc l k hk, List.filter_append, List.filter_cons]
  have e : toldB f key now l[k] = tells key now m := by unfold toldB; rw [hm]
  rw [e]
  rfl
theorem mayT_len (f : Clouds) (key : List UInt8) (now : Int) (l : List Int) (k : Nat) (hk : k ≤ l.length) : (mayT f key now l k).length ≤ k := by
  have := List.length_filter_le (toldB f key now) (l.take k)
  rw [List.length_take] at this
  unfold mayT
  omega
set_option maxRecDepth 100000 in
set_option maxHeartbeats 400000 in
theorem may_any {H : Type} {w : World} {p b N : Nat} {f : Clouds} (h : SkyAt H w p b N f) (key : List UInt8) (hk : key.length = 32) (now : Int) :
    Calls Try.prog 19 #[.pointer (some ⟨p, 0, none⟩), hzV key, .int .i64 now] w fun e w' => ∃ v : Value, e = .returned v ∧ Own w' w.heap.size 3 1 v (mayS f key now).length ((mayS f key now).map (.int .i64 ·)) ∧ Below w.heap.size w w' := by
  have hik : (Try.prog.info? 23).map (·.size) = some (u8s key).toArray.size := by
    rw [List.size_toArray, u8s_len, hk]
    kernel_rfl
  have c0 := h.1.cell' (i := 0) (v := .map (some b)) rfl
  have HK := Lib.hid hk
  have HV0 := Lib.hid h
  obtain ⟨i0, hi, hz0, hz1, hz2⟩ := info_parts info_int
  clear h hk
  go_enter Try.func19, Try.ntmps19
  have hb0 : Below w.heap.size w (w.alloc (.cells (u8s key).toArray 23)) := (Below.refl _ _).alloc (Nat.le_refl _) _
  have HV := Lib.hid (sky_below HV0.out hb0)
  have HB0 := Lib.hid hb0
  have HA := Lib.hid (show At (w.alloc (.cells (u8s key).toArray 23)) w.heap.size 23 (u8s key) from At.newA w _ rfl)
  have c1 := HV.out.1.cell' (i := 0) (v := .map (some b)) rfl
  have hpl := HV0.out.1.lt
  clear hb0
  clear c0
  go_wp2_with fail
  generalize w.alloc (.cells (u8s key).toArray 23) = w0 at HV HB0 HA c1 ⊢
  refine (keys_call _ _).mono ?_
  rintro e w1 ⟨rfl, rfl⟩
  go_wp2_with fail
  refine (sorted_call b N (Sk.mapD (H := H) cloudD f) readC w0 HV.out.2.1 ?_ ?_).mono ?_
  · have := size_skyD H f
    unfold maxLen
    omega
  · have := size_skyD H f
    omega
  rintro e w2 ⟨v, ss, rfl, hp, hrow, hnil, hb⟩
  have hB1 : Below w0.heap.size w0 (w0.alloc (.cells #[.map (some b)] 60)) := (Below.refl _ _).alloc (Nat.le_refl _) _
  have HB2 := Lib.hid (hB1.trans (hb.mono hB1.size))
  have hlen := hp.length_eq
  rw [sort_keys hp] at hrow
  obtain ⟨ks, hks⟩ : ∃ ks, ks = keysOf f := ⟨_, rfl⟩
  have hkl : ss.length = ks.length := by rw [hlen, Sk.intKeys_mapD, hks]; rfl
  rw [← hks, hkl] at hrow
  have HO := Lib.hid (own_ofRow hrow)
  have HKS := Lib.hid hks
  have hk6 : ks.length ≤ 6 := by rw [hks]; exact keysOf_len f
  clear hrow hp hnil hb hlen hkl hks hB1 c1
  have hform : ∃ A c, v = .slice A ks.length c := by
    rcases HO.out.2 with ⟨h1, h2⟩ | ⟨g, cap, cur, fr, h1, _⟩
    · exact ⟨none, 0, by rw [h1, h2]⟩
    · exact ⟨_, cap, h1⟩
  obtain ⟨A, c, rfl⟩ := hform
  go_wp2_with fail
  go_loopw [6, 19] (fun v2 i wr => ∃ k : Nat, k ≤ ks.length ∧ i = .int .i64 k ∧ Own wr w2.heap.size 3 1 v2 (mayT f key now ks k).length ((mayT f key now ks k).map (.int .i64 ·)) ∧ Below w2.heap.size w2 wr) (fun _ i _ => ks.length - (RowKit.intOf i).toNat)
  case atStart => exact ⟨0, by omega, rfl, Own.nil _ _ _ _, Below.refl _ _⟩
  case round =>
    obtain ⟨k, hk, rfl, hO2, hb⟩ := hrel
    have hBw : Below w0.heap.size w0 wr := HB2.out.trans (hb.mono HB2.out.size)
    by_cases hlt : k < ks.length
    · obtain ⟨g, cap, hA, hgb, hgl, _, _⟩ := HO.out.form (by omega)
      obtain ⟨rfl, rfl⟩ : A = some ⟨g, 0, none⟩ ∧ c = cap := by simpa using hA
      obtain ⟨x, hx⟩ : ∃ x, x = ks[k] := ⟨_, rfl⟩
      obtain ⟨m, hm, x1, x2⟩ : ∃ m, f x = some m ∧ -9223372036854775808 ≤ x ∧ x ≤ 9223372036854775807 := by
        have h := HKS.out
        subst h
        rw [hx]
        exact keysOf_get hlt
      have hVr := sky_below HV.out hBw
      have hl1 := sky_lookup1 hVr x1 x2 hm
      obtain ⟨hm64, ht0, htm⟩ := hVr.2.2.1.2 x m hm
      have c0 := hVr.1.cell' (i := 0) (v := .map (some b)) rfl
      have ck : wr.cell? ⟨g, k, none⟩ = some (.int .i64 x) := by
        rw [hb.cell (p := ⟨g, k, none⟩) hgl, HO.out.cellAt rfl k (by omega), hx]
        simp [encZ, hlt]
      have HX := Lib.hid (And.intro hx hm)
      have HO2 := Lib.hid hO2
      have HBr := Lib.hid hb
      have HM64 := Lib.hid hm64
      have i1 : (0 : Int) ≤ (k : Int) := by omega
      have i2 : (k : Int) < (ks.length : Int) := by omega
      have HAr := Lib.hid (HA.out.below hBw HA.out.lt)
      have HZ := Lib.hid (show At (wr.alloc (.cells (cloudCells zeroCloud).toArray 65)) wr.heap.size 65 (cloudCells zeroCloud) from At.newA wr _ rfl)
      have HLk := Lib.hid (show (cloudCells m).length = (cloudCells zeroCloud).length by unfold cloudCells; rw [List.length_append, List.length_append, u8s_len, u8s_len, hm64]; rfl)
      have HI := Lib.hid (show (Try.prog.info? 65).map (·.size) = some (cloudCells m).length by unfold cloudCells; rw [List.length_append, u8s_len, hm64]; kernel_rfl)
      have H1 := Lib.hid (show ∀ v ∈ cloudCells m, v.oneCell' = true by unfold cloudCells; intro v hv; rcases List.mem_append.1 hv with hv | hv; exact u8s_one _ v hv; (simp only [List.mem_singleton] at hv; subst hv; rfl))
      have hzc := zero_cloud wr
      unfold cloudV at hl1 hzc
      clear hx hm hO2 hb hVr hA hBw hm64
      have HHz := Lib.hid Try.underlying26
      have HDg := Lib.hid Try.underlying23
      have HI1 := Lib.hid (show (Try.prog.info? 26).map (·.size) = some (u8s m.h).length by rw [u8s_len, HM64.out]; kernel_rfl)
      have HI2 := Lib.hid (show (Try.prog.info? 23).map (·.size) = some (u8s key).length by rw [u8s_len, HK.out]; kernel_rfl)
      have HC64 := Lib.hid (show (cloudCells m)[64]? = some (.int .i64 m.t) by
        unfold cloudCells
        rw [List.getElem?_append_right (by rw [u8s_len, HM64.out]; exact Nat.le_refl _), u8s_len, HM64.out]
        rfl)
      have HR0 := Lib.hid (show ∀ w', At w' wr.heap.size 65 (cloudCells m) → w'.rangeAt wr.heap.size 0 (u8s m.h) from fun w' h j v hv => by
        rw [Nat.zero_add]
        refine h.cell' ?_
        unfold cloudCells
        rw [List.getElem?_append_left (List.getElem?_eq_some_iff.1 hv).1]
        exact hv)
      have HR2 := Lib.hid (show ∀ w', Below wr.heap.size wr w' → w'.rangeAt w.heap.size 0 (u8s key) from fun w' h j v hv => by rw [Nat.zero_add]; exact (HAr.out.below h HAr.out.lt).cell' hv)
      have HGr := Lib.hid (fun (w3 : World) (hg3 : (wr.alloc (.cells (cloudCells zeroCloud).toArray 65)).grownBy w3 (some wr.heap.size)) => show Below wr.heap.size wr w3 from Below.ofGrown ((Below.refl _ _).alloc (Nat.le_refl _) _) hg3 ((Below.refl _ _).alloc (Nat.le_refl _) _).size (Nat.le_refl _))
      by_cases hc1 : m.t ≤ now
      · by_cases hc2 : now ≤ m.t + 40
        · go_wp2_with (first
            | (refine wpList_storeAll rfl 65 (.tmp 9) (.tmp 28) rfl _ rfl _ (cloudCells zeroCloud) (cloudCells m) HZ.out rfl HLk.out HI.out H1.out ?_; intro w3 hat3 hg3 hs3; have c64 := hat3.cell' HC64.out; have HB3 := Lib.hid (HGr.out w3 hg3); clear hg3)
            | (with_reducible refine wpList_loadW rfl 26 (.tmp 41) rfl wr.heap.size 0 rfl (u8s m.h) _ (HR0.out _ hat3) HHz.out rfl HI1.out ?_)
            | (with_reducible refine wpList_loadW rfl 23 (.tmp 4) rfl w.heap.size 0 rfl (u8s key) _ (HR2.out _ HB3.out) HDg.out rfl HI2.out ?_))
          refine (has_any m.h key HM64.out HK.out _).mono ?_
          rintro e w5 ⟨rfl, hb5⟩
          have HB5 := Lib.hid (HBr.out.trans ((HB3.out.trans (hb5.mono HB3.out.size)).mono HBr.out.size))
          have HO5 := Lib.hid ((HO2.out.below HB3.out).below hb5)
          clear hb5 hat3 hs3 c64
          have hml := mayT_len f key now ks k hk
          cases hh : Hz.has m.h key
          · have ht : tells key now m = false := by unfold tells; rw [hh]; simp
            have HE := Lib.hid (show mayT f key now ks (k + 1) = mayT f key now ks k by rw [mayT_snoc f key now ks k hlt (m := m) (by rw [← HX.out.1]; exact HX.out.2), ht]; simp)
            clear hh ht
            go_wp2_with fail
            go_roundw
            case rel => exact ⟨k + 1, by omega, by go_num, by rw [HE.out]; exact HO5.out, HB5.out⟩
            case measure => simp [RowKit.intOf]; omega
          · have ht : tells key now m = true := by unfold tells; rw [hh]; simp [hc1, hc2]
            have HE := Lib.hid (show mayT f key now ks (k + 1) = mayT f key now ks k ++ [x] by rw [mayT_snoc f key now ks k hlt (m := m) (by rw [← HX.out.1]; exact HX.out.2), ht, HX.out.1]; rfl)
            have hs5 := HB5.out.size
            clear hh ht
            go_wp2_with (at_builtin; go_loud ((refine wpList_append_Own _ rfl (.tmp 46) (.tmp 48) 45 rfl w2.heap.size 3 i0 _ 1 8 Try.underlying45 hi hz0 hz1 hz2 rfl (by omega) _ _ _ rfl (HO5.out.alloc _) ⟨_, 0, none⟩ 1 1 [.int .i64 x] rfl rfl (one_new_at _ _ _ (by simp)) (by simp [Value.oneCell']) ?_ ?_ ?_ ?_); (focus (unfold maxLen; omega)); (focus omega); (focus (simp; omega)); intro v9 w9 hO9 hg9 hat9))
            go_roundw
            case rel =>
              refine ⟨k + 1, by omega, by go_num, ?_, ?_⟩
              · rw [HE.out, List.map_append, List.length_append]
                exact hO9
              · exact own_below2 (HO5.out.alloc _) (HB5.out.alloc HB5.out.size _) (Nat.le_refl _) (HB5.out.alloc HB5.out.size _).size hg9
            case measure => simp [RowKit.intOf]; omega
        · have ht : tells key now m = false := by unfold tells; simp [hc2]
          have HE := Lib.hid (show mayT f key now ks (k + 1) = mayT f key now ks k by rw [mayT_snoc f key now ks k hlt (m := m) (by rw [← HX.out.1]; exact HX.out.2), ht]; simp)
          clear ht
          go_wp2_with (first
            | (refine wpList_storeAll rfl 65 (.tmp 9) (.tmp 28) rfl _ rfl _ (cloudCells zeroCloud) (cloudCells m) HZ.out rfl HLk.out HI.out H1.out ?_; intro w3 hat3 hg3 hs3; have c64 := hat3.cell' HC64.out; have HB3 := Lib.hid (HGr.out w3 hg3); clear hg3))
          go_roundw
          case rel => exact ⟨k + 1, by omega, by go_num, by rw [HE.out]; exact HO2.out.below HB3.out, HBr.out.trans (HB3.out.mono HBr.out.size)⟩
          case measure => simp [RowKit.intOf]; omega
      · have ht : tells key now m = false := by unfold tells; simp [hc1]
        have HE := Lib.hid (show mayT f key now ks (k + 1) = mayT f key now ks k by rw [mayT_snoc f key now ks k hlt (m := m) (by rw [← HX.out.1]; exact HX.out.2), ht]; simp)
        clear ht
        go_wp2_with (first
          | (refine wpList_storeAll rfl 65 (.tmp 9) (.tmp 28) rfl _ rfl _ (cloudCells zeroCloud) (cloudCells m) HZ.out rfl HLk.out HI.out H1.out ?_; intro w3 hat3 hg3 hs3; have c64 := hat3.cell' HC64.out; have HB3 := Lib.hid (HGr.out w3 hg3); clear hg3))
        go_roundw
        case rel => exact ⟨k + 1, by omega, by go_num, by rw [HE.out]; exact HO2.out.below HB3.out, HBr.out.trans (HB3.out.mono HBr.out.size)⟩
        case measure => simp [RowKit.intOf]; omega
    · have hkl : k = ks.length := by omega
      have HO2 := Lib.hid hO2
      have HBw := Lib.hid hBw
      have HKL := Lib.hid hkl
      clear hO2 hBw hkl hb
      go_wp2_with fail
      go_ret
      refine ⟨u6, rfl, ?_, HB0.out.trans (HBw.out.mono HB0.out.size)⟩
      have h := HO2.out
      have e : mayT f key now ks k = mayS f key now := by
        unfold mayT
        rw [HKL.out, List.take_length, HKS.out, mayS_told]
      rw [e] at h
      exact h.rebase (by have := HB2.out.size; have := HB0.out.size; omega)
end Go.Proofs.Ytcpnlojcmlldpaa
