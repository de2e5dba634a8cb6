/- Layer 10: All. -/
import Derived.Test.YtlihhnjinakpfaaRankD
namespace Go.Proofs.Ytlihhnjinakpfaa
open Go.RowKit Go.Maps Go.Sort

theorem own_ofRow {w : World} {base : Nat} {e : TypeId} {size : Nat} {v : Value} {n : Nat} {xs : List Value} (h : w.ownsRow base e size v n xs) : Own w base e size v n xs := by
  obtain ⟨h1, h2⟩ := h
  refine ⟨h1, ?_⟩
  rcases h2 with h2 | ⟨g, cap, cur, h3, h4, h5, h6, h7, h8, h9⟩
  · exact .inl h2
  · exact .inr ⟨g, cap, cur.toList, (0, 0), h3, h4, by simpa using h5, fun i _ => by simp, h6, h7, by simpa using h8, h9⟩
theorem own_below2 {w0 w w' : World} {B B' : Nat} {e : TypeId} {size n : Nat} {v : Value} {xs : List Value} (h : Own w B e size v n xs) (hb : Below B' w0 w) (hBB : B' ≤ B) (hB : B' ≤ w.heap.size) (hg : w.grownBy w' v.ownBlock) : Below B' w0 w' :=
  hb.grown hg hB (fun k hk => Nat.le_trans hBB (h.lt k hk).1)
theorem Own.rebase {w : World} {B B' : Nat} {e : TypeId} {size n : Nat} {v : Value} {xs : List Value} (h : Own w B e size v n xs) (hB : B' ≤ B) : Own w B' e size v n xs := by
  refine ⟨h.1, ?_⟩
  rcases h.2 with h2 | ⟨g, cap, cur, fr, h3, h4, h5⟩
  · exact .inl h2
  · exact .inr ⟨g, cap, cur, fr, h3, Nat.le_trans hB h4, h5⟩
def keysOf (f : Known) : List Int := nodes.filter fun k => (f k).isSome
theorem keysOf_sorted (f : Known) : (keysOf f).Pairwise (· ≤ ·) := by
  have h : nodes.Pairwise (· ≤ ·) := by decide
  exact h.filter _
theorem eq_of_perm_le : ∀ {l₁ l₂ : List Int}, l₁.Perm l₂ → l₁.Pairwise (· ≤ ·) → l₂.Pairwise (· ≤ ·) → l₁ = l₂
  | [], l₂, hp, _, _ => hp.nil_eq
  | a :: r, [], hp, _, _ => absurd hp.symm.nil_eq (by simp)
  | a :: r, b :: s, hp, h1, h2 => by
    obtain ⟨a1, a2⟩ := List.pairwise_cons.1 h1
    obtain ⟨b1, b2⟩ := List.pairwise_cons.1 h2
    have e : a = b := by
      have m1 : a ∈ b :: s := hp.mem_iff.1 List.mem_cons_self
      have m2 : b ∈ a :: r := hp.mem_iff.2 List.mem_cons_self
      rcases List.mem_cons.1 m1 with h | h
      · exact h
      · rcases List.mem_cons.1 m2 with h' | h'
        · exact h'.symm
        · have := b1 a h
          have := a1 b h'
          omega
    subst e
    rw [eq_of_perm_le hp.cons_inv a2 b2]
theorem sort_keys {H : Type} {f : Known} {ss : List Int} (h : ss.Perm (intKeys (mapD H f))) : ss.mergeSort (fun x y => decide (x ≤ y)) = keysOf f := by
  rw [intKeys_mapD] at h
  refine eq_of_perm_le ((List.mergeSort_perm ss _).trans h) ?_ (keysOf_sorted f)
  have := List.pairwise_mergeSort (le := fun x y : Int => decide (x ≤ y)) (fun a b c h1 h2 => by simp at *; omega) (fun a b => by simp; omega) ss
  exact this.imp (fun h => by simpa using h)
theorem keysOf_len (f : Known) : (keysOf f).length ≤ 6 := by
  have := List.length_filter_le (fun k => (f k).isSome) nodes
  exact this
theorem all_keys (f : Known) : all f = (keysOf f).filterMap f := by
  unfold all keysOf
  induction nodes with
  | nil => rfl
  | cons x r ih =>
    rw [List.filterMap_cons, List.filter_cons]
    cases hf : f x with
    | none => simp [ih]
    | some m => simp [hf, ih]
theorem view_lookup1 {H : Type} {w : World} {p b N : Nat} {f : Known} (h : ViewAt H w p b N f) {k : Int} (h1 : -9223372036854775808 ≤ k) (h2 : k ≤ 9223372036854775807) {m : Mem} (hm : f k = some m) :
    (Instr.lookup 50 (.map (some b)) (.int .i64 k) false).run Try.prog w = .ok (memV m) w := by
  obtain ⟨_, ⟨es, clock, hb, F, _, hD⟩, hs, _⟩ := h
  have hat : ∀ z : DataW H, (DataW.map ((es.toList.map (WideElems.rg Try.prog 3 readM)).foldr DataW.insert [])).atKey (.int .i64 k) z = memD m := fun z => by
    rw [← hD, atKey_mapD f k z (sane_nodes hs k), hm]
  rcases Maps.fit_look false keyed_int Try.underlying50 (zero_mem w) hb F (key_int h1 h2) with ⟨_, _, hz⟩ | ⟨e0, y, _, _, hrun, hRv, hz, _⟩
  · have h3 := (hz .nil).symm.trans (hat .nil)
    cases h3
  · rw [hrun]
    obtain ⟨m', hv, rfl⟩ := readM_inv hRv
    have h3 := (hz .nil).symm.trans (hat .nil)
    have := memD_inj h3
    subst this
    simp [hv]

theorem size_mapD (H : Type) (f : Known) : Maps.size (mapD H f) ≤ 6 := List.length_filterMap_le _ nodes
theorem keysOf_get {f : Known} {k : Nat} (hk : k < (keysOf f).length) : ∃ m, f (keysOf f)[k] = some m ∧ -9223372036854775808 ≤ (keysOf f)[k] ∧ (keysOf f)[k] ≤ 9223372036854775807 := by
  have hm := List.getElem_mem hk
  obtain ⟨h1, h2⟩ := List.mem_filter.1 hm
  obtain ⟨m, h3⟩ := Option.isSome_iff_exists.1 h2
  refine ⟨m, h3, ?_⟩
  simp only [nodes, List.mem_cons, List.not_mem_nil, or_false] at h1
  omega
theorem filterMap_len {f : Known} {ks : List Int} (h : ∀ x ∈ ks, (f x).isSome = true) : (ks.filterMap f).length = ks.length := by
  induction ks with
  | nil => rfl
  | cons x r ih =>
    obtain ⟨m, hm⟩ := Option.isSome_iff_exists.1 (h x List.mem_cons_self)
    rw [List.filterMap_cons, hm]
    simp [ih (fun y hy => h y (List.mem_cons_of_mem _ hy))]

set_option maxRecDepth 100000 in
set_option maxHeartbeats 4000000 in
theorem all_any {H : Type} {w : World} {p b N : Nat} {f : Known} (h : ViewAt H w p b N f) :
    Calls Try.prog 13 #[.pointer (some ⟨p, 0, none⟩)] w fun e w' => ∃ v : Value, e = .returned v ∧ Own w' w.heap.size 28 3 v (all f).length (memsV (all f)) ∧ Below w.heap.size w w' := by
  have c0 := h.1.cell' (i := 0) (v := .map (some b)) rfl
  have HV := Lib.hid h
  obtain ⟨i0, hi, hz0, hz1, hz2⟩ := info_parts info_mem
  clear h
  go_enter Try.func13, Try.ntmps13
  go_wp2_with fail
  refine (keys_call _ _).mono ?_
  rintro e w1 ⟨rfl, rfl⟩
  go_wp2_with fail
  refine (sorted_call b N (mapD H f) readM w HV.out.2.1 ?_ ?_).mono ?_
  · have := size_mapD H f
    unfold maxLen
    omega
  · have := size_mapD H f
    omega
  rintro e w2 ⟨v, ss, rfl, hp, hrow, hnil, hb⟩
  have hB1 : Below w.heap.size w (w.alloc (.cells #[.map (some b)] 50)) := (Below.refl _ _).alloc (Nat.le_refl _) _
  have HB2 := Lib.hid (hB1.trans (hb.mono hB1.size))
  have hlen := hp.length_eq
  rw [sort_keys hp] at hrow
  obtain ⟨ks, hks⟩ : ∃ ks, ks = keysOf f := ⟨_, rfl⟩
  have hkl : ss.length = ks.length := by rw [hlen, intKeys_mapD, hks]; rfl
  rw [← hks, hkl] at hrow
  have HO := Lib.hid (own_ofRow hrow)
  have HKS := Lib.hid hks
  have hk6 : ks.length ≤ 6 := by rw [hks]; exact keysOf_len f
  clear hrow hp hnil hb hlen hkl hks hB1 c0
  have hform : ∃ A c, v = .slice A ks.length c := by
    rcases HO.out.2 with ⟨h1, h2⟩ | ⟨g, cap, cur, fr, h1, _⟩
    · exact ⟨none, 0, by rw [h1, h2]⟩
    · exact ⟨_, cap, h1⟩
  obtain ⟨A, c, rfl⟩ := hform
  go_wp2_with fail
  obtain ⟨B, hBe⟩ : ∃ B, B = w2.heap.size := ⟨_, rfl⟩
  have HBe := Lib.hid hBe
  clear hBe
  go_loopw [2, 14] (fun v2 i wr => ∃ k : Nat, k ≤ ks.length ∧ i = .int .i64 k ∧ Own wr B 28 3 v2 k (memsV ((ks.take k).filterMap f)) ∧ Below w2.heap.size w2 wr) (fun _ i _ => ks.length - (RowKit.intOf i).toNat)
  case atStart => exact ⟨0, by omega, rfl, Own.nil _ _ _ _, Below.refl _ _⟩
  case round =>
    obtain ⟨k, hk, rfl, hO2, hb⟩ := hrel
    have hBw : Below w.heap.size w wr := HB2.out.trans (hb.mono HB2.out.size)
    by_cases hlt : k < ks.length
    · obtain ⟨g, cap, hA, hgb, hgl, _, _⟩ := HO.out.form (by omega)
      obtain ⟨rfl, rfl⟩ : A = some ⟨g, 0, none⟩ ∧ c = cap := by simpa using hA
      obtain ⟨x, hx⟩ : ∃ x, x = ks[k] := ⟨_, rfl⟩
      obtain ⟨m, hm, x1, x2⟩ : ∃ m, f x = some m ∧ -9223372036854775808 ≤ x ∧ x ≤ 9223372036854775807 := by
        have h := HKS.out
        subst h
        rw [hx]
        exact keysOf_get hlt
      have hVr := view_below HV.out hBw
      have hl1 := view_lookup1 hVr x1 x2 hm
      have c0 := hVr.1.cell' (i := 0) (v := .map (some b)) rfl
      have ck : wr.cell? ⟨g, k, none⟩ = some (.int .i64 x) := by
        rw [hb.cell (p := ⟨g, k, none⟩) hgl, HO.out.cellAt rfl k (by omega), hx]
        simp [encZ, hlt]
      have HX := Lib.hid (And.intro hx hm)
      have HO2 := Lib.hid hO2
      have HBr := Lib.hid hb
      have HBq := Lib.hid (show B ≤ wr.heap.size from by rw [HBe.out]; exact hb.size)
      have i1 : (0 : Int) ≤ (k : Int) := by omega
      have i2 : (k : Int) < (ks.length : Int) := by omega
      unfold memV at hl1
      clear hx hm hO2 hb hVr hA hBw
      go_wp2_with (at_builtin; (refine wpList_append_Own _ rfl (.tmp 18) (.tmp 25) 33 rfl B 28 i0 _ 3 24 Try.underlying33 hi hz0 hz1 hz2 rfl (by omega) _ _ _ rfl (HO2.out.alloc _) ⟨_, 0, none⟩ 1 1 (cellsM m) rfl rfl (three_new _ _) (cellsM_oneCell _) ?_ ?_ ?_ ?_); (focus (unfold maxLen; omega)); (focus omega); (focus (have := HBq.out; simp; omega)); intro v9 w9 hO9 hg9 hat9)
      go_roundw
      case rel =>
        refine ⟨k + 1, by omega, by go_num, ?_, ?_⟩
        · rw [take_snoc ks k hlt, ← HX.out.1, List.filterMap_append]
          have e : memsV ((ks.take k).filterMap f ++ [x].filterMap f) = memsV ((ks.take k).filterMap f) ++ cellsM m := by simp [memsV, HX.out.2]
          rw [e]
          exact hO9
        · exact own_below2 (HO2.out.alloc _) (HBr.out.alloc HBr.out.size _) (by have := HBe.out; omega) (HBr.out.alloc HBr.out.size _).size hg9
      case measure => simp [RowKit.intOf]; omega
    · have hkl : k = ks.length := by omega
      have HO2 := Lib.hid hO2
      have HBw := Lib.hid hBw
      have HKL := Lib.hid hkl
      clear hO2 hBw hkl hb
      go_wp2_with fail
      go_ret
      refine ⟨u2, rfl, ?_, HBw.out⟩
      have h := HO2.out
      rw [HKL.out, List.take_length, HKS.out, ← all_keys] at h
      have hl : (keysOf f).length = (all f).length := by
        rw [all_keys]
        exact (filterMap_len fun x hx => (List.mem_filter.1 hx).2).symm
      rw [hl] at h
      exact h.rebase (by have := HB2.out.size; have := HBe.out; omega)
end Go.Proofs.Ytlihhnjinakpfaa
