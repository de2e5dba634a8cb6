/- Layer 11: sorted: the rumours' pointers by rising nodes. -/
import Derived.Test.YtepnepgjlnoabaaHumD
import Derived.Maps.AppendAt
namespace Go.Proofs.Ytepnepgjlnoabaa
open Go.RowKit Go.Maps Go.Sort

theorem own_ofRow {w : World} {base : Nat} {e : TypeId} {size : Nat} {v : Value} {n : Nat} {xs : List Value} (h : w.ownsRow base e size v n xs) : Own w base e size v n xs := by
  obtain ⟨h1, h2⟩ := h
  refine ⟨h1, ?_⟩
  rcases h2 with h2 | ⟨g, cap, cur, h3, h4, h5, h6, h7, h8, h9⟩
  · exact .inl h2
  · exact .inr ⟨g, cap, cur.toList, (0, 0), h3, h4, by simpa using h5, fun i _ => by simp, h6, h7, by simpa using h8, h9⟩
theorem own_below2 {w0 w w' : World} {B B' : Nat} {e : TypeId} {size n : Nat} {v : Value} {xs : List Value} (h : Own w B e size v n xs) (hb : Below B' w0 w) (hBB : B' ≤ B) (hB : B' ≤ w.heap.size) (hg : w.grownBy w' v.ownBlock) : Below B' w0 w' :=
  hb.grown hg hB (fun k hk => Nat.le_trans hBB (h.lt k hk).1)
theorem row_below2 {w0 w w' : World} {B B' : Nat} {e : TypeId} {size n : Nat} {v : Value} {xs : List Value} (h : w.ownsRow B e size v n xs) (hb : Below B' w0 w) (hBB : B' ≤ B) (hB : B' ≤ w.heap.size) (hg : w.grownBy w' v.ownBlock) : Below B' w0 w' :=
  hb.grown hg hB (fun k hk => Nat.le_trans hBB (h.lt k hk).1)
theorem Own.rebase {w : World} {B B' : Nat} {e : TypeId} {size n : Nat} {v : Value} {xs : List Value} (h : Own w B e size v n xs) (hB : B' ≤ B) : Own w B' e size v n xs := by
  refine ⟨h.1, ?_⟩
  rcases h.2 with h2 | ⟨g, cap, cur, fr, h3, h4, h5⟩
  · exact .inl h2
  · exact .inr ⟨g, cap, cur, fr, h3, Nat.le_trans hB h4, h5⟩
theorem row_rebase {w : World} {B B' : Nat} {e : TypeId} {size n : Nat} {v : Value} {xs : List Value} (h : w.ownsRow B e size v n xs) (hB : B' ≤ B) : w.ownsRow B' e size v n xs := by
  refine ⟨h.1, ?_⟩
  rcases h.2 with h2 | ⟨g, cap, cur, h3, h4, h5⟩
  · exact .inl h2
  · exact .inr ⟨g, cap, cur, h3, Nat.le_trans hB h4, h5⟩
section
variable {α : Type}
def keysOf (f : Int → Option α) : List Int := Sk.nodes.filter fun k => (f k).isSome
theorem keysOf_sorted (f : Int → Option α) : (keysOf f).Pairwise (· ≤ ·) := by
  have h : Sk.nodes.Pairwise (· ≤ ·) := by decide
  exact h.filter _
theorem eq_of_perm_le : ∀ {l₁ l₂ : List Int}, l₁.Perm l₂ → l₁.Pairwise (· ≤ ·) → l₂.Pairwise (· ≤ ·) → l₁ = l₂
  | [], l₂, hp, _, _ => hp.nil_eq
  | a :: r, [], hp, _, _ => absurd hp.symm.nil_eq (by simp)
  | a :: r, b :: s, hp, h1, h2 => by
    obtain ⟨a1, a2⟩ := List.pairwise_cons.1 h1
    obtain ⟨b1, b2⟩ := List.pairwise_cons.1 h2
    have e : a = b := by
      have m1 : a ∈ b :: s := hp.mem_iff.1 List.mem_cons_self
      have m2 : b ∈ a :: r := hp.mem_iff.2 List.mem_cons_self
      rcases List.mem_cons.1 m1 with h | h
      · exact h
      · rcases List.mem_cons.1 m2 with h' | h'
        · exact h'.symm
        · have := b1 a h
          have := a1 b h'
          omega
    subst e
    rw [eq_of_perm_le hp.cons_inv a2 b2]
theorem sort_keys {H : Type} {enc : α → DataW H} {f : Int → Option α} {ss : List Int} (h : ss.Perm (intKeys (Sk.mapD enc f))) : ss.mergeSort (fun x y => decide (x ≤ y)) = keysOf f := by
  rw [Sk.intKeys_mapD] at h
  refine eq_of_perm_le ((List.mergeSort_perm ss _).trans h) ?_ (keysOf_sorted f)
  have := List.pairwise_mergeSort (le := fun x y : Int => decide (x ≤ y)) (fun a b c h1 h2 => by simp at *; omega) (fun a b => by simp; omega) ss
  exact this.imp (fun h => by simpa using h)
theorem keysOf_len (f : Int → Option α) : (keysOf f).length ≤ 6 := by
  have := List.length_filter_le (fun k => (f k).isSome) Sk.nodes
  exact this
theorem size_skD {H : Type} (enc : α → DataW H) (f : Int → Option α) : Maps.size (Sk.mapD enc f) ≤ 6 := List.length_filterMap_le _ Sk.nodes
theorem keysOf_get {f : Int → Option α} {k : Nat} (hk : k < (keysOf f).length) : ∃ m, f (keysOf f)[k] = some m ∧ -9223372036854775808 ≤ (keysOf f)[k] ∧ (keysOf f)[k] ≤ 9223372036854775807 := by
  have hm := List.getElem_mem hk
  obtain ⟨h1, h2⟩ := List.mem_filter.1 hm
  obtain ⟨m, h3⟩ := Option.isSome_iff_exists.1 h2
  refine ⟨m, h3, ?_⟩
  simp only [Sk.nodes, List.mem_cons, List.not_mem_nil, or_false] at h1
  omega
theorem filterMap_len {f : Int → Option α} {ks : List Int} (h : ∀ x ∈ ks, (f x).isSome = true) : (ks.filterMap f).length = ks.length := by
  induction ks with
  | nil => rfl
  | cons x r ih =>
    obtain ⟨m, hm⟩ := Option.isSome_iff_exists.1 (h x List.mem_cons_self)
    rw [List.filterMap_cons, hm]
    simp [ih (fun y hy => h y (List.mem_cons_of_mem _ hy))]
/-- all that is known, by rising nodes -/
def allB (f : Int → Option α) : List α := Sk.nodes.filterMap f
theorem allB_keys (f : Int → Option α) : allB f = (keysOf f).filterMap f := by
  unfold allB keysOf
  induction Sk.nodes with
  | nil => rfl
  | cons x r ih =>
    rw [List.filterMap_cons, List.filter_cons]
    cases hf : f x with
    | none => simp [ih]
    | some m => simp [hf, ih]
theorem allB_len (f : Int → Option α) : (keysOf f).length = (allB f).length := by
  rw [allB_keys]
  exact (filterMap_len fun x hx => (List.mem_filter.1 hx).2).symm
theorem keysOf_map {β : Type} (f : Int → Option α) (g : α → β) : keysOf (fun x => (f x).map g) = keysOf f := by
  unfold keysOf
  congr 1
  funext k
  cases hf : f k <;> simp [hf]
end
theorem info_ptr : (Try.prog.info? 55).map (fun i => (i.zero, i.size, i.bytes)) = some (some (.pointer none), 1, 8) := by kernel_rfl
/-- a rumour's pointer -/
def ptrC (q : Nat × Rum) : Value := ptrV q.1
theorem ptrV_oneCell (l : List (Nat × Rum)) : ∀ u ∈ l.map ptrC, u.oneCell' = true := by
  intro u hu
  obtain ⟨x, _, rfl⟩ := List.mem_map.1 hu
  rfl
theorem sorted_none (w : World) : Calls Try.prog 19 #[.pointer none] w fun e w' => e = .returned (.slice none 0 0) ∧ w' = w := by
  go_enter Try.func19, Try.ntmps19
  go_wp2_with fail
  go_ret
  exact ⟨rfl, rfl⟩
set_option maxRecDepth 100000 in
set_option maxHeartbeats 4000000 in
theorem sorted_any {H : Type} {w : World} {p b N : Nat} {t : Int} {F : Int → Option (Nat × Rum)} (h : HumAt H w p b N t F) :
    Calls Try.prog 19 #[.pointer (some ⟨p, 0, none⟩)] w fun e w' => ∃ v : Value, e = .returned v ∧ w'.ownsRow w.heap.size 55 1 v (allB F).length ((allB F).map ptrC) ∧ Below w.heap.size w w' := by
  have c0 := h.hd.cell' (i := 1) (v := .map (some b)) rfl
  have HV := Lib.hid h
  obtain ⟨i0, hi, hz0, hz1, hz2⟩ := info_parts info_ptr
  clear h
  go_enter Try.func19, Try.ntmps19
  go_wp2_with fail
  refine (keys_call _ _).mono ?_
  rintro e w1 ⟨rfl, rfl⟩
  go_wp2_with fail
  refine (sorted_call b N (Sk.mapD ptrD fun x => (F x).map (·.1)) readP w HV.out.map ?_ ?_).mono ?_
  · have := size_skD (H := H) ptrD fun x => (F x).map (·.1)
    unfold maxLen
    omega
  · have := size_skD (H := H) ptrD fun x => (F x).map (·.1)
    omega
  rintro e w2 ⟨v, ss, rfl, hp, hrow, hnil, hb⟩
  have hB1 : Below w.heap.size w (w.alloc (.cells #[.map (some b)] 49)) := (Below.refl _ _).alloc (Nat.le_refl _) _
  have HB2 := Lib.hid (hB1.trans (hb.mono hB1.size))
  have hlen := hp.length_eq
  rw [sort_keys hp, keysOf_map] at hrow
  obtain ⟨ks, hks⟩ : ∃ ks, ks = keysOf F := ⟨_, rfl⟩
  have hkl : ss.length = ks.length := by
    rw [hlen, Sk.intKeys_mapD, hks, ← keysOf_map F (·.1)]; rfl
  rw [← hks, hkl] at hrow
  have HO := Lib.hid (own_ofRow hrow)
  have HKS := Lib.hid hks
  have hk6 : ks.length ≤ 6 := by rw [hks]; exact keysOf_len F
  clear hrow hp hnil hb hlen hkl hks hB1 c0
  have hform : ∃ A c, v = .slice A ks.length c := by
    rcases HO.out.2 with ⟨h1, h2⟩ | ⟨g, cap, cur, fr, h1, _⟩
    · exact ⟨none, 0, by rw [h1, h2]⟩
    · exact ⟨_, cap, h1⟩
  obtain ⟨A, c, rfl⟩ := hform
  go_wp2_with fail
  obtain ⟨B, hBe⟩ : ∃ B, B = w2.heap.size := ⟨_, rfl⟩
  have HBe := Lib.hid hBe
  clear hBe
  go_loopw [2, 14] (fun v2 i wr => ∃ k : Nat, k ≤ ks.length ∧ i = .int .i64 k ∧ wr.ownsRow B 55 1 v2 k (((ks.take k).filterMap F).map ptrC) ∧ Below w2.heap.size w2 wr) (fun _ i _ => ks.length - (RowKit.intOf i).toNat)
  case atStart => exact ⟨0, by omega, rfl, World.ownsRow_nil _ _ _ _, Below.refl _ _⟩
  case round =>
    obtain ⟨k, hk, rfl, hO2, hb⟩ := hrel
    have hBw : Below w.heap.size w wr := HB2.out.trans (hb.mono HB2.out.size)
    by_cases hlt : k < ks.length
    · obtain ⟨g, cap, hA, hgb, hgl, _, _⟩ := HO.out.form (by omega)
      obtain ⟨rfl, rfl⟩ : A = some ⟨g, 0, none⟩ ∧ c = cap := by simpa using hA
      obtain ⟨x, hx⟩ : ∃ x, x = ks[k] := ⟨_, rfl⟩
      obtain ⟨m, hm, x1, x2⟩ : ∃ m, F x = some m ∧ -9223372036854775808 ≤ x ∧ x ≤ 9223372036854775807 := by
        have h := HKS.out
        subst h
        rw [hx]
        exact keysOf_get hlt
      have hVr := HV.out.below hBw
      have hl1 := hum_lookup hVr x1 x2
      rw [hm] at hl1
      have c0 := hVr.hd.cell' (i := 1) (v := .map (some b)) rfl
      have ck : wr.cell? ⟨g, k, none⟩ = some (.int .i64 x) := by
        rw [hb.cell (p := ⟨g, k, none⟩) hgl, HO.out.cellAt rfl k (by omega), hx]
        simp [encZ, hlt]
      have HX := Lib.hid (And.intro hx hm)
      have HO2 := Lib.hid hO2
      have HBr := Lib.hid hb
      have HBq := Lib.hid (show B ≤ wr.heap.size from by rw [HBe.out]; exact hb.size)
      have i1 : (0 : Int) ≤ (k : Int) := by omega
      have i2 : (k : Int) < (ks.length : Int) := by omega
      obtain ⟨gm, rm⟩ := m
      simp only [ptrV] at hl1
      clear hx hm hO2 hb hVr hA hBw
      go_wp2_with (at_builtin; (refine wpList_append_own_at _ rfl (.tmp 18) (.tmp 25) 56 rfl B 55 i0 _ 1 8 Try.underlying56 hi hz0 hz1 hz2 rfl (by omega) _ _ _ rfl (HO2.out.alloc _) ⟨_, 0, none⟩ 1 1 [ptrV gm] rfl rfl (cell_one_new _ _ _) (by intro u hu; rw [List.mem_singleton.1 hu]; rfl) ?_ ?_ ?_ ?_); (focus (unfold maxLen; omega)); (focus omega); (focus (have := HBq.out; simp; omega)); intro v9 w9 hO9 hg9 hn9 hat9)
      go_roundw
      case rel =>
        refine ⟨k + 1, by omega, by go_num, ?_, ?_⟩
        · rw [take_snoc ks k hlt, ← HX.out.1, List.filterMap_append]
          have e : ((ks.take k).filterMap F ++ [x].filterMap F).map ptrC = ((ks.take k).filterMap F).map ptrC ++ [ptrV gm] := by simp [HX.out.2, ptrC]
          rw [e]
          exact hO9
        · exact row_below2 (HO2.out.alloc _) (HBr.out.alloc HBr.out.size _) (by have := HBe.out; omega) (HBr.out.alloc HBr.out.size _).size hg9
      case measure => simp [RowKit.intOf]; omega
    · have hkl : k = ks.length := by omega
      have HO2 := Lib.hid hO2
      have HBw := Lib.hid hBw
      have HKL := Lib.hid hkl
      clear hO2 hBw hkl hb
      go_wp2_with fail
      go_ret
      refine ⟨u2, rfl, ?_, HBw.out⟩
      have h := HO2.out
      rw [HKL.out, List.take_length, HKS.out, ← allB_keys, allB_len] at h
      exact row_rebase h (by have := HB2.out.size; have := HBe.out; omega)
end Go.Proofs.Ytepnepgjlnoabaa
