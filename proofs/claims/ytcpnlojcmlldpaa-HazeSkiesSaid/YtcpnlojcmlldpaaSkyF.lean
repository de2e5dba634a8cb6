/- Layer 14: the sorted keys of a sky are its nodes; a cloud looked up. -/
import Derived.Test.YtcpnlojcmlldpaaSkyE
namespace Go.Proofs.Ytcpnlojcmlldpaa
open Go.RowKit Go.Maps Go.Sort

theorem own_ofRow {w : World} {base : Nat} {e : TypeId} {size : Nat} {v : Value} {n : Nat} {xs : List Value} (h : w.ownsRow base e size v n xs) : Own w base e size v n xs := by
  obtain ⟨h1, h2⟩ := h
  refine ⟨h1, ?_⟩
  rcases h2 with h2 | ⟨g, cap, cur, h3, h4, h5, h6, h7, h8, h9⟩
  · exact .inl h2
  · exact .inr ⟨g, cap, cur.toList, (0, 0), h3, h4, by simpa using h5, fun i _ => by simp, h6, h7, by simpa using h8, h9⟩
theorem own_below2 {w0 w w' : World} {B B' : Nat} {e : TypeId} {size n : Nat} {v : Value} {xs : List Value} (h : Own w B e size v n xs) (hb : Below B' w0 w) (hBB : B' ≤ B) (hB : B' ≤ w.heap.size) (hg : w.grownBy w' v.ownBlock) : Below B' w0 w' :=
  hb.grown hg hB (fun k hk => Nat.le_trans hBB (h.lt k hk).1)
theorem Own.rebase {w : World} {B B' : Nat} {e : TypeId} {size n : Nat} {v : Value} {xs : List Value} (h : Own w B e size v n xs) (hB : B' ≤ B) : Own w B' e size v n xs := by
  refine ⟨h.1, ?_⟩
  rcases h.2 with h2 | ⟨g, cap, cur, fr, h3, h4, h5⟩
  · exact .inl h2
  · exact .inr ⟨g, cap, cur, fr, h3, Nat.le_trans hB h4, h5⟩
def keysOf (f : Clouds) : List Int := Sk.nodes.filter fun k => (f k).isSome
theorem keysOf_sorted (f : Clouds) : (keysOf f).Pairwise (· ≤ ·) := by
  have h : Sk.nodes.Pairwise (· ≤ ·) := by decide
  exact h.filter _
theorem eq_of_perm_le : ∀ {l₁ l₂ : List Int}, l₁.Perm l₂ → l₁.Pairwise (· ≤ ·) → l₂.Pairwise (· ≤ ·) → l₁ = l₂
  | [], l₂, hp, _, _ => hp.nil_eq
  | a :: r, [], hp, _, _ => absurd hp.symm.nil_eq (by simp)
  | a :: r, b :: s, hp, h1, h2 => by
    obtain ⟨a1, a2⟩ := List.pairwise_cons.1 h1
    obtain ⟨b1, b2⟩ := List.pairwise_cons.1 h2
    have e : a = b := by
      have m1 : a ∈ b :: s := hp.mem_iff.1 List.mem_cons_self
      have m2 : b ∈ a :: r := hp.mem_iff.2 List.mem_cons_self
      rcases List.mem_cons.1 m1 with h | h
      · exact h
      · rcases List.mem_cons.1 m2 with h' | h'
        · exact h'.symm
        · have := b1 a h
          have := a1 b h'
          omega
    subst e
    rw [eq_of_perm_le hp.cons_inv a2 b2]
theorem sort_keys {H : Type} {f : Clouds} {ss : List Int} (h : ss.Perm (intKeys (Sk.mapD (H := H) cloudD f))) : ss.mergeSort (fun x y => decide (x ≤ y)) = keysOf f := by
  rw [Sk.intKeys_mapD] at h
  refine eq_of_perm_le ((List.mergeSort_perm ss _).trans h) ?_ (keysOf_sorted f)
  have := List.pairwise_mergeSort (le := fun x y : Int => decide (x ≤ y)) (fun a b c h1 h2 => by simp at *; omega) (fun a b => by simp; omega) ss
  exact this.imp (fun h => by simpa using h)
theorem keysOf_len (f : Clouds) : (keysOf f).length ≤ 6 := by
  have := List.length_filter_le (fun k => (f k).isSome) Sk.nodes
  exact this
def zeroCloud : Cloud := ⟨Hz.zero, 0⟩
theorem zero_cloud (w : World) : (zeroValue 65).run Try.prog w = .ok (cloudV zeroCloud) w := by kernel_rfl
theorem sky_lookup1 {H : Type} {w : World} {p b N : Nat} {f : Clouds} (h : SkyAt H w p b N f) {k : Int} (h1 : -9223372036854775808 ≤ k) (h2 : k ≤ 9223372036854775807) {m : Cloud} (hm : f k = some m) :
    (Instr.lookup 60 (.map (some b)) (.int .i64 k) false).run Try.prog w = .ok (cloudV m) w := by
  obtain ⟨_, ⟨es, clock, hb, F, _, hD⟩, hs, _⟩ := h
  have hat : ∀ z : DataW H, (DataW.map ((es.toList.map (WideElems.rg Try.prog 3 readC)).foldr DataW.insert [])).atKey (.int .i64 k) z = cloudD m := fun z => by
    rw [← hD, Sk.atKey_mapD hs.1 k z, hm]
  rcases Maps.fit_look false keyed_int Try.underlying60 (zero_cloud w) hb F (key_int h1 h2) with ⟨_, _, hz⟩ | ⟨e0, y, _, _, hrun, hRv, hz, _⟩
  · have h3 := (hz .nil).symm.trans (hat .nil)
    cases h3
  · rw [hrun]
    obtain ⟨m', hv, rfl⟩ := readC_inv hRv
    have h3 := (hz .nil).symm.trans (hat .nil)
    have := cloudD_inj h3
    subst this
    simp [hv]

theorem size_skyD (H : Type) (f : Clouds) : Maps.size (Sk.mapD (H := H) cloudD f) ≤ 6 := List.length_filterMap_le _ Sk.nodes
theorem keysOf_get {f : Clouds} {k : Nat} (hk : k < (keysOf f).length) : ∃ m, f (keysOf f)[k] = some m ∧ -9223372036854775808 ≤ (keysOf f)[k] ∧ (keysOf f)[k] ≤ 9223372036854775807 := by
  have hm := List.getElem_mem hk
  obtain ⟨h1, h2⟩ := List.mem_filter.1 hm
  obtain ⟨m, h3⟩ := Option.isSome_iff_exists.1 h2
  refine ⟨m, h3, ?_⟩
  simp only [Sk.nodes, List.mem_cons, List.not_mem_nil, or_false] at h1
  omega
theorem filterMap_len {f : Clouds} {ks : List Int} (h : ∀ x ∈ ks, (f x).isSome = true) : (ks.filterMap f).length = ks.length := by
  induction ks with
  | nil => rfl
  | cons x r ih =>
    obtain ⟨m, hm⟩ := Option.isSome_iff_exists.1 (h x List.mem_cons_self)
    rw [List.filterMap_cons, hm]
    simp [ih (fun y hy => h y (List.mem_cons_of_mem _ hy))]

end Go.Proofs.Ytcpnlojcmlldpaa
