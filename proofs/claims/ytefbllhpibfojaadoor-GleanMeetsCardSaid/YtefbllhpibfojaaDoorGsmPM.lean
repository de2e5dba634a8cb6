/- Layer 16: laws for drawn regions that make a range while a call runs; what Answer says to one's own ranges. -/
import Derived.Test.YtefbllhpibfojaaDoorGleMM
import Derived.Test.YtefbllhpibfojaaDoorMixAM
namespace Go.Proofs.YtefbllhpibfojaaDoor
open Go.Proofs Stab Go.Shelf Go.RowKit Go.Lib Go.Sort

section
variable {P : Program} {ops : Array Oper} {S : World → Prop} {E : (World → Prop) → Act → Prop} {F : World → Prop} {i : Nat} {a : Act} {o : Oper}
theorem wpMixU_q {r : List (Nat × Bool)} (ho : ops.toList[i]? = some o) (hp : plainOp o = true) (h : wpQuiet P ops S (fun a' => wpMixU P ops S E r F a') [o] a) : wpMixU P ops S E ((i, true) :: r) F a := by
  obtain ⟨v, hy, hK⟩ := yieldsIf_of_quiet hp h
  exact ⟨o, v, nth ho, hy, hK⟩
theorem wpMixU_qnil {r : List (Nat × Bool)} (h : wpMixU P ops S E r F a) : wpQuiet P ops S (fun a' => wpMixU P ops S E r F a') [] a := h
end
theorem made_grown16 {w w' : World} {w0 : World} {g : Nat} (hb : Behind w0 w) (hg : w0.heap.size ≤ g) (h : w.grownBy w' (some g)) : Behind w0 w' := Below.ofGrown hb h hb.size hg
theorem behind_up16 {w0 w w' : World} (h : Behind w0 w) (hb : Below w.heap.size w w') : Behind w0 w' := Below.trans h (hb.mono h.size)
theorem exec_rng {a : Act} {o : Oper} (ho : o.op = .alloc 26) (w : World) : (execOp a.eval o).run Tryd.prog w = .ok (.value (.pointer (some ⟨w.heap.size, 0, none⟩))) (w.alloc (.cells (encG default).toArray 26)) :=
  exec_allocZ 26 (encG default) ho zeroRng w
/-- the store of a thing at the end of a drawn region, into the variable that was made there -/
theorem wpMix_storeAll16 {P : Program} {ops : Array Oper} {Q : Exit → Act → World → Prop} {S : World → Prop} {i : Nat} {a : Act} {w : World} {o : Oper} {r : List (Nat × Bool)} (ho : ops.toList[i]? = some o) (hw : Region.wanted o (yielded ops a.tmps) = true) (ty : TypeId) (x y : Operand) (hop : o.op = .store ty x y) (g : Nat) (hx : a.eval x = .pointer (some ⟨g, 0, none⟩)) (t : TypeId) (cs new : List Value)
    (hg : At w g t cs) (hy : a.eval y = .agg new.toArray) (hl : new.length = cs.length) (hi : (P.info? ty).map (·.size) = some new.length) (h1 : ∀ v ∈ new, v.oneCell' = true)
    (hSs : ∀ w', w.grownBy w' (some g) → S w') (h : ∀ w', At w' g t new → w.grownBy w' (some g) → S w' → wpMix P ops S Q r (a.put o.dst undef) w') : wpMix P ops S Q ((i, false) :: r) a w :=
  wpMix_step ho hw fun K hK => by
    have hgr : w.grownBy (w.setCells g 0 new) (some g) := grown_setCells g new 0 w w (World.grownBy.refl _ _)
    have hat : At (w.setCells g 0 new) g t new := hg.setAll hl
    refine wp_store_mid ty x y hop g 0 new.toArray hx hy (hg.there 0 _ (by simp; omega)) (by simpa using hi) (all_oneCell_toArray h1) ?_
    exact hK _ _ (hSs _ hgr) (h _ hat hgr (hSs _ hgr))

/-- what hedge.Of answers, at any place -/
def ofz (r : Rng) (l : List Rec) : Rng := if placeB r.depth r.pref = true then ofR r l else Rng.zero
def ofe (r : Rng) : Int := if placeB r.depth r.pref = true then 0 else 1
theorem of_both (r : Rng) (A : Option Addr) (c n : Nat) (l : List Rec) (w : World) (hln : n = l.length) (hE : EncIn encR 65 w A l) (hn : n < 1073741824) (hwd : Tab w 0 (u32s Sha.words)) (z : Rng) (hz : z = ofz r l) (e0 : Int) (he : e0 = ofe r) :
    Calls Tryd.prog 15 #[.int .i64 r.depth, .int .i64 r.pref, .slice A n c] w fun e w' => e = .returned (.tuple #[.agg (encG z).toArray, .int .i64 e0]) ∧ Below w.heap.size w w' := by
  subst hz he
  by_cases hp : placeB r.depth r.pref = true
  · have h1 : ofz r l = ofR r l := by unfold ofz; rw [if_pos hp]
    have h2 : ofe r = 0 := by unfold ofe; rw [if_pos hp]
    rw [h1, h2]
    exact of_at r hp A c n l w hln hE hn hwd _ rfl
  · have h1 : ofz r l = Rng.zero := by unfold ofz; rw [if_neg hp]
    have h2 : ofe r = 1 := by unfold ofe; rw [if_neg hp]
    rw [h1, h2]
    exact of_bad r (by simpa using hp) A n c w

/-- one's own ranges at the places of others -/
def ownS (a : List Rng) (l : List Rec) : List Rng := (a.filter fun r => placeB r.depth r.pref).map fun r => ofR r l
theorem ownS_snoc (a : List Rng) (l : List Rec) (i : Nat) (hi : i < a.length) : ownS (a.take (i + 1)) l = ownS (a.take i) l ++ (if placeB a[i].depth a[i].pref = true then [ofR a[i] l] else []) := by
  unfold ownS
  rw [List.take_succ_eq_append_getElem hi, List.filter_append, List.map_append]
  congr 1
  by_cases h : placeB a[i].depth a[i].pref = true
  · rw [if_pos h, List.filter_cons, if_pos h]
    rfl
  · rw [if_neg h, List.filter_cons, if_neg h]
    rfl
theorem fold_same (l : List Rec) : ∀ (L : List Rng) (s : List Rng × List Rec × List Rng), (∀ r ∈ L, ofR r l = r) → L.foldl (stepA l) s = s
  | [], _, _ => rfl
  | r :: L, s, h => by
    rw [List.foldl_cons, stepA_same (h r List.mem_cons_self)]
    exact fold_same l L s fun q hq => h q (List.mem_cons_of_mem _ hq)
theorem own_same (a : List Rng) (l : List Rec) : foldA (ownS a l) l = ([], [], []) := by
  unfold foldA
  refine fold_same l _ _ fun r hr => ?_
  have hr' := List.mem_of_mem_take hr
  unfold ownS at hr'
  obtain ⟨q, _, rfl⟩ := List.mem_map.1 hr'
  rfl
/-- what Answer says -/
theorem fold_says (l : List Rec) : ∀ (L : List Rng) (s : List Rng × List Rec × List Rng) (T : List Rng), (∀ r ∈ L, r ∈ T) →
    (∀ x ∈ s.1, ∃ r ∈ T, goodB r = true ∧ r.depth ≠ 8 ∧ x ∈ partsR (ofR r l) l) ∧ (∀ x ∈ s.2.1, ∃ r ∈ T, x ∈ itemsR r l) →
    (∀ x ∈ (L.foldl (stepA l) s).1, ∃ r ∈ T, goodB r = true ∧ r.depth ≠ 8 ∧ x ∈ partsR (ofR r l) l) ∧ (∀ x ∈ (L.foldl (stepA l) s).2.1, ∃ r ∈ T, x ∈ itemsR r l)
  | [], _, _, _, h => h
  | r :: L, s, T, hL, h => by
    rw [List.foldl_cons]
    refine fold_says l L _ T (fun q hq => hL q (List.mem_cons_of_mem _ hq)) ?_
    have hr := hL r List.mem_cons_self
    unfold stepA
    split
    · exact h
    · rename_i hg
      split
      · exact h
      · split
        · refine ⟨h.1, fun x hx => ?_⟩
          rcases List.mem_append.1 hx with hx | hx
          · exact h.2 x hx
          · exact ⟨r, hr, hx⟩
        · rename_i hs
          refine ⟨fun x hx => ?_, h.2⟩
          rcases List.mem_append.1 hx with hx | hx
          · exact h.1 x hx
          · exact ⟨r, hr, by simpa using hg, (small_no (x := ofR r l) (y := r) (by simpa using hs)).2, hx⟩
theorem says_sums {th : List Rng} {l : List Rec} (hl : l.length < 1048577) {x : Rng} (h : x ∈ (foldA th l).1.take 16) : ofz x l = x ∧ ofe x = 0 := by
  obtain ⟨r, _, hg, h8, hx⟩ := (fold_says l (th.take 16) ([], [], []) th (fun r hr => List.mem_of_mem_take hr) ⟨fun x hx => (by cases hx), fun x hx => (by cases hx)⟩).1 x (List.mem_of_mem_take h)
  obtain ⟨h1, _, h3, _⟩ := part_in hg h8 hl hx
  have hp : placeB x.depth x.pref = true := by unfold goodB at h1; rw [Bool.and_eq_true, Bool.and_eq_true] at h1; exact h1.1.1
  unfold ofz ofe
  rw [if_pos hp, if_pos hp]
  exact ⟨h3, rfl⟩
theorem says_items {th : List Rng} {l : List Rec} {x : Rec} (h : x ∈ (foldA th l).2.1.take 16) : x ∈ l ∧ ∃ r ∈ th, inB r x.key = true := by
  obtain ⟨r, hr, hx⟩ := (fold_says l (th.take 16) ([], [], []) th (fun r hr => List.mem_of_mem_take hr) ⟨fun x hx => (by cases hx), fun x hx => (by cases hx)⟩).2 x (List.mem_of_mem_take h)
  exact ⟨(find_some (items_mem.1 hx).1).1, r, hr, (items_mem.1 hx).2⟩
end Go.Proofs.YtefbllhpibfojaaDoor
