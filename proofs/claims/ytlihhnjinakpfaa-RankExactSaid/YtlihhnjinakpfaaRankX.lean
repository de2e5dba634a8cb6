/- RankExact, the walk: it answers true for every rows of members and every node. -/
import Derived.Test.YtlihhnjinakpfaaRankV
import Derived.Test.YtlihhnjinakpfaaRankN1
namespace Go.Proofs.Ytlihhnjinakpfaa
open Go.RowKit Go.Maps Go.Sort

/-- what stands between the rounds of RankExact: the program's view, the reference's view, older memory as it was -/
structure ExactC (w w' : World) (p b u : Nat) (f : Known) : Prop where
  below : Below w.heap.size w w'
  view : ViewAt Unit w' p b 6 f
  ref : RefAt w' u 32 f
  pw : w.heap.size ≤ p
  bw : w.heap.size ≤ b
  uw : w.heap.size ≤ u
  pu : p ≠ u
  bu : b ≠ u
theorem ExactC.step {w w' w'' : World} {p b u : Nat} {f : Known} (h : ExactC w w' p b u f) (hb : Below w'.heap.size w' w'') : ExactC w w'' p b u f :=
  ⟨h.below.trans (hb.mono h.below.size), view_below h.view hb, h.ref.below hb, h.pw, h.bw, h.uw, h.pu, h.bu⟩

theorem ExactC.drew {w w' : World} {p b u : Nat} {f : Known} (h : ExactC w w' p b u f) : ExactC w w'.drew p b u f := h.step (Below.refl _ _).drew
theorem MemsIn.grown {w w' : World} {A : Option Addr} {l : List Mem} {u : Nat} (h : MemsIn w A l) (hg : w.grownBy w' (some u)) (hA : ∀ g off, 0 < l.length → A = some ⟨g, off, none⟩ → g ≠ u) : MemsIn w' A l := fun h0 => by
  obtain ⟨g, off, rfl, hlt, hc⟩ := h h0
  have hb := hg.block g hlt (by intro e; injection e with e; exact hA g off h0 rfl e)
  refine ⟨g, off, rfl, Nat.lt_of_lt_of_le hlt hg.size, fun i hi j v hv => ?_⟩
  have := hc i hi j v hv
  unfold World.cell? at this ⊢
  rw [hb]
  exact this
/-- behind the program's Merge -/
structure St1 (w w' : World) (p b u : Nat) (f f1 : Known) (A1 : Option Addr) (l2 : List Mem) : Prop where
  below : Below w.heap.size w w'
  view : ViewAt Unit w' p b 6 f1
  ref : RefAt w' u 32 f
  m1 : MemsIn w' A1 l2
  a1 : ∀ g off, 0 < l2.length → A1 = some ⟨g, off, none⟩ → g ≠ u
  pw : w.heap.size ≤ p
  bw : w.heap.size ≤ b
  uw : w.heap.size ≤ u
  pu : p ≠ u
  bu : b ≠ u
/-- with two rows of members that are the same -/
structure St2 (w w' : World) (p b u : Nat) (f : Known) (A1 A2 : Option Addr) (l2 : List Mem) : Prop where
  ex : ExactC w w' p b u f
  m1 : MemsIn w' A1 l2
  m2 : MemsIn w' A2 l2
structure StA (w w' : World) (p b u : Nat) (f : Known) (A1 : Option Addr) (l2 : List Mem) : Prop where
  ex : ExactC w w' p b u f
  m1 : MemsIn w' A1 l2
structure StI (w w' : World) (p b u : Nat) (f : Known) (A1 : Option Addr) (l2 : List Int) : Prop where
  ex : ExactC w w' p b u f
  m1 : IntsIn w' A1 l2
structure StJ (w w' : World) (p b u : Nat) (f : Known) (A1 A2 : Option Addr) (l2 : List Int) : Prop where
  ex : ExactC w w' p b u f
  m1 : IntsIn w' A1 l2
  m2 : IntsIn w' A2 l2
section
variable {w w' : World} {p b u : Nat} {f : Known}
theorem ex_mergev (h : ExactC w w' p b u f) (Ai : Option Addr) (ci : Nat) (l : List Mem) (hl : MemsIn w Ai l) (hN : l.length ≤ 1000000) (hW : ∀ m ∈ l, m.Wf) :
    Calls Try.prog 11 #[.pointer (some ⟨p, 0, none⟩), .slice Ai l.length ci] w' fun e w'' => ∃ A1 c1, e = .returned (.slice A1 (merge f l).2.length c1) ∧ St1 w w'' p b u f (merge f l).1 A1 (merge f l).2 := by
  have hul := h.ref.lt
  refine (merge6 (H := Unit) h.view Ai ci l (hl.below h.below) (fun g off h0 e => by
    obtain ⟨g', off', e', hlt, _⟩ := hl h0
    rw [e] at e'
    injection e' with e'
    injection e' with e'
    have := h.bw
    omega) hN hW).mono ?_
  rintro e w'' ⟨A1, c1, rfl, hM, hlo, hV, hg⟩
  exact ⟨A1, c1, rfl, Below.ofGrown h.below hg h.below.size h.bw, hV, h.ref.grown hg (by intro e; injection e with e; exact h.bu e.symm), hM, fun g off _ e => by have := hlo g off e; omega, h.pw, h.bw, h.uw, h.pu, h.bu⟩
theorem ex_mergeu {f1 : Known} {A1 : Option Addr} (hs : Sane f) (Ai : Option Addr) (ci : Nat) (l : List Mem) (h : St1 w w' p b u f (merge f l).1 A1 (merge f l).2) (hl : MemsIn w Ai l) (hN : l.length ≤ 1000000) (hf : f1 = (merge f l).1) :
    Calls Try.prog 12 #[.pointer (some ⟨u, 0, none⟩), .slice Ai l.length ci] w' fun e w'' => ∃ A2 c2, e = .returned (.slice A2 (merge f l).2.length c2) ∧ St2 w w'' p b u f1 A1 A2 (merge f l).2 := by
  subst hf
  refine (refmerge_any h.ref hs Ai ci l (hl.below h.below) (fun g off h0 e => by
    obtain ⟨g', off', e', hlt, _⟩ := hl h0
    rw [e] at e'
    injection e' with e'
    injection e' with e'
    have := h.uw
    omega) hN).mono ?_
  rintro e w'' ⟨v, rfl, hR, hg, hO⟩
  obtain ⟨A2, c2, rfl, hM2, _⟩ := Mems.own hO
  exact ⟨A2, c2, rfl, ⟨Below.ofGrown h.below hg h.below.size h.uw, view_grown h.view hg (by intro e; injection e with e; exact h.pu e) (by intro e; injection e with e; exact h.bu e), hR, h.pw, h.bw, h.uw, h.pu, h.bu⟩, h.m1.grown hg h.a1, hM2⟩
theorem ex_same {A1 A2 : Option Addr} {l2 : List Mem} (h : St2 w w' p b u f A1 A2 l2) (c1 c2 : Nat) (hN : l2.length ≤ 1000000) :
    Calls Try.prog 10 #[.slice A1 l2.length c1, .slice A2 l2.length c2] w' fun e w'' => e = .returned (.bool true) ∧ ExactC w w'' p b u f := by
  refine (refSame_any _ _ _ _ l2 l2 _ (by omega) h.m1 h.m2).mono ?_
  rintro e w'' ⟨rfl, hb⟩
  exact ⟨by rw [decide_eq_true rfl], h.ex.step hb⟩
theorem ex_allv (h : ExactC w w' p b u f) :
    Calls Try.prog 13 #[.pointer (some ⟨p, 0, none⟩)] w' fun e w'' => ∃ A1 c1, e = .returned (.slice A1 (all f).length c1) ∧ StA w w'' p b u f A1 (all f) := by
  refine (all6 h.view).mono ?_
  rintro e w'' ⟨A1, c1, rfl, hM, _, hb⟩
  exact ⟨A1, c1, rfl, h.step hb, hM⟩
theorem ex_allu {A1 : Option Addr} (h : StA w w' p b u f A1 (all f)) :
    Calls Try.prog 14 #[.pointer (some ⟨u, 0, none⟩)] w' fun e w'' => ∃ A2 c2, e = .returned (.slice A2 (all f).length c2) ∧ St2 w w'' p b u f A1 A2 (all f) := by
  refine (refall_any h.ex.ref).mono ?_
  rintro e w'' ⟨v, rfl, hb, hO⟩
  obtain ⟨A2, c2, rfl, hM2, _⟩ := Mems.own hO
  exact ⟨A2, c2, rfl, h.ex.step hb, h.m1.below hb, hM2⟩
theorem ex_presv (h : ExactC w w' p b u f) :
    Calls Try.prog 16 #[.pointer (some ⟨p, 0, none⟩)] w' fun e w'' => ∃ A1 c1, e = .returned (.slice A1 (present f).length c1) ∧ StI w w'' p b u f A1 (present f) := by
  refine (present_any h.view).mono ?_
  rintro e w'' ⟨v, rfl, hO, hb⟩
  obtain ⟨A1, c1, rfl, hI⟩ := ints_own hO
  exact ⟨A1, c1, rfl, h.step hb, hI⟩
theorem ex_presu {A1 : Option Addr} (h : StI w w' p b u f A1 (present f)) (hs : Sane f) :
    Calls Try.prog 17 #[.pointer (some ⟨u, 0, none⟩)] w' fun e w'' => ∃ A2 c2, e = .returned (.slice A2 (present f).length c2) ∧ StJ w w'' p b u f A1 A2 (present f) := by
  refine (refpresent_any h.ex.ref hs).mono ?_
  rintro e w'' ⟨v, rfl, hb, hO⟩
  obtain ⟨A2, c2, rfl, hI⟩ := ints_own hO
  exact ⟨A2, c2, rfl, h.ex.step hb, h.m1.below hb, hI⟩
theorem ex_ints {A1 A2 : Option Addr} {l2 : List Int} (h : StJ w w' p b u f A1 A2 l2) (c1 c2 : Nat) (hN : l2.length ≤ 1000000) :
    Calls Try.prog 15 #[.slice A1 l2.length c1, .slice A2 l2.length c2] w' fun e w'' => e = .returned (.bool true) ∧ ExactC w w'' p b u f := by
  refine (refInts_any _ _ _ _ l2 l2 _ (by omega) h.m1 h.m2).mono ?_
  rintro e w'' ⟨rfl, hb⟩
  exact ⟨by rw [decide_eq_true rfl], h.ex.step hb⟩
end

set_option maxRecDepth 100000 in
set_option maxHeartbeats 8000000 in
theorem exact_walk (A : Option Addr) (c : Nat) (rows : List (Option Addr × Nat × List Mem)) (node : Int) (w : World) (hl : RowsIn w A rows) (hn : rows.length ≤ maxLen) (h64 : -9223372036854775808 ≤ node ∧ node ≤ 9223372036854775807) :
    Calls Try.prog 3 #[.slice A rows.length c, .int .i64 node] w fun e w' => e = .returned (.bool true) ∧ Below w.heap.size w w' := by
  have HL := Lib.hid hl
  have H64 := Lib.hid h64
  clear hl h64
  have hn' : rows.length ≤ 9223372036854775807 := hn
  go_enter Try.func3, Try.ntmps3
  by_cases h40 : 40 < rows.length
  · go_wp2_with fail
    refine (awake_any _).mono ?_
    rintro e w1 ⟨rfl, hb⟩
    have HB1 := Lib.hid hb
    clear hb
    go_wp2_with fail
    go_ret
    exact ⟨rfl, HB1.out⟩
  go_wp2_with fail
  refine (awake_any _).mono ?_
  rintro e w1 ⟨rfl, hb⟩
  have HB1 := Lib.hid hb
  clear hb
  go_wp2_with fail
  refine (new6 (H := Unit) none 0 [] (fun h => absurd h (by simp)) (by simp) (fun m hm => by simp at hm)).mono ?_
  rintro e w2 ⟨p, b, rfl, hV, hb, hp, hb'⟩
  have HV := Lib.hid hV
  have HB2 := Lib.hid (HB1.out.trans (hb.mono HB1.out.size))
  have hbl := hV.2.1.lt
  have hpl := hV.1.lt
  have hs1 := HB1.out.size
  clear hV hb HB1
  go_wp2_with fail
  have hE : ExactC w (w2.alloc (.cells ((List.replicate 21 (Value.int .i64 0)) ++ List.replicate 7 (Value.bool false)).toArray 32)) p b w2.heap.size (fun _ => none) := by
    have hb3 : Below w2.heap.size w2 (w2.alloc (.cells ((List.replicate 21 (Value.int .i64 0)) ++ List.replicate 7 (Value.bool false)).toArray 32)) := (Below.refl _ _).alloc (Nat.le_refl _) _
    exact ⟨HB2.out.trans (hb3.mono HB2.out.size), view_below HV.out hb3, ⟨_, At.new w2 _ _, ref_none⟩, by omega, by omega, HB2.out.size, by omega, by omega⟩
  have HE := Lib.hid hE
  clear hE
  go_loopw [7] (fun i wr => ∃ (k : Nat) (f : Known), k ≤ rows.length ∧ i = .int .i64 k ∧ Sane f ∧ ExactC w wr p b w2.heap.size f) (fun i _ => rows.length - (RowKit.intOf i).toNat)
  case atStart => exact ⟨0, _, by omega, rfl, sane_none, HE.out⟩
  case round =>
    obtain ⟨k, f, hk, rfl, hs, he⟩ := hrel
    by_cases hlt : k < rows.length
    · obtain ⟨row, hrow⟩ : ∃ row, row = rows[k] := ⟨_, rfl⟩
      obtain ⟨Ai, ci, l⟩ := row
      obtain ⟨g, off, rfl, hgl, hc⟩ := HL.out (by omega)
      obtain ⟨hcell, hM, hW⟩ := hc k hlt
      rw [← hrow] at hcell hM hW
      simp only at hcell hM hW
      have d0 : wr.cell? ⟨g, off + k, none⟩ = some (.slice Ai l.length ci) := (he.below.cell (p := ⟨g, off + k, none⟩) hgl).trans hcell
      have hMr := hM.below he.below
      have HM := Lib.hid hM
      have HW := Lib.hid hW
      have HS := Lib.hid hs
      have HEr := Lib.hid he
      have HC := Lib.hid (And.intro hgl hcell)
      have i1 : (0 : Int) ≤ (k : Int) := by omega
      have i2 : (k : Int) < (rows.length : Int) := by omega
      clear hrow hc hcell hM hW hs he hMr hgl
      by_cases hl40 : 40 < l.length
      · go_wp2_with fail
        go_ret
        exact ⟨rfl, HEr.out.below⟩
      · go_wp2_with fail
        obtain ⟨f1, hf1⟩ : ∃ f1, f1 = (merge f l).1 := ⟨_, rfl⟩
        have HF1 := Lib.hid hf1
        have hml := merge_len l f
        have hS1 : Sane f1 := by rw [hf1]; exact sane_merge l HS.out
        have HS1 := Lib.hid hS1
        have hpl1 : (present f1).length ≤ 1000000 := Nat.le_trans (presentL_len (all f1)) (Nat.le_trans (all_short f1) (by omega))
        have hal1 : (all f1).length ≤ 1000000 := Nat.le_trans (all_short f1) (by omega)
        have HOld := Lib.hid (show ∀ w', Below w.heap.size w w' → w'.cell? ⟨g, off + k, none⟩ = some (.slice Ai l.length ci) from fun w' h => (h.cell (p := ⟨g, off + k, none⟩) HC.out.1).trans HC.out.2)
        clear hf1 hS1 d0
        have hE0 : ExactC w wr p b w2.heap.size f := HEr.out
        go_region_held3 (fun w' => w'.cell? ⟨g, off + k, none⟩ = some (.slice Ai l.length ci))
          (first
            | exact HOld.out _ (ExactC.below (by assumption))
            | exact HOld.out _ (ExactC.below (ExactC.drew (by assumption)))
            | exact HOld.out _ (St1.below (by assumption))
            | exact HOld.out _ (ExactC.below (St2.ex (by assumption)))
            | exact HOld.out _ (ExactC.below (StA.ex (by assumption)))
            | exact HOld.out _ (ExactC.below (StI.ex (by assumption)))
            | exact HOld.out _ (ExactC.below (StJ.ex (by assumption))))
          (first
            | (go_at_call 11; (with_reducible refine (ex_mergev (by first | assumption | exact ExactC.drew (by assumption)) Ai ci l HM.out (by omega) HW.out).mono ?_); rintro e w' ⟨A1, c1, rfl, hx⟩)
            | (go_at_call 12; (with_reducible refine (ex_mergeu HS.out Ai ci l (by assumption) HM.out (by omega) HF1.out).mono ?_); rintro e w' ⟨A1, c1, rfl, hx⟩)
            | (go_at_call 10; (with_reducible refine (ex_same (by assumption) _ _ (by omega)).mono ?_); rintro e w' ⟨rfl, hx⟩)
            | (go_at_call 13; (with_reducible refine (ex_allv (f := f1) (by assumption)).mono ?_); rintro e w' ⟨A1, c1, rfl, hx⟩)
            | (go_at_call 14; (with_reducible refine (ex_allu (f := f1) (by assumption)).mono ?_); rintro e w' ⟨A1, c1, rfl, hx⟩)
            | (go_at_call 16; (with_reducible refine (ex_presv (f := f1) (by assumption)).mono ?_); rintro e w' ⟨A1, c1, rfl, hx⟩)
            | (go_at_call 17; (with_reducible refine (ex_presu (f := f1) (by assumption) HS1.out).mono ?_); rintro e w' ⟨A1, c1, rfl, hx⟩)
            | (go_at_call 15; (with_reducible refine (ex_ints (by assumption) _ _ (by omega)).mono ?_); rintro e w' ⟨rfl, hx⟩))
        all_goals
          have HX := Lib.hid hx
          clear hx hE0
          go_wp2_with fail
          go_loopw [8] (fun i wr => ∃ j : Nat, j ≤ l.length ∧ i = .int .i64 j ∧ ExactC w wr p b w2.heap.size f1) (fun i _ => l.length - (RowKit.intOf i).toNat)
          case atStart => exact ⟨0, by omega, rfl, HX.out⟩
          case round =>
            obtain ⟨j, hj, rfl, he⟩ := hrel
            have d1 := HOld.out _ he.below
            by_cases hjl : j < l.length
            · obtain ⟨gi, oi, rfl, hgi, hci⟩ := HM.out (by omega)
              obtain ⟨m, hm⟩ : ∃ m, m = l[j] := ⟨_, rfl⟩
              obtain ⟨m0, hm0⟩ : ∃ m0, m0 = l[0]'(by omega) := ⟨_, rfl⟩
              have HE5 := Lib.hid he
              have HRow := Lib.hid (show ∀ w', Later wr w' → w'.cell? ⟨g, off + k, none⟩ = some (.slice (some ⟨gi, oi, none⟩) l.length ci) from fun w' h => HOld.out _ (he.step h).below)
              have HRj := Lib.hid (show ∀ w', Later wr w' → w'.rangeAt gi (oi + j * 3) (cellsM m) from fun w' h => by
                rw [hm]
                exact range_below' (hci j hjl) (he.step h).below hgi)
              have HR0 := Lib.hid (show ∀ w', Later wr w' → w'.rangeAt gi oi (cellsM m0) from fun w' h => by
                rw [hm0]
                have := range_below' (hci 0 (by omega)) (he.step h).below hgi
                rwa [Nat.zero_mul, Nat.add_zero] at this)
              obtain ⟨gd, hgd⟩ : ∃ gd, m.good = gd := ⟨_, rfl⟩
              obtain ⟨ab, hab⟩ : ∃ ab, m0.above m = ab := ⟨_, rfl⟩
              have HGd := Lib.hid (show ∀ w', Later wr w' → Calls Try.prog 18 #[memV m] w' fun e w'' => e = .returned (.bool gd) ∧ Later wr w'' from fun w' h => (good_at m gd hgd _).mono fun e w'' ⟨he, hbx⟩ => ⟨he, Below.trans h (hbx.mono (Below.size h))⟩)
              have HGr := Lib.hid (show ∀ w', Later wr w' → Calls Try.prog 19 #[memV m] w' fun e w'' => e = .returned (.bool gd) ∧ Later wr w'' from fun w' h => (refgood_at m gd hgd _).mono fun e w'' ⟨he, hbx⟩ => ⟨he, Below.trans h (hbx.mono (Below.size h))⟩)
              have HAb := Lib.hid (show ∀ w', Later wr w' → Calls Try.prog 20 #[memV m0, memV m] w' fun e w'' => e = .returned (.bool ab) ∧ Later wr w'' from fun w' h => (above_at m0 m ab hab _).mono fun e w'' ⟨he, hbx⟩ => ⟨he, Below.trans h (hbx.mono (Below.size h))⟩)
              have HAr := Lib.hid (show ∀ w', Later wr w' → Calls Try.prog 21 #[memV m0, memV m] w' fun e w'' => e = .returned (.bool ab) ∧ Later wr w'' from fun w' h => (refabove_any m0 m _).mono fun e w'' ⟨he, hbx⟩ => ⟨by rw [he, hab], Below.trans h (hbx.mono (Below.size h))⟩)
              have HU := Lib.hid Try.underlying28
              have HUs := Lib.hid Try.underlying33
              have HI3 := Lib.hid (show (Try.prog.info? 28).map (·.size) = some (cellsM m).length by kernel_rfl)
              have HI4 := Lib.hid (show (Try.prog.info? 28).map (·.size) = some (cellsM m0).length by kernel_rfl)
              have j1 : (0 : Int) ≤ (j : Int) := by omega
              have j2 : (j : Int) < (l.length : Int) := by omega
              have j3 : (0 : Int) < (l.length : Int) := by omega
              clear hm hm0 hgd hab hci he
              go_wp2_with fail
              cases gd <;> cases ab
              all_goals
                refine wp_region_class (Later wr) (by kernel_rfl) (by kernel_rfl) (Below.refl _ _).drew ?_
                iterate 48 (first
                  | go_big_quiet_skip
                  | (with_reducible refine wpQuiet_loadS (.slice (some ⟨gi, oi, none⟩) l.length ci) (by with_unfolding_all rfl) 33 _ _ (by with_unfolding_all rfl) HUs.out g (off + k) (by with_unfolding_all rfl) (fun w h => HRow.out w h) ?_; simp only [Act.put, List.setIfInBounds_toArray, List.set_cons_zero, List.set_cons_succ])
                  | (with_reducible refine wpQuiet_loadAll (by with_unfolding_all rfl) 28 _ (by with_unfolding_all rfl) gi (oi + j * 3) (by with_unfolding_all rfl) (cellsM m) _ (fun w h => HRj.out w h) HU.out (by with_unfolding_all rfl) HI3.out ?_; simp only [Act.put, List.setIfInBounds_toArray, List.set_cons_zero, List.set_cons_succ])
                  | (with_reducible refine wpQuiet_loadAll (by with_unfolding_all rfl) 28 _ (by with_unfolding_all rfl) gi oi (by with_unfolding_all rfl) (cellsM m0) _ (fun w h => HR0.out w h) HU.out (by with_unfolding_all rfl) HI4.out ?_; simp only [Act.put, List.setIfInBounds_toArray, List.set_cons_zero, List.set_cons_succ])
                  | (with_reducible refine wpQuiet_call 18 [memV m] (.bool _) (by with_unfolding_all rfl) _ _ (by with_unfolding_all rfl) (by with_unfolding_all rfl) (fun _ => by kernel_rfl) (fun w' h => HGd.out w' h) ?_; simp only [Act.put, List.setIfInBounds_toArray, List.set_cons_zero, List.set_cons_succ])
                  | (with_reducible refine wpQuiet_call 19 [memV m] (.bool _) (by with_unfolding_all rfl) _ _ (by with_unfolding_all rfl) (by with_unfolding_all rfl) (fun _ => by kernel_rfl) (fun w' h => HGr.out w' h) ?_; simp only [Act.put, List.setIfInBounds_toArray, List.set_cons_zero, List.set_cons_succ])
                  | (with_reducible refine wpQuiet_call 20 [memV m0, memV m] (.bool _) (by with_unfolding_all rfl) _ _ (by with_unfolding_all rfl) (by with_unfolding_all rfl) (fun _ => by kernel_rfl) (fun w' h => HAb.out w' h) ?_; simp only [Act.put, List.setIfInBounds_toArray, List.set_cons_zero, List.set_cons_succ])
                  | (with_reducible refine wpQuiet_call 21 [memV m0, memV m] (.bool _) (by with_unfolding_all rfl) _ _ (by with_unfolding_all rfl) (by with_unfolding_all rfl) (fun _ => by kernel_rfl) (fun w' h => HAr.out w' h) ?_; simp only [Act.put, List.setIfInBounds_toArray, List.set_cons_zero, List.set_cons_succ])
                  | (go_big_quiet_step (exact fun _ => rfl)))
                with_reducible refine wpQuiet_nil ?_
                intro w7 h7
                have HE7 := Lib.hid (HE5.out.step h7)
                clear h7
                go_wp2_with fail
                go_roundw
                case rel => exact ⟨j + 1, by omega, by go_num, HE7.out⟩
                case measure => simp [RowKit.intOf]; omega
            · have hjl' : j = l.length := by omega
              subst hjl'
              have HE5 := Lib.hid he
              clear he
              obtain ⟨x, kn, hfd, hkn, hx⟩ : ∃ x kn, found f1 node = .tuple #[memV x, .bool kn] ∧ (f1 node).isSome = kn ∧ (f1 node).getD Mem.zero = x := by
                unfold found
                cases f1 node with
                | none => exact ⟨_, _, rfl, rfl, rfl⟩
                | some x => exact ⟨_, _, rfl, rfl, rfl⟩
              have HFD := Lib.hid hfd
              have hout : ¬ (1 ≤ node ∧ node ≤ 6) → f1 node = none := fun h => by
                cases hq : f1 node with
                | none => rfl
                | some y =>
                  obtain ⟨hy, rfl⟩ := HS1.out node y hq
                  have := (Mem.good_iff y).1 hy
                  exact absurd ⟨this.1, this.2.1⟩ h
              have HOut := Lib.hid hout
              have HKn := Lib.hid hkn
              have HXx := Lib.hid hx
              clear hfd hkn hx hout
              go_wp2_with fail
              clear d1
              refine (get_any HE5.out.view node H64.out.1 H64.out.2).mono ?_
              rintro e w6 ⟨rfl, hb⟩
              rw [HFD.out]
              have HE6 := Lib.hid (HE5.out.step hb)
              clear hb
              unfold memV
              by_cases hnode : 1 ≤ node ∧ node ≤ 6
              · have n1 : ¬ node < 1 := by omega
                have n2 : ¬ 6 < node := by omega
                have n3 : 0 ≤ node := by omega
                have n4 : node < 7 := by omega
                have n5 : node.toNat < 7 := by omega
                have en : (node.toNat : Int) = node := by omega
                have hul := HE6.out.ref.lt
                have hkx : known f1 node.toNat = x := by unfold known; rw [en, HXx.out]
                have kk : w6.cell? ⟨w2.heap.size, 21 + node.toNat, none⟩ = some (.bool kn) := by
                  have := HE6.out.ref.cellK n5
                  rwa [en, HKn.out] at this
                have c0 : w6.cell? ⟨w2.heap.size, node.toNat * 3, none⟩ = some (.int .i64 x.n) := HE6.out.ref.cellM n5 (j := 0) (by rw [hkx]; rfl)
                have c1 : w6.cell? ⟨w2.heap.size, node.toNat * 3 + 1, none⟩ = some (.int .i64 x.i) := HE6.out.ref.cellM n5 (j := 1) (by rw [hkx]; rfl)
                have c2 : w6.cell? ⟨w2.heap.size, node.toNat * 3 + 2, none⟩ = some (.int .i64 x.s) := HE6.out.ref.cellM n5 (j := 2) (by rw [hkx]; rfl)
                clear en hkx hnode
                cases kn
                all_goals
                  go_wp2_with fail
                  go_quiet (fail)
                  go_wp2_with fail
                  go_roundw
                  case rel => exact ⟨k + 1, f1, by omega, by go_num, HS1.out, HE6.out.step (below_drewN ((Below.refl _ _).alloc (Nat.le_refl _) _) _)⟩
                  case measure => simp [RowKit.intOf]; omega
              · have hno := HOut.out hnode
                have hk0 := HKn.out
                have hx0 := HXx.out
                rw [hno] at hk0 hx0
                simp only [Option.isSome_none, Option.getD_none] at hk0 hx0
                subst hk0 hx0
                clear hno
                by_cases hn1 : node < 1
                · go_wp2_with fail
                  refine ⟨⟨k + 1, f1, by omega, by go_num, HS1.out, HE6.out.step ((Below.refl _ _).alloc (Nat.le_refl _) _)⟩, by simp [RowKit.intOf]; omega⟩
                · have hn6 : 6 < node := by omega
                  go_wp2_with fail
                  refine ⟨⟨k + 1, f1, by omega, by go_num, HS1.out, HE6.out.step ((Below.refl _ _).alloc (Nat.le_refl _) _)⟩, by simp [RowKit.intOf]; omega⟩
    · have HEr := Lib.hid he
      clear hs he
      go_wp2_with fail
      go_ret
      exact ⟨rfl, HEr.out.below⟩
theorem exact_any (A : Option Addr) (c : Nat) (rows : List (Option Addr × Nat × List Mem)) (node : Int) (w : World) (hl : RowsIn w A rows) (h1 : rows.length ≤ c ∧ c ≤ maxLen) (h64 : -9223372036854775808 ≤ node ∧ node ≤ 9223372036854775807) :
    Calls Try.prog 3 #[.slice A rows.length c, .int .i64 node] w fun e w' => e = .returned (.bool true) ∧ Below w.heap.size w w' :=
  exact_walk A c rows node w hl (Nat.le_trans h1.1 h1.2) h64
end Go.Proofs.Ytlihhnjinakpfaa
