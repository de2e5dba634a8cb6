/- Layer 2's statement StampSorts: the walk. -/
import Derived.Test.YthfkbdhfnoilgaaDoorStampJ
import Derived.Test.YthfkbdhfnoilgaaDoorRegC
namespace Go.Proofs.YthfkbdhfnoilgaaDoor
open Go.RowKit

theorem cmp_self (a : List UInt8) : Lib.compareBytes a a = 0 := by
  induction a with
  | nil => rfl
  | cons x a ih => simp [Lib.compareBytes, ih]
theorem cmp_swap (a : List UInt8) : ∀ b, Lib.compareBytes b a = - Lib.compareBytes a b := by
  induction a with
  | nil => intro b; cases b <;> rfl
  | cons x a ih =>
    intro b
    cases b with
    | nil => rfl
    | cons y b =>
      simp only [Lib.compareBytes]
      by_cases h1 : x < y
      · have h2 : ¬ y < x := by rw [UInt8.lt_iff_toNat_lt] at *; omega
        simp [h1, h2]
      · by_cases h2 : y < x
        · simp [h1, h2]
        · simp [h1, h2, ih b]
theorem cmp_eq0 (a : List UInt8) : ∀ b, Lib.compareBytes a b = 0 → a = b := by
  induction a with
  | nil => intro b h; cases b <;> simp [Lib.compareBytes] at h ⊢
  | cons x a ih =>
    intro b h
    cases b with
    | nil => simp [Lib.compareBytes] at h
    | cons y b =>
      simp only [Lib.compareBytes] at h
      by_cases h1 : x < y
      · simp [h1] at h
      · by_cases h2 : y < x
        · simp [h1, h2] at h
        · simp only [h1, h2, if_false] at h
          have hxy : x = y := by rw [UInt8.lt_iff_toNat_lt] at *; exact UInt8.toNat_inj.1 (by omega)
          rw [hxy, ih b h]
theorem cmp_trans (a : List UInt8) : ∀ b c, Lib.compareBytes a b < 0 → Lib.compareBytes b c < 0 → Lib.compareBytes a c < 0 := by
  induction a with
  | nil =>
    intro b c h1 h2
    cases c with
    | nil => cases b <;> simp [Lib.compareBytes] at h1 h2
    | cons z c => simp [Lib.compareBytes]
  | cons x a ih =>
    intro b c h1 h2
    cases b with
    | nil => simp [Lib.compareBytes] at h1
    | cons y b =>
      cases c with
      | nil => simp [Lib.compareBytes] at h2
      | cons z c =>
        simp only [Lib.compareBytes] at h1 h2 ⊢
        simp only [UInt8.lt_iff_toNat_lt] at h1 h2 ⊢
        by_cases p1 : x.toNat < y.toNat
        · by_cases p2 : y.toNat < z.toNat
          · simp [show x.toNat < z.toNat by omega]
          · by_cases p3 : z.toNat < y.toNat
            · simp [p2, p3] at h2
            · simp [show x.toNat < z.toNat by omega]
        · by_cases p1' : y.toNat < x.toNat
          · simp [p1, p1'] at h1
          · by_cases p2 : y.toNat < z.toNat
            · simp [show x.toNat < z.toNat by omega]
            · by_cases p3 : z.toNat < y.toNat
              · simp [p2, p3] at h2
              · simp only [p1, p1', p2, p3, if_false] at h1 h2
                simp only [show ¬ x.toNat < z.toNat by omega, show ¬ z.toNat < x.toNat by omega, if_false]
                exact ih b c h1 h2
theorem less_irrefl (a : List UInt8) : lessB a a = false := by simp [lessB, cmp_self]
theorem less_total (a b : List UInt8) (h : a ≠ b) : lessB a b = !lessB b a := by
  have h1 := cmp_swap a b
  have h2 : Lib.compareBytes a b ≠ 0 := fun e => h (cmp_eq0 a b e)
  unfold lessB
  rw [h1]
  by_cases h3 : Lib.compareBytes a b < 0
  · simp [h3]; omega
  · simp [h3]; omega
theorem less_trans (a b c : List UInt8) (h1 : lessB a b = true) (h2 : lessB b c = true) : lessB a c = true := by
  unfold lessB at *
  simp only [decide_eq_true_eq] at *
  exact cmp_trans a b c h1 h2
theorem range_below {w w' : World} {b o : Nat} {cs : List Value} {B : Nat} (h : w.rangeAt b o cs) (hb : Below B w w') (hlt : b < B) : w'.rangeAt b o cs := fun j v hv => (hb.cell (p := ⟨b, o + j, none⟩) hlt).trans (h j v hv)
theorem less_agg (a b : List UInt8) (ha : a.length = 32) (hb : b.length = 32) (x : Bool) (hx : lessB a b = x) (w : World) :
    Calls Tryd.prog 17 #[.agg (u8s a).toArray, .agg (u8s b).toArray] w fun e w' => e = .returned (.bool x) ∧ Below w.heap.size w w' := by
  subst hx
  exact less_any a b ha hb w

/-- the three digests lie where they were laid, and nothing older has turned -/
def Held4 (a b c : List UInt8) (w w' : World) : Prop :=
  w'.rangeAt w.heap.size 0 (u8s a) ∧ w'.rangeAt (w.heap.size + 1) 0 (u8s b) ∧ w'.rangeAt (w.heap.size + 2) 0 (u8s c) ∧ w.heap.size + 2 < w'.heap.size ∧ Below w.heap.size w w'
theorem Held4.below {a b c : List UInt8} {w w' w'' : World} (h : Held4 a b c w w') (hb : Below w'.heap.size w' w'') : Held4 a b c w w'' :=
  ⟨range_below h.1 hb (by have := h.2.2.2.1; omega), range_below h.2.1 hb (by have := h.2.2.2.1; omega), range_below h.2.2.1 hb h.2.2.2.1, Nat.lt_of_lt_of_le h.2.2.2.1 hb.size, h.2.2.2.2.trans (hb.mono h.2.2.2.2.size)⟩
theorem Held4.drew {a b c : List UInt8} {w w' : World} (h : Held4 a b c w w') : Held4 a b c w w'.drew := h.below (Below.refl _ _).drew

set_option maxRecDepth 100000 in
set_option maxHeartbeats 2000000 in
theorem sorts_case (a b c : List UInt8) (ha : a.length = 32) (hb : b.length = 32) (hc : c.length = 32) (xeq xab xba xbc xac : Bool)
    (heq : (a == b) = xeq) (hab : lessB a b = xab) (hba : lessB b a = xba) (hbc : lessB b c = xbc) (hac : lessB a c = xac) (h1 : xeq = true → xab = false ∧ xba = false) (h2 : xeq = false → xab = !xba)
    (h3 : xab = true → xbc = true → xac = true) (w : World) (hw : Tab w 0 (u32s Sha.words)) :
    Calls Tryd.prog 6 #[dgV a, dgV b, dgV c] w fun e w' => e = .returned (.bool true) ∧ Below w.heap.size w w' := by
  obtain ⟨w3, hw3⟩ : ∃ w3, w3 = ((w.alloc (.cells (u8s a).toArray 27)).alloc (.cells (u8s b).toArray 27)).alloc (.cells (u8s c).toArray 27) := ⟨_, rfl⟩
  have A1 : At w3 w.heap.size 27 (u8s a) := by
    rw [hw3]
    exact ((At.new w _ _).alloc _).alloc _
  have A2 : At w3 (w.heap.size + 1) 27 (u8s b) := by
    rw [hw3]
    have := (At.new (w.alloc (.cells (u8s a).toArray 27)) 27 (u8s b)).alloc (.cells (u8s c).toArray 27)
    simpa using this
  have A3 : At w3 (w.heap.size + 2) 27 (u8s c) := by
    rw [hw3]
    have := At.new ((w.alloc (.cells (u8s a).toArray 27)).alloc (.cells (u8s b).toArray 27)) 27 (u8s c)
    simpa using this
  have hB : Below w.heap.size w w3 := by
    rw [hw3]
    exact (((Below.refl _ _).alloc (Nat.le_refl _) _).alloc (by simp) _).alloc (by simp; omega) _
  have haa := less_irrefl a
  have HE := Lib.hid (And.intro heq (And.intro hab (And.intro hba (And.intro hbc (And.intro hac haa)))))
  have HW3 := Lib.hid hw3
  have hws := hw.below hB hw.lt
  have HA1 := Lib.hid A1
  have HA2 := Lib.hid A2
  have HA3 := Lib.hid A3
  have HB := Lib.hid hB
  have HWS := Lib.hid hws
  clear hw heq hab hba hbc hac haa hw3 A1 A2 A3 hB hws
  unfold dgV
  go_enter Tryd.func6, Tryd.ntmps6
  go_wp2_with fail
  rw [← HW3.out]
  refine (awake_any _ HWS.out).mono ?_
  rintro e w4 ⟨rfl, hb4⟩
  have B1 := HA1.out.below hb4 HA1.out.lt
  have B2 := HA2.out.below hb4 HA2.out.lt
  have B3 := HA3.out.below hb4 HA3.out.lt
  have hB4 := HB.out.trans (hb4.mono HB.out.size)
  have R1 : w4.rangeAt w.heap.size 0 (u8s a) := fun j v hv => by rw [Nat.zero_add]; exact B1.cell' hv
  have R2 : w4.rangeAt (w.heap.size + 1) 0 (u8s b) := fun j v hv => by rw [Nat.zero_add]; exact B2.cell' hv
  have R3 : w4.rangeAt (w.heap.size + 2) 0 (u8s c) := fun j v hv => by rw [Nat.zero_add]; exact B3.cell' hv
  have hl1 : w.heap.size + 2 < w4.heap.size := B3.lt
  have HB1 := Lib.hid B1
  have HB2 := Lib.hid B2
  have HB3 := Lib.hid B3
  have HB4 := Lib.hid hB4
  have u27 := Tryd.underlying27
  have i1 : (Tryd.prog.info? 27).map (·.size) = some (u8s a).length := by rw [u8s_length, ha]; kernel_rfl
  have i2 : (Tryd.prog.info? 27).map (·.size) = some (u8s b).length := by rw [u8s_length, hb]; kernel_rfl
  have i3 : (Tryd.prog.info? 27).map (·.size) = some (u8s c).length := by rw [u8s_length, hc]; kernel_rfl
  clear HW3 HWS HA1 HA2 HA3 HB hb4 B1 B2 B3 hB4
  have r1 : ∀ w, (binOp .eql 27 (.agg (u8s a).toArray) (.agg (u8s b).toArray)).run Tryd.prog w = .ok (.bool xeq) w := by
    intro w
    rw [← HE.out.1]
    exact run_eql_dg w a b ha hb
  have r2 : ∀ w, (binOp .neq 27 (.agg (u8s a).toArray) (.agg (u8s b).toArray)).run Tryd.prog w = .ok (.bool (!xeq)) w := by
    intro w
    rw [← HE.out.1]
    exact run_neq_dg w a b ha hb
  have r3 : ∀ w op x y, (eqGuard op 27 x y (.agg (u8s a).toArray) (.agg (u8s b).toArray)).run Tryd.prog w = .ok () w := fun w op x y => run_eqGuard_dg w op x y a b
  have hold : Held4 a b c w w4 := ⟨R1, R2, R3, hl1, HB4.out⟩
  have HH := Lib.hid hold
  clear hold R1 R2 R3 hl1
  have HR1 := Lib.hid r1
  have HR2 := Lib.hid r2
  clear r1 r2
  go_wp2_with fail
  have hc3 : (xeq = true ∧ xab = false ∧ xba = false) ∨ (xeq = false ∧ xab = true ∧ xba = false) ∨ (xeq = false ∧ xab = false ∧ xba = true) := by
    cases xeq
    · have := h2 rfl
      cases xba <;> simp_all
    · have := h1 rfl
      simp_all
  clear h1 h2
  rcases hc3 with ⟨rfl, rfl, rfl⟩ | ⟨rfl, rfl, rfl⟩ | ⟨rfl, rfl, rfl⟩
  all_goals
    have r1 := HR1.out
    have r2 := HR2.out
    simp only [Bool.not_true, Bool.not_false] at r2
    refine wp_region_class (Held4 a b c w) (by kernel_rfl) (by kernel_rfl) HH.out.drew ?_
    iterate 26 (first
      | (refine wpQuiet_not rfl ?_; simp only [Act.put, List.setIfInBounds_toArray, List.set_cons_zero, List.set_cons_succ])
      | (refine wpQuiet_loadAll rfl 27 _ rfl (w.heap.size) 0 rfl (u8s a) _ (fun w h => h.1) u27 rfl i1 ?_; simp only [Act.put, List.setIfInBounds_toArray, List.set_cons_zero, List.set_cons_succ])
      | (refine wpQuiet_loadAll rfl 27 _ rfl (w.heap.size + 1) 0 rfl (u8s b) _ (fun w h => h.2.1) u27 rfl i2 ?_; simp only [Act.put, List.setIfInBounds_toArray, List.set_cons_zero, List.set_cons_succ])
      | (refine wpQuiet_call 17 [.agg (u8s a).toArray, .agg (u8s a).toArray] (.bool _) rfl _ _ rfl rfl (fun _ => by kernel_rfl) (fun w' h => (less_agg a a ha ha _ HE.out.2.2.2.2.2 _).mono fun e w'' ⟨he, hbx⟩ => ⟨he, h.below hbx⟩) ?_; simp only [Act.put, List.setIfInBounds_toArray, List.set_cons_zero, List.set_cons_succ])
      | (refine wpQuiet_call 17 [.agg (u8s a).toArray, .agg (u8s b).toArray] (.bool _) rfl _ _ rfl rfl (fun _ => by kernel_rfl) (fun w' h => (less_agg a b ha hb _ HE.out.2.1 _).mono fun e w'' ⟨he, hbx⟩ => ⟨he, h.below hbx⟩) ?_; simp only [Act.put, List.setIfInBounds_toArray, List.set_cons_zero, List.set_cons_succ])
      | (refine wpQuiet_call 17 [.agg (u8s b).toArray, .agg (u8s a).toArray] (.bool _) rfl _ _ rfl rfl (fun _ => by kernel_rfl) (fun w' h => (less_agg b a hb ha _ HE.out.2.2.1 _).mono fun e w'' ⟨he, hbx⟩ => ⟨he, h.below hbx⟩) ?_; simp only [Act.put, List.setIfInBounds_toArray, List.set_cons_zero, List.set_cons_succ])
      | (refine wpQuiet_bin rfl .neq 27 _ _ _ rfl (.agg (u8s a).toArray) (.agg (u8s b).toArray) (.bool _) rfl rfl (fun w => r3 w _ _ _) r2 ?_; simp only [Act.put, List.setIfInBounds_toArray, List.set_cons_zero, List.set_cons_succ])
      | (refine wpQuiet_bin rfl .eql 27 _ _ _ rfl (.agg (u8s a).toArray) (.agg (u8s b).toArray) (.bool _) rfl rfl (fun w => r3 w _ _ _) r1 ?_; simp only [Act.put, List.setIfInBounds_toArray, List.set_cons_zero, List.set_cons_succ])
      | (refine wpQuiet_val (.bool true) rfl (fun w' _ => rfl) ?_; simp only [Act.put, List.setIfInBounds_toArray, List.set_cons_zero, List.set_cons_succ])
      | (refine wpQuiet_val (.bool false) rfl (fun w' _ => rfl) ?_; simp only [Act.put, List.setIfInBounds_toArray, List.set_cons_zero, List.set_cons_succ]))
    refine wpQuiet_nil ?_
    intro w5 hH5
    clear r1 r2 r3 HR1 HR2 HH HB1 HB2 HB3 HB4
  case inl =>
    go_wp2_with (first
        | (refine wpList_loadW rfl 27 _ rfl (w.heap.size) 0 rfl (u8s a) _ (hH5.1) u27 rfl i1 ?_)
        | (refine wpList_loadW rfl 27 _ rfl (w.heap.size + 1) 0 rfl (u8s b) _ (hH5.2.1) u27 rfl i2 ?_)
        | (refine wpList_loadW rfl 27 _ rfl (w.heap.size + 2) 0 rfl (u8s c) _ (hH5.2.2.1) u27 rfl i3 ?_))
    refine (less_agg a b ha hb _ HE.out.2.1 _).mono ?_
    rintro e w6 ⟨rfl, hbx⟩
    have hw6 := hH5.below hbx
    clear hbx
    go_wp2_with fail
    go_ret
    exact ⟨rfl, hw6.2.2.2.2⟩
  case inr.inr =>
    go_wp2_with (first
        | (refine wpList_loadW rfl 27 _ rfl (w.heap.size) 0 rfl (u8s a) _ (hH5.1) u27 rfl i1 ?_)
        | (refine wpList_loadW rfl 27 _ rfl (w.heap.size + 1) 0 rfl (u8s b) _ (hH5.2.1) u27 rfl i2 ?_)
        | (refine wpList_loadW rfl 27 _ rfl (w.heap.size + 2) 0 rfl (u8s c) _ (hH5.2.2.1) u27 rfl i3 ?_))
    refine (less_agg a b ha hb _ HE.out.2.1 _).mono ?_
    rintro e w6 ⟨rfl, hbx⟩
    have hw6 := hH5.below hbx
    clear hbx
    go_wp2_with fail
    go_ret
    exact ⟨rfl, hw6.2.2.2.2⟩
  case inr.inl =>
    go_wp2_with (first
        | (refine wpList_loadW rfl 27 _ rfl (w.heap.size) 0 rfl (u8s a) _ (hH5.1) u27 rfl i1 ?_)
        | (refine wpList_loadW rfl 27 _ rfl (w.heap.size + 1) 0 rfl (u8s b) _ (hH5.2.1) u27 rfl i2 ?_)
        | (refine wpList_loadW rfl 27 _ rfl (w.heap.size + 2) 0 rfl (u8s c) _ (hH5.2.2.1) u27 rfl i3 ?_))
    refine (less_agg a b ha hb _ HE.out.2.1 _).mono ?_
    rintro e w6 ⟨rfl, hbx⟩
    have hw6 := hH5.below hbx
    clear hbx
    cases xbc
    · go_wp2_with (first
          | (refine wpList_loadW rfl 27 _ rfl (w.heap.size) 0 rfl (u8s a) _ (hw6.1) u27 rfl i1 ?_)
          | (refine wpList_loadW rfl 27 _ rfl (w.heap.size + 1) 0 rfl (u8s b) _ (hw6.2.1) u27 rfl i2 ?_)
          | (refine wpList_loadW rfl 27 _ rfl (w.heap.size + 2) 0 rfl (u8s c) _ (hw6.2.2.1) u27 rfl i3 ?_))
      refine (less_agg b c hb hc _ HE.out.2.2.2.1 _).mono ?_
      rintro e w7 ⟨rfl, hbx⟩
      have hw7 := hw6.below hbx
      clear hbx
      go_wp2_with fail
      go_ret
      exact ⟨rfl, hw7.2.2.2.2⟩
    · have hxac : xac = true := by first | exact h3 rfl rfl | simpa using h3
      subst hxac
      go_wp2_with (first
          | (refine wpList_loadW rfl 27 _ rfl (w.heap.size) 0 rfl (u8s a) _ (hw6.1) u27 rfl i1 ?_)
          | (refine wpList_loadW rfl 27 _ rfl (w.heap.size + 1) 0 rfl (u8s b) _ (hw6.2.1) u27 rfl i2 ?_)
          | (refine wpList_loadW rfl 27 _ rfl (w.heap.size + 2) 0 rfl (u8s c) _ (hw6.2.2.1) u27 rfl i3 ?_))
      refine (less_agg b c hb hc _ HE.out.2.2.2.1 _).mono ?_
      rintro e w7 ⟨rfl, hbx⟩
      have hw7 := hw6.below hbx
      clear hbx
      go_wp2_with (first
          | (refine wpList_loadW rfl 27 _ rfl (w.heap.size) 0 rfl (u8s a) _ (hw7.1) u27 rfl i1 ?_)
          | (refine wpList_loadW rfl 27 _ rfl (w.heap.size + 1) 0 rfl (u8s b) _ (hw7.2.1) u27 rfl i2 ?_)
          | (refine wpList_loadW rfl 27 _ rfl (w.heap.size + 2) 0 rfl (u8s c) _ (hw7.2.2.1) u27 rfl i3 ?_))
      refine (less_agg a c ha hc _ HE.out.2.2.2.2.1 _).mono ?_
      rintro e w8 ⟨rfl, hbx⟩
      have hw8 := hw7.below hbx
      clear hbx
      go_wp2_with fail
      go_ret
      exact ⟨rfl, hw8.2.2.2.2⟩
end Go.Proofs.YthfkbdhfnoilgaaDoor
