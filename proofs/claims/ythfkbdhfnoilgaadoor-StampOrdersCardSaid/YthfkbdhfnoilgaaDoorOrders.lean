/- Layer 2's statement StampOrders: the walk. -/
import Derived.Test.YthfkbdhfnoilgaaDoorRefA
import Derived.Test.YthfkbdhfnoilgaaDoorRegC
namespace Go.Proofs.YthfkbdhfnoilgaaDoor
open Go.RowKit

theorem hexd_lt : ∀ i j : Fin 16, decide (hexd i.val < hexd j.val) = decide (i.val < j.val) := by decide +kernel
theorem hexd_eq : ∀ i j : Fin 16, (hexd i.val == hexd j.val) = decide (i.val = j.val) := by decide +kernel
theorem less_nil : lessB [] [] = false := by simp [lessB, Lib.compareBytes]
theorem less_cons (x y : UInt8) (a b : List UInt8) : lessB (x :: a) (y :: b) = if x.toNat < y.toNat then true else if y.toNat < x.toNat then false else lessB a b := by
  simp only [lessB, Lib.compareBytes, UInt8.lt_iff_toNat_lt]
  by_cases h1 : x.toNat < y.toNat
  · simp [h1]
  · by_cases h2 : y.toNat < x.toNat
    · simp [h1, h2]
    · simp [h1, h2]
theorem hex_less (a : List UInt8) : ∀ b : List UInt8, a.length = b.length → Op.bytesLess (hexL a) (hexL b) = lessB a b := by
  induction a with
  | nil =>
    intro b h
    cases b with
    | nil => rw [less_nil]; rfl
    | cons y b => simp at h
  | cons x a ih =>
    intro b h
    cases b with
    | nil => simp at h
    | cons y b =>
      have hx := x.toNat_lt
      have hy := y.toNat_lt
      have l1 := hexd_lt ⟨x.toNat / 16, by omega⟩ ⟨y.toNat / 16, by omega⟩
      have l2 := hexd_lt ⟨x.toNat % 16, by omega⟩ ⟨y.toNat % 16, by omega⟩
      have e1 := hexd_eq ⟨x.toNat / 16, by omega⟩ ⟨y.toNat / 16, by omega⟩
      have e2 := hexd_eq ⟨x.toNat % 16, by omega⟩ ⟨y.toNat % 16, by omega⟩
      simp only at l1 l2 e1 e2
      have e : ∀ (z : UInt8) (l : List UInt8), hexL (z :: l) = hexd (z.toNat / 16) :: hexd (z.toNat % 16) :: hexL l := fun z l => rfl
      rw [e, e, Op.bytesLess, Op.bytesLess, l1, l2, e1, e2, ih b (by simpa using h), less_cons]
      by_cases h1 : x.toNat < y.toNat
      · rw [if_pos h1]
        by_cases h3 : x.toNat / 16 < y.toNat / 16
        · simp [h3]
        · have h4 : x.toNat / 16 = y.toNat / 16 := by omega
          have h5 : x.toNat % 16 < y.toNat % 16 := by omega
          simp [h4, h5]
      · rw [if_neg h1]
        by_cases h2 : y.toNat < x.toNat
        · rw [if_pos h2]
          by_cases h3 : y.toNat / 16 < x.toNat / 16
          · have h4 : ¬ x.toNat / 16 < y.toNat / 16 := by omega
            have h5 : ¬ x.toNat / 16 = y.toNat / 16 := by omega
            simp [h4, h5]
          · have h4 : x.toNat / 16 = y.toNat / 16 := by omega
            have h5 : ¬ x.toNat % 16 < y.toNat % 16 := by omega
            have h6 : ¬ x.toNat % 16 = y.toNat % 16 := by omega
            simp [h4, h5, h6]
        · rw [if_neg h2]
          have h4 : x.toNat = y.toNat := by omega
          simp [show x.toNat / 16 = y.toNat / 16 by omega, show x.toNat % 16 = y.toNat % 16 by omega]
theorem hexd_inj {i j : Nat} (hi : i < 16) (hj : j < 16) (h : hexd i = hexd j) : i = j := by
  have := hexd_eq ⟨i, hi⟩ ⟨j, hj⟩
  simp only [h, beq_self_eq_true] at this
  simpa using this.symm
theorem hex_inj (a : List UInt8) : ∀ b : List UInt8, a.length = b.length → (hexL a == hexL b) = (a == b) := by
  intro b hl
  rw [Bool.eq_iff_iff, beq_iff_eq, beq_iff_eq]
  constructor
  · intro h
    induction a generalizing b with
    | nil => cases b with
      | nil => rfl
      | cons y b => simp at hl
    | cons x a ih =>
      cases b with
      | nil => simp at hl
      | cons y b =>
        have e : ∀ (z : UInt8) (l : List UInt8), hexL (z :: l) = hexd (z.toNat / 16) :: hexd (z.toNat % 16) :: hexL l := fun z l => rfl
        rw [e, e] at h
        simp only [List.cons.injEq] at h
        have hx := x.toNat_lt
        have hy := y.toNat_lt
        have h1 := hexd_inj (by omega) (by omega) h.1
        have h2 := hexd_inj (by omega) (by omega) h.2.1
        have h3 : x = y := UInt8.toNat_inj.1 (by omega)
        rw [h3, ih b (by simpa using hl) h.2.2]
  · rintro rfl
    rfl
theorem run_str_eql {P : Program} (t : TypeId) (a b : List UInt8) (w : World) : (binOp .eql t (.string ⟨a.toArray⟩) (.string ⟨b.toArray⟩)).run P w = .ok (.bool (a == b)) w := by
  rw [binOp_string_eql, ByteArray.toList_eq, ByteArray.toList_eq]
  simp
theorem run_str_lss {P : Program} (t : TypeId) (a b : List UInt8) (w : World) : (binOp .lss t (.string ⟨a.toArray⟩) (.string ⟨b.toArray⟩)).run P w = .ok (.bool (Op.bytesLess a b)) w := by
  rw [binOp_string_lss, ByteArray.toList_eq, ByteArray.toList_eq]
  simp

theorem refless_agg (a b : List UInt8) (ha : a.length = 32) (hb : b.length = 32) (x : Bool) (hx : lessB a b = x) (w : World) :
    Calls Tryd.prog 18 #[.agg (u8s a).toArray, .agg (u8s b).toArray] w fun e w' => e = .returned (.bool x) ∧ Below w.heap.size w w' := by
  subst hx
  exact refless_any a b ha hb w
/-- both digests lie where they were laid, and nothing older has turned -/
def Held2 (a b : List UInt8) (w w' : World) : Prop :=
  w'.rangeAt w.heap.size 0 (u8s a) ∧ w'.rangeAt (w.heap.size + 1) 0 (u8s b) ∧ w.heap.size + 1 < w'.heap.size ∧ Below w.heap.size w w'
theorem Held2.below {a b : List UInt8} {w w' w'' : World} (h : Held2 a b w w') (hb : Below w'.heap.size w' w'') : Held2 a b w w'' :=
  ⟨range_below h.1 hb (by have := h.2.2.1; omega), range_below h.2.1 hb h.2.2.1, Nat.lt_of_lt_of_le h.2.2.1 hb.size, h.2.2.2.trans (hb.mono h.2.2.2.size)⟩
theorem Held2.drew {a b : List UInt8} {w w' : World} (h : Held2 a b w w') : Held2 a b w w'.drew := h.below (Below.refl _ _).drew

set_option maxRecDepth 100000 in
set_option maxHeartbeats 2000000 in
theorem orders_case (a b : List UInt8) (ha : a.length = 32) (hb : b.length = 32) (xeq xab : Bool) (heq : (a == b) = xeq) (hab : lessB a b = xab) (w : World) (hw : Tab w 0 (u32s Sha.words)) :
    Calls Tryd.prog 4 #[.agg (u8s a).toArray, .agg (u8s b).toArray] w fun e w' => e = .returned (.bool true) ∧ Below w.heap.size w w' := by
  have hxe : (hexL a == hexL b) = xeq := by rw [hex_inj a b (by omega), heq]
  have hxl : Op.bytesLess (hexL a) (hexL b) = xab := by rw [hex_less a b (by omega), hab]
  obtain ⟨w3, hw3⟩ : ∃ w3, w3 = (w.alloc (.cells (u8s a).toArray 27)).alloc (.cells (u8s b).toArray 27) := ⟨_, rfl⟩
  have A1 : At w3 w.heap.size 27 (u8s a) := by
    rw [hw3]
    exact (At.new w _ _).alloc _
  have A2 : At w3 (w.heap.size + 1) 27 (u8s b) := by
    rw [hw3]
    have := At.new (w.alloc (.cells (u8s a).toArray 27)) 27 (u8s b)
    simpa using this
  have hB : Below w.heap.size w w3 := by
    rw [hw3]
    exact ((Below.refl _ _).alloc (Nat.le_refl _) _).alloc (by simp) _
  have R1 : w3.rangeAt w.heap.size 0 (u8s a) := fun j v hv => by rw [Nat.zero_add]; exact A1.cell' hv
  have R2 : w3.rangeAt (w.heap.size + 1) 0 (u8s b) := fun j v hv => by rw [Nat.zero_add]; exact A2.cell' hv
  have HH3 := Lib.hid (show Held2 a b w w3 from ⟨R1, R2, A2.lt, hB⟩)
  have hws := hw.below hB hw.lt
  have HWS := Lib.hid hws
  have HW3 := Lib.hid hw3
  have u27 := Tryd.underlying27
  have i1 : (Tryd.prog.info? 27).map (·.size) = some (u8s a).length := by rw [u8s_length, ha]; kernel_rfl
  have i2 : (Tryd.prog.info? 27).map (·.size) = some (u8s b).length := by rw [u8s_length, hb]; kernel_rfl
  have HI1 := Lib.hid i1
  have HI2 := Lib.hid i2
  have HU := Lib.hid u27
  have HE := Lib.hid (And.intro heq (And.intro hab (And.intro hxe hxl)))
  clear hw heq hab hxe hxl hw3 A1 A2 hB R1 R2 hws i1 i2 u27
  go_enter Tryd.func4, Tryd.ntmps4
  go_wp2_with fail
  rw [← HW3.out]
  refine (awake_any _ HWS.out).mono ?_
  rintro e w4 ⟨rfl, hb4⟩
  have HH4 := Lib.hid (HH3.out.below hb4)
  clear HW3 HWS HH3 hb4
  go_wp2_with (refine wpList_loadW rfl 27 _ rfl w.heap.size 0 rfl (u8s a) _ HH4.out.1 HU.out rfl HI1.out ?_)
  refine (hex_any a ha _).mono ?_
  rintro e w5 ⟨rfl, hb5⟩
  have HH5 := Lib.hid (HH4.out.below hb5)
  clear HH4 hb5
  go_wp2_with (refine wpList_loadW rfl 27 _ rfl (w.heap.size + 1) 0 rfl (u8s b) _ HH5.out.2.1 HU.out rfl HI2.out ?_)
  refine (hex_any b hb _).mono ?_
  rintro e w6 ⟨rfl, hb6⟩
  have HH6 := Lib.hid (HH5.out.below hb6)
  clear HH5 hb6
  go_wp2_with fail
  have r1 : ∀ w, (binOp .eql 27 (.agg (u8s a).toArray) (.agg (u8s b).toArray)).run Tryd.prog w = .ok (.bool xeq) w := by
    intro w
    rw [← HE.out.1]
    exact run_eql_dg w a b ha hb
  have r3 : ∀ w op x y, (eqGuard op 27 x y (.agg (u8s a).toArray) (.agg (u8s b).toArray)).run Tryd.prog w = .ok () w := fun w op x y => run_eqGuard_dg w op x y a b
  have s1 : ∀ w, (binOp .eql 9 (.string ⟨(hexL a).toArray⟩) (.string ⟨(hexL a).toArray⟩)).run Tryd.prog w = .ok (.bool true) w := fun w => by
    rw [run_str_eql]
    simp
  have s2 : ∀ w, (binOp .eql 9 (.string ⟨(hexL a).toArray⟩) (.string ⟨(hexL b).toArray⟩)).run Tryd.prog w = .ok (.bool xeq) w := fun w => by
    rw [run_str_eql, HE.out.2.2.1]
  have s3 : ∀ w, (binOp .lss 9 (.string ⟨(hexL a).toArray⟩) (.string ⟨(hexL b).toArray⟩)).run Tryd.prog w = .ok (.bool xab) w := fun w => by
    rw [run_str_lss, HE.out.2.2.2]
  cases xeq <;> cases xab
  all_goals
    refine wp_region_class (Held2 a b w) (by kernel_rfl) (by kernel_rfl) HH6.out.drew ?_
    iterate 32 (first
      | (refine wpQuiet_not rfl ?_; simp only [Act.put, List.setIfInBounds_toArray, List.set_cons_zero, List.set_cons_succ])
      | (refine wpQuiet_loadAll rfl 27 _ rfl (w.heap.size) 0 rfl (u8s a) _ (fun w h => h.1) HU.out rfl HI1.out ?_; simp only [Act.put, List.setIfInBounds_toArray, List.set_cons_zero, List.set_cons_succ])
      | (refine wpQuiet_loadAll rfl 27 _ rfl (w.heap.size + 1) 0 rfl (u8s b) _ (fun w h => h.2.1) HU.out rfl HI2.out ?_; simp only [Act.put, List.setIfInBounds_toArray, List.set_cons_zero, List.set_cons_succ])
      | (refine wpQuiet_call 16 [.agg (u8s a).toArray] (.string ⟨(hexL a).toArray⟩) rfl _ _ rfl rfl (fun _ => by kernel_rfl) (fun w' h => (refhex_any a ha _).mono fun e w'' ⟨he, hbx⟩ => ⟨he, h.below hbx⟩) ?_; simp only [Act.put, List.setIfInBounds_toArray, List.set_cons_zero, List.set_cons_succ])
      | (refine wpQuiet_call 17 [.agg (u8s a).toArray, .agg (u8s b).toArray] (.bool _) rfl _ _ rfl rfl (fun _ => by kernel_rfl) (fun w' h => (less_agg a b ha hb _ HE.out.2.1 _).mono fun e w'' ⟨he, hbx⟩ => ⟨he, h.below hbx⟩) ?_; simp only [Act.put, List.setIfInBounds_toArray, List.set_cons_zero, List.set_cons_succ])
      | (refine wpQuiet_call 18 [.agg (u8s a).toArray, .agg (u8s b).toArray] (.bool _) rfl _ _ rfl rfl (fun _ => by kernel_rfl) (fun w' h => (refless_agg a b ha hb _ HE.out.2.1 _).mono fun e w'' ⟨he, hbx⟩ => ⟨he, h.below hbx⟩) ?_; simp only [Act.put, List.setIfInBounds_toArray, List.set_cons_zero, List.set_cons_succ])
      | (refine wpQuiet_bin rfl .eql 27 _ _ _ rfl (.agg (u8s a).toArray) (.agg (u8s b).toArray) (.bool _) rfl rfl (fun w => r3 w _ _ _) r1 ?_; simp only [Act.put, List.setIfInBounds_toArray, List.set_cons_zero, List.set_cons_succ])
      | (refine wpQuiet_bin rfl .eql 9 _ _ _ rfl (.string ⟨(hexL a).toArray⟩) (.string ⟨(hexL a).toArray⟩) (.bool _) rfl rfl (fun w => rfl) s1 ?_; simp only [Act.put, List.setIfInBounds_toArray, List.set_cons_zero, List.set_cons_succ])
      | (refine wpQuiet_bin rfl .eql 9 _ _ _ rfl (.string ⟨(hexL a).toArray⟩) (.string ⟨(hexL b).toArray⟩) (.bool _) rfl rfl (fun w => rfl) s2 ?_; simp only [Act.put, List.setIfInBounds_toArray, List.set_cons_zero, List.set_cons_succ])
      | (refine wpQuiet_bin rfl .lss 9 _ _ _ rfl (.string ⟨(hexL a).toArray⟩) (.string ⟨(hexL b).toArray⟩) (.bool _) rfl rfl (fun w => rfl) s3 ?_; simp only [Act.put, List.setIfInBounds_toArray, List.set_cons_zero, List.set_cons_succ])
      | (refine wpQuiet_val (.string ⟨(hexL a).toArray⟩) rfl (fun w' _ => rfl) ?_; simp only [Act.put, List.setIfInBounds_toArray, List.set_cons_zero, List.set_cons_succ])
      | (refine wpQuiet_val (.string ⟨(hexL b).toArray⟩) rfl (fun w' _ => rfl) ?_; simp only [Act.put, List.setIfInBounds_toArray, List.set_cons_zero, List.set_cons_succ])
      | (refine wpQuiet_val (.bool true) rfl (fun w' _ => rfl) ?_; simp only [Act.put, List.setIfInBounds_toArray, List.set_cons_zero, List.set_cons_succ])
      | (refine wpQuiet_val (.bool false) rfl (fun w' _ => rfl) ?_; simp only [Act.put, List.setIfInBounds_toArray, List.set_cons_zero, List.set_cons_succ]))
    refine wpQuiet_nil ?_
    intro w7 hH7
    clear r1 r3 s1 s2 s3 HH6
    go_wp2_with fail
    go_ret
    exact ⟨rfl, hH7.2.2.2⟩
theorem orders_any (a : List UInt8) (ha : a.length = 32) (b : List UInt8) (hb : b.length = 32) (w : World) (hw : Tab w 0 (u32s Sha.words)) :
    Calls Tryd.prog 4 #[.agg (u8s a).toArray, .agg (u8s b).toArray] w fun e w' => e = .returned (.bool true) ∧ Below w.heap.size w w' :=
  orders_case a b ha hb _ _ rfl rfl w hw
end Go.Proofs.YthfkbdhfnoilgaaDoor
