/- Layer 2's statement StampRows: the walk. -/
import Derived.Test.YthfkbdhfnoilgaaDoorStrs
import Derived.Test.YthfkbdhfnoilgaaDoorPartsA
namespace Go.Proofs.YthfkbdhfnoilgaaDoor
open Go.RowKit

theorem rows_k (at' : Int) (n : Nat) (hn : n ≤ 40) : ∃ K : Nat, wrap64 ((IntKind.u64.wrap at').tmod ((n : Int) + 1)) = (K : Int) ∧ K ≤ n := by
  have h0 : 0 ≤ IntKind.u64.wrap at' := by rw [IntKind.wrap_u64]; omega
  rw [Int.tmod_eq_emod_of_nonneg h0]
  have h1 : 0 ≤ IntKind.u64.wrap at' % ((n : Int) + 1) := Int.emod_nonneg _ (by omega)
  have h2 : IntKind.u64.wrap at' % ((n : Int) + 1) < (n : Int) + 1 := Int.emod_lt_of_pos _ (by omega)
  refine ⟨(IntKind.u64.wrap at' % ((n : Int) + 1)).toNat, ?_, by omega⟩
  rw [IntWalk.wrap64_in _ (by omega)]
  omega

section
variable {P : Program} (w : World)
theorem run_append_none (base : Nat) (t ty e : TypeId) (i : TypeInfo) (size : Nat) (ht : P.underlying t = some (.slice e)) (hi : P.info? e = some i)
    (v : Value) (n : Nat) (xs : List Value) (hown : Own w base e size v n xs) : (Builtin.append_ #[t, t] ty #[v, .slice none 0 0]).run P w = .ok v w := by
  rcases hown.2 with ⟨rfl, rfl⟩ | ⟨g, cap, cur, fr, rfl, hbg, hg, hfr, hnc, hcm, hcs, htake⟩
  · simp [Builtin.append_, run_underlying ht, sizeOf, typeInfo, hi, Builtin.lenOf, Builtin.firstCells]
  · simp [Builtin.append_, run_underlying ht, sizeOf, typeInfo, hi, Builtin.lenOf, Builtin.firstCells, loadCells, hnc, storeCells]
/-- nothing is appended: the source is nil -/
theorem wpList_append_none {ops : Array Oper} {rest : List Oper} {o : Oper} {a : Act} {Q : Exit → Act → World → Prop} (hgd : o.guard = none) (s x : Operand) (t : TypeId)
    (ho : o.op = .call { callee := .builtin .append, args := #[s, x], argTypes := #[t, t] })
    (base : Nat) (e : TypeId) (i : TypeInfo) (size : Nat) (ht : P.underlying t = some (.slice e)) (hi : P.info? e = some i)
    (v : Value) (n : Nat) (xs : List Value) (hs : a.eval s = v) (hown : Own w base e size v n xs) (hx : a.eval x = .slice none 0 0)
    (h : wpList P ops Q rest (a.put o.dst v) w) : wpList P ops Q (o :: rest) a w :=
  wpList_plain hgd fun _ hK => by
    have hr := run_append_none (P := P) w base t o.type e i size ht hi v n xs hown
    unfold Oper.wp execOp
    simp only [ho, resolve, invoke, builtin, Sem.run_bind, Sem.run_pure, Result.andThen_ok, List.map_toArray, List.map_cons, List.map_nil, hs, hx, hr]
    exact hK _ _ h
end
theorem info_str : (Tryd.prog.info? 9).map (fun i => (i.zero, i.size, i.bytes)) = some (some (.string ByteArray.empty), 1, 16) := by kernel_rfl
/-- strings as cells -/
def strV (ss : List ByteArray) : List Value := ss.map .string
theorem strV_oneCell (ss : List ByteArray) : ∀ u ∈ strV ss, u.oneCell' = true := by
  intro u hu
  obtain ⟨s, _, rfl⟩ := List.mem_map.1 hu
  rfl
theorem strs_cells {w w' : World} {ad : Addr} {ss : List ByteArray} (h : StrsIn w (some ad) ss) (hb : Below w.heap.size w w') (K : Nat) : ∀ j u, (strV (ss.drop K))[j]? = some u → w'.cell? (ad.add (K + j)) = some u := by
  intro j u hu
  have hj : K + j < ss.length := by
    have := (List.getElem?_eq_some_iff.1 hu).1
    simp [strV] at this
    omega
  obtain ⟨ad', e, hc⟩ := h.cell hb hj
  cases e
  rw [hc]
  simpa [strV, hj] using hu
theorem strs_take {w w' : World} {ad : Addr} {ss : List ByteArray} (h : StrsIn w (some ad) ss) (hb : Below w.heap.size w w') (K : Nat) : ∀ j u, (strV (ss.take K))[j]? = some u → w'.cell? (ad.add j) = some u := by
  intro j u hu
  have hj : j < K ∧ j < ss.length := by
    have := (List.getElem?_eq_some_iff.1 hu).1
    simp [strV] at this
    omega
  obtain ⟨ad', e, hc⟩ := h.cell hb hj.2
  cases e
  rw [hc]
  simpa [strV, hj.1, hj.2] using hu
theorem strs_from {w w' : World} {ad : Addr} {ss : List ByteArray} (h : StrsIn w (some ad) ss) (hb : Below w.heap.size w w') (K : Nat) : ∀ j u, (strV (ss.drop K))[j]? = some u → w'.cell? ((ad.add K).add j) = some u := by
  intro j u hu
  have e : (ad.add K).add j = ad.add (K + j) := by
    unfold Addr.add
    split <;> rename_i h1 <;> split <;> rename_i h2 <;> simp_all [Nat.add_assoc]
  rw [e]
  exact strs_cells h hb K j u hu
theorem own_below {w0 w w' : World} {B : Nat} {e : TypeId} {size n : Nat} {v : Value} {xs : List Value} (h : Own w B e size v n xs) (hb : Below B w0 w) (hB : B ≤ w.heap.size) (hg : w.grownBy w' v.ownBlock) : Below B w0 w' :=
  hb.grown hg hB (fun k hk => (h.lt k hk).1)
theorem own_strs {w : World} {base : Nat} {v : Value} {n : Nat} {ss : List ByteArray} (h : Own w base 9 1 v n (strV ss)) : ∃ A c, v = .slice A ss.length c ∧ StrsIn w A ss := by
  have hl : ss.length = n := by have := h.1; simp [strV] at this; exact this
  subst hl
  by_cases h0 : 0 < ss.length
  · obtain ⟨g, cap, rfl, _, hlt, _⟩ := h.form h0
    refine ⟨_, _, rfl, fun _ => ⟨⟨g, 0, none⟩, rfl, hlt, fun i hi => ?_⟩⟩
    have e : (⟨g, 0, none⟩ : Addr).add i = ⟨g, i, none⟩ := by unfold Addr.add; split <;> simp_all
    rw [e, h.cellAt rfl i (by omega)]
    simp [strV, hi]
  · rcases h.2 with ⟨rfl, h1⟩ | ⟨g, cap, cur, fr, rfl, _⟩
    · rw [h1] at h0 ⊢
      exact ⟨none, 0, rfl, fun h => absurd h (by omega)⟩
    · exact ⟨_, _, rfl, fun h => absurd h h0⟩

theorem of_in {w w' : World} {A : Option Addr} {c : Nat} {ss : List ByteArray} (hs : StrsIn w A ss) (hb : Below w.heap.size w w') (hl : (flat ss).length < 1099511627776) (hn : ss.length < 1099511627776) (hw : Tab w' 0 (u32s Sha.words)) :
    Calls Tryd.prog 11 #[.slice A ss.length c] w' fun e w'' => e = .returned (dgV (Sha.sha (flat ss))) ∧ Below w'.heap.size w' w'' := of_any A c ss w' (hs.at hb hb.size) (by omega) (by omega) hw
theorem row_in {w w' : World} {A : Option Addr} {c : Nat} {ss : List ByteArray} {X : List UInt8} (hX : Sap.row (lists ss) = X) (hs : StrsIn w A ss) (hb : Below w.heap.size w w') (hl : (flat ss).length < 1099511627776) (hn : ss.length < 1099511627776) (hw : Tab w' 0 (u32s Sha.words)) :
    Calls Tryd.prog 13 #[.slice A ss.length c] w' fun e w'' => e = .returned (dgV (Sha.sha X)) ∧ Below w'.heap.size w' w'' := by
  subst hX
  exact row_any A c ss w' (hs.at hb hb.size) hl hn hw
theorem saprow_in {w w' : World} {A : Option Addr} {c : Nat} {ss : List ByteArray} {X : List UInt8} (hX : Sap.row (lists ss) = X) (hs : StrsIn w A ss) (hb : Below w.heap.size w w') (hl : (flat ss).length < 1099511627776) (hn : ss.length < 1099511627776) :
    Calls Tryd.prog 19 #[.slice A ss.length c] w' fun e w'' => e = .returned (.string ⟨X.toArray⟩) ∧ Below w'.heap.size w' w'' := by
  subst hX
  exact saprow_any A c ss w' (hs.at hb hb.size) hl hn
/-- the digest of one text whose row the call lays itself -/
theorem of_lit {w : World} {X : List UInt8} (hX : X.length < 1099511627776) (hw : Tab w 0 (u32s Sha.words)) :
    Calls Tryd.prog 11 #[.slice (some ⟨w.heap.size, 0, none⟩) 1 1] (w.alloc (.cells #[.string ⟨X.toArray⟩] 9)) fun e w' => e = .returned (dgV (Sha.sha X)) ∧ Below w.heap.size w w' :=
  of_one ⟨X.toArray⟩ (by rw [str_size]; exact hX) w w (Below.refl _ _) hw

/-- one text more, an empty one, behind the first K -/
def more (ss : List ByteArray) (K : Nat) : List ByteArray := ss.take K ++ [ByteArray.empty] ++ ss.drop K
theorem more_flat (ss : List ByteArray) (K : Nat) : flat (more ss K) = flat ss := by
  conv => rhs; rw [← List.take_append_drop K ss]
  simp only [more, flat, List.flatMap_append, List.flatMap_cons, List.flatMap_nil]
  simp
theorem more_length (ss : List ByteArray) (K : Nat) (hK : K ≤ ss.length) : (more ss K).length = ss.length + 1 := by
  simp [more]
  omega
theorem num_mono : ∀ n : Fin 41, (Sap.num ((n.val : Nat) : Int)).length ≤ (Sap.num ((n.val + 1 : Nat) : Int)).length := by decide +kernel
theorem more_row (ss : List ByteArray) (K : Nat) (hK : K ≤ ss.length) (hn : ss.length ≤ 40) : Sap.row (lists ss) ≠ Sap.row (lists (more ss K)) := by
  intro h
  have h1 := congrArg List.length h
  have h2 := num_mono ⟨ss.length, by omega⟩
  have h3 : (lists (more ss K)).length = ss.length + 1 := by rw [lists, List.length_map, more_length ss K hK]
  have h4 : (lists ss).length = ss.length := by rw [lists, List.length_map]
  have h5 : ((lists (more ss K)).flatMap Sap.text).length = ((lists ss).flatMap Sap.text).length + (Sap.text []).length := by
    have e : lists ss = lists (ss.take K) ++ lists (ss.drop K) := by rw [lists, lists, lists, ← List.map_append, List.take_append_drop]
    rw [e]
    simp only [more, lists, List.map_append, List.map_cons, List.map_nil, List.flatMap_append, List.flatMap_cons, List.flatMap_nil, List.length_append]
    simp
    omega
  have h6 : 0 < (Sap.text []).length := by decide +kernel
  simp only [Sap.row, List.length_append, h3, h4, h5] at h1
  simp only at h2
  omega
theorem strV_more (ss : List ByteArray) (K : Nat) : strV [] ++ strV (ss.take K) ++ strV [⟨#[]⟩] ++ strV (ss.drop K) = strV (more ss K) := by
  simp only [strV, more, List.map_append, List.map_nil, List.nil_append]
  rfl
theorem row_len (ss : List ByteArray) : (Sap.row (lists ss)).length ≤ 9 + 9 * ss.length + (flat ss).length := by
  have h1 := texts_length ss
  have h2 := Sap.num_length ((lists ss).length : Int)
  rw [Sap.row, List.length_append]
  omega

set_option maxRecDepth 100000 in
set_option maxHeartbeats 4000000 in
theorem rows_any (A : Option Addr) (c : Nat) (ss : List ByteArray) (n1 : Int) (w : World) (hs : StrsIn w A ss) (hm : ss.length ≤ maxLen) (hc : ss.length ≤ c) (hcm : c ≤ maxLen) (hnil : A = none → c = 0) (hw : Tab w 0 (u32s Sha.words)) :
    Calls Tryd.prog 5 #[.slice A ss.length c, .int .i64 n1] w fun e w' => e = .returned (.bool true) ∧ Below w.heap.size w w' := by
  have HW := Lib.hid hw
  have HS := Lib.hid hs
  have hn' : ss.length ≤ 9223372036854775807 := hm
  have hw0 := HW.out.lt
  clear hw hs
  go_enter Tryd.func5, Tryd.ntmps5
  go_wp2_with fail
  refine (awake_any _ HW.out).mono ?_
  rintro e w1 ⟨rfl, hB1⟩
  have HB1 := Lib.hid hB1
  clear hB1
  by_cases h40 : 40 < ss.length
  · go_wp2_with fail
    go_ret
    exact ⟨rfl, HB1.out⟩
  go_wp2_with fail
  go_loopw [5] (fun i wr => ∃ k : Nat, k ≤ ss.length ∧ i = .int .i64 k ∧ (∀ x ∈ ss.take k, x.size ≤ 1024) ∧ Below w.heap.size w wr) (fun i _ => ss.length - (intOf i).toNat)
  case atStart => exact ⟨0, by omega, rfl, by simp, HB1.out⟩
  case round =>
    obtain ⟨k, hk, rfl, hsm, hb⟩ := hrel
    have HB := Lib.hid hb
    have HSM := Lib.hid hsm
    clear HB1 hb hsm
    by_cases hlt : k < ss.length
    · obtain ⟨ad, rfl, hc⟩ := HS.out.cell HB.out hlt
      obtain ⟨x, hx⟩ : ∃ x, x = ss[k] := ⟨_, rfl⟩
      rw [← hx] at hc
      have HX := Lib.hid hx
      clear hx
      by_cases hbig : 1024 < x.size
      · go_wp2_with fail
        go_ret
        exact ⟨rfl, HB.out⟩
      · go_wp2_with fail
        go_roundw
        case rel =>
          refine ⟨k + 1, by omega, by go_num, ?_, HB.out⟩
          intro y hy
          rw [take_snoc _ k hlt, List.mem_append, List.mem_singleton] at hy
          rcases hy with hy | hy
          · exact HSM.out y hy
          · rw [hy, ← HX.out]
            omega
        case measure => simp [intOf]; omega
    · have hkn : k = ss.length := by omega
      have hsm : ∀ x ∈ ss, x.size ≤ 1024 := by
        have := HSM.out
        rwa [hkn, List.take_length] at this
      have HS4 := Lib.hid hsm
      clear HSM hsm
      obtain ⟨K, hK, hKn⟩ := rows_k n1 ss.length (by omega)
      obtain ⟨i0, hi, hz0, hz1, hz2⟩ := info_parts info_str
      have hfl : (flat ss).length ≤ 40960 := by
        have h1 := flat_le HS4.out
        have h2 : 1024 * ss.length ≤ 1024 * 40 := Nat.mul_le_mul_left _ (by omega)
        omega
      obtain ⟨X, hX⟩ : ∃ X, Sap.row (lists ss) = X := ⟨_, rfl⟩
      obtain ⟨Y, hY⟩ : ∃ Y, Sap.row (lists (more ss K)) = Y := ⟨_, rfl⟩
      have hXl : X.length < 1099511627776 := by have := row_len ss; rw [hX] at this; omega
      have hYl : Y.length < 1099511627776 := by have := row_len (more ss K); rw [hY, more_flat, more_length ss K hKn] at this; omega
      have hXY : X ≠ Y := by rw [← hX, ← hY]; exact more_row ss K hKn (by omega)
      have hse : (X == Y) = false := by simpa using hXY
      have HX := Lib.hid hX
      have HY := Lib.hid hY
      have HXY := Lib.hid hXY
      have hfm : (flat (more ss K)).length ≤ 40960 := by rw [more_flat]; exact hfl
      have hml := more_length ss K hKn
      have HFM := Lib.hid (And.intro (more_flat ss K) (And.intro hfm (And.intro (show (more ss K).length ≤ 41 by omega) (And.intro hfl (show ss.length ≤ 40 by omega)))))
      clear hX hY hXY hfl hfm hml
      have hO1 : Own (wr.alloc (.cells #[] 9)) w.heap.size 9 1 (.slice (some ⟨wr.heap.size, 0, none⟩) 0 0) 0 (strV []) := Own.made (base := w.heap.size) wr 9 1 [] 0 0 HB.out.size (Nat.le_refl _) (by simp [maxLen]) rfl
      have HBa := HB.out.alloc HB.out.size (.cells #[] 9)
      have hcase : (A = none ∧ ss = [] ∧ c = 0 ∧ K = 0) ∨ (∃ ad, A = some ad ∧ c = K ∧ K = ss.length) ∨ (∃ ad, A = some ad ∧ ¬ c = K) := by
        rcases A with _ | ad
        · have h0 := hnil rfl
          have h1 : ss = [] := List.eq_nil_of_length_eq_zero (by omega)
          subst h1
          exact .inl ⟨rfl, rfl, h0, by simpa using hKn⟩
        · by_cases h : c = K
          · exact .inr (.inl ⟨ad, rfl, by omega, by omega⟩)
          · exact .inr (.inr ⟨ad, rfl, h⟩)
      rcases hcase with ⟨rfl, rfl, rfl, rfl⟩ | ⟨ad, rfl, rfl, hKs⟩ | ⟨ad, rfl, hck⟩
      case' inl =>
        have hone : ∀ j u, (strV [⟨#[]⟩])[j]? = some u → ((wr.alloc (.cells #[] 9)).alloc (.cells #[.string ⟨#[]⟩] 9)).cell? ((⟨wr.heap.size + 1, 0, none⟩ : Addr).add j) = some u := by
          have h := one_new (wr.alloc (.cells #[] 9)) (.string ⟨#[]⟩) 9
          rw [World.size_alloc] at h
          exact h
        go_wp2_with (first
          | (at_builtin; (refine wpList_append_none _ rfl (.tmp 35) (.tmp 38) 22 rfl w.heap.size 9 i0 1 Tryd.underlying22 hi _ _ _ rfl hO1 rfl ?_))
          | (at_builtin; (refine wpList_append_Own _ rfl (.tmp 40) (.tmp 41) 22 rfl w.heap.size 9 i0 _ 1 16 Tryd.underlying22 hi hz0 hz1 hz2 rfl (by omega) _ _ _ rfl (hO1.alloc _) ⟨_, 0, none⟩ 1 1 (strV [⟨#[]⟩]) rfl rfl hone (strV_oneCell _) ?_ ?_ ?_ ?_); (focus (unfold maxLen; omega)); (focus omega); (focus exact (HBa.alloc HBa.size _).size); intro v3 w3 hO3 hg3 hat3; have B3 := own_below (hO1.alloc _) (HBa.alloc HBa.size _) (HBa.alloc HBa.size _).size hg3)
          | (at_builtin; (refine wpList_append_none _ rfl (.tmp 43) (.tmp 46) 22 rfl w.heap.size 9 i0 1 Tryd.underlying22 hi _ _ _ rfl hO3 rfl ?_)))
        have hO5 : Own w3 w.heap.size 9 1 v3 (0 + 1) (strV (more [] 0)) := hO3
        have HB4 := Lib.hid B3
        clear hO1 hO3 hg3 hat3 B3 HBa hone
      case' inr.inl =>
        have i1 : (0 : Int) ≤ (c : Int) := by omega
        have i2 : (c : Int) ≤ (ss.length : Int) := by omega
        have hlk : (strV (ss.take c)).length = c * 1 := by simp [strV]; omega
        have hld : (strV (ss.drop c)).length = (ss.length - c) * 1 := by simp [strV]
        have hnil2 : ∀ (w' : World) j u, (strV (ss.drop c))[j]? = some u → w'.cell? (ad.add j) = some u := by
          intro w' j u h
          rw [hKs, List.drop_length] at h
          simp [strV] at h
        have HKs := Lib.hid hKs
        clear hKs hc hKn
        go_wp2_with (first
          | (at_builtin; (refine wpList_append_Own _ rfl (.tmp 35) (.tmp 38) 22 rfl w.heap.size 9 i0 _ 1 16 Tryd.underlying22 hi hz0 hz1 hz2 rfl (by omega) _ _ _ rfl hO1 ad c c (strV (ss.take c)) rfl hlk (strs_take HS.out HBa c) (strV_oneCell _) ?_ ?_ ?_ ?_); (focus (unfold maxLen; omega)); (focus omega); (focus exact HBa.size); intro v2 w2 hO2 hg2 hat2; have B2 := own_below hO1 HBa HBa.size hg2)
          | (at_builtin; (refine wpList_append_Own _ rfl (.tmp 40) (.tmp 41) 22 rfl w.heap.size 9 i0 _ 1 16 Tryd.underlying22 hi hz0 hz1 hz2 rfl (by omega) _ _ _ rfl (hO2.alloc _) ⟨_, 0, none⟩ 1 1 (strV [⟨#[]⟩]) rfl rfl (one_new _ _ _) (strV_oneCell _) ?_ ?_ ?_ ?_); (focus (unfold maxLen; omega)); (focus omega); (focus exact (B2.alloc B2.size _).size); intro v3 w3 hO3 hg3 hat3; have B3 := own_below (hO2.alloc _) (B2.alloc B2.size _) (B2.alloc B2.size _).size hg3)
          | (at_builtin; (refine wpList_append_Own _ rfl (.tmp 43) (.tmp 46) 22 rfl w.heap.size 9 i0 _ 1 16 Tryd.underlying22 hi hz0 hz1 hz2 rfl (by omega) _ _ _ rfl hO3 ad (ss.length - c) 0 (strV (ss.drop c)) rfl hld (hnil2 _) (strV_oneCell _) ?_ ?_ ?_ ?_); (focus (unfold maxLen; omega)); (focus omega); (focus exact B3.size); intro v4 w4 hO4 hg4 hat4; have B4 := own_below hO3 B3 B3.size hg4))
        have hO5 : Own w4 w.heap.size 9 1 v4 (0 + c + 1 + (ss.length - c)) (strV (more ss c)) := by
          rw [← strV_more]
          exact hO4
        have HB4 := Lib.hid B4
        clear hO1 hO2 hO3 hO4 hg2 hg3 hg4 hat2 hat3 hat4 B2 B3 B4 HBa hlk hld hnil2
      case' inr.inr =>
        have i1 : (0 : Int) ≤ (K : Int) := by omega
        have i2 : (K : Int) ≤ (ss.length : Int) := by omega
        have i3 : (K : Int) ≤ (c : Int) := by omega
        have i4 : (ss.length : Int) ≤ (c : Int) := by omega
        have hlk : (strV (ss.take K)).length = K * 1 := by simp [strV]; omega
        have hld : (strV (ss.drop K)).length = (ss.length - K) * 1 := by simp [strV]
        go_wp2_with (first
          | (at_builtin; (refine wpList_append_Own _ rfl (.tmp 35) (.tmp 38) 22 rfl w.heap.size 9 i0 _ 1 16 Tryd.underlying22 hi hz0 hz1 hz2 rfl (by omega) _ _ _ rfl hO1 ad K c (strV (ss.take K)) rfl hlk (strs_take HS.out HBa K) (strV_oneCell _) ?_ ?_ ?_ ?_); (focus (unfold maxLen; omega)); (focus omega); (focus exact HBa.size); intro v2 w2 hO2 hg2 hat2; have B2 := own_below hO1 HBa HBa.size hg2)
          | (at_builtin; (refine wpList_append_Own _ rfl (.tmp 40) (.tmp 41) 22 rfl w.heap.size 9 i0 _ 1 16 Tryd.underlying22 hi hz0 hz1 hz2 rfl (by omega) _ _ _ rfl (hO2.alloc _) ⟨_, 0, none⟩ 1 1 (strV [⟨#[]⟩]) rfl rfl (one_new _ _ _) (strV_oneCell _) ?_ ?_ ?_ ?_); (focus (unfold maxLen; omega)); (focus omega); (focus exact (B2.alloc B2.size _).size); intro v3 w3 hO3 hg3 hat3; have B3 := own_below (hO2.alloc _) (B2.alloc B2.size _) (B2.alloc B2.size _).size hg3)
          | (at_builtin; (refine wpList_append_Own _ rfl (.tmp 43) (.tmp 46) 22 rfl w.heap.size 9 i0 _ 1 16 Tryd.underlying22 hi hz0 hz1 hz2 rfl (by omega) _ _ _ rfl hO3 (ad.add K) (ss.length - K) (c - K) (strV (ss.drop K)) rfl hld (strs_from HS.out B3 K) (strV_oneCell _) ?_ ?_ ?_ ?_); (focus (unfold maxLen; omega)); (focus omega); (focus exact B3.size); intro v4 w4 hO4 hg4 hat4; have B4 := own_below hO3 B3 B3.size hg4))
        have hO5 : Own w4 w.heap.size 9 1 v4 (0 + K + 1 + (ss.length - K)) (strV (more ss K)) := by
          rw [← strV_more]
          exact hO4
        have HB4 := Lib.hid B4
        clear hO1 hO2 hO3 hO4 hg2 hg3 hg4 hat2 hat3 hat4 B2 B3 B4 HBa hlk hld
      all_goals
        obtain ⟨A5, c5, rfl, hSb⟩ := own_strs hO5
        have HSB := Lib.hid hSb
        have hf1 := HFM.out.2.2.2.1
        have hf2 := HFM.out.2.1
        have hf3 := HFM.out.2.2.1
        have hf4 := HFM.out.2.2.2.2
        clear hO5 hSb HB
        refine (saprow_in HX.out HS.out HB4.out (by omega) (by omega)).mono ?_
        rintro e w5 ⟨rfl, hb5⟩
        have HC5 := Lib.hid hb5
        have HB5 := Lib.hid (HB4.out.trans (hb5.mono HB4.out.size))
        clear hb5 HB4
        go_wp2_with fail
        (with_reducible refine (saprow_in HY.out HSB.out HC5.out (by omega) (by omega)).mono ?_)
        rintro e w6 ⟨rfl, hb6⟩
        have HC6 := Lib.hid (HC5.out.trans (hb6.mono HC5.out.size))
        have HB6 := Lib.hid (HB5.out.trans (hb6.mono HB5.out.size))
        clear hb6 HB5 HC5
        go_wp2_with fail
        first | (with_reducible refine (of_in HS.out HB6.out (by omega) (by omega) (HW.out.below HB6.out hw0)).mono ?_) | refine (of_in HS.out HB6.out (by omega) (by omega) (HW.out.below HB6.out hw0)).mono ?_
        rintro e w7 ⟨rfl, hb7⟩
        have HC7 := Lib.hid (HC6.out.trans (hb7.mono HC6.out.size))
        have HB7 := Lib.hid (HB6.out.trans (hb7.mono HB6.out.size))
        clear hb7 HB6 HC6
        go_wp2_with fail
        (with_reducible refine (of_in HSB.out HC7.out (by omega) (by omega) (HW.out.below HB7.out hw0)).mono ?_)
        rintro e w8 ⟨rfl, hb8⟩
        have HC8 := Lib.hid (HC7.out.trans (hb8.mono HC7.out.size))
        have HB8 := Lib.hid (HB7.out.trans (hb8.mono HB7.out.size))
        clear hb8 HB7 HC7
        rw [HFM.out.1]
        have he0 := fun w l => run_neq_dg w (Sha.sha l) (Sha.sha l) (sha_length _) (sha_length _)
        simp only [beq_self_eq_true, Bool.not_true] at he0
        have he2 := fun w => run_eqGuard_dg w .neq
        have he3 := fun w => run_eqGuard_dg w .eql
        go_wp2_with fail
        first | (with_reducible refine (row_in HX.out HS.out HB8.out (by omega) (by omega) (HW.out.below HB8.out hw0)).mono ?_) | refine (row_in HX.out HS.out HB8.out (by omega) (by omega) (HW.out.below HB8.out hw0)).mono ?_
        rintro e w9 ⟨rfl, hb9⟩
        have HC9 := Lib.hid (HC8.out.trans (hb9.mono HC8.out.size))
        have HB9 := Lib.hid (HB8.out.trans (hb9.mono HB8.out.size))
        clear hb9 HB8 HC8
        go_wp2_with fail
        (with_reducible refine (of_lit hXl (HW.out.below HB9.out hw0)).mono ?_)
        rintro e w10 ⟨rfl, hb10⟩
        have HC10 := Lib.hid (HC9.out.trans (hb10.mono HC9.out.size))
        have HB10 := Lib.hid (HB9.out.trans (hb10.mono HB9.out.size))
        clear hb10 HB9 HC9
        go_wp2_with fail
        (with_reducible refine (row_in HY.out HSB.out HC10.out (by omega) (by omega) (HW.out.below HB10.out hw0)).mono ?_)
        rintro e w11 ⟨rfl, hb11⟩
        have HB11 := Lib.hid (HB10.out.trans (hb11.mono HB10.out.size))
        have HC11 := Lib.hid (HC10.out.trans (hb11.mono HC10.out.size))
        clear hb11 HB10 HC10
        go_wp2_with fail
        (with_reducible refine (of_lit hYl (HW.out.below HB11.out hw0)).mono ?_)
        rintro e w12 ⟨rfl, hb12⟩
        have HB12 := Lib.hid (HB11.out.trans (hb12.mono HB11.out.size))
        have HC12 := Lib.hid (HC11.out.trans (hb12.mono HC11.out.size))
        clear hb12 HB11 HC11
        go_wp2_with fail
        first | (with_reducible refine (row_in HX.out HS.out HB12.out (by omega) (by omega) (HW.out.below HB12.out hw0)).mono ?_) | refine (row_in HX.out HS.out HB12.out (by omega) (by omega) (HW.out.below HB12.out hw0)).mono ?_
        rintro e w13 ⟨rfl, hb13⟩
        have HC13 := Lib.hid (HC12.out.trans (hb13.mono HC12.out.size))
        have HB13 := Lib.hid (HB12.out.trans (hb13.mono HB12.out.size))
        clear hb13 HB12 HC12
        go_wp2_with fail
        (with_reducible refine (row_in HY.out HSB.out HC13.out (by omega) (by omega) (HW.out.below HB13.out hw0)).mono ?_)
        rintro e w14 ⟨rfl, hb14⟩
        have HB14 := Lib.hid (HB13.out.trans (hb14.mono HB13.out.size))
        clear hb14 HB13 HC13
        have he4 := fun w => run_neq_dg w (Sha.sha X) (Sha.sha Y) (sha_length _) (sha_length _)
        have he5 := fun w => run_eql_dg w (Sha.sha X) (Sha.sha Y) (sha_length _) (sha_length _)
        by_cases hxy : (Sha.sha X == Sha.sha Y) = true
        · rw [hxy] at he4 he5
          go_wp2_with fail
          (with_reducible refine (of_lit hXl (HW.out.below HB14.out hw0)).mono ?_)
          rintro e w15 ⟨rfl, hb15⟩
          have HB15 := Lib.hid (HB14.out.trans (hb15.mono HB14.out.size))
          clear hb15 HB14
          go_wp2_with fail
          (with_reducible refine (of_lit hYl (HW.out.below HB15.out hw0)).mono ?_)
          rintro e w16 ⟨rfl, hb16⟩
          have HB16 := Lib.hid (HB15.out.trans (hb16.mono HB15.out.size))
          clear hb16 HB15
          go_wp2_with fail
          go_ret
          exact ⟨rfl, HB16.out⟩
        · rw [Bool.not_eq_true] at hxy
          rw [hxy] at he4 he5
          go_wp2_with fail
          go_ret
          exact ⟨rfl, HB14.out⟩
end Go.Proofs.YthfkbdhfnoilgaaDoor
