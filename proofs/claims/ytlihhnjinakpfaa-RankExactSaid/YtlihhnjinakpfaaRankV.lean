/- The reference's All and Present: what they compute is what the program's do. -/
import Derived.Test.YtlihhnjinakpfaaRankU
namespace Go.Proofs.Ytlihhnjinakpfaa
open Go.RowKit Go.Maps Go.Sort

def allTo (f : Known) (k : Nat) : List Mem := (nodes.take (k - 1)).filterMap f
theorem nodes_at {k : Nat} (h1 : 1 ≤ k) (h6 : k ≤ 6) : ∃ h : k - 1 < nodes.length, nodes[k - 1] = (k : Int) := by
  refine ⟨by show k - 1 < 6; omega, ?_⟩
  have h : k = 1 ∨ k = 2 ∨ k = 3 ∨ k = 4 ∨ k = 5 ∨ k = 6 := by omega
  rcases h with rfl | rfl | rfl | rfl | rfl | rfl <;> rfl
theorem allTo_snoc (f : Known) {k : Nat} (h1 : 1 ≤ k) (h6 : k ≤ 6) : allTo f (k + 1) = allTo f k ++ (f (k : Int)).toList := by
  obtain ⟨h, e⟩ := nodes_at h1 h6
  unfold allTo
  rw [show k + 1 - 1 = (k - 1) + 1 by omega, take_snoc nodes (k - 1) h, List.filterMap_append, e]
  cases hf : f (k : Int) <;> simp [hf]
theorem allTo_one (f : Known) : allTo f 1 = [] := rfl
theorem allTo_end (f : Known) : allTo f 7 = all f := rfl
theorem allTo_len (f : Known) (k : Nat) : (allTo f k).length ≤ 6 := by
  refine Nat.le_trans (List.length_filterMap_le _ _) ?_
  rw [List.length_take]
  exact Nat.min_le_right _ _
theorem known_cases (f : Known) (k : Nat) : (f (k : Int) = none ∧ (f (k : Int)).isSome = false) ∨ ∃ m, f (k : Int) = some m ∧ (f (k : Int)).isSome = true ∧ known f k = m := by
  unfold known
  cases f (k : Int) with
  | none => exact .inl ⟨rfl, rfl⟩
  | some m => exact .inr ⟨m, rfl, rfl, rfl⟩

set_option maxRecDepth 100000 in
set_option maxHeartbeats 2000000 in
theorem refall_any {w : World} {u : Nat} {f : Known} (h : RefAt w u 32 f) :
    Calls Try.prog 14 #[.pointer (some ⟨u, 0, none⟩)] w fun e w' => ∃ v : Value, e = .returned v ∧ Below w.heap.size w w' ∧ Own w' w.heap.size 28 3 v (all f).length (memsV (all f)) := by
  have HR := Lib.hid h
  have hul := h.lt
  obtain ⟨i0, hi, hz0, hz1, hz2⟩ := info_parts info_mem
  clear h
  go_enter Try.func14, Try.ntmps14
  go_wp2_with fail
  go_loopw [3, 4] (fun v i wr => ∃ k : Nat, 1 ≤ k ∧ k ≤ 7 ∧ i = .int .i64 k ∧ Below w.heap.size w wr ∧ Own wr w.heap.size 28 3 v (allTo f k).length (memsV (allTo f k))) (fun _ i _ => 7 - (RowKit.intOf i).toNat)
  case atStart =>
    refine ⟨1, by omega, by omega, rfl, (Below.refl _ _).alloc (Nat.le_refl _) _, ?_⟩
    exact Own.made (base := w.heap.size) w 28 3 [] 0 0 (Nat.le_refl _) (Nat.le_refl _) (by simp [maxLen]) rfl
  case round =>
    obtain ⟨k, hk1, hk7, rfl, hb, hO⟩ := hrel
    by_cases hlt : k < 7
    · have hr := HR.out.below hb
      have hk := hr.cellK hlt
      have hal := allTo_len f k
      have HB := Lib.hid hb
      have HO := Lib.hid hO
      have hsz : w.heap.size ≤ wr.heap.size := hb.size
      have i1 : (0 : Int) ≤ (k : Int) := by omega
      have i2 : (k : Int) < 7 := by omega
      rcases known_cases f k with ⟨hf, hn⟩ | ⟨m, hf, hn, hkn⟩
      · rw [hn] at hk
        have HF := Lib.hid hf
        clear hf hn hb hO hr
        go_wp2_with fail
        go_roundw
        case rel =>
          refine ⟨k + 1, by omega, by omega, by go_num, HB.out, ?_⟩
          rw [allTo_snoc f hk1 (by omega), HF.out]
          simp only [Option.toList_none, List.append_nil]
          exact HO.out
        case measure => simp [RowKit.intOf]; omega
      · rw [hn] at hk
        have c0 : wr.cell? ⟨u, k * 3, none⟩ = some (.int .i64 m.n) := hr.cellM hlt (j := 0) (by rw [hkn]; rfl)
        have c1 : wr.cell? ⟨u, k * 3 + 1, none⟩ = some (.int .i64 m.i) := hr.cellM hlt (j := 1) (by rw [hkn]; rfl)
        have c2 : wr.cell? ⟨u, k * 3 + 2, none⟩ = some (.int .i64 m.s) := hr.cellM hlt (j := 2) (by rw [hkn]; rfl)
        have HF := Lib.hid hf
        clear hf hn hkn hb hO hr
        go_wp2_with (at_builtin; go_loud ((refine wpList_append_Own _ rfl (.tmp 16) (.tmp 23) 33 rfl w.heap.size 28 i0 _ 3 24 Try.underlying33 hi hz0 hz1 hz2 rfl (by omega) _ _ _ rfl (HO.out.alloc _) ⟨_, 0, none⟩ 1 1 (cellsM m) rfl rfl (three_new _ _) (cellsM_oneCell _) ?_ ?_ ?_ ?_); (focus (unfold maxLen; omega)); (focus omega); (focus (simp; omega)); intro v9 w9 hO9 hg9 hat9))
        go_roundw
        case rel =>
          have hrow : ∀ q, u3.ownBlock = some q → w.heap.size ≤ q := fun q hq => (HO.out.lt q hq).1
          refine ⟨k + 1, by omega, by omega, by go_num, own_below2 (HO.out.alloc _) (HB.out.alloc HB.out.size _) (Nat.le_refl _) (HB.out.alloc HB.out.size _).size hg9, ?_⟩
          rw [allTo_snoc f hk1 (by omega), HF.out]
          simp only [Option.toList_some, List.length_append, List.length_cons, List.length_nil]
          have e : memsV (allTo f k ++ [m]) = memsV (allTo f k) ++ cellsM m := by simp [memsV]
          rw [e]
          exact hO9
        case measure => simp [RowKit.intOf]; omega
    · have hk : k = 7 := by omega
      subst hk
      have HB := Lib.hid hb
      have HO := Lib.hid hO
      clear hb hO
      go_wp2_with fail
      go_ret
      exact ⟨_, rfl, HB.out, by rw [← allTo_end]; exact HO.out⟩
set_option maxRecDepth 100000 in
set_option maxHeartbeats 2000000 in
theorem refpresent_any {w : World} {u : Nat} {f : Known} (h : RefAt w u 32 f) (hsn : Sane f) :
    Calls Try.prog 17 #[.pointer (some ⟨u, 0, none⟩)] w fun e w' => ∃ v : Value, e = .returned v ∧ Below w.heap.size w w' ∧ Own w' w.heap.size 3 1 v (present f).length ((present f).map (.int .i64 ·)) := by
  have HR := Lib.hid h
  have hul := h.lt
  have HSN := Lib.hid hsn
  obtain ⟨i0, hi, hz0, hz1, hz2⟩ := info_parts info_int
  clear h hsn
  go_enter Try.func17, Try.ntmps17
  go_wp2_with fail
  go_loopw [3, 4] (fun v i wr => ∃ k : Nat, 1 ≤ k ∧ k ≤ 7 ∧ i = .int .i64 k ∧ Below w.heap.size w wr ∧ Own wr w.heap.size 3 1 v (presentL (allTo f k)).length ((presentL (allTo f k)).map (.int .i64 ·))) (fun _ i _ => 7 - (RowKit.intOf i).toNat)
  case atStart =>
    refine ⟨1, by omega, by omega, rfl, (Below.refl _ _).alloc (Nat.le_refl _) _, ?_⟩
    exact Own.made (base := w.heap.size) w 3 1 [] 0 0 (Nat.le_refl _) (Nat.le_refl _) (by simp [maxLen]) rfl
  case round =>
    obtain ⟨k, hk1, hk7, rfl, hb, hO⟩ := hrel
    by_cases hlt : k < 7
    · have hr := HR.out.below hb
      have hk := hr.cellK hlt
      have hal := Nat.le_trans (presentL_len (allTo f k)) (allTo_len f k)
      have HB := Lib.hid hb
      have HO := Lib.hid hO
      have hsz : w.heap.size ≤ wr.heap.size := hb.size
      have i1 : (0 : Int) ≤ (k : Int) := by omega
      have i2 : (k : Int) < 7 := by omega
      rcases known_cases f k with ⟨hf, hn⟩ | ⟨m, hf, hn, hkn⟩
      · rw [hn] at hk
        have HF := Lib.hid hf
        clear hf hn hb hO hr
        go_wp2_with fail
        go_roundw
        case rel =>
          refine ⟨k + 1, by omega, by omega, by go_num, HB.out, ?_⟩
          rw [allTo_snoc f hk1 (by omega), HF.out]
          simp only [Option.toList_none, List.append_nil]
          exact HO.out
        case measure => simp [RowKit.intOf]; omega
      · rw [hn] at hk
        have c0 : wr.cell? ⟨u, k * 3, none⟩ = some (.int .i64 m.n) := hr.cellM hlt (j := 0) (by rw [hkn]; rfl)
        have c1 : wr.cell? ⟨u, k * 3 + 1, none⟩ = some (.int .i64 m.i) := hr.cellM hlt (j := 1) (by rw [hkn]; rfl)
        have c2 : wr.cell? ⟨u, k * 3 + 2, none⟩ = some (.int .i64 m.s) := hr.cellM hlt (j := 2) (by rw [hkn]; rfl)
        have hmn : m.n = (k : Int) := (HSN.out _ _ hf).2
        have HF := Lib.hid hf
        have HMN := Lib.hid hmn
        clear hf hn hkn hb hO hr hmn
        by_cases hst : m.s ≤ 1
        · go_wp2_with (at_builtin; go_loud ((refine wpList_append_Own _ rfl (.tmp 26) (.tmp 28) 39 rfl w.heap.size 3 i0 _ 1 8 Try.underlying39 hi hz0 hz1 hz2 rfl (by omega) _ _ _ rfl (HO.out.alloc _) ⟨_, 0, none⟩ 1 1 [.int .i64 k] rfl rfl (one_new_at _ _ _ (by simp)) (by simp [Value.oneCell']) ?_ ?_ ?_ ?_); (focus (unfold maxLen; omega)); (focus omega); (focus (simp; omega)); intro v9 w9 hO9 hg9 hat9))
          go_roundw
          case rel =>
            refine ⟨k + 1, by omega, by omega, by go_num, own_below2 (HO.out.alloc _) (HB.out.alloc HB.out.size _) (Nat.le_refl _) (HB.out.alloc HB.out.size _).size hg9, ?_⟩
            rw [allTo_snoc f hk1 (by omega), HF.out]
            have e : presentL (allTo f k ++ [m]) = presentL (allTo f k) ++ [(k : Int)] := by
              unfold presentL
              rw [List.filter_append, List.map_append, List.filter_cons_of_pos (by simpa using hst), List.filter_nil, List.map_cons, List.map_nil, HMN.out]
            simp only [Option.toList_some]
            rw [e, List.map_append, List.length_append]
            exact hO9
          case measure => simp [RowKit.intOf]; omega
        · go_wp2_with fail
          go_roundw
          case rel =>
            refine ⟨k + 1, by omega, by omega, by go_num, HB.out, ?_⟩
            rw [allTo_snoc f hk1 (by omega), HF.out]
            have e : presentL (allTo f k ++ [m]) = presentL (allTo f k) := by
              unfold presentL
              rw [List.filter_append, List.filter_cons_of_neg (by simpa using hst), List.filter_nil, List.append_nil]
            simp only [Option.toList_some]
            rw [e]
            exact HO.out
          case measure => simp [RowKit.intOf]; omega
    · have hk : k = 7 := by omega
      subst hk
      have HB := Lib.hid hb
      have HO := Lib.hid hO
      clear hb hO
      go_wp2_with fail
      go_ret
      exact ⟨_, rfl, HB.out, by show Own _ _ _ _ _ (presentL (all f)).length ((presentL (all f)).map _); rw [← allTo_end]; exact HO.out⟩
end Go.Proofs.Ytlihhnjinakpfaa
