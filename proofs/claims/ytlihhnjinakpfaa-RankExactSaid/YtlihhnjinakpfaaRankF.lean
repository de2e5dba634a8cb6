/- Layer 10: Present, New; calls at no view. -/
import Derived.Test.YtlihhnjinakpfaaRankE
namespace Go.Proofs.Ytlihhnjinakpfaa
open Go.RowKit Go.Maps Go.Sort

theorem memsV_at : ∀ (l : List Mem) (i : Nat) (hi : i < l.length) (j : Nat) (v : Value), (cellsM l[i])[j]? = some v → (memsV l)[i * 3 + j]? = some v
  | [], i, hi, _, _, _ => absurd hi (by simp)
  | m :: r, 0, _, j, v, h => by
    have hj : j < (cellsM m).length := (List.getElem?_eq_some_iff.1 h).1
    simp only [memsV, List.flatMap_cons, Nat.zero_mul, Nat.zero_add]
    rw [List.getElem?_append_left hj]
    exact h
  | m :: r, i + 1, hi, j, v, h => by
    have e : (cellsM m).length = 3 := rfl
    simp only [memsV, List.flatMap_cons]
    rw [List.getElem?_append_right (by omega)]
    have e2 : (i + 1) * 3 + j - (cellsM m).length = i * 3 + j := by omega
    rw [e2]
    exact memsV_at r i (by simpa using hi) j v (by simpa using h)
/-- the cells of a slice of members that the call owns, as members -/
theorem own_mems {w : World} {base : Nat} {A : Option Addr} {n c : Nat} {l : List Mem} (h : Own w base 28 3 (.slice A n c) l.length (memsV l)) : MemsIn w A l ∧ n = l.length := by
  rcases h.2 with ⟨h1, h2⟩ | ⟨g, cap, cur, fr, h1, hb, hgg, _, hcap, _, hlen, htake⟩
  · injection h1 with e1 e2 e3
    exact ⟨fun h0 => by omega, by omega⟩
  · injection h1 with e1 e2 e3
    subst e1 e2
    refine ⟨fun h0 => ⟨g, 0, rfl, (Array.getElem?_eq_some_iff.1 hgg).1, ?_⟩, rfl⟩
    intro i hi j v hv
    have hj : j < 3 := by
      have := (List.getElem?_eq_some_iff.1 hv).1
      simpa [cellsM] using this
    rw [h.cellAt rfl (0 + i * 3 + j) (by omega), Nat.zero_add]
    exact memsV_at l i hi j v hv

/-- a slice value of members -/
def Mems (w : World) (lo : Nat) (v : Value) (l : List Mem) : Prop :=
  ∃ A c, v = .slice A l.length c ∧ MemsIn w A l ∧ ∀ g off, A = some ⟨g, off, none⟩ → lo ≤ g ∧ g < w.heap.size
theorem Mems.own {w : World} {base : Nat} {v : Value} {l : List Mem} (h : Own w base 28 3 v l.length (memsV l)) : Mems w base v l := by
  have hf : ∃ A c, v = .slice A l.length c := by
    rcases h.2 with ⟨h1, h2⟩ | ⟨g, cap, cur, fr, h1, _⟩
    · exact ⟨none, 0, by rw [h1, h2]⟩
    · exact ⟨_, cap, h1⟩
  obtain ⟨A, c, rfl⟩ := hf
  refine ⟨A, c, rfl, (own_mems h).1, fun g off e => ?_⟩
  subst e
  rcases h.2 with ⟨h1, h2⟩ | ⟨g', cap, cur, fr, h1, hb, hgg, _⟩
  · cases h1
  · injection h1 with e1 e2 e3
    injection e1 with e1
    injection e1 with e4 e5
    subst e4
    exact ⟨hb, (Array.getElem?_eq_some_iff.1 hgg).1⟩

theorem one_new_at (w : World) (x : Value) (t : TypeId) {q : Nat} (hq : q = w.heap.size) : ∀ j u, [x][j]? = some u → (w.alloc (.cells #[x] t)).cell? ((⟨q, 0, none⟩ : Addr).add j) = some u := by subst hq; exact one_new w x t
theorem info_int : (Try.prog.info? 3).map (fun i => (i.zero, i.size, i.bytes)) = some (some (.int .i64 0), 1, 8) := by kernel_rfl
def presentL (l : List Mem) : List Int := (l.filter fun m => decide (m.s ≤ 1)).map Mem.n
theorem presentL_len (l : List Mem) : (presentL l).length ≤ l.length := by
  unfold presentL
  rw [List.length_map]
  exact List.length_filter_le _ _
theorem presentL_snoc (l : List Mem) (k : Nat) (hk : k < l.length) : presentL (l.take (k + 1)) = presentL (l.take k) ++ (if l[k].s ≤ 1 then [l[k].n] else []) := by
  rw [take_snoc l k hk]
  unfold presentL
  rw [List.filter_append, List.map_append]
  by_cases h : l[k].s ≤ 1 <;> simp [h]

set_option maxRecDepth 100000 in
set_option maxHeartbeats 4000000 in
theorem present_any {H : Type} {w : World} {p b N : Nat} {f : Known} (h : ViewAt H w p b N f) :
    Calls Try.prog 16 #[.pointer (some ⟨p, 0, none⟩)] w fun e w' => ∃ v : Value, e = .returned v ∧ Own w' w.heap.size 3 1 v (present f).length ((present f).map (.int .i64 ·)) ∧ Below w.heap.size w w' := by
  have HV := Lib.hid h
  obtain ⟨i0, hi, hz0, hz1, hz2⟩ := info_parts info_int
  clear h
  go_enter Try.func16, Try.ntmps16
  go_wp2_with fail
  refine (all_any HV.out).mono ?_
  rintro e w1 ⟨v, rfl, hO, hB⟩
  obtain ⟨l, hl⟩ : ∃ l, l = all f := ⟨_, rfl⟩
  rw [← hl] at hO
  obtain ⟨A, c, rfl, hM, hlo⟩ := Mems.own hO
  have HL := Lib.hid hl
  have HM := Lib.hid hM
  have HB := Lib.hid hB
  have HLO := Lib.hid hlo
  have hl6 : l.length ≤ 6 := by rw [hl]; exact List.length_filterMap_le _ nodes
  clear hO hl hM hB hlo
  go_wp2_with fail
  go_loopw [2, 8] (fun v2 i wr => ∃ k : Nat, k ≤ l.length ∧ i = .int .i64 k ∧ Own wr w1.heap.size 3 1 v2 (presentL (l.take k)).length ((presentL (l.take k)).map (.int .i64 ·)) ∧ Below w1.heap.size w1 wr) (fun _ i _ => l.length - (RowKit.intOf i).toNat)
  case atStart => exact ⟨0, by omega, rfl, Own.nil _ _ _ _, Below.refl _ _⟩
  case round =>
    obtain ⟨k, hk, rfl, hO2, hb⟩ := hrel
    by_cases hlt : k < l.length
    · obtain ⟨m, hm⟩ : ∃ m, m = l[k] := ⟨_, rfl⟩
      obtain ⟨g, off, rfl, c0, c1, c2⟩ := HM.out.cells (w' := wr) (N := 0) (fun g off e hlt' => hb.block g hlt') hlt rfl
      rw [← hm] at c0 c1 c2
      have HX := Lib.hid hm
      have HO2 := Lib.hid hO2
      have HBr := Lib.hid hb
      have hs1 : w1.heap.size ≤ wr.heap.size := hb.size
      have hpl := presentL_len (l.take k)
      rw [List.length_take] at hpl
      have i1 : (0 : Int) ≤ (k : Int) := by omega
      have i2 : (k : Int) < (l.length : Int) := by omega
      have d0 := (memAt wr m).cell' (i := 0) (v := .int .i64 m.n) rfl
      have d2 := (memAt wr m).cell' (i := 2) (v := .int .i64 m.s) rfl
      clear hm hO2 hb
      by_cases hst : m.s ≤ 1
      · go_wp2_with (at_builtin; go_loud ((refine wpList_append_Own _ rfl (.tmp 15) (.tmp 18) 39 rfl w1.heap.size 3 i0 _ 1 8 Try.underlying39 hi hz0 hz1 hz2 rfl (by omega) _ _ _ rfl ((HO2.out.alloc _).alloc _) ⟨_, 0, none⟩ 1 1 [.int .i64 m.n] rfl rfl (one_new_at _ _ _ (by simp)) (by simp [Value.oneCell']) ?_ ?_ ?_ ?_); (focus (unfold maxLen; omega)); (focus omega); (focus (simp; omega)); intro v9 w9 hO9 hg9 hat9))
        go_roundw
        case rel =>
          refine ⟨k + 1, by omega, by go_num, ?_, ?_⟩
          · rw [presentL_snoc l k hlt, ← HX.out, if_pos hst, List.map_append, List.length_append]
            exact hO9
          · exact own_below2 ((HO2.out.alloc _).alloc _) ((HBr.out.alloc HBr.out.size _).alloc (HBr.out.alloc HBr.out.size _).size _) (Nat.le_refl _) ((HBr.out.alloc HBr.out.size _).alloc (HBr.out.alloc HBr.out.size _).size _).size hg9
        case measure => simp [RowKit.intOf]; omega
      · go_wp2_with fail
        go_roundw
        case rel =>
          refine ⟨k + 1, by omega, by go_num, ?_, ?_⟩
          · rw [presentL_snoc l k hlt, ← HX.out, if_neg hst, List.append_nil]
            exact HO2.out.alloc _
          · exact HBr.out.alloc HBr.out.size _
        case measure => simp [RowKit.intOf]; omega
    · have hkl : k = l.length := by omega
      have HO2 := Lib.hid hO2
      have HBr := Lib.hid hb
      have HKL := Lib.hid hkl
      clear hO2 hkl hb
      go_wp2_with fail
      go_ret
      have hBw : Below w.heap.size w wr := HB.out.trans (HBr.out.mono HB.out.size)
      refine ⟨u2, rfl, ?_, hBw⟩
      have h := HO2.out
      rw [HKL.out, List.take_length, HL.out] at h
      exact h.rebase HB.out.size
end Go.Proofs.Ytlihhnjinakpfaa
