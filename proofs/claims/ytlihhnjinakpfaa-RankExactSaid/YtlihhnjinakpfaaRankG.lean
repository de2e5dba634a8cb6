/- Layer 10: New; calls at no view. -/
import Derived.Test.YtlihhnjinakpfaaRankF
namespace Go.Proofs.Ytlihhnjinakpfaa
open Go.RowKit Go.Maps Go.Sort

set_option maxRecDepth 100000 in
set_option maxHeartbeats 4000000 in
theorem new_any {H : Type} {w : World} (A : Option Addr) (c : Nat) (l : List Mem) (hl : MemsIn w A l) (hN : l.length < 1099511627776) (hi64 : ∀ m ∈ l, -9223372036854775808 ≤ m.n ∧ m.n ≤ 9223372036854775807) :
    Calls Try.prog 9 #[.slice A l.length c] w fun e w' => ∃ p b : Nat, e = .returned (.pointer (some ⟨p, 0, none⟩)) ∧ ViewAt H w' p b l.length (merge (fun _ => none) l).1 ∧ Below w.heap.size w w' ∧ w.heap.size ≤ p ∧ w.heap.size ≤ b := by
  have HL := Lib.hid hl
  have H64 := Lib.hid hi64
  clear hl hi64
  have hmm : (Instr.makeMap 50 none).run Try.prog w = .ok (.map (some w.heap.size)) (w.alloc (.map #[] 0)) := rfl
  have hV : ViewAt H ((w.alloc (.map #[] 0)).alloc (.cells #[.map (some w.heap.size)] 52)) (w.heap.size + 1) w.heap.size 0 (fun _ => none) := by
    refine ⟨?_, ?_, sane_none, by omega⟩
    · have h := At.newA (w.alloc (.map #[] 0)) 52 (C := #[.map (some w.heap.size)]) (cs := [.map (some w.heap.size)]) rfl
      rw [World.size_alloc] at h
      exact h
    · rw [mapD_none]
      exact (World.ownsMap_made w Try.prog 3 readM).kept (row := none) (grown_alloc (World.grownBy.refl _ _) _) (by simp)
  have HV := Lib.hid hV
  have HB := Lib.hid (((Below.refl w.heap.size w).alloc (Nat.le_refl _) (.map #[] 0)).alloc (by simp) (.cells #[.map (some w.heap.size)] 52))
  clear hV
  go_enter Try.func9, Try.ntmps9
  go_wp2_with fail
  refine (merge_any HV.out A c l (HL.out.below HB.out) (fun g off h0 e => by obtain ⟨g', off', e', hg, _⟩ := HL.out h0; rw [e] at e'; injection e' with e'; injection e' with e'; omega) (by omega) H64.out).mono ?_
  rintro e w1 ⟨v, rfl, hV1, hg1, hO1⟩
  have HV1 := Lib.hid hV1
  have HB1 := Lib.hid (Below.ofGrown HB.out hg1 HB.out.size (Nat.le_refl _))
  clear hV1 hg1 hO1
  go_wp2_with fail
  go_ret
  refine ⟨_, _, rfl, ?_, HB1.out, by omega, Nat.le_refl _⟩
  have h := HV1.out
  rw [Nat.zero_add] at h
  exact h

theorem nil_get (k : Int) (w : World) : Calls Try.prog 22 #[.pointer none, .int .i64 k] w fun e w' => e = .returned (found (fun _ => none) k) ∧ Below w.heap.size w w' := by
  go_enter Try.func22, Try.ntmps22
  go_wp2_with fail
  refine bodyPost_ret (results_cell_row2 rfl _ _ w.heap.size _ _ (0, 0) _ rfl (memAt w Mem.zero) Try.underlying28 rfl info_mem3) rfl ⟨rfl, ?_⟩
  exact (Below.refl _ _).alloc (Nat.le_refl _) _
theorem nil_merge (v : Value) (w : World) : Calls Try.prog 11 #[.pointer none, v] w fun e w' => e = .returned (.slice none 0 0) ∧ Below w.heap.size w w' := by
  go_enter Try.func11, Try.ntmps11
  go_wp2_with fail
  go_ret
  exact ⟨rfl, Below.refl _ _⟩
theorem nil_all (w : World) : Calls Try.prog 13 #[.pointer none] w fun e w' => e = .returned (.slice none 0 0) ∧ Below w.heap.size w w' := by
  go_enter Try.func13, Try.ntmps13
  go_wp2_with fail
  go_ret
  exact ⟨rfl, Below.refl _ _⟩
theorem nil_present (w : World) : Calls Try.prog 16 #[.pointer none] w fun e w' => e = .returned (.slice none 0 0) ∧ Below w.heap.size w w' := by
  go_enter Try.func16, Try.ntmps16
  go_wp2_with fail
  refine (nil_all _).mono ?_
  rintro e w1 ⟨rfl, hb⟩
  have HB := Lib.hid hb
  clear hb
  go_wp2_with fail
  go_loopw [2, 8] (fun v2 i wr => v2 = .slice none 0 0 ∧ i = .int .i64 0 ∧ Below w1.heap.size w1 wr) (fun _ i _ => 0)
  case atStart => exact ⟨rfl, rfl, Below.refl _ _⟩
  case round =>
    obtain ⟨rfl, rfl, hb⟩ := hrel
    go_wp2_with fail
    go_ret
    exact ⟨rfl, HB.out.trans (hb.mono HB.out.size)⟩
end Go.Proofs.Ytlihhnjinakpfaa
