/- RankLists, the plain law: what is known stands by rising nodes, each once, just as it is known; who is present are those that are alive or doubted. -/
import Derived.Test.YtlihhnjinakpfaaRankI
namespace Go.Proofs.Ytlihhnjinakpfaa
open Go.RowKit

theorem all_mem {f : Known} (hs : Sane f) {m : Mem} (h : m ∈ all f) : f m.n = some m ∧ m.good = true := by
  obtain ⟨x, _, hx⟩ := List.mem_filterMap.1 h
  have h2 := hs x m hx
  exact ⟨by rw [h2.2]; exact hx, h2.1⟩
theorem all_get {f : Known} (hs : Sane f) {k : Nat} (hk : k < (all f).length) : f ((all f)[k]).n = some (all f)[k] ∧ ((all f)[k]).good = true := all_mem hs (List.getElem_mem hk)
theorem all_rise {f : Known} (hs : Sane f) {i j : Nat} (hij : i < j) (hj : j < (all f).length) : ((all f)[i]'(by omega)).n < ((all f)[j]).n := by
  have hp : (all f).Pairwise (fun a b => a.n < b.n) := by
    unfold all
    rw [List.pairwise_filterMap]
    refine nodes_rise.imp fun {a b} hab x hx y hy => ?_
    have h1 := hs a x hx
    have h2 := hs b y hy
    omega
  exact List.pairwise_iff_getElem.1 hp i j (by omega) hj hij
theorem present_at {l : List Mem} {k : Nat} (hk : k < l.length) (hs : l[k].s ≤ 1) : ∃ h : (presentL (l.take k)).length < (presentL l).length, (presentL l)[(presentL (l.take k)).length] = l[k].n := by
  have e : l = l.take k ++ l[k] :: l.drop (k + 1) := by
    rw [List.getElem_cons_drop, List.take_append_drop]
  have e2 : presentL l = presentL (l.take k) ++ l[k].n :: presentL (l.drop (k + 1)) := by
    have hc : ∀ a b : List Mem, presentL (a ++ b) = presentL a ++ presentL b := fun a b => by unfold presentL; rw [List.filter_append, List.map_append]
    calc presentL l = presentL (l.take k ++ l[k] :: l.drop (k + 1)) := congrArg presentL e
      _ = _ := by
        rw [hc]
        congr 1
        unfold presentL
        rw [List.filter_cons_of_pos (by simpa using hs), List.map_cons]
  refine ⟨by rw [e2]; simp, ?_⟩
  simp only [e2]
  simp

theorem run_eqGuard_mem (w : World) (op : BinOp) (x y : Operand) (a b : Mem) : (eqGuard op 28 x y (memV a) (memV b)).run Try.prog w = .ok () w :=
  run_eqGuard_agg w op 28 x y _ _ (by kernel_rfl)
end Go.Proofs.Ytlihhnjinakpfaa
