/- Layer 16, plain: what Answer says; three rows that grow beside each other. -/
import Derived.Test.YtefbllhpibfojaaDoorGleAM
namespace Go.Proofs.YtefbllhpibfojaaDoor
open Go.Proofs Stab Go.Shelf Go.RowKit Go.Lib Go.Sort

/-- one range looked at -/
def stepA (l : List Rec) (s : List Rng × List Rec × List Rng) (r : Rng) : List Rng × List Rec × List Rng :=
  if goodB r = false then s
  else if ofR r l = r then s
  else if smallB (ofR r l) r = true then (s.1, s.2.1 ++ itemsR r l, if 0 < r.count then s.2.2 ++ [ofR r l] else s.2.2)
  else (s.1 ++ partsR (ofR r l) l, s.2.1, s.2.2)
def foldA (th : List Rng) (l : List Rec) : List Rng × List Rec × List Rng := (th.take 16).foldl (stepA l) ([], [], [])
theorem stepA_snoc (l : List Rec) (th : List Rng) (i : Nat) (hi : i < th.length) : (th.take (i + 1)).foldl (stepA l) ([], [], []) = stepA l ((th.take i).foldl (stepA l) ([], [], [])) th[i] := by
  rw [List.take_succ_eq_append_getElem hi, List.foldl_append]
  rfl
theorem stepA_bad {l : List Rec} {s : List Rng × List Rec × List Rng} {r : Rng} (h : goodB r = false) : stepA l s r = s := by unfold stepA; rw [if_pos h]
theorem stepA_same {l : List Rec} {s : List Rng × List Rec × List Rng} {r : Rng} (h : ofR r l = r) : stepA l s r = s := by
  unfold stepA
  by_cases hg : goodB r = false
  · rw [if_pos hg]
  · rw [if_neg hg, if_pos h]
theorem stepA_small {l : List Rec} {s : List Rng × List Rec × List Rng} {r : Rng} (hg : goodB r = true) (hne : ofR r l ≠ r) (hs : smallB (ofR r l) r = true) (hc : 0 < r.count) : stepA l s r = (s.1, s.2.1 ++ itemsR r l, s.2.2 ++ [ofR r l]) := by
  unfold stepA
  rw [if_neg (by rw [hg]; simp), if_neg hne, if_pos hs, if_pos hc]
theorem stepA_small0 {l : List Rec} {s : List Rng × List Rec × List Rng} {r : Rng} (hg : goodB r = true) (hne : ofR r l ≠ r) (hs : smallB (ofR r l) r = true) (hc : ¬ 0 < r.count) : stepA l s r = (s.1, s.2.1 ++ itemsR r l, s.2.2) := by
  unfold stepA
  rw [if_neg (by rw [hg]; simp), if_neg hne, if_pos hs, if_neg hc]
theorem stepA_big {l : List Rec} {s : List Rng × List Rec × List Rng} {r : Rng} (hg : goodB r = true) (hne : ofR r l ≠ r) (hs : smallB (ofR r l) r = false) : stepA l s r = (s.1 ++ partsR (ofR r l) l, s.2.1, s.2.2) := by
  unfold stepA
  rw [if_neg (by rw [hg]; simp), if_neg hne, if_neg (by rw [hs]; simp)]
theorem small_depth {x y : Rng} (h : smallB x y = false) : x.depth ≠ 8 := by
  intro e
  unfold smallB at h
  rw [decide_eq_true e] at h
  simp at h
/-- rows that do not lie in one block -/
def Sep (v u : Value) : Prop := ∀ g, v.ownBlock = some g → u.ownBlock ≠ some g
theorem Sep.symm {v u : Value} (h : Sep v u) : Sep u v := fun g h1 h2 => h g h2 h1
theorem Sep.ne {v u : Value} (h : Sep v u) : v.ownBlock = none ∨ v.ownBlock ≠ u.ownBlock := by
  cases hv : v.ownBlock with
  | none => exact .inl rfl
  | some g => exact .inr fun e => h g hv e.symm
/-- u has been appended to -/
theorem Sep.grown {w : World} {B : Nat} {e : TypeId} {k n : Nat} {xs : List Value} {v u u' : Value} (h : Sep v u) (hO : Own w B e k v n xs) (hob : u'.ownBlock = u.ownBlock ∨ u'.ownBlock = some w.heap.size) : Sep v u' := fun g h1 h2 => by
  rcases hob with e | e
  · exact h g h1 (e ▸ h2)
  · rw [e] at h2
    have := (hO.lt g h1).2
    have := Option.some.inj h2
    omega
theorem sep_nil (u : Value) : Sep (.slice none 0 0) u := fun g h => by cases h
structure Three (B : Nat) (w : World) (v4 v5 v6 : Value) (N4 N5 N6 : Nat) (S : List Rng) (I : List Rec) (K : List Rng) : Prop where
  o4 : Own w B 26 35 v4 N4 (S.flatMap encG)
  o5 : Own w B 38 65 v5 N5 (I.flatMap encR)
  o6 : Own w B 26 35 v6 N6 (K.flatMap encG)
  s45 : Sep v4 v5
  s46 : Sep v4 v6
  s56 : Sep v5 v6
  n4 : N4 = S.length
  n5 : N5 = I.length
  n6 : N6 = K.length
section
variable {B : Nat} {w w' : World} {v4 v5 v6 v' : Value} {N4 N5 N6 : Nat} {S : List Rng} {I : List Rec} {K : List Rng}
theorem Three.nil (B : Nat) (w : World) : Three B w (.slice none 0 0) (.slice none 0 0) (.slice none 0 0) 0 0 0 [] [] [] :=
  ⟨Own.nil _ _ _ _, Own.nil _ _ _ _, Own.nil _ _ _ _, sep_nil _, sep_nil _, sep_nil _, rfl, rfl, rfl⟩
theorem Three.below (h : Three B w v4 v5 v6 N4 N5 N6 S I K) (hb : Below w.heap.size w w') : Three B w' v4 v5 v6 N4 N5 N6 S I K :=
  ⟨h.o4.below hb, h.o5.below hb, h.o6.below hb, h.s45, h.s46, h.s56, h.n4, h.n5, h.n6⟩
theorem Three.app4 (h : Three B w v4 v5 v6 N4 N5 N6 S I K) {N' : Nat} {S' : List Rng} (hO : Own w' B 26 35 v' N' (S'.flatMap encG)) (hN : N' = S'.length) (hg : w.grownBy w' v4.ownBlock) (hob : v'.ownBlock = v4.ownBlock ∨ v'.ownBlock = some w.heap.size) : Three B w' v' v5 v6 N' N5 N6 S' I K :=
  ⟨hO, h.o5.grown hg h.s45.symm.ne, h.o6.grown hg h.s46.symm.ne, (h.s45.symm.grown h.o5 hob).symm, (h.s46.symm.grown h.o6 hob).symm, h.s56, hN, h.n5, h.n6⟩
theorem Three.app5 (h : Three B w v4 v5 v6 N4 N5 N6 S I K) {N' : Nat} {I' : List Rec} (hO : Own w' B 38 65 v' N' (I'.flatMap encR)) (hN : N' = I'.length) (hg : w.grownBy w' v5.ownBlock) (hob : v'.ownBlock = v5.ownBlock ∨ v'.ownBlock = some w.heap.size) : Three B w' v4 v' v6 N4 N' N6 S I' K :=
  ⟨h.o4.grown hg h.s45.ne, hO, h.o6.grown hg h.s56.symm.ne, h.s45.grown h.o4 hob, h.s46, (h.s56.symm.grown h.o6 hob).symm, h.n4, hN, h.n6⟩
theorem Three.app6 (h : Three B w v4 v5 v6 N4 N5 N6 S I K) {N' : Nat} {K' : List Rng} (hO : Own w' B 26 35 v' N' (K'.flatMap encG)) (hN : N' = K'.length) (hg : w.grownBy w' v6.ownBlock) (hob : v'.ownBlock = v6.ownBlock ∨ v'.ownBlock = some w.heap.size) : Three B w' v4 v5 v' N4 N5 N' S I K' :=
  ⟨h.o4.grown hg h.s46.ne, h.o5.grown hg h.s56.ne, hO, h.s45, h.s46.grown h.o4 hob, h.s56.grown h.o5 hob, h.n4, h.n5, hN⟩
end
end Go.Proofs.YtefbllhpibfojaaDoor
