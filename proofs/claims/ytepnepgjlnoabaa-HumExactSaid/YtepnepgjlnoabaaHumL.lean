/- Layer 11: awake. -/
import Derived.Test.YtepnepgjlnoabaaHumK
namespace Go.Proofs.Ytepnepgjlnoabaa
open Go.Proofs Stab Go.Shelf Go.RowKit Go.Lib Go.Sort Go.Maps

def insS {α : Type} (le : α → α → Bool) (x : α) : List α → List α
  | [] => [x]
  | y :: r => if le y x then y :: insS le x r else x :: y :: r
theorem merge_ins {α : Type} (le : α → α → Bool) (x : α) : ∀ X : List α, List.merge X [x] le = insS le x X
  | [] => by rw [List.nil_merge]; rfl
  | y :: r => by
    rw [List.cons_merge_cons, insS, merge_ins le x r, List.merge_right]
theorem S_ins {α : Type} (le : α → α → Bool) (l : List α) : S le l = l.foldl (fun X x => insS le x X) [] := by
  induction l using snoc_ind with
  | h0 => rfl
  | h1 l x ih => rw [S_snoc, List.foldl_append, ← ih, merge_ins]; rfl
namespace Hm
def toldI (q : Int) (f : St) : List Rum := ((all f).foldl (fun X x => insS (leC cfR) x X) []).take (max q 0).toNat
def restI (q : Int) (f : St) : St := (toldI q f).foldl tell f
theorem told_ins (q : Int) (f : St) : told q f = toldI q f := by unfold told sorted toldI; rw [S_ins]
theorem rest_ins (q : Int) (f : St) : rest q f = restI q f := by unfold rest restI; rw [told_ins]
end Hm
def fA : Hm.St := Hm.push 2 (fun _ => none) [⟨1,0,0⟩,⟨2,0,0⟩]
theorem tA : Hm.told 1 fA = [⟨⟨1,0,0⟩, 2⟩] := by rw [Hm.told_ins]; decide +kernel
theorem tB : Hm.told 1 (Hm.rest 1 fA) = [⟨⟨2,0,0⟩, 2⟩] := by rw [Hm.told_ins, Hm.rest_ins]; decide +kernel
theorem tC : (Hm.told 9 (Hm.rest 1 (Hm.rest 1 fA))).length = 2 := by simp only [Hm.told_ins, Hm.rest_ins]; decide +kernel
theorem tD : (Hm.told 9 (Hm.rest 9 (Hm.rest 1 (Hm.rest 1 fA)))) = [] := by simp only [Hm.told_ins, Hm.rest_ins]; decide +kernel
theorem tE : (Hm.all (Hm.rest 9 (Hm.rest 9 (Hm.rest 1 (Hm.rest 1 fA))))) = [] := by simp only [Hm.rest_ins]; decide +kernel
theorem memsV_at (l : List Mem) (i : Nat) (hi : i < l.length) (j : Nat) (v : Value) (hv : (cellsM l[i])[j]? = some v) : (memsV l)[i * 3 + j]? = some v := by
  induction l generalizing i with
  | nil => simp at hi
  | cons m l ih =>
    cases i with
    | zero =>
      have hj : j < 3 := by
        have := (List.getElem?_eq_some_iff.1 hv).1
        simpa [cellsM] using this
      unfold memsV
      rw [List.flatMap_cons, Nat.zero_mul, Nat.zero_add, List.getElem?_append_left (by simpa [cellsM] using hj)]
      exact hv
    | succ i =>
      unfold memsV
      rw [List.flatMap_cons, List.getElem?_append_right (by simp [cellsM]; omega)]
      have e : (i + 1) * 3 + j - (cellsM m).length = i * 3 + j := by simp [cellsM]; omega
      rw [e]
      exact ih i (by simpa using hi) hv
theorem mems_laid (w : World) (l : List Mem) (C : Array Value) (h : C = (memsV l).toArray) (g : Nat) (hg : g = w.heap.size) : MemsIn (w.alloc (.cells C 41)) (some ⟨g, 0, none⟩) l := fun _ => by
  subst h hg
  refine ⟨_, _, rfl, by simp, fun i hi j v hv => ?_⟩
  rw [Nat.zero_add]
  exact (At.new w 41 (memsV l)).cell' (memsV_at l i hi j v hv)
theorem own_eq {g n c k : Nat} (h : (Value.slice (some ⟨g, 0, none⟩) n c).ownBlock = some k) : k = g := by
  injection h with h
  exact h.symm
/-- a row of members made by a call, kept where its block stands apart -/
theorem Own.keeps {A : Nat → Prop} {w w' : World} {B : Nat} {e : TypeId} {size n : Nat} {v : Value} {xs : List Value} (h : Own w B e size v n xs) (hk : Keeps A w w') (hA : ∀ k, v.ownBlock = some k → A k) : Own w' B e size v n xs :=
  h.keep fun g hv => hk.block g (hA g hv) (h.lt g hv).2
set_option maxRecDepth 100000 in
set_option maxHeartbeats 4000000 in
theorem awake_any (w : World) :
    Calls Try.prog 6 #[] w fun e w' => e = .returned (.bool true) ∧ Below w.heap.size w w' := by
  go_enter Try.func6, Try.ntmps6
  go_wp2_with fail
  refine (hum_new (H := Unit) 2 _).mono ?_
  rintro e w1 ⟨p, b, rfl, hV, hb1, hp, hbb⟩
  have hS1 : HumSt Unit w1 (fun i => i < w.heap.size) p b 0 2 (fun _ => none) := ⟨⟨_, hV, rfl, fun x g r h => nomatch h⟩, by show ¬ p < _; omega, by show ¬ b < _; omega, fun i hi => Nat.lt_of_lt_of_le hi hb1.size⟩
  have HS1 := Lib.hid hS1
  have HB1 := Lib.hid hb1
  have hbl := hV.blt
  clear hV hb1 hS1
  go_wp2_with fail
  refine (push_any (HS1.out.below ((Below.refl _ _).alloc (Nat.le_refl _) _)) (by omega) _ 2 [⟨1, 0, 0⟩, ⟨2, 0, 0⟩] (mems_laid w1 _ _ rfl _ rfl) (fun g off _ e => by injection e with e; injection e with e; omega) (by decide)).mono ?_
  rintro e w2 ⟨rfl, hS2, hg2⟩
  have HB2 := Lib.hid (Below.ofGrown (HB1.out.alloc HB1.out.size _) hg2 (by simp; have := HB1.out.size; omega) hbb)
  have HS2 := Lib.hid (show HumSt Unit w2 (fun i => i < w.heap.size) p b 2 2 fA from hS2)
  clear hS2 hg2 HS1
  go_wp2_with fail
  refine (take_any HS2.out 1 (by omega)).mono ?_
  rintro e w3 ⟨v3, rfl, hS3, hK3, hO3⟩
  rw [tA] at hO3
  obtain ⟨ga, ca, hva, hga, hgal, _, _⟩ := hO3.form (by decide)
  subst hva
  have HS3 := Lib.hid hS3
  have HK3 := Lib.hid hK3
  have HO3 := Lib.hid hO3
  have hla : ([(⟨⟨1, 0, 0⟩, 2⟩ : Rum)].length : Int) = 1 := rfl
  clear hS3 hK3 hO3 HS2
  go_wp2_with fail
  refine (take_any HS3.out 1 (by omega)).mono ?_
  rintro e w4 ⟨v4, rfl, hS4, hK4, hO4⟩
  rw [tB] at hO4
  obtain ⟨gb, cb, hvb, hgb, hgbl, _, _⟩ := hO4.form (by decide)
  subst hvb
  have HS4 := Lib.hid hS4
  have HK4 := Lib.hid hK4
  have HO4 := Lib.hid hO4
  clear hS4 hK4 hO4 HS3
  go_wp2_with fail
  refine (take_any HS4.out 9 (by omega)).mono ?_
  rintro e w5 ⟨v5, rfl, hS5, hK5, hO5⟩
  rw [tC] at hO5
  obtain ⟨gc, cc, hvc, hgc, hgcl, _, _⟩ := hO5.form (by decide)
  subst hvc
  have HS5 := Lib.hid hS5
  have HK5 := Lib.hid hK5
  have h34 := hgal
  have h23 := HK3.out.size
  have hs4 := HK4.out.size
  have hs5 := hK5.size
  have hA4 := HO3.out.keeps HK4.out (fun k hk => by have hk := own_eq hk; exact .inr ⟨by omega, by omega⟩)
  have hA5 := hA4.keeps hK5 (fun k hk => by have hk := own_eq hk; exact .inl (.inr ⟨by omega, by omega⟩))
  have hB5 := HO4.out.keeps hK5 (fun k hk => by have hk := own_eq hk; exact .inr ⟨by omega, by omega⟩)
  have ka : w5.cell? ⟨ga, 0, none⟩ = some (.int .i64 1) := hA5.cellAt rfl 0 (by decide)
  have kb : w5.cell? ⟨gb, 0, none⟩ = some (.int .i64 2) := hB5.cellAt rfl 0 (by decide)
  have HB5 := Lib.hid (HB2.out.trans (((HK3.out.trans (HK4.out.mono fun i hi => .inl hi)).trans (hK5.mono fun i hi => .inl (.inl hi))).below (fun i hi => hi) HB2.out.size))
  clear hS5 hK5 hO5 HS4 hA4 hA5 hB5 HO3 HO4
  go_wp2_with fail
  refine (take_any HS5.out 9 (by omega)).mono ?_
  rintro e w6 ⟨v6, rfl, hS6, hK6, hO6⟩
  rw [tD] at hO6
  obtain ⟨A6, c6, hv6⟩ : ∃ A c, v6 = .slice A 0 c := by
    rcases hO6.2 with ⟨h1, _⟩ | ⟨g, cap, cur, fr, h1, _⟩
    · exact ⟨none, 0, h1⟩
    · exact ⟨_, _, h1⟩
  subst hv6
  have HS6 := Lib.hid hS6
  have HB6 := Lib.hid (HB5.out.trans ((hK6.mono (fun i (hi : i < w.heap.size) => .inl (.inl (.inl hi)))).below (fun i hi => hi) HB5.out.size))
  clear hS6 hK6 hO6 HS5 HB5
  go_wp2_with fail
  refine (left_any HS6.out).mono ?_
  rintro e w7 ⟨v7, rfl, hO7, hb7⟩
  rw [tE] at hO7
  obtain ⟨A7, c7, hv7⟩ : ∃ A c, v7 = .slice A 0 c := by
    rcases hO7.2 with ⟨h1, _⟩ | ⟨g, cap, cur, fr, h1, _⟩
    · exact ⟨none, 0, h1⟩
    · exact ⟨_, _, h1⟩
  subst hv7
  have HB7 := Lib.hid (HB6.out.trans (hb7.mono HB6.out.size))
  clear hO7 hb7
  go_wp2_with fail
  go_ret
  exact ⟨rfl, HB7.out⟩
end Go.Proofs.Ytepnepgjlnoabaa
