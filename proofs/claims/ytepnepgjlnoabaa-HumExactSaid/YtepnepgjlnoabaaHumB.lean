/- Layer 11: rumours in memory: a struct, its map of pointers, each rumour's own block. -/
import Derived.Test.YtepnepgjlnoabaaHumA
import Derived.Test.YtepnepgjlnoabaaHumP
import Derived.Test.YtepnepgjlnoabaaSkyP
import Derived.WideKeyArgs
namespace Go.Proofs.Ytepnepgjlnoabaa
open Go.RowKit Go.Maps

def ptrV (g : Nat) : Value := .pointer (some ⟨g, 0, none⟩)
def ptrD {H : Type} (g : Nat) : DataW H := .lit (.int .i64 (g : Int))
theorem ptrD_inj {H : Type} {a b : Nat} (h : (ptrD a : DataW H) = ptrD b) : a = b := by
  injection h with h1
  injection h1 with _ h2
  omega
/-- a pointer to a block's head, read as the block -/
def readP {H : Type} (v : Value) : Option (DataW H × List MemPlace) :=
  match v with
  | .pointer (some ⟨g, 0, none⟩) => some (ptrD g, [])
  | _ => none
theorem readP_ptr {H : Type} (g : Nat) : readP (H := H) (ptrV g) = some (ptrD g, []) := rfl
theorem readP_inv {H : Type} {v : Value} {z : DataW H × List MemPlace} (h : readP v = some z) : ∃ g, v = ptrV g ∧ z = (ptrD g, []) := by
  unfold readP at h
  split at h
  · rename_i g
    exact ⟨g, rfl, (Option.some.inj h).symm⟩
  · cases h
/-- a rumour's cells -/
def rumC (r : Rum) : List Value := [.int .i64 r.m.n, .int .i64 r.m.i, .int .i64 r.m.s, .int .i64 r.k]
/-- rumours: the struct at p, the map at b, each rumour at its own block -/
structure HumAt (H : Type) (w : World) (p b N : Nat) (t : Int) (F : Int → Option (Nat × Rum)) : Prop where
  hd : At w p 51 [.int .i64 t, .map (some b)]
  map : w.ownsMap Try.prog 3 readP b N (Sk.mapD (H := H) ptrD fun x => (F x).map (·.1))
  sane : Hm.Sane t fun x => (F x).map (·.2)
  at_ : ∀ x g r, F x = some (g, r) → At w g 48 (rumC r)
  inj : ∀ x y g r u, F x = some (g, r) → F y = some (g, u) → x = y
  ne : p ≠ b ∧ ∀ x g r, F x = some (g, r) → g ≠ p ∧ g ≠ b
theorem HumAt.below {H : Type} {w w' : World} {p b N : Nat} {t : Int} {F : Int → Option (Nat × Rum)} (h : HumAt H w p b N t F) (hb : Below w.heap.size w w') : HumAt H w' p b N t F :=
  ⟨h.hd.below hb h.hd.lt, h.map.kept (row := none) ⟨hb.os, hb.tape, hb.output, hb.size, fun i hi _ => hb.block i hi⟩ (by simp), h.sane, fun x g r hF => (h.at_ x g r hF).below hb (h.at_ x g r hF).lt, h.inj, h.ne⟩
set_option maxRecDepth 100000 in
theorem hum_new {H : Type} (n : Int) (w : World) : Calls Try.prog 7 #[.int .i64 n] w fun e w' => ∃ p b : Nat, e = .returned (ptrV p) ∧ HumAt H w' p b 0 (min (max n 1) 100) (fun _ => none) ∧ Below w.heap.size w w' ∧ w.heap.size ≤ p ∧ w.heap.size ≤ b := by
  have hmm : (Instr.makeMap 49 none).run Try.prog w = .ok (.map (some w.heap.size)) (w.alloc (.map #[] 0)) := rfl
  have hV : HumAt H ((w.alloc (.map #[] 0)).alloc (.cells #[.int .i64 (min (max n 1) 100), .map (some w.heap.size)] 51)) (w.heap.size + 1) w.heap.size 0 (min (max n 1) 100) (fun _ => none) := by
    refine ⟨?_, ?_, Hm.sane_none _, fun x g r h => (nomatch h), fun x y g r u h => (nomatch h), by omega, fun x g r h => (nomatch h)⟩
    · have h := At.newA (w.alloc (.map #[] 0)) 51 (C := #[.int .i64 (min (max n 1) 100), .map (some w.heap.size)]) (cs := [.int .i64 (min (max n 1) 100), .map (some w.heap.size)]) rfl
      rw [World.size_alloc] at h
      exact h
    · have e : (fun x : Int => ((fun _ : Int => (none : Option (Nat × Rum))) x).map (·.1)) = fun _ => none := rfl
      rw [e, Sk.mapD_none]
      exact (World.ownsMap_made w Try.prog 3 readP).kept (row := none) (grown_alloc (World.grownBy.refl _ _) _) (by simp)
  have HV := Lib.hid hV
  have HB := Lib.hid (((Below.refl w.heap.size w).alloc (Nat.le_refl _) (.map #[] 0)).alloc (by simp) (.cells #[.int .i64 (min (max n 1) 100), .map (some w.heap.size)] 51))
  clear hV
  go_enter Try.func7, Try.ntmps7
  go_wp2_with fail
  go_ret
  exact ⟨_, _, rfl, HV.out, HB.out, by omega, Nat.le_refl _⟩
end Go.Proofs.Ytepnepgjlnoabaa
