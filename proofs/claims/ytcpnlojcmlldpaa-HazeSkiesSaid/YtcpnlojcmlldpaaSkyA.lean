/- Layer 14: a sky: its struct, its map; New, isTime. -/
import Derived.Test.YtcpnlojcmlldpaaHazeF
import Derived.Test.YtcpnlojcmlldpaaSkyP
namespace Go.Proofs.Ytcpnlojcmlldpaa
open Go.RowKit Go.Maps

/-- a node's summary, and when it came -/
structure Cloud where
  h : List UInt8
  t : Int
abbrev Clouds := Int → Option Cloud
def cloudCells (c : Cloud) : List Value := u8s c.h ++ [.int .i64 c.t]
def cloudV (c : Cloud) : Value := .agg (cloudCells c).toArray
def cloudD {H : Type} (c : Cloud) : DataW H := .agg ((c.h.map fun b => .lit (.int .u8 (b.toNat : Int))) ++ [.lit (.int .i64 c.t)])
theorem u8s_inj {a b : List UInt8} (h : u8s a = u8s b) : a = b := by
  unfold u8s at h
  refine (List.map_inj_right (f := fun b : UInt8 => Value.int .u8 (b.toNat : Int)) (fun x y hxy => ?_)).1 h
  injection hxy with _ hxy
  exact UInt8.toNat_inj.1 (by omega)
theorem cloudCells_inj {a b : Cloud} (h : cloudCells a = cloudCells b) : a = b := by
  unfold cloudCells at h
  obtain ⟨h1, h2⟩ := List.append_inj' h rfl
  injection h2 with h2
  injection h2 with _ h2
  cases a
  cases b
  simp only at h1 h2
  rw [u8s_inj h1, h2]
theorem cloudV_inj {a b : Cloud} (h : cloudV a = cloudV b) : a = b := by
  unfold cloudV at h
  injection h with h
  exact cloudCells_inj (by simpa using congrArg Array.toList h)
theorem cloudD_inj {H : Type} {a b : Cloud} (h : (cloudD a : DataW H) = cloudD b) : a = b := by
  unfold cloudD at h
  injection h with h
  obtain ⟨h1, h2⟩ := List.append_inj' h rfl
  have e1 : a.h = b.h := by
    refine (List.map_inj_right (f := fun b : UInt8 => (DataW.lit (.int .u8 (b.toNat : Int)) : DataW H)) (fun x y hxy => ?_)).1 h1
    injection hxy with hxy
    injection hxy with _ hxy
    exact UInt8.toNat_inj.1 (by omega)
  injection h2 with h2
  injection h2 with h2
  injection h2 with _ h2
  cases a
  cases b
  simp only at e1 h2
  rw [e1, h2]
open Classical in
/-- how a cloud in a map reads -/
noncomputable def readC {H : Type} (v : Value) : Option (DataW H × List MemPlace) := if h : ∃ c, v = cloudV c then some (cloudD h.choose, []) else none
theorem readC_cloud {H : Type} (c : Cloud) : readC (H := H) (cloudV c) = some (cloudD c, []) := by
  have h : ∃ c', cloudV c = cloudV c' := ⟨c, rfl⟩
  unfold readC
  rw [dif_pos h, ← cloudV_inj h.choose_spec]
theorem readC_inv {H : Type} {v : Value} {z : DataW H × List MemPlace} (h : readC v = some z) : ∃ c, v = cloudV c ∧ z = (cloudD c, []) := by
  unfold readC at h
  split at h
  · rename_i hc
    cases h
    exact ⟨_, hc.choose_spec, rfl⟩
  · cases h
/-- a sky: its struct at p, its map at b -/
def SkyAt (H : Type) (w : World) (p b N : Nat) (f : Clouds) : Prop :=
  At w p 62 [.map (some b)] ∧ w.ownsMap Try.prog 3 readC b N (Sk.mapD (H := H) cloudD f) ∧ (Sk.Sane f ∧ ∀ k c, f k = some c → c.h.length = 64 ∧ 0 ≤ c.t ∧ c.t ≤ 1099511627776) ∧ p ≠ b
theorem sky_below {H : Type} {w w' : World} {p b N : Nat} {f : Clouds} (h : SkyAt H w p b N f) (hb : Below w.heap.size w w') : SkyAt H w' p b N f :=
  ⟨h.1.below hb h.1.lt, h.2.1.kept (row := none) ⟨hb.os, hb.tape, hb.output, hb.size, fun i hi _ => hb.block i hi⟩ (by simp), h.2.2⟩
theorem sky_grown {H : Type} {w w' : World} {p b N : Nat} {f : Clouds} {row : Option Nat} (h : SkyAt H w p b N f) (hg : w.grownBy w' row) (hp : some p ≠ row) (hb : some b ≠ row) : SkyAt H w' p b N f :=
  ⟨h.1.grown hg hp, h.2.1.kept hg hb, h.2.2⟩

theorem isTime_any (n : Int) (w : World) : Calls Try.prog 28 #[.int .i64 n] w fun e w' => e = .returned (.bool (decide (0 ≤ n) && decide (n ≤ 1099511627776))) ∧ w' = w := by
  go_enter Try.func28, Try.ntmps28
  by_cases h : 0 ≤ n
  · go_wp2_with fail
    go_ret
    exact ⟨by simp [h], rfl⟩
  · go_wp2_with fail
    go_ret
    exact ⟨by simp; omega, rfl⟩
set_option maxRecDepth 100000 in
theorem sky_new {H : Type} (w : World) : Calls Try.prog 13 #[] w fun e w' => ∃ p b : Nat, e = .returned (.pointer (some ⟨p, 0, none⟩)) ∧ SkyAt H w' p b 0 (fun _ => none) ∧ Below w.heap.size w w' ∧ w.heap.size ≤ p ∧ w.heap.size ≤ b := by
  have hmm : (Instr.makeMap 60 none).run Try.prog w = .ok (.map (some w.heap.size)) (w.alloc (.map #[] 0)) := rfl
  have hV : SkyAt H ((w.alloc (.map #[] 0)).alloc (.cells #[.map (some w.heap.size)] 62)) (w.heap.size + 1) w.heap.size 0 (fun _ => none) := by
    refine ⟨?_, ?_, ⟨Sk.sane_none, fun _ _ h => by cases h⟩, by omega⟩
    · have h := At.newA (w.alloc (.map #[] 0)) 62 (C := #[.map (some w.heap.size)]) (cs := [.map (some w.heap.size)]) rfl
      rw [World.size_alloc] at h
      exact h
    · rw [Sk.mapD_none]
      exact (World.ownsMap_made w Try.prog 3 readC).kept (row := none) (grown_alloc (World.grownBy.refl _ _) _) (by simp)
  have HV := Lib.hid hV
  have HB := Lib.hid (((Below.refl w.heap.size w).alloc (Nat.le_refl _) (.map #[] 0)).alloc (by simp) (.cells #[.map (some w.heap.size)] 62))
  clear hV
  go_enter Try.func13, Try.ntmps13
  go_wp2_with fail
  go_ret
  exact ⟨_, _, rfl, HV.out, HB.out, by omega, Nat.le_refl _⟩
end Go.Proofs.Ytcpnlojcmlldpaa
