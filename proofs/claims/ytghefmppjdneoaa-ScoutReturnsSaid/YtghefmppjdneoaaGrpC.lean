/- Layer 12, the texts HumP to Mix joined: what the functions that a scout reaches do with memory, each told once. -/
import Derived.Test.YtghefmppjdneoaaGrpA
import Derived.Test.YtghefmppjdneoaaGrpB
import Derived.WideKeyArgs
import Derived.Shelf.SlIterI.Nil
import Derived.Shelf.SortM.Plain
import Derived.Shelf.SortM.SortNone
import Derived.Ground.GgzProg
import Derived.Ground.SlgmProg
import Derived.Maps.AppendAt
import Derived.Deep.RegionHeld3
namespace Go.Proofs.Ytghefmppjdneoaa
open Go.Proofs Stab Go.RowKit Go.Maps Go.Sort Go.Shelf Go.Lib

/-- a rumour: a member, and how often it will be told yet -/
structure Rum where
  m : Mem
  k : Int
deriving DecidableEq
namespace Hm
abbrev St := Int → Option Rum
def push1 (t : Int) (f : St) (m : Mem) : St := if m.good = true then fun x => if x = m.n then some ⟨m, t⟩ else f x else f
def push (t : Int) (f : St) (l : List Mem) : St := l.foldl (push1 t) f
def all (f : St) : List Rum := nodes.filterMap f
def cfR (a b : Rum) : Int := if b.k < a.k then -1 else if a.k < b.k then 1 else 0
def sorted (f : St) : List Rum := S (leC cfR) (all f)
def told (q : Int) (f : St) : List Rum := (sorted f).take (max q 0).toNat
def tell (f : St) (r : Rum) : St := fun x => if x = r.m.n then (if r.k = 1 then none else some ⟨r.m, r.k - 1⟩) else f x
def rest (q : Int) (f : St) : St := (told q f).foldl tell f
def Sane (t : Int) (f : St) : Prop := ∀ x r, f x = some r → r.m.good = true ∧ r.m.n = x ∧ 1 ≤ r.k ∧ r.k ≤ t
theorem sane_none (t : Int) : Sane t fun _ => none := fun _ _ h => by cases h
theorem sane_push1 {t : Int} {f : St} (ht : 1 ≤ t) (h : Sane t f) (m : Mem) : Sane t (push1 t f m) := by
  unfold push1
  by_cases hg : m.good = true
  · rw [if_pos hg]
    intro x r hr
    by_cases hx : x = m.n
    · simp only [hx, if_true, Option.some.injEq] at hr
      subst hr
      exact ⟨hg, hx.symm, ht, Int.le_refl _⟩
    · simp only [hx, if_false] at hr
      exact h x r hr
  · rw [if_neg hg]; exact h
theorem sane_push {t : Int} (ht : 1 ≤ t) : ∀ (l : List Mem) {f : St}, Sane t f → Sane t (push t f l)
  | [], _, h => h
  | m :: l, _, h => sane_push ht l (sane_push1 ht h m)
theorem mem_all {t : Int} {f : St} (h : Sane t f) {r : Rum} : r ∈ all f ↔ f r.m.n = some r := by
  unfold all
  rw [List.mem_filterMap]
  constructor
  · rintro ⟨x, _, hx⟩
    rw [(h x r hx).2.1]; exact hx
  · exact fun hr => ⟨r.m.n, good_node (h _ r hr).1, hr⟩
theorem mem_sorted {t : Int} {f : St} (h : Sane t f) {r : Rum} : r ∈ sorted f ↔ f r.m.n = some r := by
  unfold sorted
  rw [(S_perm _ _).mem_iff, mem_all h]
theorem sane_tell {t : Int} {f : St} (h : Sane t f) {r : Rum} (hr : r.m.good = true ∧ 1 ≤ r.k ∧ r.k ≤ t) : Sane t (tell f r) := fun x u hu => by
  unfold tell at hu
  by_cases hx : x = r.m.n
  · rw [if_pos hx] at hu
    by_cases h1 : r.k = 1
    · rw [if_pos h1] at hu; cases hu
    · rw [if_neg h1, Option.some.injEq] at hu
      subst hu
      exact ⟨hr.1, hx.symm, by show 1 ≤ r.k - 1; omega, by show r.k - 1 ≤ t; omega⟩
  · rw [if_neg hx] at hu
    exact h x u hu
theorem ltOf_cfR (a b : Rum) : ltOf cfR a b = decide (b.k < a.k) := by
  unfold ltOf cfR
  by_cases h : b.k < a.k
  · simp [h]
  · by_cases h2 : a.k < b.k <;> simp [h, h2]
theorem leC_cfR (a b : Rum) : leC cfR a b = decide (b.k ≤ a.k) := by
  unfold leC
  rw [ltOf_cfR]
  by_cases h : b.k ≤ a.k
  · rw [decide_eq_true h, decide_eq_false (by omega)]; rfl
  · rw [decide_eq_false h, decide_eq_true (by omega)]; rfl
theorem swoR : SWO (ltOf cfR) where
  irrefl x := by rw [ltOf_cfR]; simp
  trans x y z h1 h2 := by rw [ltOf_cfR, decide_eq_true_eq] at *; omega
  ntrans x y z h1 h2 := by rw [ltOf_cfR, decide_eq_false_iff_not] at *; omega
/-- who is told has been told no oftener than who isn't -/
theorem told_high {q : Int} {f : St} {r u : Rum} (hr : r ∈ told q f) (hu : u ∈ sorted f) (hn : u ∉ told q f) : u.k ≤ r.k := by
  have hs : (sorted f).Pairwise fun a b => leC cfR a b = true := S_sorted (leC_trans swoR) (leC_total swoR) _
  rw [← List.take_append_drop (max q 0).toNat (sorted f)] at hs hu
  have hd : u ∈ (sorted f).drop (max q 0).toNat := by
    rcases List.mem_append.1 hu with h | h
    · exact absurd h hn
    · exact h
  have h := (List.pairwise_append.1 hs).2.2 r hr u hd
  rw [leC_cfR, decide_eq_true_eq] at h
  exact h
end Hm
end Go.Proofs.Ytghefmppjdneoaa

namespace Go.Proofs.Ytghefmppjdneoaa
open Go.RowKit

theorem within_any (n lo hi : Int) (w : World) : Calls Try.prog 56 #[.int .i64 n, .int .i64 lo, .int .i64 hi] w fun e w' => e = .returned (.bool (decide (lo ≤ n) && decide (n ≤ hi))) ∧ w' = w := by
  go_enter Try.func56, Try.ntmps56
  by_cases h : lo ≤ n
  · go_wp2_with fail
    go_ret
    exact ⟨by simp [h], rfl⟩
  · go_wp2_with fail
    go_ret
    exact ⟨by simp; omega, rfl⟩
theorem memAt (w : World) (m : Mem) : At (w.alloc (.cells #[.int .i64 m.n, .int .i64 m.i, .int .i64 m.s] 38)) w.heap.size 38 [.int .i64 m.n, .int .i64 m.i, .int .i64 m.s] := At.newA _ _ rfl
theorem good_any (m : Mem) (w : World) : Calls Try.prog 38 #[memV m] w fun e w' => e = .returned (.bool m.good) ∧ Below w.heap.size w w' := by
  unfold memV
  have hA := memAt w m
  have hB : Below w.heap.size w (w.alloc (.cells #[.int .i64 m.n, .int .i64 m.i, .int .i64 m.s] 38)) := (Below.refl _ _).alloc (Nat.le_refl _) _
  have c0 := hA.cell' (i := 0) (v := .int .i64 m.n) rfl
  have c1 := hA.cell' (i := 1) (v := .int .i64 m.i) rfl
  have c2 := hA.cell' (i := 2) (v := .int .i64 m.s) rfl
  have HB := Lib.hid hB
  clear hA hB
  obtain ⟨g1, hg1⟩ : ∃ g, g = (decide (1 ≤ m.n) && decide (m.n ≤ 6)) := ⟨_, rfl⟩
  obtain ⟨g2, hg2⟩ : ∃ g, g = (decide (0 ≤ m.i) && decide (m.i ≤ 1073741824)) := ⟨_, rfl⟩
  obtain ⟨g3, hg3⟩ : ∃ g, g = (decide (0 ≤ m.s) && decide (m.s ≤ 3)) := ⟨_, rfl⟩
  have hgood : m.good = (g1 && g2 && g3) := by rw [hg1, hg2, hg3]; rfl
  rw [hgood]
  have HG := Lib.hid (And.intro hg1 (And.intro hg2 hg3))
  clear hg1 hg2 hg3 hgood
  go_enter Try.func38, Try.ntmps38
  go_wp2_with fail
  refine (within_any _ _ _ _).mono ?_
  rintro e w1 ⟨rfl, rfl⟩
  rw [← HG.out.1]
  cases g1
  · go_wp2_with fail
    go_ret
    exact ⟨rfl, HB.out⟩
  · go_wp2_with fail
    refine (within_any _ _ _ _).mono ?_
    rintro e w1 ⟨rfl, rfl⟩
    rw [← HG.out.2.1]
    cases g2
    · go_wp2_with fail
      go_ret
      exact ⟨rfl, HB.out⟩
    · go_wp2_with fail
      refine (within_any _ _ _ _).mono ?_
      rintro e w1 ⟨rfl, rfl⟩
      rw [← HG.out.2.2]
      cases g3
      · go_wp2_with fail
        go_ret
        exact ⟨rfl, HB.out⟩
      · go_wp2_with fail
        go_ret
        exact ⟨rfl, HB.out⟩
theorem range_below' {w w' : World} {b o : Nat} {cs : List Value} {B : Nat} (h : w.rangeAt b o cs) (hb : Below B w w') (hlt : b < B) : w'.rangeAt b o cs := fun j v hv => (hb.cell (p := ⟨b, o + j, none⟩) hlt).trans (h j v hv)
theorem good_at (m : Mem) (g : Bool) (hg : m.good = g) (w : World) : Calls Try.prog 38 #[memV m] w fun e w' => e = .returned (.bool g) ∧ Below w.heap.size w w' := by
  subst hg
  exact good_any m w
end Go.Proofs.Ytghefmppjdneoaa

namespace Go.Proofs.Ytghefmppjdneoaa
open Go.RowKit Go.Maps

def ptrV (g : Nat) : Value := .pointer (some ⟨g, 0, none⟩)
def ptrD {H : Type} (g : Nat) : DataW H := .lit (.int .i64 (g : Int))
theorem ptrD_inj {H : Type} {a b : Nat} (h : (ptrD a : DataW H) = ptrD b) : a = b := by
  injection h with h1
  injection h1 with _ h2
  omega
/-- a pointer to a block's head, read as the block -/
def readP {H : Type} (v : Value) : Option (DataW H × List MemPlace) :=
  match v with
  | .pointer (some ⟨g, 0, none⟩) => some (ptrD g, [])
  | _ => none
theorem readP_ptr {H : Type} (g : Nat) : readP (H := H) (ptrV g) = some (ptrD g, []) := rfl
theorem readP_inv {H : Type} {v : Value} {z : DataW H × List MemPlace} (h : readP v = some z) : ∃ g, v = ptrV g ∧ z = (ptrD g, []) := by
  unfold readP at h
  split at h
  · rename_i g
    exact ⟨g, rfl, (Option.some.inj h).symm⟩
  · cases h
/-- a rumour's cells -/
def rumC (r : Rum) : List Value := [.int .i64 r.m.n, .int .i64 r.m.i, .int .i64 r.m.s, .int .i64 r.k]
/-- rumours: the struct at p, the map at b, each rumour at its own block -/
structure HumAt (H : Type) (w : World) (p b N : Nat) (t : Int) (F : Int → Option (Nat × Rum)) : Prop where
  hd : At w p 105 [.int .i64 t, .map (some b)]
  map : w.ownsMap Try.prog 3 readP b N (Sk.mapD (H := H) ptrD fun x => (F x).map (·.1))
  sane : Hm.Sane t fun x => (F x).map (·.2)
  at_ : ∀ x g r, F x = some (g, r) → At w g 111 (rumC r)
  inj : ∀ x y g r u, F x = some (g, r) → F y = some (g, u) → x = y
  ne : p ≠ b ∧ ∀ x g r, F x = some (g, r) → g ≠ p ∧ g ≠ b
theorem HumAt.below {H : Type} {w w' : World} {p b N : Nat} {t : Int} {F : Int → Option (Nat × Rum)} (h : HumAt H w p b N t F) (hb : Below w.heap.size w w') : HumAt H w' p b N t F :=
  ⟨h.hd.below hb h.hd.lt, h.map.kept (row := none) ⟨hb.os, hb.tape, hb.output, hb.size, fun i hi _ => hb.block i hi⟩ (by simp), h.sane, fun x g r hF => (h.at_ x g r hF).below hb (h.at_ x g r hF).lt, h.inj, h.ne⟩
set_option maxRecDepth 100000 in
theorem hum_new {H : Type} (n : Int) (w : World) : Calls Try.prog 21 #[.int .i64 n] w fun e w' => ∃ p b : Nat, e = .returned (ptrV p) ∧ HumAt H w' p b 0 (min (max n 1) 100) (fun _ => none) ∧ Below w.heap.size w w' ∧ w.heap.size ≤ p ∧ w.heap.size ≤ b := by
  have hmm : (Instr.makeMap 103 none).run Try.prog w = .ok (.map (some w.heap.size)) (w.alloc (.map #[] 0)) := rfl
  have hV : HumAt H ((w.alloc (.map #[] 0)).alloc (.cells #[.int .i64 (min (max n 1) 100), .map (some w.heap.size)] 105)) (w.heap.size + 1) w.heap.size 0 (min (max n 1) 100) (fun _ => none) := by
    refine ⟨?_, ?_, Hm.sane_none _, fun x g r h => (nomatch h), fun x y g r u h => (nomatch h), by omega, fun x g r h => (nomatch h)⟩
    · have h := At.newA (w.alloc (.map #[] 0)) 105 (C := #[.int .i64 (min (max n 1) 100), .map (some w.heap.size)]) (cs := [.int .i64 (min (max n 1) 100), .map (some w.heap.size)]) rfl
      rw [World.size_alloc] at h
      exact h
    · have e : (fun x : Int => ((fun _ : Int => (none : Option (Nat × Rum))) x).map (·.1)) = fun _ => none := rfl
      rw [e, Sk.mapD_none]
      exact (World.ownsMap_made w Try.prog 3 readP).kept (row := none) (grown_alloc (World.grownBy.refl _ _) _) (by simp)
  have HV := Lib.hid hV
  have HB := Lib.hid (((Below.refl w.heap.size w).alloc (Nat.le_refl _) (.map #[] 0)).alloc (by simp) (.cells #[.int .i64 (min (max n 1) 100), .map (some w.heap.size)] 105))
  clear hV
  go_enter Try.func21, Try.ntmps21
  go_wp2_with fail
  go_ret
  exact ⟨_, _, rfl, HV.out, HB.out, by omega, Nat.le_refl _⟩
end Go.Proofs.Ytghefmppjdneoaa

namespace Go.Proofs
open Go.RowKit Go.Maps Go.Sort Go.Shelf

shelf_lay_g SlLaysZI.n7 Ggz 7 at Try 72 as Try.keysA
shelf_lay_g SlLaysZI.n6 Ggz 6 at Try 43 as Try.sortedA
shelf_lay_g SlLaysM.n5 Slgm 5 at Try 62 as Try.sortA
end Go.Proofs
namespace Go.Proofs.Ytghefmppjdneoaa
open Go.RowKit Go.Maps Go.Sort Go.Shelf

theorem sortsA (m : Nat) : AnyZI.SortsIn Try.prog Try.sortedA_ren Fence.wide m :=
  ⟨fun blk off cap ss W hH hblk hsz => callsIn_wide.2 (AnyM.slices_Sort_int Try.sortA blk off cap ss W hH hblk hsz),
   fun p cap W => callsIn_wide.2 (AnyM.slices_Sort_int_none Try.sortA p cap W)⟩
theorem keys_call (mb : Option Nat) (W : World) : Calls Try.prog 72 #[.map mb] W fun e w' =>
    e = .returned (.func (.func 78) #[] #[.pointer (some ⟨W.heap.size, 0, none⟩)]) ∧ w' = W.alloc (.cells #[.map mb] 103) :=
  (callsIn_wide (n := 5)).1 (AnyZI.keys_in Try.keysA Fence.wide 5 trivial rfl mb W)
theorem sorted_call {H : Type} (b nn : Nat) (D0 : DataW H) (R : Value → Option (DataW H × List MemPlace)) (w : World) (hown : w.ownsMap Try.prog 3 R b nn D0) (hmax : Maps.size D0 ≤ maxLen) (hbytes : Maps.size D0 * 8 ≤ 140737488355328) :
    Calls Try.prog 43 #[.func (.func 78) #[] #[.pointer (some ⟨w.heap.size, 0, none⟩)]] (w.alloc (.cells #[.map (some b)] 103)) fun e w' =>
      ∃ (v : Value) (ss : List Int), e = .returned v ∧ ss.Perm (intKeys D0) ∧
      w'.ownsRow (w.alloc (.cells #[.map (some b)] 103)).heap.size 3 1 v ss.length ((ss.mergeSort (fun x y => decide (x ≤ y))).map encZ) ∧ (v = .slice none 0 0 ↔ ss = []) ∧ Below (w.alloc (.cells #[.map (some b)] 103)).heap.size (w.alloc (.cells #[.map (some b)] 103)) w' := by
  refine (callsIn_wide (n := 5)).1 ?_
  have hbl := hown.lt
  have hseq : SeqGives Fence.wide 2 Try.prog 78 #[.pointer (some ⟨w.heap.size, 0, none⟩)] encZ (fun ss => ss.Perm (intKeys D0)) (Maps.size D0) (w.alloc (.cells #[.map (some b)] 103)) :=
    AnyZI.keys_gives (ρ := Try.keysA_ren) { Try.keysA with } Fence.wide _ trivial rfl (by omega) w.heap.size b nn D0 _ (by simp) (by simp) (by
      obtain ⟨es, clock, hb, Ft, hs, hD⟩ := hown
      exact ⟨es, clock, (Below.heap_alloc _ _ b hbl).trans hb, Ft, hs, hD⟩)
  have cS := AnyZI.sorted_in Try.sortedA Fence.wide 5 trivial trivial trivial trivial rfl (by omega) (sortsA _) (enters_of Try.func62 (by kernel_rfl) rfl) 78 #[.pointer (some ⟨w.heap.size, 0, none⟩)] trivial (enters_of Try.func78 (by kernel_rfl) rfl) _ _ hmax hbytes _ hseq
  exact cS.mono fun e w' ⟨v, ss, h1, h2, h3, h4, h5⟩ => ⟨v, ss, h1, h2, h3, h4, h5⟩
end Go.Proofs.Ytghefmppjdneoaa

namespace Go.Proofs.Ytghefmppjdneoaa
open Go.RowKit Go.Maps

theorem zero_ptr (w : World) : (zeroValue 109).run Try.prog w = .ok (.pointer none) w := by kernel_rfl
theorem hum_keyed : Keyed Try.prog 3 := int_keyed Try.underlying3
theorem hum_key {n : Int} (h1 : -9223372036854775808 ≤ n) (h2 : n ≤ 9223372036854775807) : keyOf Try.prog 3 (.int .i64 n) = some (.int .i64 n) :=
  keyOf_int_mk Try.underlying3 (by simp [Lit.wf, IntKind.min, IntKind.max, IntKind.signed, IntKind.bits]; omega)
theorem HumAt.nodes {H : Type} {w : World} {p b N : Nat} {t : Int} {F : Int → Option (Nat × Rum)} (h : HumAt H w p b N t F) : Sk.Sane fun x => (F x).map (·.1) := fun x g hg => by
  change (F x).map (·.1) = some g at hg
  cases hF : F x with
  | none => rw [hF] at hg; cases hg
  | some q =>
    have h2 := h.sane x q.2 (by simp [hF])
    have h3 := (Mem.good_iff _).1 h2.1
    exact Sk.node_mem (by omega) (by omega)
theorem hum_lookup {H : Type} {w : World} {p b N : Nat} {t : Int} {F : Int → Option (Nat × Rum)} (h : HumAt H w p b N t F) {k : Int} (h1 : -9223372036854775808 ≤ k) (h2 : k ≤ 9223372036854775807) :
    (Instr.lookup 103 (.map (some b)) (.int .i64 k) false).run Try.prog w = .ok (match F k with | some (g, _) => ptrV g | none => .pointer none) w := by
  obtain ⟨es, clock, hb, Ft, _, hD⟩ := h.map
  have hat : ∀ z : DataW H, (DataW.map ((es.toList.map (WideElems.rg Try.prog 3 readP)).foldr DataW.insert [])).atKey (.int .i64 k) z = (match (F k).map (·.1) with | some m => ptrD m | none => z) := fun z => by
    rw [← hD]
    refine (Sk.atKey_mapD (enc := ptrD) h.nodes k z).trans ?_
    cases (F k).map (·.1) <;> rfl
  rcases Maps.fit_look false hum_keyed Try.underlying103 (zero_ptr w) hb Ft (hum_key h1 h2) with ⟨hrun, _, hz⟩ | ⟨e0, y, _, _, hrun, hRv, hz, _⟩
  · rw [hrun]
    have : F k = none := by
      cases hf : F k with
      | none => rfl
      | some m =>
        have h3 := (hz .nil).symm.trans (hat .nil)
        rw [hf] at h3
        cases h3
    simp [this]
  · rw [hrun]
    obtain ⟨m, hv, rfl⟩ := readP_inv hRv
    have h3 := (hz .nil).symm.trans (hat .nil)
    cases hf : F k with
    | none =>
      rw [hf] at h3
      cases h3
    | some m' =>
      rw [hf] at h3
      have := ptrD_inj h3
      simp [hv, this]
end Go.Proofs.Ytghefmppjdneoaa

namespace Go.Proofs.Ytghefmppjdneoaa
open Go.RowKit Go.Maps Go.Sort

theorem own_ofRow {w : World} {base : Nat} {e : TypeId} {size : Nat} {v : Value} {n : Nat} {xs : List Value} (h : w.ownsRow base e size v n xs) : Own w base e size v n xs := by
  obtain ⟨h1, h2⟩ := h
  refine ⟨h1, ?_⟩
  rcases h2 with h2 | ⟨g, cap, cur, h3, h4, h5, h6, h7, h8, h9⟩
  · exact .inl h2
  · exact .inr ⟨g, cap, cur.toList, (0, 0), h3, h4, by simpa using h5, fun i _ => by simp, h6, h7, by simpa using h8, h9⟩
theorem own_below2 {w0 w w' : World} {B B' : Nat} {e : TypeId} {size n : Nat} {v : Value} {xs : List Value} (h : Own w B e size v n xs) (hb : Below B' w0 w) (hBB : B' ≤ B) (hB : B' ≤ w.heap.size) (hg : w.grownBy w' v.ownBlock) : Below B' w0 w' :=
  hb.grown hg hB (fun k hk => Nat.le_trans hBB (h.lt k hk).1)
theorem row_below2 {w0 w w' : World} {B B' : Nat} {e : TypeId} {size n : Nat} {v : Value} {xs : List Value} (h : w.ownsRow B e size v n xs) (hb : Below B' w0 w) (hBB : B' ≤ B) (hB : B' ≤ w.heap.size) (hg : w.grownBy w' v.ownBlock) : Below B' w0 w' :=
  hb.grown hg hB (fun k hk => Nat.le_trans hBB (h.lt k hk).1)
theorem Own.rebase {w : World} {B B' : Nat} {e : TypeId} {size n : Nat} {v : Value} {xs : List Value} (h : Own w B e size v n xs) (hB : B' ≤ B) : Own w B' e size v n xs := by
  refine ⟨h.1, ?_⟩
  rcases h.2 with h2 | ⟨g, cap, cur, fr, h3, h4, h5⟩
  · exact .inl h2
  · exact .inr ⟨g, cap, cur, fr, h3, Nat.le_trans hB h4, h5⟩
theorem row_rebase {w : World} {B B' : Nat} {e : TypeId} {size n : Nat} {v : Value} {xs : List Value} (h : w.ownsRow B e size v n xs) (hB : B' ≤ B) : w.ownsRow B' e size v n xs := by
  refine ⟨h.1, ?_⟩
  rcases h.2 with h2 | ⟨g, cap, cur, h3, h4, h5⟩
  · exact .inl h2
  · exact .inr ⟨g, cap, cur, h3, Nat.le_trans hB h4, h5⟩
section
variable {α : Type}
def keysOf (f : Int → Option α) : List Int := Sk.nodes.filter fun k => (f k).isSome
theorem keysOf_sorted (f : Int → Option α) : (keysOf f).Pairwise (· ≤ ·) := by
  have h : Sk.nodes.Pairwise (· ≤ ·) := by decide
  exact h.filter _
theorem eq_of_perm_le : ∀ {l₁ l₂ : List Int}, l₁.Perm l₂ → l₁.Pairwise (· ≤ ·) → l₂.Pairwise (· ≤ ·) → l₁ = l₂
  | [], l₂, hp, _, _ => hp.nil_eq
  | a :: r, [], hp, _, _ => absurd hp.symm.nil_eq (by simp)
  | a :: r, b :: s, hp, h1, h2 => by
    obtain ⟨a1, a2⟩ := List.pairwise_cons.1 h1
    obtain ⟨b1, b2⟩ := List.pairwise_cons.1 h2
    have e : a = b := by
      have m1 : a ∈ b :: s := hp.mem_iff.1 List.mem_cons_self
      have m2 : b ∈ a :: r := hp.mem_iff.2 List.mem_cons_self
      rcases List.mem_cons.1 m1 with h | h
      · exact h
      · rcases List.mem_cons.1 m2 with h' | h'
        · exact h'.symm
        · have := b1 a h
          have := a1 b h'
          omega
    subst e
    rw [eq_of_perm_le hp.cons_inv a2 b2]
theorem sort_keys {H : Type} {enc : α → DataW H} {f : Int → Option α} {ss : List Int} (h : ss.Perm (intKeys (Sk.mapD enc f))) : ss.mergeSort (fun x y => decide (x ≤ y)) = keysOf f := by
  rw [Sk.intKeys_mapD] at h
  refine eq_of_perm_le ((List.mergeSort_perm ss _).trans h) ?_ (keysOf_sorted f)
  have := List.pairwise_mergeSort (le := fun x y : Int => decide (x ≤ y)) (fun a b c h1 h2 => by simp at *; omega) (fun a b => by simp; omega) ss
  exact this.imp (fun h => by simpa using h)
theorem keysOf_len (f : Int → Option α) : (keysOf f).length ≤ 6 := by
  have := List.length_filter_le (fun k => (f k).isSome) Sk.nodes
  exact this
theorem size_skD {H : Type} (enc : α → DataW H) (f : Int → Option α) : Maps.size (Sk.mapD enc f) ≤ 6 := List.length_filterMap_le _ Sk.nodes
theorem keysOf_get {f : Int → Option α} {k : Nat} (hk : k < (keysOf f).length) : ∃ m, f (keysOf f)[k] = some m ∧ -9223372036854775808 ≤ (keysOf f)[k] ∧ (keysOf f)[k] ≤ 9223372036854775807 := by
  have hm := List.getElem_mem hk
  obtain ⟨h1, h2⟩ := List.mem_filter.1 hm
  obtain ⟨m, h3⟩ := Option.isSome_iff_exists.1 h2
  refine ⟨m, h3, ?_⟩
  simp only [Sk.nodes, List.mem_cons, List.not_mem_nil, or_false] at h1
  omega
theorem filterMap_len {f : Int → Option α} {ks : List Int} (h : ∀ x ∈ ks, (f x).isSome = true) : (ks.filterMap f).length = ks.length := by
  induction ks with
  | nil => rfl
  | cons x r ih =>
    obtain ⟨m, hm⟩ := Option.isSome_iff_exists.1 (h x List.mem_cons_self)
    rw [List.filterMap_cons, hm]
    simp [ih (fun y hy => h y (List.mem_cons_of_mem _ hy))]
/-- all that is known, by rising nodes -/
def allB (f : Int → Option α) : List α := Sk.nodes.filterMap f
theorem allB_keys (f : Int → Option α) : allB f = (keysOf f).filterMap f := by
  unfold allB keysOf
  induction Sk.nodes with
  | nil => rfl
  | cons x r ih =>
    rw [List.filterMap_cons, List.filter_cons]
    cases hf : f x with
    | none => simp [ih]
    | some m => simp [hf, ih]
theorem allB_len (f : Int → Option α) : (keysOf f).length = (allB f).length := by
  rw [allB_keys]
  exact (filterMap_len fun x hx => (List.mem_filter.1 hx).2).symm
theorem keysOf_map {β : Type} (f : Int → Option α) (g : α → β) : keysOf (fun x => (f x).map g) = keysOf f := by
  unfold keysOf
  congr 1
  funext k
  cases hf : f k <;> simp [hf]
end
theorem info_ptr : (Try.prog.info? 109).map (fun i => (i.zero, i.size, i.bytes)) = some (some (.pointer none), 1, 8) := by kernel_rfl
/-- a rumour's pointer -/
def ptrC (q : Nat × Rum) : Value := ptrV q.1
theorem ptrV_oneCell (l : List (Nat × Rum)) : ∀ u ∈ l.map ptrC, u.oneCell' = true := by
  intro u hu
  obtain ⟨x, _, rfl⟩ := List.mem_map.1 hu
  rfl
theorem sorted_none (w : World) : Calls Try.prog 57 #[.pointer none] w fun e w' => e = .returned (.slice none 0 0) ∧ w' = w := by
  go_enter Try.func57, Try.ntmps57
  go_wp2_with fail
  go_ret
  exact ⟨rfl, rfl⟩
set_option maxRecDepth 100000 in
set_option maxHeartbeats 4000000 in
theorem sorted_any {H : Type} {w : World} {p b N : Nat} {t : Int} {F : Int → Option (Nat × Rum)} (h : HumAt H w p b N t F) :
    Calls Try.prog 57 #[.pointer (some ⟨p, 0, none⟩)] w fun e w' => ∃ v : Value, e = .returned v ∧ w'.ownsRow w.heap.size 109 1 v (allB F).length ((allB F).map ptrC) ∧ Below w.heap.size w w' := by
  have c0 := h.hd.cell' (i := 1) (v := .map (some b)) rfl
  have HV := Lib.hid h
  obtain ⟨i0, hi, hz0, hz1, hz2⟩ := info_parts info_ptr
  clear h
  go_enter Try.func57, Try.ntmps57
  go_wp2_with fail
  refine (keys_call _ _).mono ?_
  rintro e w1 ⟨rfl, rfl⟩
  go_wp2_with fail
  refine (sorted_call b N (Sk.mapD ptrD fun x => (F x).map (·.1)) readP w HV.out.map ?_ ?_).mono ?_
  · have := size_skD (H := H) ptrD fun x => (F x).map (·.1)
    unfold maxLen
    omega
  · have := size_skD (H := H) ptrD fun x => (F x).map (·.1)
    omega
  rintro e w2 ⟨v, ss, rfl, hp, hrow, hnil, hb⟩
  have hB1 : Below w.heap.size w (w.alloc (.cells #[.map (some b)] 103)) := (Below.refl _ _).alloc (Nat.le_refl _) _
  have HB2 := Lib.hid (hB1.trans (hb.mono hB1.size))
  have hlen := hp.length_eq
  rw [sort_keys hp, keysOf_map] at hrow
  obtain ⟨ks, hks⟩ : ∃ ks, ks = keysOf F := ⟨_, rfl⟩
  have hkl : ss.length = ks.length := by
    rw [hlen, Sk.intKeys_mapD, hks, ← keysOf_map F (·.1)]; rfl
  rw [← hks, hkl] at hrow
  have HO := Lib.hid (own_ofRow hrow)
  have HKS := Lib.hid hks
  have hk6 : ks.length ≤ 6 := by rw [hks]; exact keysOf_len F
  clear hrow hp hnil hb hlen hkl hks hB1 c0
  have hform : ∃ A c, v = .slice A ks.length c := by
    rcases HO.out.2 with ⟨h1, h2⟩ | ⟨g, cap, cur, fr, h1, _⟩
    · exact ⟨none, 0, by rw [h1, h2]⟩
    · exact ⟨_, cap, h1⟩
  obtain ⟨A, c, rfl⟩ := hform
  go_wp2_with fail
  obtain ⟨B, hBe⟩ : ∃ B, B = w2.heap.size := ⟨_, rfl⟩
  have HBe := Lib.hid hBe
  clear hBe
  go_loopw [2, 14] (fun v2 i wr => ∃ k : Nat, k ≤ ks.length ∧ i = .int .i64 k ∧ wr.ownsRow B 109 1 v2 k (((ks.take k).filterMap F).map ptrC) ∧ Below w2.heap.size w2 wr) (fun _ i _ => ks.length - (RowKit.intOf i).toNat)
  case atStart => exact ⟨0, by omega, rfl, World.ownsRow_nil _ _ _ _, Below.refl _ _⟩
  case round =>
    obtain ⟨k, hk, rfl, hO2, hb⟩ := hrel
    have hBw : Below w.heap.size w wr := HB2.out.trans (hb.mono HB2.out.size)
    by_cases hlt : k < ks.length
    · obtain ⟨g, cap, hA, hgb, hgl, _, _⟩ := HO.out.form (by omega)
      obtain ⟨rfl, rfl⟩ : A = some ⟨g, 0, none⟩ ∧ c = cap := by simpa using hA
      obtain ⟨x, hx⟩ : ∃ x, x = ks[k] := ⟨_, rfl⟩
      obtain ⟨m, hm, x1, x2⟩ : ∃ m, F x = some m ∧ -9223372036854775808 ≤ x ∧ x ≤ 9223372036854775807 := by
        have h := HKS.out
        subst h
        rw [hx]
        exact keysOf_get hlt
      have hVr := HV.out.below hBw
      have hl1 := hum_lookup hVr x1 x2
      rw [hm] at hl1
      have c0 := hVr.hd.cell' (i := 1) (v := .map (some b)) rfl
      have ck : wr.cell? ⟨g, k, none⟩ = some (.int .i64 x) := by
        rw [hb.cell (p := ⟨g, k, none⟩) hgl, HO.out.cellAt rfl k (by omega), hx]
        simp [encZ, hlt]
      have HX := Lib.hid (And.intro hx hm)
      have HO2 := Lib.hid hO2
      have HBr := Lib.hid hb
      have HBq := Lib.hid (show B ≤ wr.heap.size from by rw [HBe.out]; exact hb.size)
      have i1 : (0 : Int) ≤ (k : Int) := by omega
      have i2 : (k : Int) < (ks.length : Int) := by omega
      obtain ⟨gm, rm⟩ := m
      simp only [ptrV] at hl1
      clear hx hm hO2 hb hVr hA hBw
      go_wp2_with (at_builtin; (refine wpList_append_own_at _ rfl (.tmp 18) (.tmp 25) 120 rfl B 109 i0 _ 1 8 Try.underlying120 hi hz0 hz1 hz2 rfl (by omega) _ _ _ rfl (HO2.out.alloc _) ⟨_, 0, none⟩ 1 1 [ptrV gm] rfl rfl (cell_one_new _ _ _) (by intro u hu; rw [List.mem_singleton.1 hu]; rfl) ?_ ?_ ?_ ?_); (focus (unfold maxLen; omega)); (focus omega); (focus (have := HBq.out; simp; omega)); intro v9 w9 hO9 hg9 hn9 hat9)
      go_roundw
      case rel =>
        refine ⟨k + 1, by omega, by go_num, ?_, ?_⟩
        · rw [take_snoc ks k hlt, ← HX.out.1, List.filterMap_append]
          have e : ((ks.take k).filterMap F ++ [x].filterMap F).map ptrC = ((ks.take k).filterMap F).map ptrC ++ [ptrV gm] := by simp [HX.out.2, ptrC]
          rw [e]
          exact hO9
        · exact row_below2 (HO2.out.alloc _) (HBr.out.alloc HBr.out.size _) (by have := HBe.out; omega) (HBr.out.alloc HBr.out.size _).size hg9
      case measure => simp [RowKit.intOf]; omega
    · have hkl : k = ks.length := by omega
      have HO2 := Lib.hid hO2
      have HBw := Lib.hid hBw
      have HKL := Lib.hid hkl
      clear hO2 hBw hkl hb
      go_wp2_with fail
      go_ret
      refine ⟨u2, rfl, ?_, HBw.out⟩
      have h := HO2.out
      rw [HKL.out, List.take_length, HKS.out, ← allB_keys, allB_len] at h
      exact row_rebase h (by have := HB2.out.size; have := HBe.out; omega)
end Go.Proofs.Ytghefmppjdneoaa

namespace Go.Proofs.Ytghefmppjdneoaa
open Go.RowKit

section
variable {P : Program} {ops : Array Oper} {md : Region.Mode} {C : World → Prop}

/-- operation k waits for operation j -/
def edgeB (md : Region.Mode) (ops : Array Oper) (k j : Nat) : Bool :=
  match ops[k]? with
  | some o => o.after.any fun e => Region.binds md e && e.on == j
  | none => false
/-- every operation waits for earlier ones alone; each but the last has one behind it that waits for it: up to number p, or the very next one -/
def chainB (md : Region.Mode) (ops : Array Oper) (p : Nat) : Bool :=
  (List.range ops.size).all fun j =>
    (match ops[j]? with | some o => o.after.all (fun e => !Region.binds md e || decide (e.on < j)) | none => true) &&
    (j + 1 == ops.size || (List.range ops.size).any fun k => decide (j < k) && decide (k ≤ max p (j + 1)) && edgeB md ops k j)
/-- the first operations can be taken in the text's order -/
def preB (md : Region.Mode) (ops : Array Oper) : Nat → Nat → Array Bool → Bool
  | 0, _, _ => true
  | n + 1, k, listed => (Region.ready md ops listed).contains k && Region.free md ops listed k && preB md ops n (k + 1) (listed.setIfInBounds k true)

def Closed (md : Region.Mode) (ops : Array Oper) (listed : Array Bool) : Prop :=
  ∀ k o, ops[k]? = some o → listed.getD k false = true → ∀ e ∈ o.after, Region.binds md e = true → listed.getD e.on false = true

theorem edge_spec {k j : Nat} (h : edgeB md ops k j = true) : ∃ o, ops[k]? = some o ∧ ∃ e ∈ o.after, Region.binds md e = true ∧ e.on = j := by
  unfold edgeB at h
  split at h
  · rename_i o ho
    obtain ⟨e, he, hb⟩ := Array.any_eq_true'.1 h
    simp only [Bool.and_eq_true, beq_iff_eq] at hb
    exact ⟨o, ho, e, he, hb⟩
  · cases h
theorem chain_spec {p : Nat} (h : chainB md ops p = true) {j : Nat} (hj : j + 1 < ops.size) : ∃ k, j < k ∧ k ≤ max p (j + 1) ∧ edgeB md ops k j = true := by
  have h1 := List.all_eq_true.1 h j (List.mem_range.2 (by omega))
  simp only [Bool.and_eq_true, Bool.or_eq_true, beq_iff_eq] at h1
  rcases h1.2 with h2 | h2
  · omega
  · obtain ⟨k, _, hk⟩ := List.any_eq_true.1 h2
    simp only [Bool.and_eq_true, decide_eq_true_eq] at hk
    exact ⟨k, hk.1.1, hk.1.2, hk.2⟩
theorem chain_down {p : Nat} (h : chainB md ops p = true) {j : Nat} {o : Oper} (ho : ops[j]? = some o) : ∀ e ∈ o.after, Region.binds md e = true → e.on < j := by
  intro e he hb
  have hlt : j < ops.size := (Array.getElem?_eq_some_iff.1 ho).1
  have h1 := List.all_eq_true.1 h j (List.mem_range.2 hlt)
  simp only [ho, Bool.and_eq_true] at h1
  have h2 := (Array.all_eq_true_iff_forall_mem.1 h1.1) e he
  simpa [hb] using h2

/-- what is ready at p or behind has all others before it behind it -/
theorem all_before {p : Nat} (h : chainB md ops p = true) {listed : Array Bool} (hc : Closed md ops listed) {j : Nat} (hp : p ≤ j) (hr : j ∈ Region.ready md ops listed) : ∀ n i, j - i ≤ n → i < j → listed.getD i false = true := by
  obtain ⟨_, oj, hoj, hall⟩ := mem_ready.1 hr
  have hjs : j < ops.size := (Array.getElem?_eq_some_iff.1 hoj).1
  intro n
  induction n with
  | zero => intro i h1 h2; omega
  | succ n ih =>
    intro i h1 h2
    obtain ⟨k, hk1, hk2, hk3⟩ := chain_spec h (j := i) (by omega)
    obtain ⟨o, ho, e, he, hb, hon⟩ := edge_spec hk3
    have hkj : k ≤ j := by omega
    by_cases hkj2 : k = j
    · subst hkj2
      rw [hoj] at ho
      cases ho
      have := hall e he hb
      rwa [hon] at this
    · have hkl := ih k (by omega) (by omega)
      have := hc k o ho hkl e he hb
      rwa [hon] at this
theorem getD_both {listed : Array Bool} {i : Nat} (h : i < listed.size) (d : Bool) : listed.getD i d = listed[i] := by simp [h]
theorem ready_false {listed : Array Bool} (hsz : listed.size = ops.size) {i : Nat} (hr : i ∈ Region.ready md ops listed) : i < ops.size ∧ listed.getD i false = false ∧ listed.getD i true = false := by
  obtain ⟨h0, o, ho, _⟩ := mem_ready.1 hr
  have hlt : i < ops.size := (Array.getElem?_eq_some_iff.1 ho).1
  refine ⟨hlt, ?_, h0⟩
  rw [getD_both (by omega)] at h0 ⊢
  exact h0
theorem closed_set {listed : Array Bool} (hc : Closed md ops listed) {i : Nat} (hr : i ∈ Region.ready md ops listed) : Closed md ops (listed.setIfInBounds i true) := by
  intro k o ho hk e he hb
  obtain ⟨_, oi, hoi, hall⟩ := mem_ready.1 hr
  by_cases hki : i = k
  · subst hki
    rw [hoi] at ho
    cases ho
    exact getD_set_true (hall e he hb)
  · rw [getD_set_ne false hki] at hk
    exact getD_set_true (hc k o ho hk e he hb)
theorem set_self {listed : Array Bool} {i : Nat} (h : i < listed.size) (d : Bool) : (listed.setIfInBounds i true).getD i d = true := by simp [h]

/-- whatever order the first p operations are drawn in, so many of them being left -/
def anyL (P : Program) (md : Region.Mode) (ops : Array Oper) (C : World → Prop) (p : Nat) (R : Act → Prop) : Nat → Array Bool → Act → Prop
  | 0, listed, a => (∀ i, i < p → listed.getD i false = true) ∧ R a
  | n + 1, listed, a => (∃ i, i < p ∧ listed.getD i true = false) ∧ Region.ready md ops listed ≠ [] ∧ ∀ i ∈ Region.ready md ops listed, qOp P ops C i (anyL P md ops C p R n (listed.setIfInBounds i true)) a

theorem anyL_first {R : Act → Prop} {p i : Nat} {oi : Oper} {v : Value} (hch : chainB md ops p = true) (hi : ops[i]? = some oi) (hip : i < p) (hsel : ∀ (j : Nat) (o : Oper) cs b, ops[j]? = some o → o.op ≠ .select cs b) :
    ∀ (n : Nat) (listed : Array Bool) (a : Act), listed.size = ops.size → Closed md ops listed →
      (∀ j oj, ops[j]? = some oj → j ≠ i → listed.getD j true = false → (∀ e ∈ oj.after, Region.binds md e = true → e.on ≠ i) → oi.apart ops oj = true) →
      i ∈ Region.ready md ops listed → YieldsIn P ops C oi v a →
      anyL P md ops C p R n (listed.setIfInBounds i true) (a.put oi.dst v) → anyL P md ops C p R (n + 1) listed a := by
  intro n
  induction n with
  | zero =>
    intro listed a hsz hc _ hr hy H
    have hri := ready_false hsz hr
    refine ⟨⟨i, hip, hri.2.2⟩, (fun h => (by rw [h] at hr; cases hr)), fun j hj => ?_⟩
    by_cases hji : j = i
    · subst hji; exact hy.qOp hi H
    · exfalso
      have hrj := ready_false hsz hj
      by_cases hjp : j < p
      · have := H.1 j hjp
        rw [getD_set_ne false (Ne.symm hji), hrj.2.1] at this
        cases this
      · have := all_before hch hc (by omega) hj (j - i) i (Nat.le_refl _) (by omega)
        rw [hri.2.1] at this
        cases this
  | succ n ih =>
    intro listed a hsz hc hfree hr hy H
    have hri := ready_false hsz hr
    refine ⟨⟨i, hip, hri.2.2⟩, (fun h => (by rw [h] at hr; cases hr)), fun j hj => ?_⟩
    by_cases hji : j = i
    · subst hji; exact hy.qOp hi H
    · have hrj := ready_false hsz hj
      have hjp : j < p := by
        refine Nat.lt_of_not_le fun hjp => ?_
        have := all_before hch hc hjp hj (j - i) i (Nat.le_refl _) (by omega)
        rw [hri.2.1] at this
        cases this
      have h1 := H.2.2 j (ready_mono hj hji)
      obtain ⟨_, oj, hoj, hall⟩ := mem_ready.1 hj
      have hnot : ∀ e ∈ oj.after, Region.binds md e = true → e.on ≠ i := fun e he hb heq => by
        have h3 := hall e he hb
        rw [heq, hri.2.1] at h3
        cases h3
      have h2 := qOp_put hoj (hfree j oj hoj hji hrj.2.2 hnot) (fun cs b => hsel i oi cs b hi) (fun cs b => hsel j oj cs b hoj) hy h1
      refine qOp_mono (fun a' h3 => ih (listed.setIfInBounds j true) a' (by simpa using hsz) (closed_set hc hj) ?_ (ready_mono hr (Ne.symm hji)) h3.1 ?_) h2
      · intro k ok hk hki hun hno
        refine hfree k ok hk hki ?_ hno
        by_cases hjk : j = k
        · subst hjk; exact hrj.2.2
        · rw [getD_set_ne true hjk] at hun; exact hun
      · rw [Array.setIfInBounds_comm _ _ hji]
        exact h3.2

theorem anyL_lex {R : Act → Prop} {p : Nat} (hch : chainB md ops p = true) (hs : Region.noSelect ops = true) : ∀ (l : List Oper) (k : Nat) (listed : Array Bool) (a : Act), k + l.length = p → (∀ j, j < l.length → l[j]? = ops[k + j]?) →
    listed.size = ops.size → Closed md ops listed → (∀ i, i < k → listed.getD i false = true) → preB md ops l.length k listed = true → wpQuiet P ops C R l a → anyL P md ops C p R l.length listed a
  | [], k, listed, a, hk, _, _, _, hlt, _, h => ⟨fun i hi => hlt i (by simp at hk; omega), h⟩
  | o :: l, k, listed, a, hk, hl, hsz, hc, hlt, hB, h => by
    have h0 : ops[k]? = some o := by simpa using (hl 0 (by simp)).symm
    simp only [List.length_cons, preB, Bool.and_eq_true] at hB
    obtain ⟨⟨hr, hf⟩, hB'⟩ := hB
    have hr' : k ∈ Region.ready md ops listed := by simpa using hr
    have hst : qOp P ops C k (wpQuiet P ops C R l) a := by unfold qOp; simp only [h0]; exact h
    obtain ⟨v, hy, hK⟩ := yieldsIn_of_qOp h0 hst
    have hks := (ready_false hsz hr').1
    refine anyL_first hch h0 (by simp at hk; omega) (Region.noSelect_spec hs) l.length listed a hsz hc (Region.free_spec h0 hf) hr' hy ?_
    refine anyL_lex hch hs l (k + 1) _ _ (by simp at hk; omega) (fun j hj => ?_) (by simpa using hsz) (closed_set hc hr') (fun i hi => ?_) hB' hK
    · have := hl (j + 1) (by simpa using hj)
      simpa [Nat.add_assoc, Nat.add_comm 1 j] using this
    · by_cases hik : k = i
      · subst hik
        exact set_self (by omega) _
      · exact getD_set_true (hlt i (by omega))

/-- the last ones come up one behind the other -/
theorem post_sound {Q : Exit → Act → World → Prop} {p : Nat} (hch : chainB md ops p = true) : ∀ (l : List Oper) (j : Nat) (listed : Array Bool) (a : Act) (w : World), p ≤ j → j + l.length = ops.size → (∀ t, t < l.length → l[t]? = ops[j + t]?) →
    listed.size = ops.size → Closed md ops listed → (∀ i, i < j → listed.getD i false = true) → (∀ i, j ≤ i → i < ops.size → listed.getD i true = false) → wpList P ops Q l a w → wpAny P md ops Q l.length listed a w
  | [], j, listed, a, w, _, hj, _, hsz, _, hlt, _, h => by
    refine ⟨?_, h⟩
    rw [List.eq_nil_iff_forall_not_mem]
    intro i hi
    have := ready_false hsz hi
    have h2 := hlt i (by simp at hj; omega)
    rw [this.2.1] at h2
    cases h2
  | o :: l, j, listed, a, w, hp, hj, hl, hsz, hc, hlt, hge, h => by
    have h0 : ops[j]? = some o := by simpa using (hl 0 (by simp)).symm
    have hjs : j < ops.size := (Array.getElem?_eq_some_iff.1 h0).1
    have hjr : j ∈ Region.ready md ops listed := mem_ready.2 ⟨hge j (Nat.le_refl _) hjs, o, h0, fun e he hb => hlt _ (chain_down hch h0 e he hb)⟩
    refine ⟨(fun hn => (by rw [hn] at hjr; cases hjr)), fun i hi => ?_⟩
    have hri := ready_false hsz hi
    have hij : i = j := by
      by_cases h1 : i < j
      · have := hlt i h1
        rw [hri.2.1] at this
        cases this
      · by_cases h2 : j < i
        · have := all_before hch hc (by omega) hi (i - j) j (Nat.le_refl _) h2
          have h3 := hge j (Nat.le_refl _) hjs
          rw [getD_both (by omega)] at this h3
          rw [this] at h3
          cases h3
        · omega
    subst hij
    have hrest : ∀ a w, wpList P ops Q l a w → wpAny P md ops Q l.length (listed.setIfInBounds i true) a w := fun a w h => by
      refine post_sound hch l (i + 1) _ a w (by omega) (by simp at hj; omega) (fun t ht => ?_) (by simpa using hsz) (closed_set hc hi) (fun k hk => ?_) (fun k hk hks => ?_) h
      · have := hl (t + 1) (by simpa using ht)
        simpa [Nat.add_assoc, Nat.add_comm 1 t] using this
      · by_cases hik : i = k
        · subst hik
          exact set_self (by omega) _
        · exact getD_set_true (hlt k (by omega))
      · rw [getD_set_ne true (by omega)]
        exact hge k (by omega) hks
    unfold wpOp
    simp only [h0]
    unfold wpList at h
    split
    · rename_i hw
      rw [if_pos hw] at h
      rcases h with h | h
      · exact .inl (Oper.wp_mono hrest h)
      · exact .inr h
    · rename_i hw
      rw [if_neg hw] at h
      exact hrest _ _ h

theorem any_sound {Q : Exit → Act → World → Prop} {p : Nat} (hch : chainB md ops p = true) (post : List Oper) (hpl : p + post.length = ops.size) (hpost : ∀ t, t < post.length → post[t]? = ops[p + t]?) : ∀ (n : Nat) (listed : Array Bool) (a : Act) (w : World), C w → listed.size = ops.size → Closed md ops listed →
    (∀ i, p ≤ i → i < ops.size → listed.getD i true = false) → anyL P md ops C p (fun a' => ∀ w', C w' → wpList P ops Q post a' w') n listed a → wpAny P md ops Q (n + post.length) listed a w
  | 0, listed, a, w, hC, hsz, hc, hge, h => by
    rw [Nat.zero_add]
    exact post_sound hch post p listed a w (Nat.le_refl _) hpl hpost hsz hc h.1 hge (h.2 w hC)
  | n + 1, listed, a, w, hC, hsz, hc, hge, h => by
    rw [show n + 1 + post.length = n + post.length + 1 from by omega]
    obtain ⟨⟨u, hup, hu⟩, hne, hall⟩ := h
    refine ⟨fun hn => absurd hn hne, fun i hi => wpOp_of_qOp hC (fun a' w' hC' hK => ?_) (hall i hi)⟩
    have hri := ready_false hsz hi
    have hip : i < p := by
      refine Nat.lt_of_not_le fun hpi => ?_
      have := all_before hch hc hpi hi (i - u) u (Nat.le_refl _) (by omega)
      rw [getD_both (by omega)] at this hu
      rw [this] at hu
      cases hu
    refine any_sound hch post hpl hpost n _ a' w' hC' (by simpa using hsz) (closed_set hc hi) (fun k hk hks => ?_) hK
    rw [getD_set_ne true (by omega)]
    exact hge k hk hks

/-- THE LAW. 'pre': quiet in the class C; 'post': behind them, in a row. -/
theorem wp_region_then {id : Nat} {Q : Exit → Act → World → Prop} {a : Act} {w : World} {l : List Oper} (C : World → Prop) (p : Nat) (hm : P.follows .mixedOrders = true) (hs : Region.noSelect l.toArray = true)
    (hch : chainB .any l.toArray p = true) (hB : preB .any l.toArray p 0 (Array.replicate l.length false) = true) (hp : p ≤ l.length) (hC : C w.drew)
    (h : wpQuiet P l.toArray C (fun a' => ∀ w', C w' → wpList P l.toArray Q (l.drop p) a' w') (l.take p) a) : (Code.region id l.toArray true).wp P Q a w := by
  have hlt : (l.take p).length = p := by rw [List.length_take]; omega
  have hc0 : Closed Region.Mode.any l.toArray (Array.replicate l.length false) := fun k o _ hk => by
    rw [show (Array.replicate l.length false).getD k false = false by simp [Array.getElem?_replicate]; split <;> rfl] at hk
    cases hk
  refine wp_region_any hm ?_
  have h1 := anyL_lex (md := .any) (ops := l.toArray) (C := C) (R := fun a' => ∀ w', C w' → wpList P l.toArray Q (l.drop p) a' w') hch hs (l.take p) 0 (Array.replicate l.length false) a (by omega)
    (fun j hj => by rw [hlt] at hj; simp [hj]) (by simp) hc0 (fun i hi => by omega) (by rw [hlt]; exact hB) h
  have h2 := any_sound (md := .any) (ops := l.toArray) (C := C) (Q := Q) hch (l.drop p) (by simp; omega) (fun t ht => by simp) p (Array.replicate l.length false) a w.drew hC (by simp) hc0
    (fun i _ hi => by rw [getD_both (by simpa using hi)]; simp) (by rw [hlt] at h1; exact h1)
  rw [List.length_drop, show p + (l.length - p) = l.length from by omega] at h2
  simpa using h2
end
end Go.Proofs.Ytghefmppjdneoaa

namespace Go.Proofs.Ytghefmppjdneoaa
open Go.RowKit

/-- the order is one in which quiet operations may be taken first, and the others are alone when they come up -/
def mixB (md : Region.Mode) (ops : Array Oper) : List (Nat × Bool) → Array Bool → Bool
  | [], listed => (Region.ready md ops listed).isEmpty
  | (i, true) :: r, listed => Region.free md ops listed i && (Region.ready md ops listed).contains i && mixB md ops r (listed.setIfInBounds i true)
  | (i, false) :: r, listed => (Region.ready md ops listed == [i]) && mixB md ops r (listed.setIfInBounds i true)
section
variable {P : Program} {ops : Array Oper} {Q : Exit → Act → World → Prop} {S : World → Prop}
def wpMix (P : Program) (ops : Array Oper) (S : World → Prop) (Q : Exit → Act → World → Prop) : List (Nat × Bool) → Act → World → Prop
  | [], a, w => Q .normal a w
  | (i, true) :: r, a, w => ∃ o v, ops[i]? = some o ∧ YieldsIf P ops S o v a ∧ wpMix P ops S Q r (a.put o.dst v) w
  | (i, false) :: r, a, w => ∃ o, ops[i]? = some o ∧ ∀ K : Act → World → Prop, (∀ a w, S w → wpMix P ops S Q r a w → K a w) → if Region.wanted o (yielded ops a.tmps) then o.wp P a w K Q else K (a.put o.dst undef) w
theorem wpAnyH_of_mix {md : Region.Mode} (hs : Region.noSelect ops = true) (hQ : ∀ c a d v w, Q (.panic c) (Act.put a d v) w → Q (.panic c) a w) : ∀ (ord : List (Nat × Bool)) (fuel : Nat) (listed : Array Bool) (a : Act) (w : World),
    mixB md ops ord listed = true → ord.length ≤ fuel → S w → wpMix P ops S Q ord a w → wpAnyH P md ops Q S fuel listed a w
  | [], fuel, listed, a, w, hm, _, _, h => wpAnyH_done (by simpa [mixB, List.isEmpty_iff] using hm) h fuel
  | (i, true) :: r, 0, listed, a, w, _, hf, _, _ => absurd hf (by simp)
  | (i, false) :: r, 0, listed, a, w, _, hf, _, _ => absurd hf (by simp)
  | (i, true) :: r, fuel + 1, listed, a, w, hm, hf, hS, h => by
    obtain ⟨o, v, ho, hy, hr⟩ := h
    simp only [mixB, Bool.and_eq_true] at hm
    exact wpAnyH_take ho hs hm.1.1 hm.1.2 (fun c a w h => hQ c a _ _ w h) hy hS (wpAnyH_of_mix hs hQ r fuel _ _ _ hm.2 (by simpa using hf) hS hr)
  | (i, false) :: r, fuel + 1, listed, a, w, hm, hf, hS, h => by
    obtain ⟨o, ho, hr⟩ := h
    simp only [mixB, Bool.and_eq_true, beq_iff_eq] at hm
    refine wpAnyH_ready (rs := [i]) hm.1 (by simp) (AllReadyH.cons ho (fun K hK => ?_) AllReadyH.nil)
    exact hr K (fun a' w' hS' h' => hK.out a' w' hS' (fun hS' => wpAnyH_of_mix hs hQ r fuel _ _ _ hm.2 (by simpa using hf) hS' h'))
theorem wp_region_mix {id : Nat} {a : Act} {w : World} (ord : List (Nat × Bool)) (S : World → Prop) (hm : P.follows .mixedOrders = true) (hs : Region.noSelect ops = true) (hQ : ∀ c a d v w, Q (.panic c) (Act.put a d v) w → Q (.panic c) a w)
    (ho : mixB .any ops ord (Array.replicate ops.size false) = true) (hl : ord.length ≤ ops.size) (hS : S w.drew) (h : wpMix P ops S Q ord a w.drew) : (Code.region id ops true).wp P Q a w :=
  wp_region_held_drew (S := S) hm hS (fun _ => wpAnyH_of_mix hs hQ ord _ _ _ _ ho hl hS h)
theorem nth {i : Nat} {o : Oper} (h : ops.toList[i]? = some o) : ops[i]? = some o := by rwa [Array.getElem?_toList] at h
variable {i : Nat} {r : List (Nat × Bool)} {a : Act} {w : World} {o : Oper}
theorem wpMix_nil (h : Q .normal a w) : wpMix P ops S Q [] a w := h
theorem wpMix_val (v : Value) (ho : ops.toList[i]? = some o) (hw : Region.wanted o (yielded ops a.tmps) = true) (hv : ∀ w, S w → (execOp a.eval o).run P w = .ok (.value v) w) (h : wpMix P ops S Q r (a.put o.dst v) w) : wpMix P ops S Q ((i, true) :: r) a w :=
  ⟨o, v, nth ho, .inl ⟨hw, hv⟩, h⟩
theorem wpMix_not (ho : ops.toList[i]? = some o) (hw : Region.wanted o (yielded ops a.tmps) = false) (h : wpMix P ops S Q r (a.put o.dst undef) w) : wpMix P ops S Q ((i, true) :: r) a w :=
  ⟨o, undef, nth ho, .inr ⟨hw, rfl⟩, h⟩
theorem wpMix_loadAll (ho : ops.toList[i]? = some o) (hw : Region.wanted o (yielded ops a.tmps) = true) (ty : TypeId) (x : Operand) (hop : o.op = .load ty x) (b off : Nat) (hx : a.eval x = .pointer (some ⟨b, off, none⟩)) (cs : List Value) (d : TypeDesc)
    (hS : ∀ w, S w → w.rangeAt b off cs) (hu : P.underlying ty = some d) (hd : d.isRow = true) (hi : (P.info? ty).map (·.size) = some cs.length)
    (h : wpMix P ops S Q r (a.put o.dst (.agg cs.toArray)) w) : wpMix P ops S Q ((i, true) :: r) a w :=
  ⟨o, _, nth ho, yieldsIf_load_mid hw ty x hop b off hx cs d hS hu hd hi, h⟩
theorem wpMix_load1 (v : Value) (ho : ops.toList[i]? = some o) (hw : Region.wanted o (yielded ops a.tmps) = true) (ty : TypeId) (x : Operand) (hop : o.op = .load ty x) (k : IntKind) (hu : P.underlying ty = some (.int k)) (b off : Nat) (hx : a.eval x = .pointer (some ⟨b, off, none⟩))
    (hS : ∀ w, S w → w.cell? ⟨b, off, none⟩ = some v) (h : wpMix P ops S Q r (a.put o.dst v) w) : wpMix P ops S Q ((i, true) :: r) a w :=
  wpMix_val v ho hw (fun w hC => by
    unfold execOp
    simp only [hop, hx, Sem.run_bind, Sem.run_pure, run_load_int hu (hS w hC), Result.andThen_ok]) h
theorem wpMix_bin (ho : ops.toList[i]? = some o) (hw : Region.wanted o (yielded ops a.tmps) = true) (op : BinOp) (ty : TypeId) (x y : Operand) (yt : TypeId) (hop : o.op = .binOp op ty x y yt) (vx vy v : Value) (hx : a.eval x = vx) (hy : a.eval y = vy)
    (hg : ∀ w, (eqGuard op ty x y vx vy).run P w = .ok () w) (hb : ∀ w, (binOp op ty vx vy).run P w = .ok v w) (h : wpMix P ops S Q r (a.put o.dst v) w) : wpMix P ops S Q ((i, true) :: r) a w :=
  wpMix_val v ho hw (fun w _ => by
    unfold execOp
    simp only [hop, hx, hy, Sem.run_bind, Sem.run_pure, hg, Result.andThen_ok, hb]) h
theorem wpMix_step (ho : ops.toList[i]? = some o) (hw : Region.wanted o (yielded ops a.tmps) = true) (h : ∀ K : Act → World → Prop, (∀ a w, S w → wpMix P ops S Q r a w → K a w) → o.wp P a w K Q) : wpMix P ops S Q ((i, false) :: r) a w :=
  ⟨o, nth ho, fun K hK => by rw [if_pos hw]; exact h K hK⟩
theorem wpMix_skip (ho : ops.toList[i]? = some o) (hw : Region.wanted o (yielded ops a.tmps) = false) (hS : S w) (h : wpMix P ops S Q r (a.put o.dst undef) w) : wpMix P ops S Q ((i, false) :: r) a w :=
  ⟨o, nth ho, fun K hK => by rw [if_neg (by rw [hw]; simp)]; exact hK _ _ hS h⟩
/-- an operation that changes the world -/
theorem wpMix_put (v : Value) (w' : World) (ho : ops.toList[i]? = some o) (hw : Region.wanted o (yielded ops a.tmps) = true) (hv : (execOp a.eval o).run P w = .ok (.value v) w') (hS : S w') (h : wpMix P ops S Q r (a.put o.dst v) w') : wpMix P ops S Q ((i, false) :: r) a w :=
  wpMix_step ho hw fun K hK => by
    unfold Oper.wp
    rw [hv]
    exact hK _ _ hS h
/-- a call -/
theorem wpMix_call (f : FuncId) (args : List Value) (R : Value → World → Prop) (ho : ops.toList[i]? = some o) (hw : Region.wanted o (yielded ops a.tmps) = true) (hv : (execOp a.eval o).run P w = .ok (.enter f args.toArray) w)
    (hc : Calls P f args.toArray w fun e w' => ∃ v, e = .returned v ∧ S w' ∧ R v w') (h : ∀ v w', S w' → R v w' → wpMix P ops S Q r (a.put o.dst v) w') : wpMix P ops S Q ((i, false) :: r) a w :=
  wpMix_step ho hw fun K hK => by
    unfold Oper.wp
    rw [hv]
    exact hc.mono fun e w' ⟨v, he, hS, hR⟩ => by
      subst he
      exact hK _ _ hS (h v w' hS hR)
end
end Go.Proofs.Ytghefmppjdneoaa
