/- A view never holds more than six entries: the bound of its number of entries need not grow; Merge and New with that bound. -/
import Derived.Test.YtlihhnjinakpfaaRankK
import Derived.Test.YtlihhnjinakpfaaRankR
namespace Go.Proofs.Ytlihhnjinakpfaa
open Go.RowKit Go.Maps Go.Sort

theorem insert_len {H : Type} (x : Lit × DataW H) : ∀ l : List (Lit × DataW H), (DataW.insert x l).length = l.length + 1
  | [] => rfl
  | y :: r => by
    unfold DataW.insert
    split
    · rfl
    · simp [insert_len x r]
theorem foldr_len {H : Type} : ∀ l : List (Lit × DataW H), (l.foldr DataW.insert []).length = l.length
  | [] => rfl
  | x :: r => by rw [List.foldr_cons, insert_len, foldr_len r, List.length_cons]
theorem view_six {H : Type} {w : World} {p b N : Nat} {f : Known} (h : ViewAt H w p b N f) : ViewAt H w p b 6 f := by
  obtain ⟨h1, ⟨es, clock, hb, F, hn, hD⟩, h3⟩ := h
  refine ⟨h1, ⟨es, clock, hb, F, ?_, hD⟩, h3⟩
  have e : (DataW.map (ents H f nodes) : DataW H) = .map ((es.toList.map (WideElems.rg Try.prog 3 readM)).foldr DataW.insert []) := hD
  injection e with e
  have hl := congrArg List.length e
  have e2 : es.toList.length = es.size := by simp
  rw [foldr_len, List.length_map, e2] at hl
  have : (ents H f nodes).length ≤ 6 := List.length_filterMap_le _ nodes
  rw [hl] at this
  exact this

/-- Merge, at a view of six entries at most -/
theorem merge6 {H : Type} {w : World} {p b : Nat} {f : Known} (h : ViewAt H w p b 6 f) (A : Option Addr) (c : Nat) (l : List Mem) (hl : MemsIn w A l) (hA : ∀ g off, 0 < l.length → A = some ⟨g, off, none⟩ → g ≠ b) (hN : l.length ≤ 1000000) (hi64 : ∀ m ∈ l, m.Wf) :
    Calls Try.prog 11 #[.pointer (some ⟨p, 0, none⟩), .slice A l.length c] w fun e w' => ∃ A' c', e = .returned (.slice A' (merge f l).2.length c') ∧ MemsIn w' A' (merge f l).2 ∧ (∀ g off, A' = some ⟨g, off, none⟩ → w.heap.size ≤ g ∧ g < w'.heap.size) ∧ ViewAt H w' p b 6 (merge f l).1 ∧ w.grownBy w' (some b) := by
  refine (merge_any h A c l hl hA (by omega) (fun m hm => (hi64 m hm).1)).mono ?_
  rintro e w' ⟨v, rfl, hV, hg, hO⟩
  obtain ⟨A', c', rfl, hM, hlo⟩ := Mems.own hO
  exact ⟨A', c', rfl, hM, hlo, view_six hV, hg⟩
theorem new6 {H : Type} {w : World} (A : Option Addr) (c : Nat) (l : List Mem) (hl : MemsIn w A l) (hN : l.length ≤ 1000000) (hi64 : ∀ m ∈ l, m.Wf) :
    Calls Try.prog 9 #[.slice A l.length c] w fun e w' => ∃ p b : Nat, e = .returned (.pointer (some ⟨p, 0, none⟩)) ∧ ViewAt H w' p b 6 (merge (fun _ => none) l).1 ∧ Below w.heap.size w w' ∧ w.heap.size ≤ p ∧ w.heap.size ≤ b := by
  refine (new_any (H := H) A c l hl (by omega) (fun m hm => (hi64 m hm).1)).mono ?_
  rintro e w' ⟨p, b, rfl, hV, hb⟩
  exact ⟨p, b, rfl, view_six hV, hb⟩
theorem sane_one {f : Known} (m : Mem) : merge f [m] = (hear f m, if takes f m then [m] else []) := by simp [merge]
/-- what RankRises asks of one word -/
theorem rise_facts (f : Known) (m : Mem) : ∃ (was now : Mem) (kn is : Bool) (nl : Nat), found f m.n = .tuple #[memV was, .bool kn] ∧ found (hear f m) m.n = .tuple #[memV now, .bool is] ∧ (merge f [m]).2.length = nl ∧ merge (hear f m) [m] = (hear f m, []) ∧
    ((m.good = false ∧ nl = 0 ∧ is = kn ∧ was = now) ∨ (m.good = true ∧ is = true ∧ kn = false ∧ nl = 1 ∧ m = now) ∨ (m.good = true ∧ is = true ∧ kn = true ∧ nl = 1 ∧ m.above was = true ∧ m = now) ∨ (m.good = true ∧ is = true ∧ kn = true ∧ nl = 0 ∧ m.above was = false ∧ was = now)) := by
  have ht : ∀ g : Known, takes g m = false → hear g m = g := fun g h => by unfold hear; rw [h]; rfl
  have hup : takes f m = true → hear f m m.n = some m := fun h => by unfold hear; rw [h]; simp [upd]
  cases hg : m.good with
  | false =>
    have h0 : takes f m = false := by unfold takes; rw [hg]; rfl
    have e : merge f [m] = (f, []) := by rw [sane_one, h0, ht f h0]; rfl
    rw [ht f h0, e]
    unfold found
    cases hf : f m.n with
    | none => exact ⟨_, _, false, false, 0, rfl, rfl, rfl, rfl, .inl ⟨rfl, rfl, rfl, rfl⟩⟩
    | some x => exact ⟨_, _, true, true, 0, rfl, rfl, rfl, rfl, .inl ⟨rfl, rfl, rfl, rfl⟩⟩
  | true =>
    have again : hear f m m.n = some m → merge (hear f m) [m] = (hear f m, []) := fun h => by
      have h1 : takes (hear f m) m = false := by unfold takes; rw [h]; simp [Mem.above_irrefl]
      rw [sane_one, h1, ht _ h1]
      rfl
    cases hf : f m.n with
    | none =>
      have h1 : takes f m = true := by unfold takes; rw [hg, hf]; rfl
      have h2 := hup h1
      refine ⟨Mem.zero, m, false, true, 1, by unfold found; rw [hf], by unfold found; rw [h2], by rw [sane_one, h1]; rfl, again h2, .inr (.inl ⟨rfl, rfl, rfl, rfl, rfl⟩)⟩
    | some x =>
      cases ha : m.above x with
      | true =>
        have h1 : takes f m = true := by unfold takes; rw [hg, hf]; simp [ha]
        have h2 := hup h1
        exact ⟨x, m, true, true, 1, by unfold found; rw [hf], by unfold found; rw [h2], by rw [sane_one, h1]; rfl, again h2, .inr (.inr (.inl ⟨rfl, rfl, rfl, rfl, ha, rfl⟩))⟩
      | false =>
        have h1 : takes f m = false := by unfold takes; rw [hg, hf]; simp [ha]
        have h2 := ht f h1
        refine ⟨x, x, true, true, 0, by unfold found; rw [hf], by rw [h2]; unfold found; rw [hf], by rw [sane_one, h1]; rfl, by rw [h2, sane_one, h1, h2]; rfl, .inr (.inr (.inr ⟨rfl, rfl, rfl, rfl, ha, rfl⟩))⟩
theorem one_laid (w : World) (m : Mem) : MemsIn (w.alloc (.cells #[.int .i64 m.n, .int .i64 m.i, .int .i64 m.s] 28)) (some ⟨w.heap.size, 0, none⟩) [m] := mems_laid w [m] _ rfl _ rfl
/-- what stands in a round of RankRises: the view, three members -/
structure RiseC (wr w' : World) (p b : Nat) (f : Known) (pm pw pn : Nat) (m was now : Mem) : Prop where
  view : ViewAt Unit w' p b 6 f
  grown : wr.grownBy w' (some b)
  am : At w' pm 28 (cellsM m)
  aw : At w' pw 28 (cellsM was)
  an : At w' pn 28 (cellsM now)
theorem RiseC.below {wr w' w'' : World} {p b : Nat} {f : Known} {pm pw pn : Nat} {m was now : Mem} (h : RiseC wr w' p b f pm pw pn m was now) (hb : Below w'.heap.size w' w'') : RiseC wr w'' p b f pm pw pn m was now :=
  ⟨view_below h.view hb, grown_below h.grown hb, h.am.below hb h.am.lt, h.aw.below hb h.aw.lt, h.an.below hb h.an.lt⟩
theorem RiseC.grow {wr w' w'' : World} {p b : Nat} {f g : Known} {pm pw pn : Nat} {m was now : Mem} (h : RiseC wr w' p b f pm pw pn m was now) (hg : w'.grownBy w'' (some b)) (hv : ViewAt Unit w'' p b 6 g) (h1 : pm ≠ b) (h2 : pw ≠ b) (h3 : pn ≠ b) : RiseC wr w'' p b g pm pw pn m was now :=
  ⟨hv, grown_trans h.grown hg, h.am.grown hg (by intro e; injection e with e; omega), h.aw.grown hg (by intro e; injection e with e; omega), h.an.grown hg (by intro e; injection e with e; omega)⟩
theorem RiseC.drew {wr w' : World} {p b : Nat} {f : Known} {pm pw pn : Nat} {m was now : Mem} (h : RiseC wr w' p b f pm pw pn m was now) : RiseC wr w'.drew p b f pm pw pn m was now := h.below (Below.refl _ _).drew
theorem RiseC.alloc {wr w' : World} {p b : Nat} {f : Known} {pm pw pn : Nat} {m was now : Mem} (h : RiseC wr w' p b f pm pw pn m was now) (o : Obj) : RiseC wr (w'.alloc o) p b f pm pw pn m was now := h.below ((Below.refl _ _).alloc (Nat.le_refl _) o)
end Go.Proofs.Ytlihhnjinakpfaa
