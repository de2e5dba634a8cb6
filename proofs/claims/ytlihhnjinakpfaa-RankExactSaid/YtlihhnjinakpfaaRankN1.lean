/- RankMeets, the plain law: what is known is the highest good word of each node among those that came, in whatever order. -/
import Derived.Test.YtlihhnjinakpfaaRankM1
namespace Go.Proofs.Ytlihhnjinakpfaa
open Go.RowKit

/-- f knows the highest good words of S -/
def Tops (S : Mem → Prop) (f : Known) : Prop := ∀ k, match f k with
  | some m => S m ∧ m.good = true ∧ m.n = k ∧ ∀ x, S x → x.good = true → x.n = k → x = m ∨ m.above x = true
  | none => ∀ x, S x → x.good = true → x.n ≠ k
theorem Tops.some {S : Mem → Prop} {f : Known} (h : Tops S f) {k : Int} {m : Mem} (hk : f k = some m) : S m ∧ m.good = true ∧ m.n = k ∧ ∀ x, S x → x.good = true → x.n = k → x = m ∨ m.above x = true := by
  have := h k
  rw [hk] at this
  exact this
theorem Tops.none {S : Mem → Prop} {f : Known} (h : Tops S f) {k : Int} (hk : f k = none) : ∀ x, S x → x.good = true → x.n ≠ k := by
  have := h k
  rw [hk] at this
  exact this
theorem Tops.unique {S T : Mem → Prop} {f g : Known} (hf : Tops S f) (hg : Tops T g) (hST : ∀ x, S x ↔ T x) : f = g := by
  funext k
  cases h1 : f k with
  | none =>
    cases h2 : g k with
    | none => rfl
    | some y =>
      obtain ⟨a, b, c, _⟩ := hg.some h2
      exact absurd c (hf.none h1 y ((hST y).2 a) b)
  | some x =>
    obtain ⟨a, b, c, d⟩ := hf.some h1
    cases h2 : g k with
    | none => exact absurd c (hg.none h2 x ((hST x).1 a) b)
    | some y =>
      obtain ⟨a', b', c', d'⟩ := hg.some h2
      rcases d y ((hST y).2 a') b' c' with e | e
      · rw [e]
      · rcases d' x ((hST x).1 a) b c with e2 | e2
        · rw [e2]
        · rw [Mem.above_asymm e] at e2
          cases e2
theorem tops_none : Tops (fun _ => False) (fun _ => none) := fun _ _ h => h.elim
theorem tops_hear {S : Mem → Prop} {f : Known} (h : Tops S f) (m : Mem) : Tops (fun x => S x ∨ x = m) (hear f m) := by
  intro k
  by_cases ht : takes f m = true
  · have hg : m.good = true := by unfold takes at ht; rw [Bool.and_eq_true] at ht; exact ht.1
    have hh : hear f m = upd f m := by unfold hear; rw [ht]; rfl
    rw [hh]
    by_cases hk : k = m.n
    · have e : upd f m k = some m := by simp [upd, hk]
      rw [e]
      refine ⟨.inr rfl, hg, hk.symm, fun x hx hgx hxn => ?_⟩
      rcases hx with hx | rfl
      · right
        cases hf : f m.n with
        | none => exact absurd (hxn.trans hk) (h.none hf x hx hgx)
        | some y =>
          have hay : m.above y = true := by
            unfold takes at ht
            rw [hf, Bool.and_eq_true] at ht
            exact ht.2
          obtain ⟨_, _, _, d⟩ := h.some hf
          rcases d x hx hgx (hxn.trans hk) with rfl | e
          · exact hay
          · exact Mem.above_trans hay e
      · exact .inl rfl
    · have e : upd f m k = f k := by simp [upd, hk]
      rw [e]
      cases hf : f k with
      | none =>
        intro x hx hgx
        rcases hx with hx | rfl
        · exact h.none hf x hx hgx
        · exact fun e => hk e.symm
      | some y =>
        obtain ⟨a, b, c, d⟩ := h.some hf
        refine ⟨.inl a, b, c, fun x hx hgx hxn => ?_⟩
        rcases hx with hx | rfl
        · exact d x hx hgx hxn
        · exact absurd hxn.symm hk
  · have hh : hear f m = f := by unfold hear; rw [if_neg ht]
    rw [hh]
    cases hf : f k with
    | none =>
      intro x hx hgx
      rcases hx with hx | rfl
      · exact h.none hf x hx hgx
      · intro e
        apply ht
        unfold takes
        rw [hgx, e, hf]
        rfl
    | some y =>
      obtain ⟨a, b, c, d⟩ := h.some hf
      refine ⟨.inl a, b, c, fun x hx hgx hxn => ?_⟩
      rcases hx with hx | rfl
      · exact d x hx hgx hxn
      · have hna : x.above y = false := by
          rw [Bool.eq_false_iff]
          intro hab
          apply ht
          unfold takes
          rw [hgx, hxn, hf]
          exact hab
        rcases Mem.above_total hgx b (hxn.trans c.symm) with e | e | e
        · rw [hna] at e; cases e
        · exact .inr e
        · exact .inl e
theorem Tops.congr {S T : Mem → Prop} {f : Known} (h : Tops S f) (hST : ∀ x, S x ↔ T x) : Tops T f := by
  have : S = T := funext fun x => propext (hST x)
  rw [← this]
  exact h
theorem tops_merge : ∀ (l : List Mem) {S : Mem → Prop} {f : Known}, Tops S f → Tops (fun x => S x ∨ x ∈ l) (merge f l).1
  | [], _, _, h => h.congr fun x => by simp
  | m :: r, _, _, h => (tops_merge r (tops_hear h m)).congr fun x => by simp [or_assoc]
theorem tops_new (l : List Mem) : Tops (fun x => x ∈ l) (merge (fun _ => none) l).1 := (tops_merge l tops_none).congr fun x => by simp
theorem tops_sane {S : Mem → Prop} {f : Known} (h : Tops S f) : Sane f := fun k m hk => by
  obtain ⟨_, b, c, _⟩ := h.some hk
  exact ⟨b, c⟩
/-- what is known, told to whoever knows some of what it comes from: the same is known there -/
theorem tops_all {S T : Mem → Prop} {f g : Known} (hf : Tops S f) (hg : Tops T g) (hTS : ∀ x, T x → S x) : (merge g (all f)).1 = f := by
  have h1 := tops_merge (all f) hg
  refine h1.unique (T := fun x => T x ∨ x ∈ all f) (fun k => ?_) (fun x => Iff.rfl)
  have hs := tops_sane hf
  have hin : ∀ x, x ∈ all f → f x.n = some x ∧ S x := fun x hx => by
    have := (all_mem hs hx).1
    exact ⟨this, (hf.some this).1⟩
  cases hk : f k with
  | none =>
    intro x hx hgx
    rcases hx with hx | hx
    · exact hf.none hk x (hTS x hx) hgx
    · exact hf.none hk x (hin x hx).2 hgx
  | some m =>
    obtain ⟨a, b, c, d⟩ := hf.some hk
    refine ⟨.inr ?_, b, c, fun x hx hgx hxn => ?_⟩
    · exact List.mem_filterMap.2 ⟨k, by rw [← c]; exact good_node b, hk⟩
    · rcases hx with hx | hx
      · exact d x (hTS x hx) hgx hxn
      · exact d x (hin x hx).2 hgx hxn
theorem merge_all_same {S : Mem → Prop} {f : Known} (hf : Tops S f) : (merge (fun _ => none) (all f)).1 = f := tops_all hf tops_none (fun _ h => h.elim)
theorem all_wf {S : Mem → Prop} {f : Known} (hf : Tops S f) : ∀ m ∈ all f, m.Wf := fun m hm => by
  have h6 := (Mem.good_iff m).1 (all_mem (tops_sane hf) hm).2
  unfold Mem.Wf
  omega
theorem all_short (f : Known) : (all f).length ≤ 6 := List.length_filterMap_le _ nodes
theorem drop_mem {l : List Mem} {j : Nat} (hj : j < l.length) (x : Mem) : x ∈ l.drop j ↔ x = l[j] ∨ x ∈ l.drop (j + 1) := by
  rw [← List.getElem_cons_drop hj, List.mem_cons]
theorem turned_mem {l : List Mem} (k : Nat) (x : Mem) : (x ∈ l.drop k ∨ x ∈ l.take k) ↔ x ∈ l := by
  conv => rhs; rw [← List.take_append_drop k l]
  rw [List.mem_append]
  exact or_comm
/-- a part of a row of members -/
theorem MemsIn.drop {w : World} {g off : Nat} {l : List Mem} (h : MemsIn w (some ⟨g, off, none⟩) l) (k : Nat) : MemsIn w (some ⟨g, off + k * 3, none⟩) (l.drop k) := fun h0 => by
  rw [List.length_drop] at h0
  obtain ⟨g', off', e, hlt, hc⟩ := h (by omega)
  injection e with e
  injection e with e1 e2
  subst e1 e2
  refine ⟨g, off + k * 3, rfl, hlt, fun i hi => ?_⟩
  rw [List.length_drop] at hi
  have := hc (k + i) (by omega)
  rw [List.getElem_drop]
  have e : off + k * 3 + i * 3 = off + (k + i) * 3 := by omega
  rw [e]
  exact this
theorem MemsIn.take {w : World} {A : Option Addr} {l : List Mem} (h : MemsIn w A l) (k : Nat) : MemsIn w A (l.take k) := fun h0 => by
  rw [List.length_take] at h0
  obtain ⟨g, off, e, hlt, hc⟩ := h (by omega)
  refine ⟨g, off, e, hlt, fun i hi => ?_⟩
  rw [List.length_take] at hi
  rw [List.getElem_take]
  exact hc i (by omega)
theorem MemsIn.part {w : World} {A : Option Addr} {l : List Mem} (h : MemsIn w A l) (k : Nat) : MemsIn w (A.map fun x => x.add (k * 3)) (l.drop k) := fun h0 => by
  obtain ⟨g, off, rfl, _, _⟩ := h (by rw [List.length_drop] at h0; omega)
  have e : (Addr.add ⟨g, off, none⟩ (k * 3)) = ⟨g, off + k * 3, none⟩ := by
    unfold Addr.add
    split
    · rename_i hz
      rw [hz, Nat.add_zero]
    · rfl
  rw [Option.map_some, e]
  exact h.drop k h0
theorem MemsIn.none_left {w : World} {A : Option Addr} {l : List Mem} (h : l.length = 0) : MemsIn w A l := fun h0 => absurd h0 (by omega)
/-- five views that know the same -/
structure Five (w' : World) (f : Known) (pa ba pb bb pc bc pd bd pe be : Nat) : Prop where
  a : ViewAt Unit w' pa ba 6 f
  b : ViewAt Unit w' pb bb 6 f
  c : ViewAt Unit w' pc bc 6 f
  d : ViewAt Unit w' pd bd 6 f
  e : ViewAt Unit w' pe be 6 f
theorem Five.below {w w' : World} {f : Known} {pa ba pb bb pc bc pd bd pe be : Nat} (h : Five w f pa ba pb bb pc bc pd bd pe be) (hb : Below w.heap.size w w') : Five w' f pa ba pb bb pc bc pd bd pe be :=
  ⟨view_below h.a hb, view_below h.b hb, view_below h.c hb, view_below h.d hb, view_below h.e hb⟩
/-- All, as a row of members -/
theorem all6 {w : World} {p b : Nat} {f : Known} (h : ViewAt Unit w p b 6 f) :
    Calls Try.prog 13 #[.pointer (some ⟨p, 0, none⟩)] w fun e w' => ∃ A c, e = .returned (.slice A (all f).length c) ∧ MemsIn w' A (all f) ∧ (∀ g off, A = some ⟨g, off, none⟩ → w.heap.size ≤ g ∧ g < w'.heap.size) ∧ Below w.heap.size w w' := by
  refine (all_any h).mono ?_
  rintro e w' ⟨v, rfl, hO, hb⟩
  obtain ⟨A, c, rfl, hM, hlo⟩ := Mems.own hO
  exact ⟨A, c, rfl, hM, hlo, hb⟩

/-- what stands in a round of RankMeets: the word's cells, the view -/
structure MeetR (w3 w' : World) (p b : Nat) (f : Known) (g o : Nat) (m : Mem) : Prop where
  c0 : w'.cell? ⟨g, o, none⟩ = some (.int .i64 m.n)
  c1 : w'.cell? ⟨g, o + 1, none⟩ = some (.int .i64 m.i)
  c2 : w'.cell? ⟨g, o + 2, none⟩ = some (.int .i64 m.s)
  view : ViewAt Unit w' p b 6 f
  grown : w3.grownBy w' (some b)
  lt : g < w'.heap.size
  ne : g ≠ b
theorem MeetR.below {w3 w' w'' : World} {p b : Nat} {f : Known} {g o : Nat} {m : Mem} (h : MeetR w3 w' p b f g o m) (hb : Below w'.heap.size w' w'') : MeetR w3 w'' p b f g o m :=
  ⟨(hb.cell (p := ⟨g, o, none⟩) h.lt).trans h.c0, (hb.cell (p := ⟨g, o + 1, none⟩) h.lt).trans h.c1, (hb.cell (p := ⟨g, o + 2, none⟩) h.lt).trans h.c2, view_below h.view hb, grown_below h.grown hb, Nat.lt_of_lt_of_le h.lt hb.size, h.ne⟩
theorem MeetR.drew {w3 w' : World} {p b : Nat} {f : Known} {g o : Nat} {m : Mem} (h : MeetR w3 w' p b f g o m) : MeetR w3 w'.drew p b f g o m := h.below (Below.refl _ _).drew
theorem MeetR.alloc {w3 w' : World} {p b : Nat} {f : Known} {g o : Nat} {m : Mem} (h : MeetR w3 w' p b f g o m) (x : Obj) : MeetR w3 (w'.alloc x) p b f g o m := h.below ((Below.refl _ _).alloc (Nat.le_refl _) x)
theorem cell_of_block {w w' : World} {g : Nat} (h : w'.heap[g]? = w.heap[g]?) (o : Nat) : w'.cell? ⟨g, o, none⟩ = w.cell? ⟨g, o, none⟩ := by
  unfold World.cell?
  rw [h]
theorem MeetR.grow {w3 w' w'' : World} {p b : Nat} {f f' : Known} {g o : Nat} {m : Mem} (h : MeetR w3 w' p b f g o m) (hg : w'.grownBy w'' (some b)) (hv : ViewAt Unit w'' p b 6 f') : MeetR w3 w'' p b f' g o m := by
  have hblk := hg.block g h.lt (by intro e; injection e with e; exact h.ne e)
  exact ⟨(cell_of_block hblk _).trans h.c0, (cell_of_block hblk _).trans h.c1, (cell_of_block hblk _).trans h.c2, hv, grown_trans h.grown hg, Nat.lt_of_lt_of_le h.lt hg.size, h.ne⟩
theorem MeetR.conj {w3 w' : World} {p b : Nat} {f : Known} {g o : Nat} {m : Mem} (h : MeetR w3 w' p b f g o m) : w'.cell? ⟨g, o, none⟩ = some (.int .i64 m.n) ∧ w'.cell? ⟨g, o + 1, none⟩ = some (.int .i64 m.i) ∧ w'.cell? ⟨g, o + 2, none⟩ = some (.int .i64 m.s) ∧ MeetR w3 w' p b f g o m := ⟨h.c0, h.c1, h.c2, h⟩
theorem two_new (w : World) (m : Mem) : MemsIn (w.alloc (.cells #[.int .i64 m.n, .int .i64 m.i, .int .i64 m.s, .int .i64 m.n, .int .i64 m.i, .int .i64 m.s] 28)) (some ⟨w.heap.size, 0, none⟩) [m, m] := mems_laid w [m, m] _ rfl _ rfl
theorem two_drew (w : World) (m : Mem) : MemsIn (w.alloc (.cells #[.int .i64 m.n, .int .i64 m.i, .int .i64 m.s, .int .i64 m.n, .int .i64 m.i, .int .i64 m.s] 28)).drew (some ⟨w.heap.size, 0, none⟩) [m, m] := (two_new w m).below (Below.refl _ _).drew
/-- told again, the same is known -/
theorem MeetR.merge {w3 w' : World} {p b : Nat} {S : Mem → Prop} {f : Known} {g o : Nat} {m : Mem} (h : MeetR w3 w' p b f g o m) (ht : Tops S f) (hS : S m) (hw : m.Wf) (ga : Nat) (hA : MemsIn w' (some ⟨ga, 0, none⟩) [m, m]) (hne : ga ≠ b) :
    Calls Try.prog 11 #[.pointer (some ⟨p, 0, none⟩), .slice (some ⟨ga, 0, none⟩) 2 2] w' fun e w'' => ∃ v, e = .returned v ∧ MeetR w3 w'' p b f g o m := by
  refine (merge6 (H := Unit) h.view _ 2 [m, m] hA (fun g off _ e => by injection e with e; injection e with e; omega) (by simp) (fun x hx => by simp at hx; rw [hx]; exact hw)).mono ?_
  rintro e w'' ⟨A', c', rfl, _, _, hV, hg⟩
  have e : (Go.Proofs.Ytlihhnjinakpfaa.merge f [m, m]).1 = f := (tops_merge [m, m] ht).unique ht fun x => by
    simp only [List.mem_cons, List.not_mem_nil, or_false, or_self]
    exact ⟨fun hx => hx.elim id (fun e => e ▸ hS), .inl⟩
  rw [e] at hV
  exact ⟨_, rfl, h.grow hg hV⟩
end Go.Proofs.Ytlihhnjinakpfaa
