/- Layer 12: a scout of a camp begins anew. -/
import Derived.Test.YtghefmppjdneoaaFinMM
import Derived.Test.YtghefmppjdneoaaRetEM
namespace Go.Proofs.Ytghefmppjdneoaa
open Go.Proofs Stab Go.Shelf Go.RowKit Go.Lib Go.Sort Go.Maps

section
variable {w0 w w1 : World} {p gS cS gq : Nat} {sp : Nat → Nat} {OS : Nat → Nat → Prop} {n M : Nat} {S : Int → Bool} {A : Option Addr} {c : Nat} {X : Int → Sct}
theorem CmpAt.anew (h : CmpAt w0 w ⟨p, gS, cS, gq, sp, OS⟩ n M S A c [] X) {j : Nat} {s : Nat} {O : Nat → Prop} {t : Sct} (hb : Below w.heap.size w w1) (hS : OwnS Unit w1 O M s t) (hO : ∀ b, O b → w.heap.size ≤ b) :
    CmpAt w0 (w1.setCell ⟨gS, j, none⟩ (.pointer (some ⟨s, 0, none⟩))) ⟨p, gS, cS, gq, fun i => if i = j then s else sp i, fun i b => if i = j then O b else OS i b⟩ n M S A c [] (setX X j t) := by
  have h1 := h.up hb
  obtain ⟨W, hW⟩ : ∃ W, W = w1.setCell ⟨gS, j, none⟩ (.pointer (some ⟨s, 0, none⟩)) := ⟨_, rfl⟩
  rw [← hW]
  have hgr : w1.grownBy W (some gS) := by rw [hW]; exact grown_setCell (World.grownBy.refl _ _) (.inl rfl) _
  have hne : ∀ x, x ≠ gS → x < w1.heap.size → W.heap[x]? = w1.heap[x]? := fun x h1 h2 => hgr.block x h2 (by intro e; injection e with e; exact h1 e)
  have hltp : p < w.heap.size := h.hd.lt
  have hltS : gS < w.heap.size := h.ltS
  have hltq : gq < w.heap.size := h.ltq
  refine ⟨h1.hd.grown hgr (by intro e; injection e with e; exact h.newp.2.2.2.1 e), ?_, Nat.lt_of_lt_of_le h1.ltS hgr.size, h1.sil.grown hgr (by intro e; injection e with e; exact h.newp.2.2.2.2.2 e.symm), Nat.lt_of_lt_of_le h1.ltq hgr.size, fun i i1 i2 => ?_, fun a b a1 a2 b1 b2 hab x hx hx2 => ?_, fun i i1 i2 => ?_, fun i i1 i2 b hb' => ?_, h.newp, Below.ofGrown h1.below hgr h1.below.size h.newp.2.1, h1.row.keep fun g hg => hne g (h1.rowo g hg).2.2.1 (h1.row.lt hg), fun g hg => ?_, fun q hq => (by cases hq)⟩
  · obtain ⟨cs, k1, k2⟩ := h1.rowS
    refine ⟨cs.set j (.pointer (some ⟨s, 0, none⟩)), ?_, fun i i1 i2 => ?_⟩
    · rw [hW]
      exact k1.set j _
    · have hi := k2 i i1 i2
      show _ = some (Value.pointer (some ⟨if i = j then s else sp i, 0, none⟩))
      rw [List.getElem?_set]
      by_cases e : j = i
      · subst e
        have hl : j < cs.length := (List.getElem?_eq_some_iff.1 hi).1
        rw [if_pos rfl, if_pos hl, if_pos rfl]
      · rw [if_neg e, if_neg (fun e2 => e e2.symm)]
        exact hi
  · by_cases e : i = j
    · subst e
      rw [setX_eq]
      have e1 : (fun b => if i = i then O b else OS i b) = O := by funext b; rw [if_pos rfl]
      show OwnS Unit W (fun b => if i = i then O b else OS i b) M (if i = i then s else sp i) t
      rw [e1, if_pos rfl]
      exact hS.keep (Keeps.ofGrown hgr fun ho => by have := hO _ ho; omega)
    · rw [setX_ne (by omega)]
      have e1 : (fun b => if i = j then O b else OS i b) = OS i := by funext b; rw [if_neg e]
      show OwnS Unit W (fun b => if i = j then O b else OS i b) M (if i = j then s else sp i) (X i)
      rw [e1, if_neg e]
      exact (h1.sc i i1 i2).keep (Keeps.ofGrown hgr (h.off i i1 i2).2.1)
  · have hx : if a = j then O x else OS a x := hx
    have hx2 : if b = j then O x else OS b x := hx2
    by_cases ea : a = j
    · rw [if_pos ea] at hx
      rw [if_neg (by omega)] at hx2
      have := (h.sc b b1 b2).bound x hx2
      have := hO x hx
      omega
    · rw [if_neg ea] at hx
      by_cases eb : b = j
      · rw [if_pos eb] at hx2
        have := (h.sc a a1 a2).bound x hx
        have := hO x hx2
        omega
      · rw [if_neg eb] at hx2
        exact h.dis a b a1 a2 b1 b2 hab x hx hx2
  · show ¬ (if i = j then O p else OS i p) ∧ ¬ (if i = j then O gS else OS i gS) ∧ ¬ (if i = j then O gq else OS i gq)
    by_cases e : i = j
    · rw [if_pos e, if_pos e, if_pos e]
      exact ⟨fun ho => by have := hO _ ho; omega, fun ho => by have := hO _ ho; omega, fun ho => by have := hO _ ho; omega⟩
    · rw [if_neg e, if_neg e, if_neg e]
      exact h.off i i1 i2
  · have hb' : if i = j then O b else OS i b := hb'
    by_cases e : i = j
    · rw [if_pos e] at hb'
      exact Nat.le_trans h.below.size (hO b hb')
    · rw [if_neg e] at hb'
      exact h.new i i1 i2 b hb'
  · obtain ⟨r1, r2, r3, r4, r5⟩ := h.rowo g hg
    refine ⟨r1, r2, r3, r4, fun i i1 i2 => ?_⟩
    show ¬ (if i = j then O g else OS i g)
    by_cases e : i = j
    · rw [if_pos e]
      exact fun ho => by have := hO _ ho; have := h.row.lt hg; omega
    · rw [if_neg e]
      exact r5 i i1 i2
end
/-- a camp to which w returns, between two rounds; S is written down -/
def RetAt (w0 w : World) (p gS cS gq n M : Nat) (S : Int → Bool) (P : Bool → Int → Sct → Prop) : Prop :=
  ∃ sp OS A c C f, CmpAt w0 w ⟨p, gS, cS, gq, sp, OS⟩ n M S A c [] C.X ∧ Calmed n (fun _ => false) P f C
section
variable {w0 w w1 w' : World} {p gS cS gq n M : Nat} {sp : Nat → Nat} {S : Int → Bool} {P : Bool → Int → Sct → Prop}
theorem RetAt.mono {M' : Nat} (h : RetAt w0 w p gS cS gq n M S P) (hM : M ≤ M') : RetAt w0 w p gS cS gq n M' S P := by
  obtain ⟨sp, OS, A, c, C, f, h1, h2⟩ := h
  exact ⟨sp, OS, A, c, C, f, h1.mono hM, h2⟩
theorem RetAt.silence (h : RetAt w0 w p gS cS gq n M S P) {i : Nat} (hi : i < 7) (b : Bool) : RetAt w0 (w.setCell ⟨gq, i, none⟩ (Value.bool b)) p gS cS gq n M (fun x => if x = i then b else S x) P := by
  obtain ⟨sp, OS, A, c, C, f, h1, h2⟩ := h
  exact ⟨sp, OS, A, c, C, f, h1.silence hi b, h2⟩
theorem RetAt.cell (h : RetAt w0 w p gS cS gq n M S P) {i : Nat} (hi : i < 7) : w.cell? ⟨gq, i, none⟩ = some (.bool (S i)) ∧ w.frozen? ⟨gq, i, none⟩ = false := by
  obtain ⟨sp, OS, A, c, C, f, h1, h2⟩ := h
  exact ⟨h1.silc hi, h1.sil.frozen i⟩
theorem RetAt.below (h : RetAt w0 w p gS cS gq n M S P) : Below w0.heap.size w0 w := by
  obtain ⟨sp, OS, A, c, C, f, h1, _⟩ := h
  exact h1.below
theorem RetAt.up (h : RetAt w0 w p gS cS gq n M S P) (hb : Below w.heap.size w w') : RetAt w0 w' p gS cS gq n M S P := by
  obtain ⟨sp, OS, A, c, C, f, h1, h2⟩ := h
  exact ⟨sp, OS, A, c, C, f, h1.up hb, h2⟩
/-- w begins anew -/
theorem FinAt.anew {j : Nat} (h : FinAt w0 w p gS cS gq sp n M S (fun i t => Sok t i n S 120 0)) (hj : 1 ≤ j ∧ j ≤ n) (hn : n ≤ 6) (hS : ∀ i, S i = true ↔ i = (j : Int)) {s : Nat} {O : Nat → Prop} (hb : Below w.heap.size w w1) (hO : OwnS Unit w1 O M s (Sct.fresh (j : Int) n)) (hOb : ∀ b, O b → w.heap.size ≤ b) :
    RetAt w0 (w1.setCell ⟨gS, j, none⟩ (.pointer (some ⟨s, 0, none⟩))) p gS cS gq n M S (RokD (j : Int) n false (ticksR (j : Int) 0)) := by
  obtain ⟨OS, A, c, C, h1, h2⟩ := h
  exact ⟨_, _, A, c, ⟨setX C.X j (Sct.fresh j n), []⟩, false, h1.anew hb hO hOb, ret_start ⟨by omega, by omega⟩ hn hS h2⟩
theorem ret_law_word {w : Int} (hw : -9223372036854775808 ≤ w ∧ w ≤ 9223372036854775807) {g : Bool} {x : Fr} (hx : GokR w g x) : x.rum.length ≤ 6 ∧ ∀ m ∈ x.rum, -9223372036854775808 ≤ m.n ∧ m.n ≤ 9223372036854775807 := by
  refine ⟨hx.2, fun m hm => ?_⟩
  have h := hx.1 m hm
  unfold WordR at h
  rcases h with ⟨s, _, rfl⟩ | ⟨_, rfl⟩
  · exact hw
  · exact hw
/-- a round -/
theorem RetAt.round {j : Nat} {r : Nat} (h : RetAt w0 w p gS cS gq n M (fun _ => false) (RokD (j : Int) n (decide (5 ≤ r)) (ticksR (j : Int) r))) (hn : 1 ≤ n ∧ n ≤ 6) (hj : 1 ≤ j ∧ j ≤ n) (hM : M + 2000 < 1000000) (d : Int) (cq : Nat) :
    Calls Try.prog 9 #[.pointer (some ⟨p, 0, none⟩), .slice (some ⟨gq, 0, none⟩) 7 cq, .int .i64 d] w fun e w' => e = .returned (.bool true) ∧ RetAt w0 w' p gS cS gq n (M + 2000) (fun _ => false) (RokD (j : Int) n (decide (5 ≤ r + 1)) (ticksR (j : Int) (r + 1))) := by
  obtain ⟨sp, OS, A, c, C, f, h1, h2⟩ := h
  have hj' : 1 ≤ (j : Int) ∧ (j : Int) ≤ n := by omega
  have hL := ret_law hj' hn.2 (decide (5 ≤ r)) (ticksR_succ (j : Int) r)
  obtain ⟨k1, k2, K, g, k3, k4, k5, k6⟩ := h2.walk hL hn.2 d (fun {g x} hx => ret_law_word (by omega) hx)
  have hC : Calmed n (fun _ => false) (RokD (j : Int) n (decide (5 ≤ r + 1)) (ticksR (j : Int) (r + 1))) g (run (fun _ => false) K (tickUp (fun _ => false) d n C)) := by
    by_cases h4 : r = 4
    · subst h4
      exact ret_known hj' hn.2 (ticksR_succ (j : Int) 4) (fun i hi => ticksR_12 i hi) h2 d k4 k5
    · have e : decide (5 ≤ r + 1) = decide (5 ≤ r) := by rw [decide_eq_decide]; omega
      rw [e]
      exact k5
  refine (round_any h1 h2.net hn hM d k1 k2 k3 k4 cq).mono ?_
  rintro e w' ⟨rfl, OS', A', c', h3⟩
  exact ⟨rfl, sp, OS', A', c', _, g, h3, hC⟩
/-- what one knows in the end -/
theorem RetAt.all {j r : Nat} (h : RetAt w0 w p gS cS gq n M S (RokD (j : Int) n true (ticksR (j : Int) r))) (hj : 1 ≤ j ∧ j ≤ n) (hn2 : 2 ≤ n) {i : Nat} (h1 : 1 ≤ i) (h2 : i ≤ n) : ∃ s L, (∀ m ∈ L, (m : Mem).s = 0 ∧ (m.n = (j : Int) → m.i = 1)) ∧ L.length ≤ 6 ∧ w.cell? ⟨p, 0, none⟩ = some (.slice (some ⟨gS, 0, none⟩) (n + 1) cS) ∧ w.cell? ⟨gS, i, none⟩ = some (.pointer (some ⟨s, 0, none⟩)) ∧
    Calls Try.prog 10 #[.pointer (some ⟨s, 0, none⟩)] w fun e w' => ∃ A c, e = .returned (.slice A L.length c) ∧ MemsIn w' A L ∧ Below w.heap.size w w' := by
  obtain ⟨sp, OS, A, c, C, f, k1, k2⟩ := h
  refine ⟨sp i, Go.Proofs.Ytghefmppjdneoaa.all (C.X i).v, ret_end (by omega) hn2 k2 (by omega) (by omega), ?_, k1.row0, k1.ptr i h1 h2, (k1.sc i h1 h2).all.mono ?_⟩
  · unfold Go.Proofs.Ytghefmppjdneoaa.all
    exact Nat.le_trans (List.length_filterMap_le _ _) (by unfold nodes; decide)
  · rintro e w' ⟨A, c, he, hM, _, hb⟩
    exact ⟨A, c, he, hM, hb⟩
theorem FinAt.row0 {P : Int → Sct → Prop} (h : FinAt w0 w p gS cS gq sp n M S P) : w.cell? ⟨p, 0, none⟩ = some (.slice (some ⟨gS, 0, none⟩) (n + 1) cS) := by
  obtain ⟨OS, A, c, C, k1, k2⟩ := h
  exact k1.row0
theorem FinAt.cellS {P : Int → Sct → Prop} (h : FinAt w0 w p gS cS gq sp n M S P) {i : Nat} (h1 : 1 ≤ i) (h2 : i ≤ n) : (w.cell? ⟨gS, i, none⟩).isSome = true ∧ w.frozen? ⟨gS, i, none⟩ = false ∧ p < w.heap.size ∧ gS < w.heap.size ∧ p ≠ gS := by
  obtain ⟨OS, A, c, C, k1, k2⟩ := h
  refine ⟨by rw [k1.ptr i h1 h2]; rfl, ?_, k1.hd.lt, k1.ltS, k1.newp.2.2.2.1⟩
  obtain ⟨cs, hc, _⟩ := k1.rowS
  exact hc.frozen i
end
end Go.Proofs.Ytghefmppjdneoaa
