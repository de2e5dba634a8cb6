/- Layer 12: ScoutTurns, how its calls go on. -/
import Derived.Test.YtghefmppjdneoaaGrpS
namespace Go.Proofs.Ytghefmppjdneoaa
open Go.Proofs Stab Go.Shelf Go.RowKit Go.Lib Go.Sort Go.Maps

/-- who has been asked, marked -/
def seenT (a : List Int) (i : Nat) : List Value := [.bool (decide ((i : Int) ∈ a))]
/-- a scout whom all answer, so many ticks gone -/
structure TurnS (w wr : World) (O : Nat → Prop) (s : Nat) (t : Sct) (me n : Int) (q : Nat) (line : List Int) : Prop where
  own : OwnS Unit wr O (20 * q) s t
  calm : Calm t me n q line
  new : ∀ i, O i → w.heap.size ≤ i
  below : Below w.heap.size w wr
/-- the marks, apart from it -/
structure SeenS (w wr : World) (O : Nat → Prop) (gs : Nat) (a : List Int) : Prop where
  tbl : TblAt wr gs 42 [] 1 (seenT a)
  off : ¬ O gs
  new : w.heap.size ≤ gs
section
variable {w wr w' : World} {O O' : Nat → Prop} {s : Nat} {t : Sct} {me n : Int} {q gs : Nat} {line a : List Int}
theorem TurnS.up (h : TurnS w wr O s t me n q line) (hb : Below wr.heap.size wr w') : TurnS w w' O s t me n q line :=
  ⟨h.own.below hb, h.calm, h.new, h.below.trans (hb.mono h.below.size)⟩
theorem TurnS.keep (h : TurnS w wr O s t me n q line) (hk : Keeps O wr w') (hb : Below w.heap.size wr w') : TurnS w w' O s t me n q line :=
  ⟨h.own.keep hk, h.calm, h.new, h.below.trans hb⟩
theorem SeenS.up (h : SeenS w wr O gs a) (hb : Below wr.heap.size wr w') : SeenS w w' O gs a := ⟨h.tbl.below hb, h.off, h.new⟩
theorem SeenS.keep (h : SeenS w wr O gs a) (hk : Keeps (fun i => ¬ O i) wr w') (hO : ∀ i, O' i → O i ∨ wr.heap.size ≤ i) : SeenS w w' O' gs a :=
  ⟨h.tbl.keeps hk h.off, fun ho => by
    rcases hO _ ho with h1 | h1
    · exact h.off h1
    · have := h.tbl.lt; omega, h.new⟩
theorem TurnS.belowOf (h : TurnS w wr O s t me n q line) (hk : Keeps (fun i => ¬ O i) wr w') : Below w.heap.size wr w' := hk.below (fun i hi ho => by have := h.new i ho; omega) h.below.size
/-- a tick that asks nobody -/
theorem TurnS.quiet (h : TurnS w wr O s t me n q line) (hs : SeenS w wr O gs a) (hq : q % 4 ≠ 0) (hM : q ≤ 100) (d : Int) (hd : -9223372036854775808 ≤ d ∧ d ≤ 9223372036854775807) :
    Calls Try.prog 12 #[.pointer (some ⟨s, 0, none⟩), .int .i64 d] wr fun e w' => ∃ A c O' t', e = .returned (.slice A 0 c) ∧ TurnS w w' O' s t' me n (q + 1) line ∧ SeenS w w' O' gs a := by
  refine (h.own.tick (by omega) d hd).mono ?_
  rintro e w' ⟨v, rfl, O', B, h1, h2, h3, h4, h5⟩
  rw [h.calm.tick_quiet hq d] at h1 h5
  obtain ⟨A, c, rfl⟩ := h5.zero
  refine ⟨A, c, O', _, rfl, ⟨h1.mono (by omega), h.calm.tick', fun i hi => ?_, h.below.trans (h.belowOf h3)⟩, hs.keep h3 fun i hi => (h2 i hi).1⟩
  rcases (h2 i hi).1 with ho | ho
  · exact h.new i ho
  · exact Nat.le_trans h.below.size ho
/-- a tick has asked x, that has not answered yet -/
structure AskedS (w wr : World) (O : Nat → Prop) (s gs g : Nat) (t : Sct) (me n : Int) (q : Nat) (line a : List Int) (x : Int) (rest : List Int) (y : Int) (d : Int) (A : Option Addr) (c : Nat) : Prop where
  own : OwnS Unit wr O (20 * q + 10) s (t.tick d).1
  calm : Calm t me n q line
  new : ∀ i, O i → w.heap.size ≤ i
  below : Below w.heap.size w wr
  seen : SeenS w wr O gs a
  yeq : y = t.last + 1
  row : wr.rangeAt g 0 (sentC ⟨x, 1, me, y, 0, []⟩ A c)
  glt : g < wr.heap.size
  ne : g ≠ gs
theorem TurnS.asks (h : TurnS w wr O s t me n q line) (hs : SeenS w wr O gs a) (hq : q % 4 = 0) (hM : q ≤ 100) (hl : ∀ x ∈ line, x ∈ others me n) (d : Int) (hd : -9223372036854775808 ≤ d ∧ d ≤ 9223372036854775807) {x : Int} {rest : List Int} (hx : (if line = [] then mixR (others me n) d else line) = x :: rest) (h0 : 0 < x) :
    Calls Try.prog 12 #[.pointer (some ⟨s, 0, none⟩), .int .i64 d] wr fun e w' => ∃ g cap O' A c y, e = .returned (.slice (some ⟨g, 0, none⟩) 1 cap) ∧ AskedS w w' O' s gs g t me n q line a x rest y d A c := by
  refine (h.own.tick (by omega) d hd).mono ?_
  rintro e w' ⟨v, rfl, O', B, h1, h2, h3, h4, h5⟩
  have e2 : (t.tick d).2 = [⟨x, 1, me, t.last + 1, 0, []⟩] := by rw [h.calm.tick_asks hq hl d hx h0]
  rw [e2] at h5
  obtain ⟨g, cap, A, c, rfl, hB, hlt, _, _, _, hr⟩ := h5.single
  refine ⟨g, cap, O', A, c, _, rfl, ⟨h1, h.calm, fun i hi => ?_, h.below.trans (h.belowOf h3), hs.keep h3 fun i hi => (h2 i hi).1, rfl, hr w' rfl, hlt, fun e => by have := hs.tbl.lt; omega⟩⟩
  rcases (h2 i hi).1 with ho | ho
  · exact h.new i ho
  · exact Nat.le_trans h.below.size ho
section
variable {g : Nat} {x y d : Int} {rest : List Int} {A : Option Addr} {c : Nat}
theorem AskedS.up (h : AskedS w wr O s gs g t me n q line a x rest y d A c) (hb : Below wr.heap.size wr w') : AskedS w w' O s gs g t me n q line a x rest y d A c :=
  ⟨h.own.below hb, h.calm, h.new, h.below.trans (hb.mono h.below.size), h.seen.up hb, h.yeq, fun j v hv => (World.cell?_of_block (w := wr) (hb.block g h.glt)).trans (h.row j v hv), Nat.lt_of_lt_of_le h.glt hb.size, h.ne⟩
/-- a mark is set -/
theorem AskedS.mark (h : AskedS w wr O s gs g t me n q line a x rest y d A c) (X : Nat) (hX : x = (X : Int)) (h7 : X < 7) : AskedS w (wr.setCell ⟨gs, X, none⟩ (.bool true)) O s gs g t me n q line (x :: a) x rest y d A c := by
  have hgr : wr.grownBy (wr.setCell ⟨gs, X, none⟩ (.bool true)) (some gs) := grown_setCell (World.grownBy.refl _ _) (.inl rfl) _
  refine ⟨h.own.keep (Keeps.ofGrown hgr h.seen.off), h.calm, h.new, Below.ofGrown h.below hgr h.below.size h.seen.new, ⟨(h.seen.tbl.put10 h7 _).congr fun i => ?_, h.seen.off, h.seen.new⟩, h.yeq, fun j v hv => (World.cell?_of_block (w := wr) (hgr.block g h.glt (by intro e; injection e with e; exact h.ne e))).trans (h.row j v hv), Nat.lt_of_lt_of_le h.glt hgr.size, h.ne⟩
  unfold seenT
  by_cases hi : i = X
  · rw [if_pos hi, hi, hX, decide_eq_true List.mem_cons_self]
  · rw [if_neg hi]
    have : decide ((i : Int) ∈ x :: a) = decide ((i : Int) ∈ a) := by
      rw [decide_eq_decide, List.mem_cons]
      exact or_iff_right (by omega)
    rw [this]
/-- who was asked answers -/
theorem AskedS.hear (h : AskedS w wr O s gs g t me n q line a x rest y d A c) (hn : n ≤ 6) (hq : q % 4 = 0) (hM : q ≤ 100) (hl : ∀ x ∈ line, x ∈ others me n) (hx : (if line = [] then mixR (others me n) d else line) = x :: rest) (ho : x ∈ others me n) :
    Calls Try.prog 13 #[.pointer (some ⟨s, 0, none⟩), .agg (frameC ⟨0, 2, x, y, x, []⟩ none 0).toArray] wr fun e w' => ∃ v O' t', e = .returned v ∧ TurnS w w' O' s t' me n (q + 1) rest ∧ SeenS w w' O' gs a := by
  have hb := (mem_others hn).1 ho
  refine (h.own.hear (x := ⟨0, 2, x, y, x, []⟩) (A := none) (c := 0) (by show 20 * q + 10 + 0 + 3 < 1000000; omega) (frameC_is _ none 0) MemsIn.nil (fun h => absurd h (Nat.lt_irrefl 0)) (fun m hm => by cases hm) ⟨by show _ ≤ x; omega, by show x ≤ _; omega⟩).mono ?_
  rintro e w' ⟨v, rfl, O', B, h1, h2, h3, h4, h5⟩
  obtain ⟨u, hu, hc⟩ := h.calm.answered hn hq hl d hx ho 0
  rw [← h.yeq] at hu
  rw [hu] at h1
  have hbw : Below w.heap.size wr w' := h3.below (fun i hi ho => by have := h.new i ho; omega) h.below.size
  refine ⟨v, O', u, rfl, ⟨h1.mono (by show 20 * q + 10 + 0 + 2 ≤ 20 * (q + 1); omega), hc, fun i hi => ?_, h.below.trans hbw⟩, h.seen.keep h3 fun i hi => (h2 i hi).1⟩
  rcases (h2 i hi).1 with ho | ho
  · exact h.new i ho
  · exact Nat.le_trans h.below.size ho
end
end
end Go.Proofs.Ytghefmppjdneoaa
