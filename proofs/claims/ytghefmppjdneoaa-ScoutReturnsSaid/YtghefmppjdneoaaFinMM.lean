/- Layer 12: a camp as it is pitched; the camp of ScoutFinds. -/
import Derived.Test.YtghefmppjdneoaaFinLM
namespace Go.Proofs.Ytghefmppjdneoaa
open Go.Proofs Stab Go.Shelf Go.RowKit Go.Lib Go.Sort Go.Maps

def bools7 : List Value := [.bool false, .bool false, .bool false, .bool false, .bool false, .bool false, .bool false]
theorem PitAt.camp {w0 w w' : World} {p n : Nat} {v : Value} {sp : Nat → Nat} {OS : Nat → Nat → Prop} (h : PitAt w0 w p n n v sp OS) (hw : w' = w.alloc (.cells #[.bool false, .bool false, .bool false, .bool false, .bool false, .bool false, .bool false] 4)) (hn : 1 ≤ n ∧ n ≤ 6) :
    ∃ gS cS, v = .slice (some ⟨gS, 0, none⟩) (n + 1) cS ∧ FinAt w0 w' p gS cS w.heap.size sp n 0 (fun _ => false) (fun i t => Sok t i n (fun _ => false) 0 0) := by
  have hb : Below w.heap.size w w' := by rw [hw]; exact (Below.refl _ _).alloc (Nat.le_refl _) _
  have hq : At w' w.heap.size 4 (silV fun _ => false) := by rw [hw]; exact At.newA _ _ rfl
  have hsz : w'.heap.size = w.heap.size + 1 := by rw [hw]; simp
  have h' := h.up hb
  rcases h'.row.2 with ⟨_, e⟩ | ⟨g, cap, cur, rfl, g2, g3, g4, g5, g6, g7⟩
  · omega
  have hAt : At w' g 31 cur.toList := by unfold At; rw [g3]
  have hgw := h.row.lt g rfl
  have hgo := h.rowo g rfl
  refine ⟨g, cap, rfl, ⟨OS, none, 0, ⟨fun i => Sct.fresh i n, []⟩, ⟨?_, ⟨cur.toList, hAt, fun i h1 h2 => ?_⟩, by show g < _; omega, hq, by show w.heap.size < _; omega, fun i h1 h2 => h'.sc i h1 h2, h'.dis, fun i h1 h2 => ⟨h'.off i h1 h2, hgo.2 i h1 h2, fun ho => by have := (h.sc i h1 h2).bound _ ho; exact Nat.lt_irrefl _ this⟩, h'.new, ⟨h.newp, hgw.1, h.below.size, fun e => hgo.1 e.symm, fun e => ?_, fun e => ?_⟩, h'.below, SRow.nil _, fun x hx => (by cases hx), fun q hq => (by cases hq)⟩, ⟨fun i h1 h2 _ => ⟨fin_fresh ⟨h1, h2⟩ hn.2, .inl rfl⟩, rfl, fun i h1 h2 => Nat.zero_le 16⟩⟩⟩
  · exact h'.hd
  · have e : cur.toList[i]? = (ptrsV sp n)[i]? := by
      rw [← g7, List.getElem?_take, if_pos (by omega)]
    rw [e]
    unfold ptrsV
    obtain ⟨j, rfl⟩ : ∃ j, i = j + 1 := ⟨i - 1, by omega⟩
    rw [List.getElem?_cons_succ, List.getElem?_map, List.getElem?_range (by omega)]
    rfl
  · have e : p = w.heap.size := e
    have := h.hd.lt
    omega
  · have e : g = w.heap.size := e
    omega
/-- a camp whose block of the silent is still known whole -/
def FinQ (w0 w : World) (p gS cS gq : Nat) (sp : Nat → Nat) (n M : Nat) (S : Int → Bool) (P : Int → Sct → Prop) : Prop :=
  ∃ OS A c C, CmpAt w0 w ⟨p, gS, cS, gq, sp, OS⟩ n M S A c [] C.X ∧ Calmed n (fun _ => false) (fun _ i t => P i t) false C
section
variable {w0 w w' : World} {p gS cS gq : Nat} {sp : Nat → Nat} {n M : Nat} {S : Int → Bool} {P : Int → Sct → Prop}
theorem FinQ.silence (h : FinQ w0 w p gS cS gq sp n M S P) {i : Nat} (hi : i < 7) (b : Bool) : FinQ w0 (w.setCell ⟨gq, i, none⟩ (Value.bool b)) p gS cS gq sp n M (fun x => if x = i then b else S x) P := by
  obtain ⟨OS, A, c, C, h1, h2⟩ := h
  exact ⟨OS, A, c, C, h1.silence hi b, h2⟩
theorem FinQ.cell (h : FinQ w0 w p gS cS gq sp n M S P) {i : Nat} (hi : i < 7) : w.cell? ⟨gq, i, none⟩ = some (.bool (S i)) ∧ w.frozen? ⟨gq, i, none⟩ = false := by
  obtain ⟨OS, A, c, C, h1, h2⟩ := h
  exact ⟨h1.silc hi, h1.sil.frozen i⟩
theorem FinQ.below (h : FinQ w0 w p gS cS gq sp n M S P) : Below w0.heap.size w0 w := by
  obtain ⟨OS, A, c, C, h1, _⟩ := h
  exact h1.below
theorem FinAt.below (h : FinAt w0 w p gS cS gq sp n M S P) : Below w0.heap.size w0 w := by
  obtain ⟨OS, A, c, C, h1, _⟩ := h
  exact h1.below
theorem FinAt.up (h : FinAt w0 w p gS cS gq sp n M S P) (hb : Below w.heap.size w w') : FinAt w0 w' p gS cS gq sp n M S P := by
  obtain ⟨OS, A, c, C, h1, h2⟩ := h
  exact ⟨OS, A, c, C, h1.up hb, h2⟩
/-- from now on some are silent -/
theorem FinQ.silent {R b : Nat} {S' : Int → Bool} (h : FinQ w0 w p gS cS gq sp n M S (fun i t => Sok t i n (fun _ => false) R b)) (hS : ∀ i : Nat, i < 7 → S i = S' i) : FinAt w0 w p gS cS gq sp n M S' (fun i t => Sok t i n S' R 72) := by
  obtain ⟨OS, A, c, C, h1, h2⟩ := h
  have e : silV S = silV S' := by
    unfold silV
    exact List.map_congr_left fun i hi => by rw [hS i (List.mem_range.1 hi)]
  refine ⟨OS, A, c, C, ⟨h1.hd, h1.rowS, h1.ltS, e ▸ h1.sil, h1.ltq, h1.sc, h1.dis, h1.off, h1.new, h1.newp, h1.below, h1.row, h1.rowo, h1.rum⟩, ⟨fun i i1 i2 _ => ?_, h2.net, h2.rl⟩⟩
  obtain ⟨k1, k2⟩ := h2.sc i i1 i2 rfl
  exact ⟨fin_silent S' k1, by
    rcases k2 with e | e
    · exact .inl e
    · exact .inr fun ht _ => e ht rfl⟩
/-- what one knows in the end -/
theorem FinAt.all {P : Int → Sct → Prop} (h : FinAt w0 w p gS cS gq sp n M S P) {i : Nat} (h1 : 1 ≤ i) (h2 : i ≤ n) (hS : S i = false) : ∃ t, P i t ∧ w.cell? ⟨p, 0, none⟩ = some (.slice (some ⟨gS, 0, none⟩) (n + 1) cS) ∧ w.cell? ⟨gS, i, none⟩ = some (.pointer (some ⟨sp i, 0, none⟩)) ∧
    Calls Try.prog 10 #[.pointer (some ⟨sp i, 0, none⟩)] w fun e w' => ∃ A c, e = .returned (.slice A (Go.Proofs.Ytghefmppjdneoaa.all t.v).length c) ∧ MemsIn w' A (Go.Proofs.Ytghefmppjdneoaa.all t.v) ∧ Below w.heap.size w w' := by
  obtain ⟨OS, A, c, C, k1, k2⟩ := h
  refine ⟨C.X i, (k2.sc i (by omega) (by omega) hS).1, k1.row0, k1.ptr i h1 h2, (k1.sc i h1 h2).all.mono ?_⟩
  rintro e w' ⟨A, c, he, hM, _, hb⟩
  exact ⟨A, c, he, hM, hb⟩
theorem FinAt.cell (h : FinAt w0 w p gS cS gq sp n M S P) {i : Nat} (hi : i < 7) : w.cell? ⟨gq, i, none⟩ = some (.bool (S i)) := by
  obtain ⟨OS, A, c, C, h1, h2⟩ := h
  exact h1.silc hi
theorem FinAt.ltq (h : FinAt w0 w p gS cS gq sp n M S P) : gq < w.heap.size := by
  obtain ⟨OS, A, c, C, h1, h2⟩ := h
  exact h1.ltq
theorem FinAt.toQ (h : FinAt w0 w p gS cS gq sp n M (fun _ => false) P) : FinQ w0 w p gS cS gq sp n M (fun _ => false) P := h
end
end Go.Proofs.Ytghefmppjdneoaa
