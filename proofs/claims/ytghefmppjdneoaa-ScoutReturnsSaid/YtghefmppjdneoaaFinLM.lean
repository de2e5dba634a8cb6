/- Layer 12: a round of ScoutFinds' camp; who is silent is written down. -/
import Derived.Test.YtghefmppjdneoaaCampDM
namespace Go.Proofs.Ytghefmppjdneoaa
open Go.Proofs Stab Go.Shelf Go.RowKit Go.Lib Go.Sort Go.Maps

theorem len_wts : ∀ l : List Fr, l.length ≤ wts l
  | [] => Nat.zero_le _
  | x :: l => by
    have := len_wts l
    have := wt_pos x
    have e : wts (x :: l) = wt x + wts l := rfl
    rw [List.length_cons]
    omega
section
variable {n : Nat} {S : Int → Bool} {w : Int} {P Q : Bool → Int → Sct → Prop} {G : Bool → Fr → Prop} {f : Bool} {C : Cmp}
/-- what a round's walk asks of the plain law -/
theorem Calmed.walk (L : Law n S w P Q G) (hn : n ≤ 6) (h : Calmed n S P f C) (d : Int) (hG : ∀ {g x}, G g x → x.rum.length ≤ 6 ∧ ∀ m ∈ x.rum, -9223372036854775808 ≤ m.n ∧ m.n ≤ 9223372036854775807) :
    (∀ j, j ≤ n → (tickUp S d j C).net.length ≤ 200) ∧ (∀ kk, (∀ x ∈ (run S kk (tickUp S d n C)).net, FrW n x) ∧ (run S kk (tickUp S d n C)).net.length ≤ 200) ∧ ∃ K g, K ≤ 144 ∧ (run S K (tickUp S d n C)).net = [] ∧ Calmed n S Q g (run S K (tickUp S d n C)) ∧ ∀ i, S i = true → (run S K (tickUp S d n C)).X i = C.X i := by
  refine ⟨fun j hj => ?_, fun kk => ?_, (h.round L hn d).2⟩
  · have h1 := (h.ticking L hn d j hj).wts
    have h2 := len_wts (tickUp S d j C).net
    omega
  · have hT := h.ticking L hn d n (Nat.le_refl n)
    have hSt : Stage n S Q G f (tickUp S d n C) := ⟨hT.sc, hT.fr, fun i h1 h2 => by rw [hT.rel]; exact h.rl i h1 h2⟩
    obtain ⟨g, h1, h2, _⟩ := hSt.run L kk
    refine ⟨fun x hx => ?_, ?_⟩
    · obtain ⟨x1, _, _, x4⟩ := h1.fr x hx
      have hf := x1.frm
      unfold Oth at hf
      exact ⟨x1.to_, ⟨hf.1, hf.2.1⟩, hG x4⟩
    · rcases h2 with e | e
      · rw [e]; exact Nat.zero_le _
      · have h4 := hT.wts
        have h5 := relS_le (X := (tickUp S d n C).X) (j := n) hSt.rl
        have h6 := len_wts (run S kk (tickUp S d n C)).net
        unfold phi at e
        omega
end
/-- a camp between two rounds -/
def FinAt (w0 w : World) (p gS cS gq : Nat) (sp : Nat → Nat) (n M : Nat) (S : Int → Bool) (P : Int → Sct → Prop) : Prop :=
  ∃ OS A c C, CmpAt w0 w ⟨p, gS, cS, gq, sp, OS⟩ n M S A c [] C.X ∧ Calmed n S (fun _ i t => P i t) false C
section
variable {w0 w w' : World} {p gS cS gq : Nat} {sp : Nat → Nat} {n M : Nat} {S : Int → Bool} {P : Int → Sct → Prop}
theorem FinAt.mono {M' : Nat} (h : FinAt w0 w p gS cS gq sp n M S P) (hM : M ≤ M') : FinAt w0 w p gS cS gq sp n M' S P := by
  obtain ⟨OS, A, c, C, h1, h2⟩ := h
  exact ⟨OS, A, c, C, h1.mono hM, h2⟩
theorem FinAt.round {R b : Nat} (h : FinAt w0 w p gS cS gq sp n M S (fun i t => Sok t i n S R b)) (hn : 1 ≤ n ∧ n ≤ 6) (hM : M + 2000 < 1000000) (d : Int) (cq : Nat) :
    Calls Try.prog 9 #[.pointer (some ⟨p, 0, none⟩), .slice (some ⟨gq, 0, none⟩) 7 cq, .int .i64 d] w fun e w' => e = .returned (.bool true) ∧ FinAt w0 w' p gS cS gq sp n (M + 2000) S (fun i t => Sok t i n S (R + 1) (b - 1)) := by
  obtain ⟨OS, A, c, C, h1, h2⟩ := h
  obtain ⟨k1, k2, K, g, k3, k4, k5, k6⟩ := h2.walk (fin_law hn.2 S 0 R b) hn.2 d (fun {g x} hx => ⟨hx.2, fun m hm => by have := hx.1 m hm; unfold WordS at this; omega⟩)
  refine (round_any h1 h2.net hn hM d k1 k2 k3 k4 cq).mono ?_
  rintro e w' ⟨rfl, OS', A', c', h3⟩
  exact ⟨rfl, OS', A', c', _, h3, ⟨k5.sc, k5.net, k5.rl⟩⟩
/-- one is silent, or isn't -/
theorem CmpAt.silence {OS : Nat → Nat → Prop} {A : Option Addr} {c : Nat} {L : List Fp} {X : Int → Sct} (h : CmpAt w0 w ⟨p, gS, cS, gq, sp, OS⟩ n M S A c L X) {i : Nat} (hi : i < 7) (b : Bool) :
    CmpAt w0 (w.setCell ⟨gq, i, none⟩ (Value.bool b)) ⟨p, gS, cS, gq, sp, OS⟩ n M (fun x => if x = i then b else S x) A c L X := by
  have hgr : w.grownBy (w.setCell ⟨gq, i, none⟩ (Value.bool b)) (some gq) := grown_setCell (World.grownBy.refl _ _) (.inl rfl) _
  have hne : ∀ x, x ≠ gq → x < w.heap.size → (w.setCell ⟨gq, i, none⟩ (Value.bool b)).heap[x]? = w.heap[x]? := fun x h1 h2 => hgr.block x h2 (by intro e; injection e with e; exact h1 e)
  have hset : At (w.setCell ⟨gq, i, none⟩ (Value.bool b)) gq 4 ((silV S).set i (Value.bool b)) := h.sil.set i (Value.bool b)
  have e : (silV S).set i (Value.bool b) = silV (fun x => if x = i then b else S x) := by
    apply List.ext_getElem?
    intro j
    rw [List.getElem?_set]
    by_cases hj : j < 7
    · rw [silV_at _ hj, silV_at _ hj]
      by_cases e : i = j
      · subst e
        rw [if_pos rfl, if_pos (by unfold silV; simp; omega), if_pos rfl]
      · rw [if_neg e, if_neg (by omega)]
    · have hl : ∀ T, (silV T)[j]? = none := fun T => List.getElem?_eq_none (by unfold silV; simp; omega)
      rw [hl, hl, if_neg (by omega)]
  rw [e] at hset
  refine ⟨h.hd.grown hgr (by intro e; injection e with e; exact h.newp.2.2.2.2.1 e), CmpAt.keptS h.rowS (hne _ h.newp.2.2.2.2.2 h.ltS), Nat.lt_of_lt_of_le h.ltS hgr.size, hset, Nat.lt_of_lt_of_le h.ltq hgr.size, fun j h1 h2 => (h.sc j h1 h2).keep (Keeps.ofGrown hgr (h.off j h1 h2).2.2), h.dis, h.off, h.new, h.newp, Below.ofGrown h.below hgr h.below.size h.newp.2.2.1, h.row.keep fun g hg => hne g (h.rowo g hg).2.2.2.1 (h.row.lt hg), h.rowo, fun q hq => ?_⟩
  obtain ⟨m1, m2⟩ := h.rum q hq
  exact ⟨mem_keep m1 hgr.size fun h0 g hg hlt => hne g (m2 h0 g hg).2.2.1 hlt, m2⟩
end
end Go.Proofs.Ytghefmppjdneoaa
