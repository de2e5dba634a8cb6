/- Layer 12, the plain law of ScoutFinds: a frame, whole; the scouts of a camp. -/
import Derived.Test.YtghefmppjdneoaaFinHM
namespace Go.Proofs.Ytghefmppjdneoaa
open Go.Proofs Stab Go.Shelf Go.RowKit Go.Lib Go.Sort Go.Maps

section
variable {t u : Sct} {i n : Int} {S : Int → Bool} {b : Int}
/-- a frame's answer is told by one who knows just what was heard -/
theorem hearK_tell {u : Sct} {x : Fr} (hl : u.left = false) (hk : x.kind = 1 ∨ x.kind = 2 ∨ x.kind = 3) : ∃ a l, hearK u x = Sct.tell a l ∧ a.v = u.v ∧ a.f = u.f ∧ a.since = u.since ∧ a.ticks = u.ticks := by
  rcases hk with h | h | h
  · exact ⟨u, _, hearK_1 hl h, rfl, rfl, rfl, rfl⟩
  · refine ⟨(u.ack x).1, (u.ack x).2, hearK_2 hl h, ?_⟩
    unfold Sct.ack
    dsimp only
    split <;> exact ⟨rfl, rfl, rfl, rfl⟩
  · refine ⟨(u.ask x).1, (u.ask x).2, hearK_3 hl h, ?_⟩
    unfold Sct.ask
    split <;> exact ⟨rfl, rfl, rfl, rfl⟩
theorem fin_hear (h : Std t i n) (hw : Wds t n S 7) (hi : 1 ≤ i ∧ i ≤ n) (hn : n ≤ 6) (hSi : S i = false) {x : Fr} (hx : FrOk n x) (hto : x.to_ = i) (hxS : S x.frm = false) (hxn : x.kind = 2 → S x.node = false) (hxr : ∀ m ∈ x.rum, WordS n S m) :
    Wds (t.hear x).1 n S 7 ∧ (∀ y ∈ (t.hear x).2, (∀ m ∈ y.rum, WordS n S m) ∧ y.rum.length ≤ 6) ∧ ∀ k, Oth n i k → S k = true → pot (t.hear x).1 k ≤ pot t k := by
  have hH := h.hear hi hx hto
  have hfo : Oth n i x.frm := by rw [← hto]; exact hx.frm
  have hk : t.hear x = hearK (Go.Proofs.Ytghefmppjdneoaa.heard t x) x := hear_eq t x (isNode_of h.fit hfo)
  have hr := Wds.heard (by omega) hw h.fit hSi hxS hxr
  have hS := h.harked x
  obtain ⟨a, l, e, e1, e2, e3, e4⟩ := hearK_tell (u := Go.Proofs.Ytghefmppjdneoaa.heard t x) hS.left hx.kind
  rw [hk, e] at hH ⊢
  have hwu := hw.rz (by omega) hr
  obtain ⟨f1, f2⟩ := told_words (t := a) (n := n) (S := S) (by rw [e2]; exact hwu.f) l
  have ha := tell_me a l
  have hRz : Rz n S t (a.tell l).1 := by
    refine ⟨fun k => ?_, fun k r hk => .inr (f1 k r hk), ?_⟩
    · rw [ha]
      show (a.v k = _ ∧ a.since k = _) ∨ ∃ m s, _ ∧ _ ∧ _ ∧ _ ∧ a.v k = _ ∧ (_ → a.since k = _)
      rw [e1, e3]
      exact hr.v k
    · rw [ha]
      exact e4.trans hr.ticks
  refine ⟨?_, f2, fun k hk hSk => ?_⟩
  · refine ⟨?_, f1, ?_⟩
    · rw [ha]
      show ∀ k m, a.v k = some m → _
      rw [e1]
      exact hwu.v
    · rw [ha]
      show ∀ k m, a.v k = some m → _ → ∃ q, a.since k = some q ∧ q ≤ a.ticks ∧ a.ticks - q ≤ 7
      rw [e1, e3, e4]
      exact hwu.since
  · refine pot_rz h.fit hH.std.fit hn hw (hw.rz (by omega) hRz) hRz hH.line hH.tgt hk fun htk => ?_
    rcases hH.got with g | ⟨_, g1, _, g2⟩
    · exact g
    · have := hxn g1
      rw [g2, ← hH.tgt, htk, hSk] at this
      cases this
/-- a scout of Finds: so many ticks, and whoever is silent is held for gone within so many -/
structure Sok (t : Sct) (i n : Int) (S : Int → Bool) (R b : Nat) : Prop where
  std : Std t i n
  wds : Wds t n S 7
  ticks : t.ticks = R
  pot : ∀ k, Oth n i k → S k = true → Go.Proofs.Ytghefmppjdneoaa.pot t k ≤ b
/-- what is told of the silent -/
def Gok (n : Int) (S : Int → Bool) (x : Fr) : Prop := (∀ m ∈ x.rum, WordS n S m) ∧ x.rum.length ≤ 6
theorem Sok.tick {R b : Nat} (h : Sok t i n S R b) (hi : 1 ≤ i ∧ i ≤ n) (hn : n ≤ 6) (hSi : S i = false) (hg : t.ticks % 4 = 0 ∨ (0 < t.tgt → S t.tgt = false → t.got = true)) (d : Int) : Sok (t.tick d).1 i n S (R + 1) (b - 1) ∧ ∀ x ∈ (t.tick d).2, Gok n S x := by
  have hT := h.std.tick hi hn h.ticks d
  obtain ⟨h1, h2, h3⟩ := fin_tick h.std h.wds h.ticks hi hn hSi hg d
  refine ⟨⟨hT.std, h1, by rw [hT.ticks, h.ticks]; rfl, fun k hk hS => ?_⟩, h2⟩
  have := h.pot k hk hS
  rcases h3 k hk with h4 | h4 <;> omega
theorem Sok.hear {R b : Nat} (h : Sok t i n S R b) (hi : 1 ≤ i ∧ i ≤ n) (hn : n ≤ 6) (hSi : S i = false) {x : Fr} (hx : FrOk n x) (hto : x.to_ = i) (hxS : S x.frm = false) (hxn : x.kind = 2 → S x.node = false) (hxr : Gok n S x) : Sok (t.hear x).1 i n S R b ∧ ∀ y ∈ (t.hear x).2, Gok n S y := by
  have hH := h.std.hear hi hx hto
  obtain ⟨h1, h2, h3⟩ := fin_hear h.std h.wds hi hn hSi hx hto hxS hxn hxr.1
  exact ⟨⟨hH.std, h1, hH.ticks.trans h.ticks, fun k hk hS => Nat.le_trans (h3 k hk hS) (h.pot k hk hS)⟩, h2⟩
end
end Go.Proofs.Ytghefmppjdneoaa
