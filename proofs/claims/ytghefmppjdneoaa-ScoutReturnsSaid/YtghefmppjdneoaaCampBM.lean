/- Layer 12: a camp in memory: its scouts, each with blocks of its own; frames under way; who is silent. -/
import Derived.Test.YtghefmppjdneoaaCampAM
import Derived.Test.YtghefmppjdneoaaFinKM
namespace Go.Proofs.Ytghefmppjdneoaa
open Go.Proofs Stab Go.Shelf Go.RowKit Go.Lib Go.Sort Go.Maps

/-- where a camp lies: itself, its scouts' row, who is silent; each scout, its blocks -/
structure Cpl where
  p : Nat
  gS : Nat
  cS : Nat
  gq : Nat
  sp : Nat → Nat
  OS : Nat → Nat → Prop
/-- a block that is none of a camp's -/
def Cpl.Off (k : Cpl) (n : Nat) (A : Option Addr) (g : Nat) : Prop := g ≠ k.p ∧ g ≠ k.gS ∧ g ≠ k.gq ∧ blkOf A ≠ some g ∧ ∀ i, 1 ≤ i → i ≤ n → ¬ k.OS i g
/-- who is silent, written down -/
def silV (S : Int → Bool) : List Value := (List.range 7).map fun i => .bool (S ((i : Nat) : Int))
theorem silV_at (S : Int → Bool) {i : Nat} (hi : i < 7) : (silV S)[i]? = some (.bool (S i)) := by
  unfold silV
  rw [List.getElem?_map, List.getElem?_range hi]
  rfl
structure CmpAt (w0 w : World) (k : Cpl) (n M : Nat) (S : Int → Bool) (A : Option Addr) (c : Nat) (L : List Fp) (X : Int → Sct) : Prop where
  hd : At w k.p 35 [.slice (some ⟨k.gS, 0, none⟩) (n + 1) k.cS, .slice A L.length c]
  rowS : ∃ cs, At w k.gS 31 cs ∧ ∀ i : Nat, 1 ≤ i → i ≤ n → cs[i]? = some (.pointer (some ⟨k.sp i, 0, none⟩))
  ltS : k.gS < w.heap.size
  sil : At w k.gq 4 (silV S)
  ltq : k.gq < w.heap.size
  sc : ∀ i : Nat, 1 ≤ i → i ≤ n → OwnS Unit w (k.OS i) M (k.sp i) (X i)
  dis : ∀ i j : Nat, 1 ≤ i → i ≤ n → 1 ≤ j → j ≤ n → i ≠ j → ∀ b, k.OS i b → ¬ k.OS j b
  off : ∀ i : Nat, 1 ≤ i → i ≤ n → ¬ k.OS i k.p ∧ ¬ k.OS i k.gS ∧ ¬ k.OS i k.gq
  new : ∀ i : Nat, 1 ≤ i → i ≤ n → ∀ b, k.OS i b → w0.heap.size ≤ b
  newp : w0.heap.size ≤ k.p ∧ w0.heap.size ≤ k.gS ∧ w0.heap.size ≤ k.gq ∧ k.p ≠ k.gS ∧ k.p ≠ k.gq ∧ k.gS ≠ k.gq
  below : Below w0.heap.size w0 w
  row : SRow w A c L
  rowo : ∀ g, blkOf A = some g → w0.heap.size ≤ g ∧ g ≠ k.p ∧ g ≠ k.gS ∧ g ≠ k.gq ∧ ∀ i, 1 ≤ i → i ≤ n → ¬ k.OS i g
  rum : ∀ q ∈ L, MemsIn w q.A q.x.rum ∧ (0 < q.x.rum.length → ∀ g, blkOf q.A = some g → k.Off n A g)
/-- frames that a call has told -/
structure NewS (w : World) (k : Cpl) (n : Nat) (A : Option Addr) (v : Value) (L2 : List Fp) (A2 : Option Addr) (c2 : Nat) : Prop where
  v : v = .slice A2 L2.length c2
  row : L2 = [] ∨ ∃ g, A2 = some ⟨g, 0, none⟩ ∧ w.rangeAt g 0 (fpsC L2)
  rum : ∀ q ∈ L2, MemsIn w q.A q.x.rum ∧ (0 < q.x.rum.length → ∀ g, blkOf q.A = some g → k.Off n A g)
section
variable {w0 w w' w'' : World} {k : Cpl} {n M M' : Nat} {S : Int → Bool} {A A' : Option Addr} {c c' : Nat} {L L2 : List Fp} {X : Int → Sct}
theorem mem_blk {w : World} {B : Option Addr} {l : List Mem} (h : MemsIn w B l) (h0 : 0 < l.length) {g : Nat} (hg : blkOf B = some g) : g < w.heap.size := by
  obtain ⟨g', off, e, hlt, _⟩ := h h0
  have := blk_some e
  rw [hg] at this
  cases this
  exact hlt
theorem mem_keep {w w' : World} {B : Option Addr} {l : List Mem} (h : MemsIn w B l) (hs : w.heap.size ≤ w'.heap.size) (hk : 0 < l.length → ∀ g, blkOf B = some g → g < w.heap.size → w'.heap[g]? = w.heap[g]?) : MemsIn w' B l := fun h0 => h.keep hs (fun g _ e hlt => hk h0 g (blk_some e) hlt) h0
theorem CmpAt.ptr (h : CmpAt w0 w k n M S A c L X) : ∀ i : Nat, 1 ≤ i → i ≤ n → w.cell? ⟨k.gS, i, none⟩ = some (.pointer (some ⟨k.sp i, 0, none⟩)) := fun i h1 h2 => by
  obtain ⟨cs, hc, hp⟩ := h.rowS
  exact hc.cell' (hp i h1 h2)
theorem CmpAt.keptS {w : World} {w' : World} {k : Cpl} {n : Nat} (h : ∃ cs, At w k.gS 31 cs ∧ ∀ i : Nat, 1 ≤ i → i ≤ n → cs[i]? = some (.pointer (some ⟨k.sp i, 0, none⟩))) (hk : w'.heap[k.gS]? = w.heap[k.gS]?) : ∃ cs, At w' k.gS 31 cs ∧ ∀ i : Nat, 1 ≤ i → i ≤ n → cs[i]? = some (.pointer (some ⟨k.sp i, 0, none⟩)) := by
  obtain ⟨cs, h1, h2⟩ := h
  exact ⟨cs, hk.trans h1, h2⟩
theorem CmpAt.silc (h : CmpAt w0 w k n M S A c L X) {i : Nat} (hi : i < 7) : w.cell? ⟨k.gq, i, none⟩ = some (.bool (S i)) := h.sil.cell' (silV_at S hi)
/-- new blocks are laid -/
theorem CmpAt.up (h : CmpAt w0 w k n M S A c L X) (hb : Below w.heap.size w w') : CmpAt w0 w' k n M S A c L X :=
  ⟨h.hd.below hb h.hd.lt, CmpAt.keptS h.rowS (hb.block _ h.ltS), Nat.lt_of_lt_of_le h.ltS hb.size, h.sil.below hb h.ltq, Nat.lt_of_lt_of_le h.ltq hb.size,
    fun i h1 h2 => (h.sc i h1 h2).below hb, h.dis, h.off, h.new, h.newp, h.below.trans (hb.mono h.below.size), h.row.keep fun g hg => hb.block g (h.row.lt hg), h.rowo, fun q hq => ⟨(h.rum q hq).1.below hb, (h.rum q hq).2⟩⟩
theorem CmpAt.mono (h : CmpAt w0 w k n M S A c L X) (hM : M ≤ M') : CmpAt w0 w k n M' S A c L X :=
  ⟨h.hd, h.rowS, h.ltS, h.sil, h.ltq, fun i h1 h2 => (h.sc i h1 h2).mono hM, h.dis, h.off, h.new, h.newp, h.below, h.row, h.rowo, h.rum⟩
/-- one of its scouts has done something -/
theorem CmpAt.gave (h : CmpAt w0 w k n M S A c L X) {i : Nat} (h1 : 1 ≤ i) (h2 : i ≤ n) {t : Sct} {v : Value} {l : List Fr} (hG : Gave Unit w w' (k.OS i) M' (k.sp i) t v l) (hM : M ≤ M') :
    ∃ k' : Cpl, (k'.p = k.p ∧ k'.gS = k.gS ∧ k'.cS = k.cS ∧ k'.gq = k.gq ∧ k'.sp = k.sp) ∧ CmpAt w0 w' k' n M' S A c L (setX X i t) ∧ ∃ L2 A2 c2, L2.map (·.x) = l ∧ NewS w' k' n A v L2 A2 c2 ∧ ∀ q ∈ L2, q.x.rum.length ≤ 6 := by
  obtain ⟨O', B, g1, g2, g3, g4, L2, A2, c2, s1, s2, s3, s4⟩ := hG
  have hp := (h.off i h1 h2).1
  have hg := (h.off i h1 h2).2.1
  have hq := (h.off i h1 h2).2.2
  have hold : ∀ b, ¬ k.OS i b → b < w.heap.size → ¬ O' b := fun b hb hlt ho => by
    rcases (g2 b ho).1 with e | e
    · exact hb e
    · omega
  have hOS : ∀ j, (if j = i then O' else k.OS j) = fun b => if j = i then O' b else k.OS j b := fun j => by by_cases e : j = i <;> simp [e]
  refine ⟨{ k with OS := fun j b => if j = i then O' b else k.OS j b }, ⟨rfl, rfl, rfl, rfl, rfl⟩, ⟨h.hd.keeps g3 hp, CmpAt.keptS h.rowS (g3.block _ hg h.ltS), Nat.lt_of_lt_of_le h.ltS g3.size, h.sil.keeps g3 hq, Nat.lt_of_lt_of_le h.ltq g3.size, fun j j1 j2 => ?_, fun a b a1 a2 b1 b2 hab x hx hx2 => ?_, fun j j1 j2 => ?_, fun j j1 j2 b hb => ?_, h.newp, ?_, h.row.keep fun g hg' => g3.block g ((h.rowo g hg').2.2.2.2 i h1 h2) (h.row.lt hg'), fun g hg' => ?_, fun q hq' => ?_⟩, L2, A2, c2, s1, ⟨s2, ?_, fun q hq' => ?_⟩, fun q hq' => (s3 q hq').2.1⟩
  · by_cases e : j = i
    · subst e
      rw [setX_eq]
      have : (fun b => if j = j then O' b else k.OS j b) = O' := by funext b; rw [if_pos rfl]
      show OwnS Unit w' (fun b => if j = j then O' b else k.OS j b) M' (k.sp j) t
      rw [this]
      exact g1
    · rw [setX_ne (by omega)]
      have : (fun b => if j = i then O' b else k.OS j b) = k.OS j := by funext b; rw [if_neg e]
      show OwnS Unit w' (fun b => if j = i then O' b else k.OS j b) M' (k.sp j) (X j)
      rw [this]
      exact ((h.sc j j1 j2).keep (g3.mono fun b hb ho => h.dis j i j1 j2 h1 h2 e b hb ho)).mono hM
  · have hx : if a = i then O' x else k.OS a x := hx
    have hx2 : if b = i then O' x else k.OS b x := hx2
    by_cases ea : a = i
    · rw [if_pos ea] at hx
      rw [if_neg (by omega)] at hx2
      exact hold x (fun ho => h.dis b i b1 b2 h1 h2 (by omega) x hx2 ho) ((h.sc b b1 b2).bound x hx2) hx
    · rw [if_neg ea] at hx
      by_cases eb : b = i
      · rw [if_pos eb] at hx2
        exact hold x (fun ho => h.dis a i a1 a2 h1 h2 ea x hx ho) ((h.sc a a1 a2).bound x hx) hx2
      · rw [if_neg eb] at hx2
        exact h.dis a b a1 a2 b1 b2 hab x hx hx2
  · show ¬ (if j = i then O' k.p else k.OS j k.p) ∧ ¬ (if j = i then O' k.gS else k.OS j k.gS) ∧ ¬ (if j = i then O' k.gq else k.OS j k.gq)
    by_cases e : j = i
    · rw [if_pos e, if_pos e, if_pos e]
      exact ⟨hold _ hp h.hd.lt, hold _ hg h.ltS, hold _ hq h.ltq⟩
    · rw [if_neg e, if_neg e, if_neg e]
      exact h.off j j1 j2
  · have hb : if j = i then O' b else k.OS j b := hb
    by_cases e : j = i
    · rw [if_pos e] at hb
      rcases (g2 b hb).1 with ho | ho
      · exact h.new i h1 h2 b ho
      · exact Nat.le_trans h.below.size ho
    · rw [if_neg e] at hb
      exact h.new j j1 j2 b hb
  · exact h.below.trans (g3.below (fun b hb ho => by have := h.new i h1 h2 b ho; omega) h.below.size)
  · obtain ⟨r1, r2, r3, r4, r5⟩ := h.rowo g hg'
    refine ⟨r1, r2, r3, r4, fun j j1 j2 => ?_⟩
    show ¬ (if j = i then O' g else k.OS j g)
    by_cases e : j = i
    · rw [if_pos e]
      exact hold g (r5 i h1 h2) (h.row.lt hg')
    · rw [if_neg e]
      exact r5 j j1 j2
  · obtain ⟨m1, m2⟩ := h.rum q hq'
    refine ⟨mem_keep m1 g3.size fun h0 g hg' hlt => g3.block g ((m2 h0 g hg').2.2.2.2 i h1 h2) hlt, fun h0 g hg' => ?_⟩
    obtain ⟨r1, r2, r3, r4, r5⟩ := m2 h0 g hg'
    refine ⟨r1, r2, r3, r4, fun j j1 j2 => ?_⟩
    show ¬ (if j = i then O' g else k.OS j g)
    by_cases e : j = i
    · rw [if_pos e]
      exact hold g (r5 i h1 h2) (mem_blk m1 h0 hg')
    · rw [if_neg e]
      exact r5 j j1 j2
  · rcases s4 with e | ⟨g, e1, _, _, e4⟩
    · exact .inl e
    · exact .inr ⟨g, e1, e4⟩
  · refine ⟨(s3 q hq').1, fun h0 g hg' => ?_⟩
    have hB := (s3 q hq').2.2 g hg'
    have hw : w.heap.size ≤ g := Nat.le_trans g4 hB
    refine ⟨by have := h.hd.lt; show g ≠ k.p; omega, by have := h.ltS; show g ≠ k.gS; omega, by have := h.ltq; show g ≠ k.gq; omega, fun e => by have := h.row.lt e; omega, fun j j1 j2 => ?_⟩
    show ¬ (if j = i then O' g else k.OS j g)
    by_cases e : j = i
    · rw [if_pos e]
      exact fun ho => by have := (g2 g ho).2; omega
    · rw [if_neg e]
      exact fun ho => by have := (h.sc j j1 j2).bound g ho; omega
/-- what it told is under way now -/
theorem CmpAt.sent (h : CmpAt w0 w k n M S A c L X) {v : Value} {A2 : Option Addr} {c2 : Nat} (hN : NewS w k n A v L2 A2 c2) (hs : SRow w' A' c' (L ++ L2)) (hA : ∀ g, blkOf A' = some g → blkOf A = some g ∨ w.heap.size ≤ g) (hk : Keeps (fun i => blkOf A ≠ some i) w w') :
    CmpAt w0 (w'.setCell ⟨k.p, 1, none⟩ (.slice A' (L ++ L2).length c')) k n M S A' c' (L ++ L2) X := by
  obtain ⟨W, hW⟩ : ∃ W, W = w'.setCell ⟨k.p, 1, none⟩ (.slice A' (L ++ L2).length c') := ⟨_, rfl⟩
  rw [← hW]
  have hap : blkOf A ≠ some k.p := fun e => (h.rowo _ e).2.1 rfl
  have hag : blkOf A ≠ some k.gS := fun e => (h.rowo _ e).2.2.1 rfl
  have haq : blkOf A ≠ some k.gq := fun e => (h.rowo _ e).2.2.2.1 rfl
  have hd1 := h.hd.keeps hk hap
  have hgr : w'.grownBy W (some k.p) := by rw [hW]; exact grown_setCell (World.grownBy.refl _ _) (.inl rfl) _
  have hblk : ∀ b, b < w.heap.size → b ≠ k.p → blkOf A ≠ some b → W.heap[b]? = w.heap[b]? := fun b hb h1 h2 => (hgr.block b (Nat.lt_of_lt_of_le hb hk.size) (by intro e; injection e with e; exact h1 e)).trans (hk.block b h2 hb)
  have hsz : w.heap.size ≤ W.heap.size := Nat.le_trans hk.size hgr.size
  have hnA : ∀ g, g < w.heap.size → blkOf A ≠ some g → blkOf A' ≠ some g := fun g hg h1 e => by
    rcases hA g e with e2 | e2
    · exact h1 e2
    · omega
  have hKp : Keeps (fun b => b ≠ k.p ∧ blkOf A ≠ some b) w W := ⟨hgr.os.trans hk.os, hgr.tape.trans hk.tape, hgr.output.trans hk.output, hsz, fun b hb hlt => hblk b hlt hb.1 hb.2⟩
  refine ⟨?_, CmpAt.keptS h.rowS (hblk _ h.ltS (fun e => h.newp.2.2.2.1 e.symm) hag), Nat.lt_of_lt_of_le h.ltS hsz, (hblk _ h.ltq (fun e => h.newp.2.2.2.2.1 e.symm) haq).trans h.sil, Nat.lt_of_lt_of_le h.ltq hsz, fun i h1 h2 => ?_, h.dis, h.off, h.new, h.newp, ?_, ?_, fun g hg => ?_, fun q hq => ?_⟩
  · rw [hW]
    exact hd1.set 1 _
  · exact (h.sc i h1 h2).keep (hKp.mono fun b hb => ⟨fun e => (h.off i h1 h2).1 (e ▸ hb), fun e => (h.rowo b e).2.2.2.2 i h1 h2 hb⟩)
  · exact h.below.trans (hKp.below (fun b hb => ⟨by have := h.newp.1; omega, fun e => by have := (h.rowo b e).1; omega⟩) h.below.size)
  · exact hs.keep fun g hg => hgr.block g (hs.lt hg) (by
      intro e
      injection e with e
      subst e
      exact hnA _ h.hd.lt hap hg)
  · rcases hA g hg with e | e
    · exact h.rowo g e
    · refine ⟨Nat.le_trans h.below.size e, by have := h.hd.lt; omega, by have := h.ltS; omega, by have := h.ltq; omega, fun i h1 h2 ho => by have := (h.sc i h1 h2).bound g ho; omega⟩
  · have hq2 : MemsIn w q.A q.x.rum ∧ (0 < q.x.rum.length → ∀ g, blkOf q.A = some g → k.Off n A g) := by
      rcases List.mem_append.1 hq with hq | hq
      · exact h.rum q hq
      · exact hN.rum q hq
    refine ⟨mem_keep hq2.1 hsz fun h0 g hg hlt => hblk g hlt (hq2.2 h0 g hg).1 (hq2.2 h0 g hg).2.2.2.1, fun h0 g hg => ?_⟩
    obtain ⟨r1, r2, r3, r4, r5⟩ := hq2.2 h0 g hg
    exact ⟨r1, r2, r3, hnA g (mem_blk hq2.1 h0 hg) r4, r5⟩
end
end Go.Proofs.Ytghefmppjdneoaa
