/- Layer 12, the plain law of camps: a round, whatever is told. -/
import Derived.Test.YtghefmppjdneoaaFinIM
namespace Go.Proofs.Ytghefmppjdneoaa
open Go.Proofs Stab Go.Shelf Go.RowKit Go.Lib Go.Sort Go.Maps

/-- a camp: its scouts by their numbers, the frames under way -/
structure Cmp where
  X : Int → Sct
  net : List Fr
def setX (X : Int → Sct) (i : Int) (t : Sct) : Int → Sct := fun k => if k = i then t else X k
theorem setX_eq (X : Int → Sct) (i : Int) (t : Sct) : setX X i t i = t := if_pos rfl
theorem setX_ne {X : Int → Sct} {i k : Int} {t : Sct} (h : k ≠ i) : setX X i t k = X k := if_neg h
/-- those up to j have ticked, but for the silent -/
def tickUp (S : Int → Bool) (d : Int) : Nat → Cmp → Cmp
  | 0, C => C
  | j + 1, C => if S ((j + 1 : Nat) : Int) = true then tickUp S d j C else ⟨setX (tickUp S d j C).X ((j + 1 : Nat) : Int) (((tickUp S d j C).X ((j + 1 : Nat) : Int)).tick (wrap64 (d + ((j + 1 : Nat) : Int)))).1, (tickUp S d j C).net ++ (((tickUp S d j C).X ((j + 1 : Nat) : Int)).tick (wrap64 (d + ((j + 1 : Nat) : Int)))).2⟩
/-- the first frame comes, or is lost -/
def deliver (S : Int → Bool) (C : Cmp) : Cmp := match C.net with
  | [] => C
  | x :: r => if S x.to_ = false ∧ S x.frm = false then ⟨setX C.X x.to_ ((C.X x.to_).hear x).1, r ++ ((C.X x.to_).hear x).2⟩ else ⟨C.X, r⟩
def run (S : Int → Bool) : Nat → Cmp → Cmp
  | 0, C => C
  | k + 1, C => run S k (deliver S C)
theorem run_succ (S : Int → Bool) : ∀ (k : Nat) (C : Cmp), run S (k + 1) C = deliver S (run S k C)
  | 0, _ => rfl
  | k + 1, C => run_succ S k (deliver S C)
/-- a frame that will bring the answer is under way -/
def Pend (t : Sct) (i : Int) (x : Fr) : Prop := (x.to_ = t.tgt ∧ x.kind = 1 ∧ x.frm = i ∧ x.seq = t.seq) ∨ (x.to_ = i ∧ x.kind = 2 ∧ x.frm = t.tgt ∧ x.seq = t.seq ∧ x.node = t.tgt)
def Waits (S : Int → Bool) (t : Sct) (i : Int) (net : List Fr) : Prop := 0 < t.tgt → S t.tgt = false → t.got = true ∨ ∃ x ∈ net, Pend t i x
/-- what scouts and frames obey: P ahead of a tick, Q behind it, G what is told; w alone may make that more is told -/
structure Law (n : Int) (S : Int → Bool) (w : Int) (P Q : Bool → Int → Sct → Prop) (G : Bool → Fr → Prop) : Prop where
  std : ∀ {f i t}, P f i t → Std t i n ∧ ∃ R : Nat, t.ticks = R
  std' : ∀ {f i t}, Q f i t → Std t i n
  tick : ∀ {f i t} (d : Int), 1 ≤ i ∧ i ≤ n → S i = false → P f i t → (t.ticks % 4 = 0 ∨ (0 < t.tgt → S t.tgt = false → t.got = true)) → Q f i (t.tick d).1 ∧ ∀ x ∈ (t.tick d).2, G f x
  hear : ∀ {f i t x}, 1 ≤ i ∧ i ≤ n → S i = false → Q f i t → FrOk n x → x.to_ = i → S x.frm = false → (x.kind = 2 → S x.node = false) → G f x → ∃ g, (g = f ∨ (f = false ∧ g = true ∧ i = w)) ∧ Q g i (t.hear x).1 ∧ ∀ y ∈ (t.hear x).2, G g y
  up : ∀ {i t}, i ≠ w → Q false i t → Q true i t
  upG : ∀ {x}, G false x → G true x
/-- a frame of a camp of which some are silent -/
def FrS (n : Int) (S : Int → Bool) (G : Bool → Fr → Prop) (f : Bool) (x : Fr) : Prop := FrOk n x ∧ S x.frm = false ∧ (x.kind = 2 → S x.node = false) ∧ G f x
/-- all have ticked, frames are under way -/
structure Stage (n : Int) (S : Int → Bool) (Q : Bool → Int → Sct → Prop) (G : Bool → Fr → Prop) (f : Bool) (C : Cmp) : Prop where
  sc : ∀ i, 1 ≤ i → i ≤ n → S i = false → Q f i (C.X i) ∧ Waits S (C.X i) i C.net
  fr : ∀ x ∈ C.net, FrS n S G f x
  rl : ∀ i, 1 ≤ i → i ≤ n → (C.X i).rel.length ≤ 16
/-- how many asked pings are kept, by those up to j -/
def relS (X : Int → Sct) : Nat → Nat
  | 0 => 0
  | j + 1 => relS X j + (X ((j + 1 : Nat) : Int)).rel.length
theorem relS_set (X : Int → Sct) (i : Int) (t : Sct) : ∀ j : Nat, relS (setX X i t) j + (if 1 ≤ i ∧ i ≤ j then (X i).rel.length else 0) = relS X j + (if 1 ≤ i ∧ i ≤ j then t.rel.length else 0)
  | 0 => by
    rw [if_neg (by omega), if_neg (by omega)]
    rfl
  | j + 1 => by
    have ih := relS_set X i t j
    unfold relS
    by_cases h : ((j + 1 : Nat) : Int) = i
    · subst h
      rw [setX_eq, if_pos (by omega), if_pos (by omega)]
      rw [if_neg (by omega), if_neg (by omega)] at ih
      omega
    · rw [setX_ne h]
      by_cases h2 : 1 ≤ i ∧ i ≤ (j : Int)
      · rw [if_pos (by omega), if_pos (by omega)]
        rw [if_pos h2, if_pos h2] at ih
        omega
      · rw [if_neg (by omega), if_neg (by omega)]
        rw [if_neg h2, if_neg h2] at ih
        omega
theorem relS_le {X : Int → Sct} : ∀ {j : Nat}, (∀ i, 1 ≤ i → i ≤ (j : Int) → (X i).rel.length ≤ 16) → relS X j ≤ 16 * j
  | 0, _ => Nat.le_refl 0
  | j + 1, h => by
    have ih := relS_le (j := j) fun i h1 h2 => h i h1 (by omega)
    have := h ((j + 1 : Nat) : Int) (by omega) (Int.le_refl _)
    unfold relS
    omega
def phi (n : Nat) (C : Cmp) : Nat := wts C.net + relS C.X n
section
variable {n : Nat} {S : Int → Bool} {w : Int} {P Q : Bool → Int → Sct → Prop} {G : Bool → Fr → Prop} {f : Bool} {C : Cmp}
theorem FrS.up (L : Law n S w P Q G) {x : Fr} {g : Bool} (h : FrS n S G f x) (hg : g = f ∨ (f = false ∧ g = true)) : FrS n S G g x := by
  rcases hg with rfl | ⟨rfl, rfl⟩
  · exact h
  · exact ⟨h.1, h.2.1, h.2.2.1, L.upG h.2.2.2⟩
theorem wt_pos (x : Fr) : 1 ≤ wt x := by
  unfold wt
  split
  · omega
  · split <;> omega
/-- one frame -/
theorem Stage.deliver (L : Law n S w P Q G) (h : Stage n S Q G f C) {x : Fr} {r : List Fr} (hx : C.net = x :: r) :
    ∃ g, Stage n S Q G g (Go.Proofs.Ytghefmppjdneoaa.deliver S C) ∧ phi n (Go.Proofs.Ytghefmppjdneoaa.deliver S C) + 1 ≤ phi n C ∧ ∀ i, S i = true → (Go.Proofs.Ytghefmppjdneoaa.deliver S C).X i = C.X i := by
  have hxo := h.fr x (by rw [hx]; exact List.mem_cons_self)
  have hD : Go.Proofs.Ytghefmppjdneoaa.deliver S C = if S x.to_ = false ∧ S x.frm = false then ⟨setX C.X x.to_ ((C.X x.to_).hear x).1, r ++ ((C.X x.to_).hear x).2⟩ else ⟨C.X, r⟩ := by
    unfold Go.Proofs.Ytghefmppjdneoaa.deliver
    rw [hx]
  have hwt : wts C.net = wt x + wts r := by rw [hx]; rfl
  rw [hD]
  by_cases hc : S x.to_ = false ∧ S x.frm = false
  · rw [if_pos hc]
    have hto := hxo.1.to_
    obtain ⟨hq, hqw⟩ := h.sc x.to_ hto.1 hto.2 hc.1
    have hstd := L.std' hq
    have hH := hstd.hear hto hxo.1 rfl
    obtain ⟨g, hg, hQ, hG⟩ := L.hear hto hc.1 hq hxo.1 rfl hc.2 hxo.2.2.1 hxo.2.2.2
    have hg' : g = f ∨ (f = false ∧ g = true) := by rcases hg with e | ⟨e1, e2, _⟩; exact .inl e; exact .inr ⟨e1, e2⟩
    refine ⟨g, ⟨fun i h1 h2 hSi => ?_, fun y hy => ?_, fun i h1 h2 => ?_⟩, ?_, fun i hSi => ?_⟩
    · by_cases hi : i = x.to_
      · subst hi
        dsimp only
        rw [setX_eq]
        refine ⟨hQ, fun ht hS => ?_⟩
        rw [hH.tgt] at ht hS
        rcases hqw ht hS with e | ⟨y, hy, hp⟩
        · rcases hH.got with e2 | ⟨e2, _⟩
          · exact .inl (e2.trans e)
          · exact .inl e2
        · rw [hx] at hy
          rcases List.mem_cons.1 hy with e | hy
          · subst e
            rcases hp with ⟨p1, _⟩ | ⟨_, p2, p3, p4, p5⟩
            · exact absurd p1.symm hstd.fit.tgt
            · exact .inl (hH.hit p2 p3 p4 p5)
          · refine .inr ⟨y, List.mem_append_left _ hy, ?_⟩
            unfold Pend at hp ⊢
            rw [hH.tgt, hH.seq]
            exact hp
      · dsimp only
        rw [setX_ne hi]
        obtain ⟨k1, k2⟩ := h.sc i h1 h2 hSi
        refine ⟨?_, fun ht hS => ?_⟩
        · rcases hg with e | ⟨e1, e2, e3⟩
          · rw [e]; exact k1
          · rw [e2]
            rw [e1] at k1
            exact L.up (fun e => hi (e.trans e3.symm)) k1
        · rcases k2 ht hS with e | ⟨y, hy, hp⟩
          · exact .inl e
          · rw [hx] at hy
            rcases List.mem_cons.1 hy with e | hy
            · subst e
              rcases hp with ⟨p1, p2, p3, p4⟩ | ⟨p1, _⟩
              · obtain ⟨z, hz, z1, z2, z3, z4⟩ := hH.ans p2
                refine .inr ⟨z, List.mem_append_right _ hz, .inr ⟨z1.trans p3, z2, ?_, z3.trans p4, z4.trans p1⟩⟩
                exact ((hH.fr z hz).2.1).trans p1
              · exact absurd p1.symm hi
            · exact .inr ⟨y, List.mem_append_left _ hy, hp⟩
    · rcases List.mem_append.1 hy with hy | hy
      · exact (h.fr y (by rw [hx]; exact List.mem_cons_of_mem _ hy)).up L hg'
      · obtain ⟨y1, y2, y3⟩ := hH.fr y hy
        refine ⟨y1, by rw [y2]; exact hc.1, fun hk => ?_, hG y hy⟩
        rcases y3 hk with e | ⟨_, e⟩
        · rw [e]; exact hc.1
        · rw [e]; exact hc.2
    · dsimp only
      by_cases hi : i = x.to_
      · rw [hi, setX_eq]
        exact hH.std.rlen
      · rw [setX_ne hi]
        exact h.rl i h1 h2
    · unfold phi
      dsimp only
      rw [wts_app, hwt]
      have h1 := relS_set C.X x.to_ ((C.X x.to_).hear x).1 n
      rw [if_pos hto, if_pos hto] at h1
      have h2 := hH.wts
      omega
    · dsimp only
      exact setX_ne fun e => by rw [e, hc.1] at hSi; cases hSi
  · rw [if_neg hc]
    have hSt : S x.to_ = true := by
      cases hs : S x.to_ with
      | true => rfl
      | false => exact absurd ⟨hs, hxo.2.1⟩ hc
    refine ⟨f, ⟨fun i h1 h2 hSi => ?_, fun y hy => h.fr y (by rw [hx]; exact List.mem_cons_of_mem _ hy), h.rl⟩, ?_, fun _ _ => rfl⟩
    · obtain ⟨k1, k2⟩ := h.sc i h1 h2 hSi
      refine ⟨k1, fun ht hS => ?_⟩
      rcases k2 ht hS with e | ⟨y, hy, hp⟩
      · exact .inl e
      · rw [hx] at hy
        rcases List.mem_cons.1 hy with e | hy
        · subst e
          rcases hp with ⟨p1, _⟩ | ⟨p1, _⟩
          · have hS' : S (C.X i).tgt = false := hS
            rw [← p1, hSt] at hS'; cases hS'
          · rw [p1, hSi] at hSt; cases hSt
        · exact .inr ⟨y, hy, hp⟩
    · unfold phi
      dsimp only
      rw [hwt]
      have := wt_pos x
      omega
/-- all frames -/
theorem Stage.run (L : Law n S w P Q G) : ∀ (k : Nat) {f : Bool} {C : Cmp}, Stage n S Q G f C → ∃ g, Stage n S Q G g (Go.Proofs.Ytghefmppjdneoaa.run S k C) ∧ ((Go.Proofs.Ytghefmppjdneoaa.run S k C).net = [] ∨ phi n (Go.Proofs.Ytghefmppjdneoaa.run S k C) + k ≤ phi n C) ∧ ∀ i, S i = true → (Go.Proofs.Ytghefmppjdneoaa.run S k C).X i = C.X i
  | 0, f, C, h => ⟨f, h, .inr (Nat.le_refl _), fun _ _ => rfl⟩
  | k + 1, f, C, h => by
    rw [run_succ]
    obtain ⟨g, h1, h2, h3⟩ := Stage.run L k h
    cases hn : (Go.Proofs.Ytghefmppjdneoaa.run S k C).net with
    | nil =>
      have e : Go.Proofs.Ytghefmppjdneoaa.deliver S (Go.Proofs.Ytghefmppjdneoaa.run S k C) = Go.Proofs.Ytghefmppjdneoaa.run S k C := by
        unfold Go.Proofs.Ytghefmppjdneoaa.deliver
        rw [hn]
      rw [e]
      exact ⟨g, h1, .inl hn, h3⟩
    | cons x r =>
      obtain ⟨g', k1, k2, k3⟩ := h1.deliver L hn
      refine ⟨g', k1, ?_, fun i hi => (k3 i hi).trans (h3 i hi)⟩
      rcases h2 with e | e
      · rw [hn] at e; cases e
      · exact .inr (by omega)
end
end Go.Proofs.Ytghefmppjdneoaa
