/- Layer 12, the plain law of ScoutReturns: rounds. -/
import Derived.Test.YtghefmppjdneoaaRetCM
namespace Go.Proofs.Ytghefmppjdneoaa
open Go.Proofs Stab Go.Shelf Go.RowKit Go.Lib Go.Sort Go.Maps

/-- a scout of a camp to which w returns; if so, it knows that -/
def RokD (w n : Int) (dn : Bool) (R : Int → Nat) (f : Bool) (i : Int) (t : Sct) : Prop := Rok w n f R i t ∧ (dn = true → i ≠ w → t.v w = some ⟨w, 1, 0⟩)
def GokR (w : Int) (f : Bool) (x : Fr) : Prop := (∀ m ∈ x.rum, WordR w f m) ∧ x.rum.length ≤ 6
theorem ret_law {n : Nat} {w : Int} (hw : 1 ≤ w ∧ w ≤ n) (hn : n ≤ 6) (dn : Bool) {R R' : Int → Nat} (hR : ∀ i, R' i = R i + 1) : Law n (fun _ => false) w (RokD w n dn R) (RokD w n dn R') (GokR w) where
  std := fun {f i t} h => ⟨h.1.std, R i, h.1.ticks⟩
  std' := fun h => h.1.std
  tick := fun {f i t} d hi _ h hg => by
    obtain ⟨k1, k2, k3, _⟩ := h.1.tick hw (by omega) hi (hR i) (hg.imp id fun e ht => e ht rfl) d
    exact ⟨⟨k1, fun hd hiw => by rw [k3]; exact h.2 hd hiw⟩, k2⟩
  hear := fun {f i t x} hi _ h hx hto _ _ hG => by
    obtain ⟨g, hg, k1, k2, k3, _⟩ := h.1.hear hw (by omega) hi hx hto hG.1
    exact ⟨g, hg, ⟨k1, fun hd hiw => k3 hiw (h.2 hd hiw)⟩, k2⟩
  up := fun {i t} hi h => ⟨⟨h.1.std, h.1.ticks, h.1.oth, fun e => absurd e hi, fun _ => (by
    rcases h.1.him hi with e | ⟨e, _⟩
    · exact .inl e
    · cases e), fun k r hr => (h.1.f k r hr).up (.inr ⟨rfl, rfl⟩)⟩, h.2⟩
  upG := fun h => ⟨fun m hm => (h.1 m hm).up (.inr ⟨rfl, rfl⟩), h.2⟩
/-- it knows, or a frame that will bring it is under way -/
def Ex (w : Int) (t : Sct) (i : Int) (net : List Fr) : Prop := t.v w = some ⟨w, 1, 0⟩ ∨ ∃ x ∈ net, (x.to_ = w ∧ x.kind = 1 ∧ x.frm = i ∧ (⟨w, 0, 2⟩ : Mem) ∈ x.rum) ∨ (x.to_ = i ∧ x.frm = w ∧ (⟨w, 1, 0⟩ : Mem) ∈ x.rum)
section
variable {n : Nat} {w : Int} {f : Bool} {C : Cmp} {R R' : Int → Nat}
theorem ex_deliver (hw : 1 ≤ w ∧ w ≤ n) (hn : n ≤ 6) (h : Stage n (fun _ => false) (RokD w n false R') (GokR w) f C) (he : ∀ i, 1 ≤ i → i ≤ (n : Int) → i ≠ w → Ex w (C.X i) i C.net) :
    ∀ i, 1 ≤ i → i ≤ (n : Int) → i ≠ w → Ex w ((deliver (fun _ => false) C).X i) i (deliver (fun _ => false) C).net := by
  intro i i1 i2 i3
  cases hnet : C.net with
  | nil =>
    have e : deliver (fun _ => false) C = C := by
      unfold deliver
      rw [hnet]
    rw [e]
    exact he i i1 i2 i3
  | cons x r =>
    have hD : deliver (fun _ => false) C = ⟨setX C.X x.to_ ((C.X x.to_).hear x).1, r ++ ((C.X x.to_).hear x).2⟩ := by
      unfold deliver
      rw [hnet]
      exact if_pos ⟨rfl, rfl⟩
    have hxo := h.fr x (by rw [hnet]; exact List.mem_cons_self)
    have hto := hxo.1.to_
    obtain ⟨hq, _⟩ := h.sc x.to_ hto.1 hto.2 rfl
    obtain ⟨g, hg, k1, k2, k3, k4, k5⟩ := hq.1.hear hw (by omega) hto hxo.1 rfl hxo.2.2.2.1
    rw [hD]
    have hei := he i i1 i2 i3
    rw [hnet] at hei
    by_cases hi : i = x.to_
    · subst hi
      dsimp only
      rw [setX_eq]
      rcases hei with e | ⟨y, hy, hp⟩
      · exact .inl (k3 i3 e)
      · rcases List.mem_cons.1 hy with e | hy
        · subst e
          rcases hp with ⟨p1, _⟩ | ⟨_, _, p3⟩
          · exact absurd p1 i3
          · exact .inl (k4 i3 p3)
        · exact .inr ⟨y, List.mem_append_left _ hy, hp⟩
    · dsimp only
      rw [setX_ne hi]
      rcases hei with e | ⟨y, hy, hp⟩
      · exact .inl e
      · rcases List.mem_cons.1 hy with e | hy
        · subst e
          rcases hp with ⟨p1, p2, p3, p4⟩ | ⟨p1, _⟩
          · obtain ⟨z, hz, z1, z2, z3⟩ := k5 p1 p2 p4
            exact .inr ⟨z, List.mem_append_right _ hz, .inr ⟨z1.trans p3, z2, z3⟩⟩
          · exact absurd p1.symm hi
        · exact .inr ⟨y, List.mem_append_left _ hy, hp⟩
theorem ex_run (hw : 1 ≤ w ∧ w ≤ n) (hn : n ≤ 6) (hR : ∀ i, R' i = R i + 1) (h : Stage n (fun _ => false) (RokD w n false R') (GokR w) f C) (he : ∀ i, 1 ≤ i → i ≤ (n : Int) → i ≠ w → Ex w (C.X i) i C.net) :
    ∀ k i, 1 ≤ i → i ≤ (n : Int) → i ≠ w → Ex w ((run (fun _ => false) k C).X i) i (run (fun _ => false) k C).net
  | 0 => he
  | k + 1 => by
    rw [run_succ]
    obtain ⟨g, h1, _⟩ := h.run (ret_law hw hn false hR) k
    exact ex_deliver hw hn h1 (ex_run hw hn hR h he k)
theorem ex_tick (hw : 1 ≤ w ∧ w ≤ n) (hn : n ≤ 6) (hR : ∀ i, R' i = R i + 1) (h12 : ∀ i, i ≠ w → R i % 16 = 12) (h : Calmed n (fun _ => false) (RokD w n false R) f C) (d : Int) : ∀ j, j ≤ n → ∀ i, 1 ≤ i → i ≤ (j : Int) → i ≠ w → Ex w ((tickUp (fun _ => false) d j C).X i) i (tickUp (fun _ => false) d j C).net
  | 0, _ => fun i h1 h2 => by omega
  | j + 1, hj => by
    have ih := ex_tick hw hn hR h12 h d j (by omega)
    have hT := h.ticking (ret_law hw hn false hR) hn d j (by omega)
    intro i i1 i2 i3
    obtain ⟨D, hD⟩ : ∃ D, D = tickUp (fun _ => false) d j C := ⟨_, rfl⟩
    rw [← hD] at ih hT
    have e : tickUp (fun _ => false) d (j + 1) C = ⟨setX D.X ((j + 1 : Nat) : Int) ((D.X ((j + 1 : Nat) : Int)).tick (wrap64 (d + ((j + 1 : Nat) : Int)))).1, D.net ++ ((D.X ((j + 1 : Nat) : Int)).tick (wrap64 (d + ((j + 1 : Nat) : Int)))).2⟩ := by
      rw [hD]
      exact if_neg (fun e => by cases e)
    rw [e]
    by_cases hij : i = ((j + 1 : Nat) : Int)
    · subst hij
      dsimp only
      rw [setX_eq]
      have hX : D.X ((j + 1 : Nat) : Int) = C.X ((j + 1 : Nat) : Int) := hT.rest _ (.inr (.inl (by omega)))
      rw [hX]
      obtain ⟨k1, k2⟩ := h.sc _ i1 (by omega) rfl
      obtain ⟨t1, t2, t3, t4⟩ := k1.1.tick hw (by omega) ⟨i1, by omega⟩ (hR _) (k2.imp id fun e ht => e ht rfl) (wrap64 (d + ((j + 1 : Nat) : Int)))
      rcases k1.1.him i3 with hv | ⟨_, hv⟩
      · obtain ⟨y, hy, y1, y2, y3, y4⟩ := t4 (h12 _ i3) i3 hv
        exact .inr ⟨y, List.mem_append_right _ hy, .inl ⟨y1, y2, y3, y4⟩⟩
      · exact .inl (by rw [t3]; exact hv)
    · dsimp only
      rw [setX_ne hij]
      rcases ih i i1 (by omega) i3 with e | ⟨y, hy, hp⟩
      · exact .inl e
      · exact .inr ⟨y, List.mem_append_left _ hy, hp⟩
/-- the round in which all ask it -/
theorem ret_known (hw : 1 ≤ w ∧ w ≤ n) (hn : n ≤ 6) (hR : ∀ i, R' i = R i + 1) (h12 : ∀ i, i ≠ w → R i % 16 = 12) (h : Calmed n (fun _ => false) (RokD w n false R) f C) (d : Int) {K : Nat} {g : Bool} (hnet : (run (fun _ => false) K (tickUp (fun _ => false) d n C)).net = []) (hc : Calmed n (fun _ => false) (RokD w n false R') g (run (fun _ => false) K (tickUp (fun _ => false) d n C))) :
    Calmed n (fun _ => false) (RokD w n true R') g (run (fun _ => false) K (tickUp (fun _ => false) d n C)) := by
  have hT := h.ticking (ret_law hw hn false hR) hn d n (Nat.le_refl n)
  have hSt : Stage n (fun _ => false) (RokD w n false R') (GokR w) f (tickUp (fun _ => false) d n C) := ⟨hT.sc, hT.fr, fun i h1 h2 => by rw [hT.rel]; exact h.rl i h1 h2⟩
  have hE := ex_run hw hn hR hSt (ex_tick hw hn hR h12 h d n (Nat.le_refl n)) K
  refine ⟨fun i i1 i2 i3 => ?_, hc.net, hc.rl⟩
  obtain ⟨k1, k2⟩ := hc.sc i i1 i2 i3
  refine ⟨⟨k1.1, fun _ hiw => ?_⟩, k2⟩
  rcases hE i i1 i2 hiw with e | ⟨y, hy, _⟩
  · exact e
  · rw [hnet] at hy; cases hy
end
end Go.Proofs.Ytghefmppjdneoaa
