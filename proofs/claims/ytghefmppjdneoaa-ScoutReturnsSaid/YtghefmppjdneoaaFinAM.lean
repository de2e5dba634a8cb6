/- Layer 12, the plain law of camps: what a tick, a frame makes of a scout of a camp, whatever is told. -/
import Derived.Test.YtghefmppjdneoaaRisPM
namespace Go.Proofs.Ytghefmppjdneoaa
open Go.Proofs Stab Go.Shelf Go.RowKit Go.Lib Go.Sort Go.Maps

/-- another one -/
def Oth (n i x : Int) : Prop := 1 ≤ x ∧ x ≤ n ∧ x ≠ i
/-- only what is known, what is told on, and since when, may differ -/
structure Alike (t u : Sct) : Prop where
  me : u.me = t.me
  nodes : u.nodes = t.nodes
  tgt : u.tgt = t.tgt
  seq : u.seq = t.seq
  got : u.got = t.got
  help : u.help = t.help
  ticks : u.ticks = t.ticks
  last : u.last = t.last
  line : u.line = t.line
  rel : u.rel = t.rel
  left : u.left = t.left
theorem Alike.refl (t : Sct) : Alike t t := ⟨rfl, rfl, rfl, rfl, rfl, rfl, rfl, rfl, rfl, rfl, rfl⟩
theorem Alike.trans {t u v : Sct} (h : Alike t u) (k : Alike u v) : Alike t v :=
  ⟨k.me.trans h.me, k.nodes.trans h.nodes, k.tgt.trans h.tgt, k.seq.trans h.seq, k.got.trans h.got, k.help.trans h.help, k.ticks.trans h.ticks, k.last.trans h.last, k.line.trans h.line, k.rel.trans h.rel, k.left.trans h.left⟩
theorem alike_learn (t : Sct) (m : Mem) : Alike t (t.learn m) := by
  unfold Sct.learn
  split <;> exact ⟨rfl, rfl, rfl, rfl, rfl, rfl, rfl, rfl, rfl, rfl, rfl⟩
theorem alike_age1 (t : Sct) (m : Mem) : Alike t (t.age1 m) := by
  unfold Sct.age1
  split
  · exact alike_learn _ _
  · exact Alike.refl _
theorem alike_foldl {α : Type} (f : Sct → α → Sct) (hf : ∀ t a, Alike t (f t a)) : ∀ (l : List α) (t : Sct), Alike t (l.foldl f t)
  | [], t => Alike.refl t
  | a :: l, t => by
    rw [List.foldl_cons]
    exact (hf t a).trans (alike_foldl f hf l _)
theorem alike_age (t : Sct) : Alike t t.age := alike_foldl _ alike_age1 _ _
theorem alike_tell (t : Sct) (l : List Fr) : Alike t (t.tell l).1 := by
  have e := tell_me t l
  generalize (t.tell l).1.f = F at e
  rw [e]
  exact ⟨rfl, rfl, rfl, rfl, rfl, rfl, rfl, rfl, rfl, rfl, rfl⟩
theorem alike_rumour (t : Sct) (m : Mem) : Alike t (t.rumour m) := by
  unfold Sct.rumour
  split
  · exact Alike.refl _
  · split
    · exact alike_learn _ _
    · split
      · exact Alike.refl _
      · split
        · exact ⟨rfl, rfl, rfl, rfl, rfl, rfl, rfl, rfl, rfl, rfl, rfl⟩
        · split
          · exact alike_learn _ _
          · exact Alike.refl _
/-- what hears of a frame's words, ahead of the answer -/
def heard (t : Sct) (x : Fr) : Sct := x.rum.foldl Sct.rumour (if (t.getM x.frm).s ≠ 0 then { t with f := Hm.push1 5 t.f (t.getM x.frm) } else t)
theorem alike_heard (t : Sct) (x : Fr) : Alike t (heard t x) := by
  unfold heard
  refine Alike.trans ?_ (alike_foldl _ alike_rumour _ _)
  split
  · exact ⟨rfl, rfl, rfl, rfl, rfl, rfl, rfl, rfl, rfl, rfl, rfl⟩
  · exact Alike.refl _
/-- what is told: the frames as they were given, with the teller's number and rumours -/
theorem tell_map (t : Sct) (l : List Fr) : (t.tell l).2.map (fun x => (x.to_, x.kind, x.seq, x.node)) = l.map (fun x => (x.to_, x.kind, x.seq, x.node)) ∧ ∀ x ∈ (t.tell l).2, x.frm = t.me := by
  have h : ∀ (l : List Fr) (a : Sct × List Fr), a.1.me = t.me → (∀ x ∈ a.2, x.frm = t.me) → ((l.foldl Sct.tell1 a).2.map (fun x => (x.to_, x.kind, x.seq, x.node)) = a.2.map (fun x => (x.to_, x.kind, x.seq, x.node)) ++ l.map (fun x => (x.to_, x.kind, x.seq, x.node)) ∧ ∀ x ∈ (l.foldl Sct.tell1 a).2, x.frm = t.me) := by
    intro l
    induction l with
    | nil => exact fun a _ h => ⟨by rw [List.foldl_nil, List.map_nil, List.append_nil], h⟩
    | cons x r ih =>
      intro a hm hf
      rw [List.foldl_cons]
      obtain ⟨h1, h2⟩ := ih (Sct.tell1 a x) hm (by
        intro y hy
        rw [tell1_eq] at hy
        rcases List.mem_append.1 hy with hy | hy
        · exact hf y hy
        · rw [List.mem_singleton.1 hy]
          exact hm)
      refine ⟨?_, h2⟩
      rw [h1, tell1_eq]
      simp only [List.map_append, List.map_cons, List.map_nil, List.append_assoc, List.cons_append, List.nil_append]
  obtain ⟨h1, h2⟩ := h l (t, []) rfl (fun x hx => by cases hx)
  rw [List.map_nil, List.nil_append] at h1
  exact ⟨h1, h2⟩
/-- a scout of a camp -/
structure Std (t : Sct) (i n : Int) : Prop where
  fit : Fit t i n
  left : t.left = false
  tgt : 0 ≤ t.tgt ∧ t.tgt ≤ n
  help : ∀ x ∈ t.help, Oth n i x
  hlen : t.help.length ≤ 2
  line : ∀ x ∈ t.line, Oth n i x
  llen : t.line.length ≤ 4
  rel : ∀ r ∈ t.rel, Oth n i r.to_ ∧ Oth n i r.org
  rlen : t.rel.length ≤ 16
theorem Std.alike {t u : Sct} {i n : Int} (h : Std t i n) (ha : Alike t u) (hf : Fit u i n) : Std u i n :=
  ⟨hf, ha.left.trans h.left, by rw [ha.tgt]; exact h.tgt, by rw [ha.help]; exact h.help, by rw [ha.help]; exact h.hlen, by rw [ha.line]; exact h.line, by rw [ha.line]; exact h.llen, by rw [ha.rel]; exact h.rel, by rw [ha.rel]; exact h.rlen⟩
theorem Std.fresh {i n : Int} (hi : 1 ≤ i ∧ i ≤ n) (hn : n ≤ 6) : Std (Sct.fresh i n) i n :=
  ⟨Fit.fresh hi hn, rfl, ⟨Int.le_refl 0, by show (0 : Int) ≤ n; omega⟩, fun x hx => (by cases hx), Nat.zero_le 2, fun x hx => (by cases hx), Nat.zero_le 4, fun x hx => (by cases hx), Nat.zero_le 16⟩
/-- a frame of a camp -/
structure FrOk (n : Int) (x : Fr) : Prop where
  to_ : 1 ≤ x.to_ ∧ x.to_ ≤ n
  frm : Oth n x.to_ x.frm
  kind : x.kind = 1 ∨ x.kind = 2 ∨ x.kind = 3
/-- how many frames may come of it -/
def wt (x : Fr) : Nat := if x.kind = 1 then 2 else if x.kind = 3 then 4 else 1
def wts (l : List Fr) : Nat := (l.map wt).sum
theorem wts_app (a b : List Fr) : wts (a ++ b) = wts a + wts b := by unfold wts; rw [List.map_append, List.sum_append]
theorem wts_map {a b : List Fr} (h : a.map (fun x => (x.to_, x.kind, x.seq, x.node)) = b.map (fun x => (x.to_, x.kind, x.seq, x.node))) : wts a = wts b := by
  have e : wt = (fun p : Int × Int × Int × Int => if p.2.1 = 1 then 2 else if p.2.1 = 3 then 4 else 1) ∘ (fun x : Fr => (x.to_, x.kind, x.seq, x.node)) := rfl
  unfold wts
  rw [e, ← List.map_map, h, List.map_map]
section
variable {t : Sct} {i n : Int}
theorem Std.peers (h : Std t i n) : ∀ x ∈ t.peers, Oth n i x := by
  intro x hx
  have hne := mem_peers hx
  rw [h.fit.meq] at hne
  unfold Sct.peers present at hx
  obtain ⟨m, hm, rfl⟩ := List.mem_map.1 (List.mem_filter.1 hx).1
  have hm := (List.mem_filter.1 hm).1
  unfold all at hm
  obtain ⟨k, _, hk⟩ := List.mem_filterMap.1 hm
  have hs := (h.fit.sane k m hk).1
  have hd := (h.fit.dom k).1 (by rw [hk]; rfl)
  exact ⟨by omega, by omega, hne⟩
theorem all_nodup {v : Known} (hs : ∀ k m, v k = some m → m.n = k) : ((all v).map Mem.n).Nodup := by
  have h : ∀ l : List Int, l.Nodup → ((l.filterMap v).map Mem.n).Nodup ∧ ∀ x ∈ (l.filterMap v).map Mem.n, x ∈ l := by
    intro l
    induction l with
    | nil => exact fun _ => ⟨List.nodup_nil, fun x hx => by cases hx⟩
    | cons a l ih =>
      intro hl
      have ⟨h1, h2⟩ := List.nodup_cons.1 hl
      have ⟨i1, i2⟩ := ih h2
      rw [List.filterMap_cons]
      cases hv : v a with
      | none => exact ⟨i1, fun x hx => List.mem_cons_of_mem _ (i2 x hx)⟩
      | some m =>
        have hm := hs a m hv
        simp only [List.map_cons, hm]
        exact ⟨List.nodup_cons.2 ⟨fun hx => h1 (i2 a hx), i1⟩, fun x hx => by
          rcases List.mem_cons.1 hx with e | e
          · rw [e]; exact List.mem_cons_self
          · exact List.mem_cons_of_mem _ (i2 x e)⟩
  exact (h nodes (by unfold nodes; decide)).1
theorem Std.peers_nodup (h : Std t i n) : t.peers.Nodup := by
  unfold Sct.peers present
  refine List.Nodup.sublist List.filter_sublist ?_
  have := all_nodup (v := t.v) fun k m hk => (h.fit.sane k m hk).1
  exact List.Nodup.sublist (List.Sublist.map _ List.filter_sublist) this
theorem oth_len {n i : Int} (hi : 1 ≤ i ∧ i ≤ n) (hn : n ≤ 6) {l : List Int} (hl : ∀ x ∈ l, Oth n i x) (hd : l.Nodup) : l.length ≤ 5 := by
  have hs : (i :: l).Nodup := List.nodup_cons.2 ⟨fun h => (hl i h).2.2 rfl, hd⟩
  have hsub : ∀ x ∈ i :: l, x ∈ [1, 2, 3, 4, 5, 6] := by
    intro x hx
    rcases List.mem_cons.1 hx with e | e
    · simp; omega
    · have := hl x e
      unfold Oth at this
      simp; omega
  have := List.Nodup.length_le_of_subset hs hsub
  simp at this
  omega
theorem Std.nextLine (h : Std t i n) (hi : 1 ≤ i ∧ i ≤ n) (hn : n ≤ 6) (d : Int) : (∀ x ∈ t.nextLine d, Oth n i x) ∧ (t.nextLine d).length ≤ 5 := by
  unfold Sct.nextLine
  split
  · have hp := mixR_perm t.peers d
    refine ⟨fun x hx => h.peers x (hp.subset hx), ?_⟩
    rw [hp.length_eq]
    exact oth_len hi hn h.peers h.peers_nodup
  · unfold Sct.line1
    exact ⟨fun x hx => h.line x (List.mem_filter.1 hx).1, Nat.le_trans (List.length_filter_le _ _) (Nat.le_trans h.llen (by omega))⟩
theorem Std.choose (h : Std t i n) (hi : 1 ≤ i ∧ i ≤ n) (hn : n ≤ 6) (d : Int) : (0 ≤ (t.choose d).1 ∧ (t.choose d).1 ≤ n) ∧ (∀ x ∈ (t.choose d).2.line, Oth n i x) ∧ (t.choose d).2.line.length ≤ 4 ∧ (t.choose d).2.rel = t.rel ∧ (t.choose d).2.last = t.last ∧ (t.choose d).2.ticks = t.ticks := by
  unfold Sct.choose
  split
  · have ⟨h1, h2⟩ := h.nextLine hi hn d
    unfold Sct.next
    cases hq : t.nextLine d with
    | nil => exact ⟨⟨Int.le_refl 0, by show (0 : Int) ≤ n; omega⟩, fun x hx => (by cases hx), Nat.zero_le 4, rfl, rfl, rfl⟩
    | cons x r =>
      rw [hq] at h1 h2
      have ho := h1 x List.mem_cons_self
      unfold Oth at ho
      rw [List.length_cons] at h2
      exact ⟨⟨by show 0 ≤ x; omega, by show x ≤ n; omega⟩, fun y hy => h1 y (List.mem_cons_of_mem _ hy), by show r.length ≤ 4; omega, rfl, rfl, rfl⟩
  · refine ⟨?_, h.line, h.llen, rfl, rfl, rfl⟩
    show 0 ≤ t.farAt ∧ t.farAt ≤ n
    unfold Sct.farAt
    rw [List.getD_eq_getElem?_getD]
    cases hg : t.far[((t.round.tdiv 4).tmod t.far.length).toNat]? with
    | none => exact ⟨Int.le_refl 0, by show (0 : Int) ≤ n; omega⟩
    | some x =>
      have hx := List.mem_of_getElem? hg
      unfold Sct.far at hx
      obtain ⟨m, hm, rfl⟩ := List.mem_map.1 hx
      have hm := (List.mem_filter.1 hm).1
      unfold all at hm
      obtain ⟨k, _, hk⟩ := List.mem_filterMap.1 hm
      have hs := (h.fit.sane k m hk).1
      have hd := (h.fit.dom k).1 (by rw [hk]; rfl)
      exact ⟨by show 0 ≤ m.n; omega, by show m.n ≤ n; omega⟩
end
end Go.Proofs.Ytghefmppjdneoaa
