/- Layer 12, the plain law of ScoutRises: what is known only rises. -/
import Derived.Test.YtghefmppjdneoaaGrpR
namespace Go.Proofs.Ytghefmppjdneoaa
open Go.Proofs Stab Go.Shelf Go.RowKit Go.Lib Go.Sort Go.Maps

/-- what is known has only risen -/
def Up (v v' : Known) : Prop := ∀ k, v' k = v k ∨ ∃ a b, v' k = some a ∧ v k = some b ∧ a.above b = true
theorem Up.refl (v : Known) : Up v v := fun _ => .inl rfl
theorem Up.trans {u v w : Known} (h : Up u v) (k : Up v w) : Up u w := fun n => by
  rcases h n with h1 | ⟨a, b, h1, h2, h3⟩
  · rcases k n with k1 | ⟨c, d, k1, k2, k3⟩
    · exact .inl (k1.trans h1)
    · exact .inr ⟨c, d, k1, by rw [← h1]; exact k2, k3⟩
  · rcases k n with k1 | ⟨c, d, k1, k2, k3⟩
    · exact .inr ⟨a, b, k1.trans h1, h2, h3⟩
    · rw [h1] at k2
      cases k2
      exact .inr ⟨c, b, k1, h2, Mem.above_trans k3 h3⟩
/-- a scout of so many nodes: it knows a word of each, its own one says whether it has left -/
structure Fit (t : Sct) (me n : Int) : Prop where
  meq : t.me = me
  neq : t.nodes = n
  dom : ∀ k, (t.v k).isSome = true ↔ 1 ≤ k ∧ k ≤ n
  sane : ∀ k m, t.v k = some m → m.n = k ∧ m.good = true
  own : (t.left = true ∧ (t.getM me).s = 3) ∨ (t.left = false ∧ (t.getM me).s = 0)
  tgt : t.tgt ≠ me
/-- it stays one, and what it knows has only risen -/
structure Onw (t t' : Sct) (me n : Int) : Prop where
  fit : Fit t' me n
  up : Up t.v t'.v
  left : t'.left = t.left
  tgt : t'.tgt = t.tgt
section
variable {t t' : Sct} {me n : Int}
theorem Fit.congr (h : Fit t me n) (h1 : t'.me = t.me) (h2 : t'.nodes = t.nodes) (h3 : t'.v = t.v) (h4 : t'.left = t.left) (h5 : t'.tgt ≠ me) : Fit t' me n :=
  ⟨h1.trans h.meq, h2.trans h.neq, by rw [h3]; exact h.dom, by rw [h3]; exact h.sane, by unfold Sct.getM; rw [h3, h4]; exact h.own, h5⟩
theorem Onw.congr (h : Fit t me n) (h1 : t'.me = t.me) (h2 : t'.nodes = t.nodes) (h3 : t'.v = t.v) (h4 : t'.left = t.left) (h5 : t'.tgt = t.tgt) : Onw t t' me n :=
  ⟨h.congr h1 h2 h3 h4 (by rw [h5]; exact h.tgt), by rw [h3]; exact Up.refl _, h4, h5⟩
theorem Onw.refl (h : Fit t me n) : Onw t t me n := ⟨h, Up.refl _, rfl, rfl⟩
theorem Onw.trans {u : Sct} (h : Onw t t' me n) (k : Onw t' u me n) : Onw t u me n := ⟨k.fit, h.up.trans k.up, k.left.trans h.left, k.tgt.trans h.tgt⟩
/-- a word is taken: of another node, or one of its own that says that it is there -/
theorem Fit.learn (h : Fit t me n) {m : Mem} (hn : m.n ≤ n) (ho : m.n ≠ me ∨ (m.s = 0 ∧ t.left = false)) : Onw t (t.learn m) me n := by
  unfold Sct.learn
  split
  · rename_i ht
    unfold takes at ht
    rw [Bool.and_eq_true] at ht
    have hg := (Mem.good_iff m).1 ht.1
    have hs := (h.dom m.n).2 ⟨hg.1, hn⟩
    obtain ⟨b, hb⟩ := Option.isSome_iff_exists.1 hs
    have ha : m.above b = true := by have := ht.2; rw [hb] at this; exact this
    refine ⟨⟨h.meq, h.neq, fun k => ?_, fun k x hx => ?_, ?_, h.tgt⟩, fun k => ?_, rfl, rfl⟩
    · show (upd t.v m k).isSome = true ↔ _
      unfold upd
      by_cases hk : k = m.n
      · rw [if_pos hk, hk]
        exact ⟨fun _ => ⟨hg.1, hn⟩, fun _ => rfl⟩
      · rw [if_neg hk]
        exact h.dom k
    · have hx : upd t.v m k = some x := hx
      unfold upd at hx
      by_cases hk : k = m.n
      · rw [if_pos hk] at hx
        cases hx
        exact ⟨hk.symm, ht.1⟩
      · rw [if_neg hk] at hx
        exact h.sane k x hx
    · show (t.left = true ∧ ((upd t.v m me).getD Mem.zero).s = 3) ∨ (t.left = false ∧ ((upd t.v m me).getD Mem.zero).s = 0)
      unfold upd
      rcases ho with ho | ho
      · rw [if_neg (fun e => ho e.symm)]
        exact h.own
      · by_cases hk : me = m.n
        · rw [if_pos hk]
          exact .inr ⟨ho.2, ho.1⟩
        · rw [if_neg hk]
          exact h.own
    · show upd t.v m k = t.v k ∨ ∃ a b, upd t.v m k = some a ∧ _
      unfold upd
      by_cases hk : k = m.n
      · rw [if_pos hk]
        exact .inr ⟨m, b, rfl, by rw [hk]; exact hb, ha⟩
      · rw [if_neg hk]
        exact .inl rfl
  · exact Onw.refl h
theorem Fit.getM (h : Fit t me n) (hme : 1 ≤ me ∧ me ≤ n) (k : Int) : (t.getM k).n ≤ n ∧ (k ≠ me → (t.getM k).n ≠ me) := by
  unfold Sct.getM
  cases hv : t.v k with
  | none => exact ⟨by show (0 : Int) ≤ n; omega, fun _ => by show (0 : Int) ≠ me; omega⟩
  | some m =>
    have h1 := (h.sane k m hv).1
    have h2 := ((h.dom k).1 (by rw [hv]; rfl)).2
    exact ⟨by show m.n ≤ n; omega, fun hk => by show m.n ≠ me; omega⟩
theorem Fit.turn (h : Fit t me n) (hme : 1 ≤ me ∧ me ≤ n) {k : Int} (hk : k ≠ me) (x : Int) : Onw t (t.turn k x) me n :=
  h.learn (h.getM hme k).1 (.inl ((h.getM hme k).2 hk))
theorem Fit.age1 (h : Fit t me n) (hme : 1 ≤ me ∧ me ≤ n) (m : Mem) : Onw t (t.age1 m) me n := by
  unfold Sct.age1
  split
  · rename_i hc
    exact h.turn hme (by rw [← h.meq]; exact hc.1) 2
  · exact Onw.refl h
theorem onw_foldl {α : Type} (f : Sct → α → Sct) (hf : ∀ t a, Fit t me n → Onw t (f t a) me n) : ∀ (l : List α) {t : Sct}, Fit t me n → Onw t (l.foldl f t) me n
  | [], _, h => Onw.refl h
  | a :: l, t, h => by
    rw [List.foldl_cons]
    exact (hf t a h).trans (onw_foldl f hf l (hf t a h).fit)
theorem Fit.age (h : Fit t me n) (hme : 1 ≤ me ∧ me ≤ n) : Onw t t.age me n := by
  unfold Sct.age
  exact onw_foldl _ (fun t a ht => ht.age1 hme a) _ h
theorem Fit.tell (h : Fit t me n) (l : List Fr) : Onw t (t.tell l).1 me n := by
  have e := tell_me t l
  generalize (t.tell l).1.f = F at e
  rw [e]
  exact Onw.congr h rfl rfl rfl rfl rfl
theorem mem_peers {x : Int} (h : x ∈ t.peers) : x ≠ t.me := by
  unfold Sct.peers at h
  have := (List.mem_filter.1 h).2
  simpa using this
theorem Fit.next (h : Fit t me n) (hme : 1 ≤ me ∧ me ≤ n) (d : Int) : (t.next d).1 ≠ me ∧ Onw t (t.next d).2 me n := by
  have hN : ∀ x ∈ t.nextLine d, x ≠ me := by
    intro x hx
    rw [← h.meq]
    unfold Sct.nextLine at hx
    split at hx
    · exact mem_peers ((mixR_perm _ _).subset hx)
    · unfold Sct.line1 at hx
      have := (List.mem_filter.1 hx).2
      exact mem_peers (of_decide_eq_true this)
  unfold Sct.next
  cases hq : t.nextLine d with
  | nil => exact ⟨by show (0 : Int) ≠ me; omega, Onw.congr h rfl rfl rfl rfl rfl⟩
  | cons x r => exact ⟨hN x (by rw [hq]; exact List.mem_cons_self), Onw.congr h rfl rfl rfl rfl rfl⟩
theorem Fit.choose (h : Fit t me n) (hme : 1 ≤ me ∧ me ≤ n) (d : Int) : (t.choose d).1 ≠ me ∧ Onw t (t.choose d).2 me n := by
  unfold Sct.choose
  split
  · exact h.next hme d
  · refine ⟨?_, Onw.congr h rfl rfl rfl rfl rfl⟩
    show t.farAt ≠ me
    unfold Sct.farAt
    rw [List.getD_eq_getElem?_getD]
    cases hg : t.far[((t.round.tdiv 4).tmod t.far.length).toNat]? with
    | none => show (0 : Int) ≠ me; omega
    | some x =>
      have hx := List.mem_of_getElem? hg
      unfold Sct.far at hx
      obtain ⟨m, hm, rfl⟩ := List.mem_map.1 hx
      have := (List.mem_filter.1 hm).2
      simp only [Bool.and_eq_true, Bool.not_eq_true', decide_eq_false_iff_not] at this
      rw [← h.meq]
      exact this.1
/-- it stays one, what it knows has only risen, it asks another one -/
structure Over (t t' : Sct) (me n : Int) : Prop where
  fit : Fit t' me n
  up : Up t.v t'.v
  left : t'.left = t.left
theorem Onw.over (h : Onw t t' me n) : Over t t' me n := ⟨h.fit, h.up, h.left⟩
theorem Over.on {u : Sct} (h : Over t t' me n) (k : Onw t' u me n) : Over t u me n := ⟨k.fit, h.up.trans k.up, k.left.trans h.left⟩
theorem Fit.ask1 (h : Fit t me n) (hme : 1 ≤ me ∧ me ≤ n) (d : Int) : Over t (t.ask1 d).1 me n := by
  obtain ⟨h1, h2⟩ := h.choose hme d
  unfold Sct.ask1
  generalize t.choose d = a at h1 h2
  dsimp only
  split
  · exact ⟨h2.fit.congr rfl rfl rfl rfl h1, h2.up, h2.left⟩
  · exact ⟨h2.fit.congr rfl rfl rfl rfl h1, h2.up, h2.left⟩
theorem Fit.ask3 (h : Fit t me n) : Onw t t.ask3.1 me n := by
  unfold Sct.ask3
  dsimp only
  split
  · exact Onw.congr h rfl rfl rfl rfl rfl
  · exact Onw.refl h
theorem Fit.ask0 (h : Fit t me n) (hme : 1 ≤ me ∧ me ≤ n) : Onw t t.ask0 me n := by
  unfold Sct.ask0
  split
  · exact h.turn hme h.tgt 1
  · exact Onw.refl h
theorem Fit.tick (h : Fit t me n) (hme : 1 ≤ me ∧ me ≤ n) (d : Int) : Over t (t.tick d).1 me n := by
  have h' : Onw t { t with ticks := t.ticks + 1 } me n := Onw.congr h rfl rfl rfl rfl rfl
  unfold Sct.tick
  dsimp only
  split
  · exact h'.over
  · have hA : Over t (if (t.ticks + 1).tmod 4 = 1 then Sct.ask1 { t with ticks := t.ticks + 1 } d else if (t.ticks + 1).tmod 4 = 3 then Sct.ask3 { t with ticks := t.ticks + 1 } else if (t.ticks + 1).tmod 4 = 0 then (Sct.ask0 { t with ticks := t.ticks + 1 }, []) else (({ t with ticks := t.ticks + 1 } : Sct), ([] : List Fr))).1 me n := by
      split
      · have := h'.fit.ask1 hme d
        exact ⟨this.fit, this.up, this.left⟩
      · split
        · exact (h'.trans h'.fit.ask3).over
        · split
          · exact (h'.trans (h'.fit.ask0 hme)).over
          · exact h'.over
    exact (hA.on (hA.fit.age hme)).on ((hA.fit.age hme).fit.tell _)
theorem Fit.rumour (h : Fit t me n) (m : Mem) : Onw t (t.rumour m) me n := by
  unfold Sct.rumour
  split
  · exact Onw.refl h
  · rename_i h1
    rw [h.neq] at h1
    split
    · rename_i h2
      exact h.learn (by omega) (.inl (by rw [← h.meq]; exact h2))
    · rename_i h2
      split
      · exact Onw.refl h
      · rename_i h3
        split
        · exact Onw.congr h rfl rfl rfl rfl rfl
        · split
          · refine h.learn (by show t.me ≤ n; omega) (.inr ⟨rfl, ?_⟩)
            cases hl : t.left with
            | true => exact absurd (.inl hl) h3
            | false => rfl
          · exact Onw.refl h
theorem Fit.hear (h : Fit t me n) (x : Fr) : Onw t (t.hear x).1 me n := by
  cases hi : t.isNode x.frm with
  | false => rw [hear_no t x hi]; exact Onw.refl h
  | true =>
    rw [hear_eq t x hi]
    have h1 : Onw t (if (t.getM x.frm).s ≠ 0 then { t with f := Hm.push1 5 t.f (t.getM x.frm) } else t) me n := by
      split
      · exact Onw.congr h rfl rfl rfl rfl rfl
      · exact Onw.refl h
    generalize (if (t.getM x.frm).s ≠ 0 then { t with f := Hm.push1 5 t.f (t.getM x.frm) } else t) = u at h1
    have h2 := h1.trans (onw_foldl Sct.rumour (fun t a ht => ht.rumour a) x.rum h1.fit)
    generalize x.rum.foldl Sct.rumour u = u2 at h2
    unfold hearK
    split
    · exact h2
    · split
      · exact h2.trans (h2.fit.tell _)
      · split
        · have h3 : Onw t (u2.ask x).1 me n := by
            unfold Sct.ask
            split
            · exact h2
            · exact h2.trans (Onw.congr h2.fit rfl rfl rfl rfl rfl)
          exact h3.trans (h3.fit.tell _)
        · split
          · have h3 : Onw t (u2.ack x).1 me n := by
              unfold Sct.ack
              dsimp only
              split
              · exact h2.trans (Onw.congr h2.fit rfl rfl rfl rfl rfl)
              · exact h2.trans (Onw.congr h2.fit rfl rfl rfl rfl rfl)
            exact h3.trans (h3.fit.tell _)
          · exact h2
theorem Fit.leave (h : Fit t me n) (hme : 1 ≤ me ∧ me ≤ n) (_hn : n ≤ 6) : Fit t.leave.1 me n ∧ Up t.v t.leave.1.v ∧ t.leave.1.left = true := by
  unfold Sct.leave
  split
  · rename_i hl
    exact ⟨h, Up.refl _, hl⟩
  · rename_i hl
    have hl : t.left = false := by
      cases h2 : t.left with
      | true => exact absurd h2 hl
      | false => rfl
    obtain ⟨m, hm⟩ := Option.isSome_iff_exists.1 ((h.dom me).2 hme)
    have ⟨s1, s2⟩ := h.sane me m hm
    have hg := (Mem.good_iff m).1 s2
    have hgm : t.getM me = m := by unfold Sct.getM; rw [hm]; rfl
    have hs : m.s = 0 := by
      rcases h.own with ⟨h1, _⟩ | ⟨_, h2⟩
      · rw [hl] at h1; cases h1
      · rw [hgm] at h2; exact h2
    have hG : (⟨m.n, m.i, 3⟩ : Mem).good = true := (Mem.good_iff _).2 ⟨hg.1, hg.2.1, hg.2.2.1, hg.2.2.2.1, by show (0 : Int) ≤ 3; omega, by show (3 : Int) ≤ 3; omega⟩
    have hA : (⟨m.n, m.i, 3⟩ : Mem).above m = true := (Mem.above_iff _ _).2 ⟨hG, s2, rfl, by unfold Mem.height; show m.i * 4 + m.s < m.i * 4 + 3; omega⟩
    have ht : takes t.v ⟨m.n, m.i, 3⟩ = true := by
      unfold takes
      rw [hG, s1, hm, Bool.true_and]
      rw [s1] at hA
      exact hA
    have e : (t.turn t.me 3).v = upd t.v ⟨m.n, m.i, 3⟩ := by
      unfold Sct.turn Sct.learn
      rw [h.meq, hgm, if_pos ht]
    have e2 : (t.turn t.me 3).me = t.me ∧ (t.turn t.me 3).nodes = t.nodes ∧ (t.turn t.me 3).tgt = t.tgt := by
      unfold Sct.turn Sct.learn
      split <;> exact ⟨rfl, rfl, rfl⟩
    have hF : Fit { t.turn t.me 3 with left := true } me n := by
      refine ⟨e2.1.trans h.meq, e2.2.1.trans h.neq, fun k => ?_, fun k x hx => ?_, .inl ⟨rfl, ?_⟩, by show (t.turn t.me 3).tgt ≠ me; rw [e2.2.2]; exact h.tgt⟩
      · show ((t.turn t.me 3).v k).isSome = true ↔ _
        rw [e]
        unfold upd
        by_cases hk : k = m.n
        · rw [if_pos hk, hk, s1]
          exact ⟨fun _ => hme, fun _ => rfl⟩
        · rw [if_neg hk]
          exact h.dom k
      · have hx : (t.turn t.me 3).v k = some x := hx
        rw [e] at hx
        unfold upd at hx
        by_cases hk : k = m.n
        · rw [if_pos hk] at hx
          cases hx
          exact ⟨hk.symm, hG⟩
        · rw [if_neg hk] at hx
          exact h.sane k x hx
      · show (((t.turn t.me 3).v me).getD Mem.zero).s = 3
        rw [e]
        unfold upd
        rw [if_pos s1.symm]
        rfl
    have hT := hF.tell (({ t.turn t.me 3 with left := true } : Sct).peers.map fun n => ⟨n, 2, 0, 0, ({ t.turn t.me 3 with left := true } : Sct).me, []⟩)
    refine ⟨hT.fit, Up.trans (fun k => ?_) hT.up, hT.left⟩
    show (t.turn t.me 3).v k = t.v k ∨ ∃ a b, (t.turn t.me 3).v k = some a ∧ _
    rw [e]
    unfold upd
    by_cases hk : k = m.n
    · rw [if_pos hk]
      exact .inr ⟨_, m, rfl, by rw [hk, s1]; exact hm, hA⟩
    · rw [if_neg hk]
      exact .inl rfl
/-- who is asked directly answers with one frame, as long as it hasn't left -/
theorem Fit.answers (h : Fit t me n) (x : Fr) (hk : x.kind = 1) : (t.hear x).2.length = if t.left = false ∧ 1 ≤ x.frm ∧ x.frm ≤ n ∧ x.frm ≠ me then 1 else 0 := by
  have hN : t.isNode x.frm = true ↔ 1 ≤ x.frm ∧ x.frm ≤ n ∧ x.frm ≠ me := by
    unfold Sct.isNode
    rw [h.neq, h.meq]
    simp only [Bool.and_eq_true, decide_eq_true_eq, Bool.not_eq_true', decide_eq_false_iff_not]
    exact ⟨fun ⟨⟨a, b⟩, c⟩ => ⟨a, b, c⟩, fun ⟨a, b, c⟩ => ⟨⟨a, b⟩, c⟩⟩
  cases hi : t.isNode x.frm with
  | false =>
    rw [hear_no t x hi, if_neg]
    · rfl
    · rintro ⟨_, h2⟩
      rw [hN.2 h2] at hi
      cases hi
  | true =>
    rw [hear_eq t x hi]
    have h1 : Onw t (if (t.getM x.frm).s ≠ 0 then { t with f := Hm.push1 5 t.f (t.getM x.frm) } else t) me n := by
      split
      · exact Onw.congr h rfl rfl rfl rfl rfl
      · exact Onw.refl h
    generalize (if (t.getM x.frm).s ≠ 0 then { t with f := Hm.push1 5 t.f (t.getM x.frm) } else t) = u at h1
    have h2 := h1.trans (onw_foldl Sct.rumour (fun t a ht => ht.rumour a) x.rum h1.fit)
    generalize x.rum.foldl Sct.rumour u = u2 at h2
    cases hl : t.left with
    | true =>
      rw [hearK_left (h2.left.trans hl), if_neg (by rintro ⟨h, _⟩; cases h)]
      rfl
    | false =>
      rw [hearK_1 (h2.left.trans hl) hk, if_pos ⟨rfl, hN.1 hi⟩]
      unfold Sct.tell
      rw [List.foldl_cons, List.foldl_nil]
      rfl
theorem Fit.fresh (hme : 1 ≤ me ∧ me ≤ n) (hn : n ≤ 6) : Fit (Sct.fresh me n) me n := by
  refine ⟨rfl, rfl, fun k => ?_, fun k m hm => ?_, .inr ⟨rfl, ?_⟩, by show (0 : Int) ≠ me; omega⟩
  · show (upTo n k).isSome = true ↔ _
    unfold upTo
    by_cases hk : 1 ≤ k ∧ k ≤ n
    · rw [if_pos hk]; exact ⟨fun _ => hk, fun _ => rfl⟩
    · rw [if_neg hk]; exact ⟨fun h => (by cases h), fun h => absurd h hk⟩
  · have := upTo_sane hn k m hm
    exact ⟨this.2, this.1⟩
  · show ((upTo n me).getD Mem.zero).s = 0
    unfold upTo
    rw [if_pos hme]
    rfl
/-- what is known, place by place -/
theorem Fit.all (h : Fit t me n) : Go.Proofs.Ytghefmppjdneoaa.all t.v = (nodes.filter fun k => decide (k ≤ n)).map fun k => (t.v k).getD Mem.zero := by
  have hk : ∀ l : List Int, (∀ k ∈ l, 1 ≤ k) → l.filterMap t.v = (l.filter fun k => decide (k ≤ n)).map fun k => (t.v k).getD Mem.zero := by
    intro l
    induction l with
    | nil => exact fun _ => rfl
    | cons x l ih =>
      intro hl
      have ih := ih fun k hk => hl k (List.mem_cons_of_mem _ hk)
      have hx := hl x List.mem_cons_self
      rw [List.filterMap_cons, List.filter_cons]
      by_cases hxn : x ≤ n
      · obtain ⟨m, hm⟩ := Option.isSome_iff_exists.1 ((h.dom x).2 ⟨hx, hxn⟩)
        rw [hm, decide_eq_true hxn]
        simp only [if_true, List.map_cons, hm, Option.getD_some, ih]
      · have hno : t.v x = none := by
          cases hv : t.v x with
          | none => rfl
          | some m => exact absurd ((h.dom x).1 (by rw [hv]; rfl)).2 hxn
        rw [hno, decide_eq_false hxn]
        simp only [Bool.false_eq_true, if_false, ih]
  exact hk nodes fun k hk => by unfold nodes at hk; simp at hk; omega
theorem Fit.rises {u : Sct} (h : Fit t me n) (k : Fit u me n) (hu : Up t.v u.v) : (Go.Proofs.Ytghefmppjdneoaa.all u.v).length = (Go.Proofs.Ytghefmppjdneoaa.all t.v).length ∧ ∀ i (h1 : i < (Go.Proofs.Ytghefmppjdneoaa.all u.v).length) (h2 : i < (Go.Proofs.Ytghefmppjdneoaa.all t.v).length), (Go.Proofs.Ytghefmppjdneoaa.all u.v)[i] = (Go.Proofs.Ytghefmppjdneoaa.all t.v)[i] ∨ (Go.Proofs.Ytghefmppjdneoaa.all u.v)[i].above (Go.Proofs.Ytghefmppjdneoaa.all t.v)[i] = true := by
  rw [h.all, k.all]
  refine ⟨by rw [List.length_map, List.length_map], fun i h1 h2 => ?_⟩
  rw [List.getElem_map, List.getElem_map]
  rcases hu ((nodes.filter fun k => decide (k ≤ n))[i]'(by rw [List.length_map] at h1; exact h1)) with e | ⟨a, b, e1, e2, e3⟩
  · exact .inl (by rw [e])
  · exact .inr (by rw [e1, e2]; exact e3)
end
end Go.Proofs.Ytghefmppjdneoaa
