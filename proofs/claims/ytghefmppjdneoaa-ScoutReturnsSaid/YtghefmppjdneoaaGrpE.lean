/- Layer 12, the texts HumI to ViB joined: what the functions that a scout reaches do with memory, each told once. -/
import Derived.Maps.OwnSet
import Derived.Test.YtghefmppjdneoaaGrpD
import Derived.Laws.StructEq
import Derived.WideKeyArgs
namespace Go.Proofs.Ytghefmppjdneoaa
open Go.Proofs Stab Go.Shelf Go.RowKit Go.Lib Go.Sort Go.Maps

/-- a rumour told, with its block -/
def tellB (F : Int → Option Cell) (q : Cell) : Int → Option Cell := fun x => if x = q.2.m.n then (if q.2.k = 1 then none else some (q.1, ⟨q.2.m, q.2.k - 1⟩)) else F x
theorem rums_tell (F : Int → Option Cell) (q : Cell) : rums (tellB F q) = Hm.tell (rums F) q.2 := by
  funext x
  unfold rums tellB Hm.tell
  by_cases hx : x = q.2.m.n
  · by_cases hk : q.2.k = 1
    · simp [hx, hk]
    · simp [hx, hk]
  · simp [hx]
theorem rums_foldl : ∀ (L : List Cell) (F : Int → Option Cell), rums (L.foldl tellB F) = (L.map (·.2)).foldl Hm.tell (rums F)
  | [], _ => rfl
  | q :: L, F => by
    rw [List.foldl_cons, List.map_cons, List.foldl_cons, rums_foldl L, rums_tell]
theorem S_map {α β : Type} {le : α → α → Bool} {le' : β → β → Bool} (g : α → β) (h : ∀ x y, le x y = le' (g x) (g y)) (l : List α) : (S le l).map g = S le' (l.map g) := by
  induction l using snoc_ind with
  | h0 => rfl
  | h1 l x ih => rw [S_snoc, List.map_append, List.map_cons, List.map_nil, S_snoc, ← ih, List.map_merge (fun a _ b _ => h a b)]; rfl
/-- all rumours, those told least first -/
def ordB (F : Int → Option Cell) : List Cell := S (leC cfB) (allB F)
theorem allB_rums (F : Int → Option Cell) : (allB F).map (·.2) = Hm.all (rums F) := by
  unfold allB Hm.all rums
  rw [List.map_filterMap]
  rfl
theorem ordB_rums (F : Int → Option Cell) : (ordB F).map (·.2) = Hm.sorted (rums F) := by
  unfold ordB Hm.sorted
  rw [← allB_rums]
  exact S_map (le := leC cfB) (le' := leC Hm.cfR) (fun q : Cell => q.2) (fun _ _ => rfl) _
theorem ordB_len (F : Int → Option Cell) : (ordB F).length = (allB F).length := S_len _ _
theorem allB_six (F : Int → Option Cell) : (allB F).length ≤ 6 := List.length_filterMap_le _ Sk.nodes
section
variable {t : Int} {F : Int → Option Cell}
theorem node_of (h : Hm.Sane t (rums F)) {x : Int} {q : Cell} (hx : F x = some q) : q.2.m.n = x := (h x q.2 (by unfold rums; rw [hx]; rfl)).2.1
theorem mem_allB (h : Hm.Sane t (rums F)) {q : Cell} : q ∈ allB F ↔ F q.2.m.n = some q := by
  unfold allB
  rw [List.mem_filterMap]
  constructor
  · rintro ⟨x, _, hx⟩
    rw [node_of h hx]
    exact hx
  · intro hq
    have h3 := (Mem.good_iff _).1 (h _ q.2 (by unfold rums; rw [hq]; rfl)).1
    exact ⟨_, Sk.node_mem (by omega) (by omega), hq⟩
theorem mem_ordB (h : Hm.Sane t (rums F)) {q : Cell} : q ∈ ordB F ↔ F q.2.m.n = some q := by
  unfold ordB
  rw [(S_perm _ _).mem_iff, mem_allB h]
theorem nodup_nodes (h : Hm.Sane t (rums F)) : ∀ ks : List Int, ks.Nodup → ((ks.filterMap F).map fun q => q.2.m.n).Nodup
  | [], _ => List.nodup_nil
  | x :: ks, hn => by
    obtain ⟨h1, h2⟩ := List.nodup_cons.1 hn
    rw [List.filterMap_cons]
    cases hx : F x with
    | none => exact nodup_nodes h ks h2
    | some q =>
      simp only [List.map_cons]
      refine List.nodup_cons.2 ⟨fun hm => ?_, nodup_nodes h ks h2⟩
      obtain ⟨q', hq', e⟩ := List.mem_map.1 hm
      obtain ⟨y, hy, hyq⟩ := List.mem_filterMap.1 hq'
      rw [node_of h hx, node_of h hyq] at e
      exact h1 (e ▸ hy)
theorem ordB_nodup (h : Hm.Sane t (rums F)) : ((ordB F).map fun q => q.2.m.n).Nodup :=
  (((S_perm (leC cfB) (allB F)).map fun q => q.2.m.n).nodup_iff).2 (nodup_nodes h Sk.nodes (by decide))
theorem tell_other {x : Int} : ∀ (L : List Cell) (F : Int → Option Cell), (∀ q ∈ L, q.2.m.n ≠ x) → L.foldl tellB F x = F x
  | [], _, _ => rfl
  | q :: L, F, h => by
    rw [List.foldl_cons, tell_other L _ fun q' hq' => h q' (List.mem_cons_of_mem _ hq')]
    unfold tellB
    rw [if_neg fun e => h q List.mem_cons_self e.symm]
theorem told_at (h : Hm.Sane t (rums F)) {k : Nat} (hk : k < (ordB F).length) : ((ordB F).take k).foldl tellB F ((ordB F)[k]).2.m.n = some (ordB F)[k] := by
  rw [tell_other]
  · exact (mem_ordB h).1 (List.getElem_mem hk)
  · intro q hq e
    obtain ⟨j, hj, rfl⟩ := List.mem_iff_getElem.1 hq
    rw [List.length_take] at hj
    rw [List.getElem_take] at e
    have hn := List.nodup_iff_pairwise_ne.1 (ordB_nodup h)
    have := List.pairwise_iff_getElem.1 hn j k (by rw [List.length_map]; omega) (by rw [List.length_map]; omega) (by omega)
    simp only [List.getElem_map] at this
    exact this e
/-- no new blocks -/
def SameB (F F' : Int → Option Cell) : Prop := ∀ x g r, F' x = some (g, r) → ∃ r', F x = some (g, r')
theorem same_tell {F' : Int → Option Cell} (h : SameB F F') {q : Cell} (hq : F' q.2.m.n = some q) : SameB F (tellB F' q) := fun x g r hx => by
  unfold tellB at hx
  split at hx
  · rename_i e
    split at hx
    · cases hx
    · cases hx
      subst e
      exact h _ q.1 q.2 hq
  · exact h x g r hx
theorem same_told (h : Hm.Sane t (rums F)) : ∀ k, k ≤ (ordB F).length → SameB F (((ordB F).take k).foldl tellB F)
  | 0, _ => fun x g r hx => ⟨r, by rwa [List.take_zero] at hx⟩
  | k + 1, hk => by
    rw [take_snoc _ k (by omega), List.foldl_append]
    exact same_tell (same_told h k (by omega)) (told_at h (by omega))
end
theorem cut_set (q : Rum) (z : Int) : (rumC q).set 3 (.int .i64 z) = rumC ⟨q.m, z⟩ := rfl
section
variable {H : Type} {w w1 w' : World} {p b N : Nat} {t : Int} {F : Int → Option Cell} {q : Cell}
theorem HumAt.kept {row : Option Nat} (h : HumAt H w p b N t F) (hg : w.grownBy w' row) (hp : some p ≠ row) (hb : some b ≠ row) (hr : ∀ x g r, F x = some (g, r) → some g ≠ row) : HumAt H w' p b N t F :=
  ⟨h.hd.grown hg hp, h.map.kept hg hb, h.sane, fun x g r hF => (h.at_ x g r hF).grown hg (hr x g r hF), h.inj, h.ne⟩
theorem HumAt.tells (h : HumAt H w p b N t F) (hq : F q.2.m.n = some q) : Hm.Sane t fun x => (tellB F q x).map (·.2) := by
  have h1 := h.sane q.2.m.n q.2 (by simp [hq])
  have h2 := Hm.sane_tell h.sane ⟨h1.1, h1.2.2.1, h1.2.2.2⟩
  have h3 : (fun x => (tellB F q x).map (·.2)) = Hm.tell (fun x => (F x).map (·.2)) q.2 := rums_tell F q
  rw [h3]
  exact h2
theorem HumAt.tell (h : HumAt H w p b N t F) (hq : F q.2.m.n = some q) (hk : q.2.k ≠ 1) (hat : At w' q.1 111 (rumC ⟨q.2.m, q.2.k - 1⟩)) (hg : w.grownBy w' (some q.1)) : HumAt H w' p b N t (tellB F q) := by
  have hne := h.ne.2 _ _ _ hq
  refine ⟨h.hd.grown hg (by intro e; injection e with e; exact hne.1 e.symm), ?_, h.tells hq, fun x g r hx => ?_, fun x y g r u hx hy => ?_, h.ne.1, fun x g r hx => ?_⟩
  · have e : (fun x => (tellB F q x).map (·.1)) = fun x => (F x).map (·.1) := by
      funext x
      unfold tellB
      by_cases hx : x = q.2.m.n
      · simp [hx, hk, hq]
      · simp [hx]
    rw [e]
    exact h.map.kept hg (by intro e; injection e with e; exact hne.2 e.symm)
  · unfold tellB at hx
    split at hx
    · skip
      cases hx
      exact hat
    · rename_i hn
      refine (h.at_ x g r hx).grown hg ?_
      intro e
      injection e with e
      subst e
      exact hn (h.inj _ _ _ _ _ hx hq)
  · unfold tellB at hx hy
    split at hx
    · rename_i e1
      cases hx
      split at hy
      · rename_i e2; rw [e1, e2]
      · rw [e1]; exact h.inj _ _ _ _ _ hq hy
    · split at hy
      · rename_i e2
        cases hy
        rw [e2]; exact h.inj _ _ _ _ _ hx hq
      · exact h.inj _ _ _ _ _ hx hy
  · unfold tellB at hx
    split at hx
    · skip
      cases hx
      exact hne
    · exact h.ne.2 x g r hx
theorem HumAt.tell1 (h : HumAt H w p b N t F) (hq : F q.2.m.n = some q) (hk : q.2.k = 1) (hg : w.grownBy w1 (some q.1)) (hown : w'.ownsMap Try.prog 3 readP b N ((Sk.mapD (H := H) ptrD fun x => (F x).map (·.1)).del (.int .i64 q.2.m.n))) (hg2 : w1.grownBy w' (some b)) : HumAt H w' p b N t (tellB F q) := by
  have hne := h.ne.2 _ _ _ hq
  have key : ∀ {x g r}, tellB F q x = some (g, r) → x ≠ q.2.m.n ∧ F x = some (g, r) := fun {x g r} hx => by
    unfold tellB at hx
    split at hx
    · skip
      cases hx
    · rename_i hn
      exact ⟨hn, hx⟩
  refine ⟨(h.hd.grown hg (by intro e; injection e with e; exact hne.1 e.symm)).grown hg2 (by intro e; injection e with e; exact h.ne.1 e), ?_, h.tells hq, fun x g r hx => ?_, fun x y g r u hx hy => h.inj _ _ _ _ _ (key hx).2 (key hy).2, h.ne.1, fun x g r hx => h.ne.2 x g r (key hx).2⟩
  · rw [Sk.del_mapD] at hown
    have e : (fun x => (tellB F q x).map (·.1)) = Sk.del (fun x => (F x).map (·.1)) q.2.m.n := by
      funext x
      unfold tellB Sk.del
      by_cases hx : x = q.2.m.n
      · simp [hx, hk]
      · simp [hx]
    rw [e]
    exact hown
  · obtain ⟨hn, hx'⟩ := key hx
    refine ((h.at_ x g r hx').grown hg ?_).grown hg2 (by intro e; injection e with e; exact (h.ne.2 x g r hx').2 e)
    intro e
    injection e with e
    subst e
    exact hn (h.inj _ _ _ _ _ hx' hq)
end
end Go.Proofs.Ytghefmppjdneoaa

namespace Go.Proofs.Ytghefmppjdneoaa
open Go.Proofs Stab Go.Shelf Go.RowKit Go.Lib Go.Sort Go.Maps

/-- members as cells, one behind the other -/
def memsV (l : List Mem) : List Value := l.flatMap cellsM
theorem three_new (w : World) (m : Mem) : ∀ j u, (cellsM m)[j]? = some u → (w.alloc (.cells #[.int .i64 m.n, .int .i64 m.i, .int .i64 m.s] 38)).cell? ((⟨w.heap.size, 0, none⟩ : Addr).add j) = some u := by
  intro j u hu
  have e : (⟨w.heap.size, 0, none⟩ : Addr).add j = ⟨w.heap.size, j, none⟩ := by unfold Addr.add; split <;> simp_all
  rw [e]
  exact (memAt w m).cell' hu
theorem cellsM_oneCell (m : Mem) : ∀ u ∈ cellsM m, u.oneCell' = true := by
  intro u hu
  simp only [cellsM, List.mem_cons, List.not_mem_nil, or_false] at hu
  rcases hu with rfl | rfl | rfl <;> rfl
section
variable {P : Program} {ops : Array Oper} {Q : Exit → Act → World → Prop} {o : Oper} {rest : List Oper} {a : Act} {w : World}
theorem wpList_store1 (hgd : o.guard = none) (ty : TypeId) (x y : Operand) (ho : o.op = .store ty x y) (b off : Nat) (k : IntKind) (n : Int)
    (hx : a.eval x = .pointer (some ⟨b, off, none⟩)) (hy : a.eval y = .int k n) (hi : (P.info? ty).map (·.size) = some 1) (t : TypeId) (cs : List Value) (hg : At w b t cs) (hl : off < cs.length)
    (h : ∀ w', At w' b t (cs.set off (.int k n)) → w.grownBy w' (some b) → w'.heap.size = w.heap.size → wpList P ops Q rest (a.put o.dst undef) w') : wpList P ops Q (o :: rest) a w :=
  wpList_plain hgd fun _ hK => by
    have hc : (w.cell? ⟨b, off, none⟩).isSome = true ∧ w.frozen? ⟨b, off, none⟩ = false := by
      rw [hg.cell, hg.frozen]
      simp [hl]
    unfold Oper.wp execOp
    have hr : (Instr.storeAt ty (.pointer (some ⟨b, off, none⟩)) (.int k n)).run P w = .ok () (w.setCell ⟨b, off, none⟩ (.int k n)) := by
      cases hq : P.info? ty with
      | none => simp [hq] at hi
      | some i =>
        have hs : i.size = 1 := by simpa [hq] using hi
        obtain ⟨v0, hv0⟩ := Option.isSome_iff_exists.1 hc.1
        simp [Instr.storeAt, Instr.sureAddr, storeVar, sizeOf, typeInfo, hq, hs, hv0, hc.2, Value.cells, storeCells, go_sem]
    simp only [ho, hx, hy, Sem.run_bind, Sem.run_pure, hr, Result.andThen_ok]
    exact hK _ _ (h _ (hg.set off _) (grown_setCell (World.grownBy.refl _ _) (.inl rfl) _) (by simp [World.setCell]))
end
set_option maxRecDepth 100000 in
set_option maxHeartbeats 4000000 in
theorem take_any {H : Type} {w : World} {Z : Nat → Prop} {p b N : Nat} {t : Int} {f : Hm.St} (h : HumSt H w Z p b N t f) (n : Int) (h100 : t ≤ 100) :
    Calls Try.prog 41 #[.pointer (some ⟨p, 0, none⟩), .int .i64 n] w fun e w' => ∃ v, e = .returned v ∧ HumSt H w' (fun i => Z i ∨ (w.heap.size ≤ i ∧ i < w'.heap.size)) p b N t (Hm.rest n f) ∧ Keeps Z w w' ∧ Own w' w.heap.size 38 3 v (Hm.told n f).length (memsV ((Hm.told n f).map (·.m))) := by
  obtain ⟨⟨F, hF, hf, hFn⟩, hSp, hSb, hSl⟩ := h
  subst hf
  have hsane : Hm.Sane t (rums F) := hF.sane
  have HSN := Lib.hid hsane
  have HF := Lib.hid hF
  have HFn := Lib.hid hFn
  have HS := Lib.hid (And.intro hSp (And.intro hSb hSl))
  have H100 := Lib.hid h100
  obtain ⟨i0, hi, hz0, hz1, hz2⟩ := info_parts info_mem
  clear hsane hF hFn hSp hSb hSl h100
  go_enter Try.func41, Try.ntmps41
  go_wp2_with fail
  refine (sorted_any HF.out).mono ?_
  rintro e w1 ⟨v, rfl, hrow, hb1⟩
  have HB1 := Lib.hid hb1
  have HR := Lib.hid hrow
  clear hb1 hrow
  go_wp2_with fail
  refine (stable_r (F := F) (fun q hq => (mem_allB HSN.out).1 hq) HR.out (fun x q hx => (HF.out.below HB1.out).at_ x q.1 q.2 hx) (fun x q hx => (HF.out.at_ x q.1 q.2 hx).lt) (allB_six F)).mono ?_
  rintro e w2 ⟨rfl, hrow, hg2⟩
  have HB2 := Lib.hid (HB1.out.grown hg2 HB1.out.size fun k hk => (HR.out.lt k hk).1)
  have HR2 := Lib.hid hrow
  obtain ⟨len, hlen⟩ : ∃ len, len = (allB F).length := ⟨_, rfl⟩
  have h6 : len ≤ 6 := by rw [hlen]; exact allB_six F
  obtain ⟨L, hL⟩ : ∃ L, L = ordB F := ⟨_, rfl⟩
  have hLl : L.length = len := by rw [hL, ordB_len, hlen]
  rw [show S (leC cfB) (allB F) = ordB F from rfl, ← hL, ← hlen] at HR2
  have HL := Lib.hid hL
  have HLl := Lib.hid hLl
  have hform : ∃ A c, v = .slice A len c ∧ len ≤ c := by
    rcases row_cases HR2.out with ⟨rfl, h0, _⟩ | ⟨g, cap, rfl, _, _, hc, _⟩
    · exact ⟨none, 0, by rw [h0], by omega⟩
    · exact ⟨_, _, rfl, hc⟩
  obtain ⟨A, c, rfl, hlc⟩ := hform
  clear hg2 HR hL hLl hrow
  obtain ⟨K, hK⟩ : ∃ K : Nat, K = min (max n 0).toNat len := ⟨_, rfl⟩
  have hKK : min (max n 0) (len : Int) = (K : Int) := by omega
  have HK := Lib.hid hK
  have hKl : (K : Int) ≤ (len : Int) := by omega
  have hKc : (K : Int) ≤ (c : Int) := by omega
  clear hK HB1 hlen
  go_wp2_with fail
  --LOOP
  obtain ⟨B, hBe⟩ : ∃ B, B = w2.heap.size := ⟨_, rfl⟩
  have hwB : w.heap.size ≤ B := by rw [hBe]; exact HB2.out.size
  have HBe := Lib.hid hBe
  have HF2 := Lib.hid (HF.out.below HB2.out)
  obtain ⟨A2, hA2⟩ : ∃ A2 : Nat → Prop, A2 = fun i => Z i ∨ (w.heap.size ≤ i ∧ i < B) := ⟨_, rfl⟩
  have HA2 := Lib.hid hA2
  have HPl := Lib.hid (And.intro HF.out.hd.lt HF.out.blt)
  have HNb := Lib.hid (show ¬ A2 b from by
    rw [hA2]
    rintro (h | h)
    · exact HS.out.2.1 h
    · have := HPl.out.2; omega)
  have HFar2 := Lib.hid (show ∀ k, B ≤ k → ¬ A2 k from by
    intro k hk
    rw [hA2]
    rintro (h | h)
    · have := HS.out.2.2 k h; omega
    · omega)
  have HNo2 := Lib.hid (show ∀ v : Value, (∀ k, v.ownBlock = some k → B ≤ k) → v.ownBlock = none ∨ v.ownBlock ≠ some b from by
    intro v hv
    by_cases h : v.ownBlock = some b
    · have := hv b h; have := HPl.out.2; omega
    · exact .inr h)
  clear hBe hA2
  go_loopw [4, 20] (fun v4 i wr => ∃ k : Nat, k ≤ K ∧ i = .int .i64 k ∧ HumAt H wr p b N t ((L.take k).foldl tellB F) ∧ Keeps A2 w2 wr ∧ Own wr B 38 3 v4 k (memsV ((L.take k).map fun q => q.2.m))) (fun _ i _ => K - (RowKit.intOf i).toNat)
  case atStart => exact ⟨0, by omega, rfl, HF2.out, Keeps.refl _ _, Own.nil _ _ _ _⟩
  case round =>
    obtain ⟨k, hk, rfl, hV, hkp, hO2⟩ := hrel
    have hLL := HLl.out
    by_cases hlt : k < K
    · obtain ⟨g, cap, hA, hgb, hgl, _, _⟩ := (own_ofRow HR2.out).form (by omega)
      obtain ⟨rfl, rfl⟩ : A = some ⟨g, 0, none⟩ ∧ c = cap := by simpa using hA
      obtain ⟨Fk, hFk⟩ : ∃ Fk, Fk = (L.take k).foldl tellB F := ⟨_, rfl⟩
      rw [← hFk] at hV
      have hkL : k < L.length := by omega
      obtain ⟨⟨gq, m, kk⟩, hq⟩ : ∃ q : Cell, q = L[k] := ⟨_, rfl⟩
      have hqF : Fk m.n = some (gq, ⟨m, kk⟩) := by
        have hL2 := HL.out
        subst hL2
        have h := told_at HSN.out (k := k) hkL
        rw [← hq, ← hFk] at h
        exact h
      have hsame : SameB F Fk := by
        have hL2 := HL.out
        subst hL2
        rw [hFk]
        exact same_told HSN.out k (by omega)
      have hb3 := hV.sane m.n ⟨m, kk⟩ (by simp [hqF])
      have hmg := (Mem.good_iff _).1 hb3.1
      have HT := Lib.hid (And.intro hb3.2.2.1 hb3.2.2.2)
      have ck : wr.cell? ⟨g, k, none⟩ = some (ptrV gq) := by
        rw [World.cell?_of_block (w := w2) (hkp.block g (by rw [HA2.out]; exact .inr ⟨hgb, by rw [HBe.out]; exact hgl⟩) hgl), (own_ofRow HR2.out).cellAt rfl k (by omega)]
        simp [ptrC, hkL, ← hq]
      simp only [ptrV] at ck
      have hat := hV.at_ _ _ _ hqF
      have r0 := hat.cell' (i := 0) (v := .int .i64 m.n) rfl
      have r1 := hat.cell' (i := 1) (v := .int .i64 m.i) rfl
      have r2 := hat.cell' (i := 2) (v := .int .i64 m.s) rfl
      have hngB : gq < w.heap.size := by
        obtain ⟨r', hr'⟩ := hsame _ _ _ hqF
        exact (HF.out.at_ _ _ _ hr').lt
      have HNg := Lib.hid (show ¬ A2 gq from by
        rw [HA2.out]
        rintro (h | h)
        · obtain ⟨r', hr'⟩ := hsame _ _ _ hqF
          exact HFn.out _ _ _ hr' h
        · omega)
      have HNo := Lib.hid (show ∀ v : Value, (∀ k, v.ownBlock = some k → B ≤ k) → v.ownBlock = none ∨ v.ownBlock ≠ some gq from by
        intro v hv
        by_cases h : v.ownBlock = some gq
        · have := hv gq h; omega
        · exact .inr h)
      have HFar := Lib.hid (show (∀ i, i < w.heap.size → some i ≠ u4.ownBlock) ∧ ∀ x g r, Fk x = some (g, r) → g < w.heap.size from ⟨by
        intro i hi2 e
        have := (hO2.lt i e.symm).1
        omega, by
        intro x g r hx
        obtain ⟨r', hr'⟩ := hsame _ _ _ hx
        exact (HF.out.at_ _ _ _ hr').lt⟩)
      have HVr := Lib.hid hV
      have HKr := Lib.hid hkp
      have HO2 := Lib.hid hO2
      have HFk := Lib.hid hFk
      have HLk := Lib.hid hq
      have HQ := Lib.hid hqF
      have HBq := Lib.hid (show B ≤ wr.heap.size from by rw [HBe.out]; exact hkp.size)
      have i1 : (0 : Int) ≤ (k : Int) := by omega
      have i2 : (k : Int) < (K : Int) := by omega
      have ht100 := H100.out
      have hkk := HT.out
      clear hV hkp hO2 hFk hq hqF hat hb3 hA hsame hngB hLL ht100
      by_cases hk1 : kk = 1
      · subst hk1
        have r3 := (HVr.out.at_ _ _ _ HQ.out).cell' (i := 3) (v := .int .i64 1) rfl
        clear hkk
        go_wp2_with (at_builtin; (refine wpList_append_Own _ rfl (.tmp 24) (.tmp 29) 30 rfl B 38 i0 _ 3 24 Try.underlying30 hi hz0 hz1 hz2 rfl (by omega) _ _ _ rfl (HO2.out.alloc _) ⟨_, 0, none⟩ 1 1 (cellsM m) rfl rfl (three_new _ _) (cellsM_oneCell _) ?_ ?_ ?_ ?_); (focus (unfold maxLen; omega)); (focus omega); (focus (have := HBq.out; simp; omega)); intro v9 w9 hO9 hg9 hat9; have HG9 := Lib.hid ((World.grownBy_alloc wr _ u4.ownBlock).trans hg9); have HO9 := Lib.hid hO9; have HV9 := Lib.hid (HVr.out.kept HG9.out (HFar.out.1 p (by have := HPl.out.1; omega)) (HFar.out.1 b (by have := HPl.out.2; omega)) (fun x g r hx => HFar.out.1 g (HFar.out.2 x g r hx))); have HA9 := Lib.hid (HV9.out.at_ _ _ _ HQ.out); have c3 := HA9.out.cell' (i := 3) (v := .int .i64 1) rfl; have c3f := HA9.out.frozen 3; have c0 := HA9.out.cell' (i := 0) (v := .int .i64 m.n) rfl; clear hO9 hg9 hat9)
        obtain ⟨w12, hw12⟩ : ∃ w12, w12 = w9.setCell ⟨gq, 3, none⟩ (.int .i64 0) := ⟨_, rfl⟩
        rw [← hw12]
        have HG12 := Lib.hid (show w9.grownBy w12 (some gq) by rw [hw12]; exact grown_setCell (World.grownBy.refl _ _) (.inl rfl) _)
        have HA12 := Lib.hid (show At w12 gq 111 (rumC ⟨m, 0⟩) by rw [hw12]; exact HA9.out.set 3 _)
        have d0 := HA12.out.cell' (i := 0) (v := .int .i64 m.n) rfl
        have dp := (HV9.out.hd.grown HG12.out (by intro e; injection e with e; exact (HV9.out.ne.2 _ _ _ HQ.out).1 e.symm)).cell' (i := 1) (v := .map (some b)) rfl
        clear hw12 c3 c0 c3f
        refine wp_region_then (fun w' => ∃ n, w' = w12.drewN n) 9 (by kernel_rfl) (by kernel_rfl) (by kernel_rfl) (by kernel_rfl) (by decide) ⟨1, rfl⟩ ?_
        simp only [List.take_succ_cons, List.take_zero, List.drop_succ_cons, List.drop_zero]
        go_big_quiet_step (exact fun _ => rfl)
        with_reducible refine wpQuiet_val (.pointer (some ⟨p, 0, none⟩)) (by with_unfolding_all rfl) (fun w _ => exec_nil _ (by with_unfolding_all rfl) p 0 (by with_unfolding_all rfl) w) ?_
        simp only [Act.put, List.setIfInBounds_toArray, List.set_cons_zero, List.set_cons_succ]
        iterate 3 (go_big_quiet_step (exact fun _ => rfl))
        with_reducible refine wpQuiet_val (.pointer (some ⟨gq, 0, none⟩)) (by with_unfolding_all rfl) (fun w _ => exec_nil _ (by with_unfolding_all rfl) gq 0 (by with_unfolding_all rfl) w) ?_
        simp only [Act.put, List.setIfInBounds_toArray, List.set_cons_zero, List.set_cons_succ]
        iterate 3 (go_big_quiet_step (exact fun _ => rfl))
        refine wpQuiet_nil ?_
        intro _ hw'
        obtain ⟨nq, rfl⟩ := hw'
        have hm12 := HV9.out.map.kept HG12.out (by intro e; injection e with e; exact (HV9.out.ne.2 _ _ _ HQ.out).2 e.symm)
        have hown : (w12.drewN nq).ownsMap Try.prog 3 readP b N (Sk.mapD (H := H) ptrD fun x => (Fk x).map (·.1)) := hm12
        refine wpList_delete_own _ rfl (.tmp 46) (.tmp 51) 103 3 rfl 109 hum_keyed Try.underlying103 readP b N _ rfl hown (.int .i64 m.n) (.int .i64 m.n) rfl (hum_key (n := m.n) (by omega) (by omega)) ?_
        intro w13 hown13 hturn13
        have hg13 : w12.grownBy w13 (some b) := ⟨hturn13.grown.os, hturn13.grown.tape, hturn13.grown.output, hturn13.grown.size, hturn13.grown.block⟩
        have HF13 := Lib.hid (HV9.out.tell1 (q := (gq, ⟨m, 1⟩)) HQ.out rfl HG12.out hown13 hg13)
        have HK13 := Lib.hid ((Keeps.grown HG9.out fun k hk => HFar2.out k (HO2.out.lt k hk).1).trans ((Keeps.ofGrown HG12.out HNg.out).trans (Keeps.ofGrown hg13 HNb.out)))
        have HO13 := Lib.hid ((HO9.out.grown HG12.out (HNo.out v9 fun k hk => (HO9.out.lt k hk).1)).grown hg13 (HNo2.out v9 fun k hk => (HO9.out.lt k hk).1))
        clear hown13 hturn13 hg13 hown hm12
        refine wpList_nil ?_
        go_wp2_with fail
        go_roundw
        case rel =>
          refine ⟨k + 1, by omega, by go_num, ?_, HKr.out.trans HK13.out, ?_⟩
          · rw [take_snoc L k (by omega), ← HLk.out, List.foldl_append, ← HFk.out]
            exact HF13.out
          · rw [take_snoc L k (by omega), ← HLk.out, List.map_append]
            have h := HO13.out
            have e : memsV (((L.take k).map fun q => q.2.m) ++ [((gq, ⟨m, 1⟩) : Cell)].map fun q => q.2.m) = memsV ((L.take k).map fun q => q.2.m) ++ cellsM m := by simp [memsV]
            rw [e]
            exact h
        case measure => simp [RowKit.intOf]; omega
      · have hk2 : ¬ (kk - 1 = 0) := by omega
        have h100 : kk ≤ 100 := Int.le_trans hkk.2 H100.out
        have h1 : 1 ≤ kk := hkk.1
        have r3 := (HVr.out.at_ _ _ _ HQ.out).cell' (i := 3) (v := .int .i64 kk) rfl
        clear hkk
        go_wp2_with (at_builtin; (refine wpList_append_Own _ rfl (.tmp 24) (.tmp 29) 30 rfl B 38 i0 _ 3 24 Try.underlying30 hi hz0 hz1 hz2 rfl (by omega) _ _ _ rfl (HO2.out.alloc _) ⟨_, 0, none⟩ 1 1 (cellsM m) rfl rfl (three_new _ _) (cellsM_oneCell _) ?_ ?_ ?_ ?_); (focus (unfold maxLen; omega)); (focus omega); (focus (have := HBq.out; simp; omega)); intro v9 w9 hO9 hg9 hat9; have HG9 := Lib.hid ((World.grownBy_alloc wr _ u4.ownBlock).trans hg9); have HO9 := Lib.hid hO9; have HV9 := Lib.hid (HVr.out.kept HG9.out (HFar.out.1 p (by have := HPl.out.1; omega)) (HFar.out.1 b (by have := HPl.out.2; omega)) (fun x g r hx => HFar.out.1 g (HFar.out.2 x g r hx))); have HA9 := Lib.hid (HV9.out.at_ _ _ _ HQ.out); have c3 := HA9.out.cell' (i := 3) (v := .int .i64 kk) rfl; have c3f := HA9.out.frozen 3; have c0 := HA9.out.cell' (i := 0) (v := .int .i64 m.n) rfl; clear hO9 hg9 hat9)
        obtain ⟨w12, hw12⟩ : ∃ w12, w12 = w9.setCell ⟨gq, 3, none⟩ (.int .i64 (kk - 1)) := ⟨_, rfl⟩
        rw [← hw12]
        have HG12 := Lib.hid (show w9.grownBy w12 (some gq) by rw [hw12]; exact grown_setCell (World.grownBy.refl _ _) (.inl rfl) _)
        have HA12 := Lib.hid (show At w12 gq 111 (rumC ⟨m, kk - 1⟩) by rw [hw12]; exact HA9.out.set 3 _)
        have d0 := HA12.out.cell' (i := 0) (v := .int .i64 m.n) rfl
        have dp := (HV9.out.hd.grown HG12.out (by intro e; injection e with e; exact (HV9.out.ne.2 _ _ _ HQ.out).1 e.symm)).cell' (i := 1) (v := .map (some b)) rfl
        clear hw12 c3 c0 c3f
        have HF13 := Lib.hid (HV9.out.tell (q := (gq, ⟨m, kk⟩)) HQ.out hk1 HA12.out HG12.out)
        have HK13 := Lib.hid ((Keeps.grown HG9.out fun k hk => HFar2.out k (HO2.out.lt k hk).1).trans (Keeps.ofGrown HG12.out HNg.out))
        have HO13 := Lib.hid (HO9.out.grown HG12.out (HNo.out v9 fun k hk => (HO9.out.lt k hk).1))
        go_roundw
        case rel =>
          refine ⟨k + 1, by omega, by go_num, ?_, HKr.out.trans HK13.out, ?_⟩
          · rw [take_snoc L k (by omega), ← HLk.out, List.foldl_append, ← HFk.out]
            exact HF13.out
          · rw [take_snoc L k (by omega), ← HLk.out, List.map_append]
            have h := HO13.out
            have e : memsV (((L.take k).map fun q => q.2.m) ++ [((gq, ⟨m, kk⟩) : Cell)].map fun q => q.2.m) = memsV ((L.take k).map fun q => q.2.m) ++ cellsM m := by simp [memsV]
            rw [e]
            exact h
        case measure => simp [RowKit.intOf]; omega
    · have hkK : k = K := by omega
      have HV2 := Lib.hid hV
      have HK2 := Lib.hid hkp
      have HO2 := Lib.hid hO2
      have HKK := Lib.hid hkK
      clear hV hkp hO2 hkK
      go_wp2_with fail
      go_ret
      have htold : ((ordB F).take K).map (·.2) = Hm.told n (rums F) := by
        unfold Hm.told
        rw [← ordB_rums, List.map_take, HK.out, ← List.map_take, ← List.map_take]
        congr 1
        rw [show len = (ordB F).length from by rw [← HL.out]; exact HLl.out.symm]
        rcases Nat.le_total (max n 0).toNat (ordB F).length with h | h
        · rw [Nat.min_eq_left h]
        · rw [Nat.min_eq_right h, List.take_length, List.take_of_length_le h]
      have hrums : rums ((L.take k).foldl tellB F) = Hm.rest n (rums F) := by
        rw [rums_foldl, HKK.out, HL.out, htold]; rfl
      have hsz := HB2.out.size
      refine ⟨u4, rfl, ⟨⟨_, HV2.out, hrums, ?_⟩, ?_, ?_, fun i hi2 => ?_⟩, ?_, ?_⟩
      · intro x g r hx hg
        have hs : SameB F ((L.take k).foldl tellB F) := by
          rw [HL.out]
          exact same_told HSN.out k (by rw [← HL.out]; omega)
        obtain ⟨r', hr'⟩ := hs _ _ _ hx
        rcases hg with hg | hg
        · exact HFn.out _ _ _ hr' hg
        · have := (HF.out.at_ _ _ _ hr').lt; omega
      · rintro (h | h)
        · exact HS.out.1 h
        · have := HPl.out.1; omega
      · rintro (h | h)
        · exact HS.out.2.1 h
        · have := HPl.out.2; omega
      · rcases hi2 with hi2 | hi2
        · have h1 := HS.out.2.2 i hi2
          have h2 := HK2.out.size
          omega
        · exact hi2.2
      · exact (Keeps.below' HB2.out HS.out.2.2).trans (HK2.out.mono fun i hi2 => by rw [HA2.out]; exact .inl hi2)
      · have h := HO2.out
        have hm : (L.take k).map (fun q => q.2.m) = (Hm.told n (rums F)).map (·.m) := by
          rw [← htold, List.map_map, HKK.out, HL.out]; rfl
        have hl : k = (Hm.told n (rums F)).length := by
          rw [← htold, List.length_map, List.length_take, HKK.out, ← HL.out]; omega
        rw [hm] at h
        rw [← hl]
        exact h.rebase hwB
end Go.Proofs.Ytghefmppjdneoaa

namespace Go.Proofs.Ytghefmppjdneoaa
open Go.Proofs Stab Go.Shelf Go.RowKit Go.Lib Go.Sort Go.Maps

/-- rumours as cells, one behind the other -/
def rumsV (l : List Rum) : List Value := l.flatMap rumC
theorem info_rum : (Try.prog.info? 111).map (fun i => (i.zero, i.size, i.bytes)) = some (some (.agg (rumC ⟨Mem.zero, 0⟩).toArray), 4, 32) := by kernel_rfl
theorem rumAt (w : World) (r : Rum) : At (w.alloc (.cells #[.int .i64 r.m.n, .int .i64 r.m.i, .int .i64 r.m.s, .int .i64 r.k] 111)) w.heap.size 111 (rumC r) := At.newA _ _ rfl
theorem four_new (w : World) (r : Rum) : ∀ j u, (rumC r)[j]? = some u → (w.alloc (.cells #[.int .i64 r.m.n, .int .i64 r.m.i, .int .i64 r.m.s, .int .i64 r.k] 111)).cell? ((⟨w.heap.size, 0, none⟩ : Addr).add j) = some u := by
  intro j u hu
  have e : (⟨w.heap.size, 0, none⟩ : Addr).add j = ⟨w.heap.size, j, none⟩ := by unfold Addr.add; split <;> simp_all
  rw [e]
  exact (rumAt w r).cell' hu
theorem rumC_oneCell (r : Rum) : ∀ u ∈ rumC r, u.oneCell' = true := by
  intro u hu
  simp only [rumC, List.mem_cons, List.not_mem_nil, or_false] at hu
  rcases hu with rfl | rfl | rfl | rfl <;> rfl
theorem take_none (n : Int) (w : World) : Calls Try.prog 41 #[.pointer none, .int .i64 n] w fun e w' => e = .returned (.slice none 0 0) ∧ Below w.heap.size w w' := by
  go_enter Try.func41, Try.ntmps41
  go_wp2_with fail
  refine (sorted_none _).mono ?_
  rintro e w1 ⟨rfl, rfl⟩
  go_wp2_with fail
  refine (stable_r (w := w1) (B := 0) (v := .slice none 0 0) (n := 0) (l := []) (F := fun _ => none) (fun q hq => absurd hq List.not_mem_nil) (World.ownsRow_nil _ _ _ _) (fun x q hx => nomatch hx) (fun x q hx => nomatch hx) (Nat.zero_le _)).mono ?_
  rintro e w2 ⟨rfl, _, hg2⟩
  have HB := Lib.hid (show Below w1.heap.size w1 w2 from (Below.refl _ _).grown hg2 (Nat.le_refl _) (fun k hk => nomatch hk))
  clear hg2
  have hKK : min (max n 0) (0 : Int) = 0 := by omega
  go_wp2_with fail
  go_loopw [4, 20] (fun v4 i wr => v4 = .slice none 0 0 ∧ i = .int .i64 0 ∧ wr = w2) (fun _ _ _ => 0)
  case atStart => exact ⟨rfl, rfl, rfl⟩
  case round =>
    obtain ⟨rfl, rfl, rfl⟩ := hrel
    go_wp2_with fail
    go_ret
    exact ⟨rfl, HB.out⟩
end Go.Proofs.Ytghefmppjdneoaa

namespace Go.Proofs.Ytghefmppjdneoaa
open Go.Proofs Stab Go.Shelf Go.RowKit Go.Lib Go.Sort Go.Maps

def insS {α : Type} (le : α → α → Bool) (x : α) : List α → List α
  | [] => [x]
  | y :: r => if le y x then y :: insS le x r else x :: y :: r
theorem merge_ins {α : Type} (le : α → α → Bool) (x : α) : ∀ X : List α, List.merge X [x] le = insS le x X
  | [] => by rw [List.nil_merge]; rfl
  | y :: r => by
    rw [List.cons_merge_cons, insS, merge_ins le x r, List.merge_right]
theorem S_ins {α : Type} (le : α → α → Bool) (l : List α) : S le l = l.foldl (fun X x => insS le x X) [] := by
  induction l using snoc_ind with
  | h0 => rfl
  | h1 l x ih => rw [S_snoc, List.foldl_append, ← ih, merge_ins]; rfl
namespace Hm
def toldI (q : Int) (f : St) : List Rum := ((all f).foldl (fun X x => insS (leC cfR) x X) []).take (max q 0).toNat
def restI (q : Int) (f : St) : St := (toldI q f).foldl tell f
theorem told_ins (q : Int) (f : St) : told q f = toldI q f := by unfold told sorted toldI; rw [S_ins]
theorem rest_ins (q : Int) (f : St) : rest q f = restI q f := by unfold rest restI; rw [told_ins]
end Hm
theorem memsV_at (l : List Mem) (i : Nat) (hi : i < l.length) (j : Nat) (v : Value) (hv : (cellsM l[i])[j]? = some v) : (memsV l)[i * 3 + j]? = some v := by
  induction l generalizing i with
  | nil => simp at hi
  | cons m l ih =>
    cases i with
    | zero =>
      have hj : j < 3 := by
        have := (List.getElem?_eq_some_iff.1 hv).1
        simpa [cellsM] using this
      unfold memsV
      rw [List.flatMap_cons, Nat.zero_mul, Nat.zero_add, List.getElem?_append_left (by simpa [cellsM] using hj)]
      exact hv
    | succ i =>
      unfold memsV
      rw [List.flatMap_cons, List.getElem?_append_right (by simp [cellsM]; omega)]
      have e : (i + 1) * 3 + j - (cellsM m).length = i * 3 + j := by simp [cellsM]; omega
      rw [e]
      exact ih i (by simpa using hi) hv
theorem mems_laid (w : World) (l : List Mem) (C : Array Value) (h : C = (memsV l).toArray) (g : Nat) (hg : g = w.heap.size) : MemsIn (w.alloc (.cells C 38)) (some ⟨g, 0, none⟩) l := fun _ => by
  subst h hg
  refine ⟨_, _, rfl, by simp, fun i hi j v hv => ?_⟩
  rw [Nat.zero_add]
  exact (At.new w 38 (memsV l)).cell' (memsV_at l i hi j v hv)
theorem own_eq {g n c k : Nat} (h : (Value.slice (some ⟨g, 0, none⟩) n c).ownBlock = some k) : k = g := by
  injection h with h
  exact h.symm
/-- a row of members made by a call, kept where its block stands apart -/
theorem Own.keeps {A : Nat → Prop} {w w' : World} {B : Nat} {e : TypeId} {size n : Nat} {v : Value} {xs : List Value} (h : Own w B e size v n xs) (hk : Keeps A w w') (hA : ∀ k, v.ownBlock = some k → A k) : Own w' B e size v n xs :=
  h.keep fun g hv => hk.block g (hA g hv) (h.lt g hv).2
end Go.Proofs.Ytghefmppjdneoaa

namespace Go.Proofs.Ytghefmppjdneoaa
open Go.RowKit

theorem get_put {cs vs : List Value} {o : Nat} (h : o + vs.length ≤ cs.length) (i : Nat) : (cs.take o ++ vs ++ cs.drop (o + vs.length))[i]? = if o ≤ i ∧ i < o + vs.length then vs[i - o]? else cs[i]? := by
  have h1 : (cs.take o).length = o := by rw [List.length_take]; omega
  rw [List.append_assoc, List.getElem?_append, h1]
  by_cases h2 : i < o
  · rw [if_pos h2, if_neg (by omega), List.getElem?_take, if_pos h2]
  · rw [if_neg h2, List.getElem?_append]
    by_cases h3 : i - o < vs.length
    · rw [if_pos h3, if_pos (by omega)]
    · rw [if_neg h3, if_neg (by omega), List.getElem?_drop]
      congr 1
      omega
section
variable {P : Program} {ops : Array Oper} {C : World → Prop} {Q : Act → Prop} {a : Act} {o : Oper} {rest : List Oper}
theorem run_load_bool {ty : TypeId} (hu : P.underlying ty = some .bool) {w : World} {b off : Nat} {v : Value} (hc : w.cell? ⟨b, off, none⟩ = some v) :
    (Instr.loadAt ty (.pointer (some ⟨b, off, none⟩))).run P w = .ok v w := by
  simp [Instr.loadAt, Instr.sureAddr, loadVar, isAgg, run_underlying hu, hc]
theorem run_load_slice {ty e : TypeId} (hu : P.underlying ty = some (.slice e)) {w : World} {b off : Nat} {v : Value} (hc : w.cell? ⟨b, off, none⟩ = some v) :
    (Instr.loadAt ty (.pointer (some ⟨b, off, none⟩))).run P w = .ok v w := by
  simp [Instr.loadAt, Instr.sureAddr, loadVar, isAgg, run_underlying hu, hc]
theorem wpQuiet_loadS (v : Value) (hw : Region.wanted o (yielded ops a.tmps) = true) (ty e : TypeId) (x : Operand) (ho : o.op = .load ty x) (hu : P.underlying ty = some (.slice e)) (b off : Nat) (hx : a.eval x = .pointer (some ⟨b, off, none⟩))
    (hS : ∀ w, C w → w.cell? ⟨b, off, none⟩ = some v) (h : wpQuiet P ops C Q rest (a.put o.dst v)) : wpQuiet P ops C Q (o :: rest) a :=
  wpQuiet_val v hw (fun w hC => by
    unfold execOp
    simp only [ho, hx, Sem.run_bind, Sem.run_pure, run_load_slice hu (hS w hC), Result.andThen_ok]) h
theorem wpQuiet_loadB (v : Value) (hw : Region.wanted o (yielded ops a.tmps) = true) (ty : TypeId) (x : Operand) (ho : o.op = .load ty x) (hu : P.underlying ty = some .bool) (b off : Nat) (hx : a.eval x = .pointer (some ⟨b, off, none⟩))
    (hS : ∀ w, C w → w.cell? ⟨b, off, none⟩ = some v) (h : wpQuiet P ops C Q rest (a.put o.dst v)) : wpQuiet P ops C Q (o :: rest) a :=
  wpQuiet_val v hw (fun w hC => by
    unfold execOp
    simp only [ho, hx, Sem.run_bind, Sem.run_pure, run_load_bool hu (hS w hC), Result.andThen_ok]) h
end
theorem wpList_storeB {P : Program} {ops : Array Oper} {rest : List Oper} {o : Oper} {a : Act} {w : World} {Q : Exit → Act → World → Prop} (hgd : o.guard = none) (ty : TypeId) (x y : Operand) (ho : o.op = .store ty x y) (b off : Nat) (bv : Bool)
    (hx : a.eval x = .pointer (some ⟨b, off, none⟩)) (hy : a.eval y = .bool bv) (hi : (P.info? ty).map (·.size) = some 1) (hc : (w.cell? ⟨b, off, none⟩).isSome = true ∧ w.frozen? ⟨b, off, none⟩ = false)
    (h : wpList P ops Q rest (a.put o.dst undef) (w.setCell ⟨b, off, none⟩ (.bool bv))) : wpList P ops Q (o :: rest) a w :=
  wpList_plain hgd fun _ hK => by
    unfold Oper.wp execOp
    have hr : (Instr.storeAt ty (.pointer (some ⟨b, off, none⟩)) (.bool bv)).run P w = .ok () (w.setCell ⟨b, off, none⟩ (.bool bv)) := by
      cases hq : P.info? ty with
      | none => simp [hq] at hi
      | some i =>
        have hs : i.size = 1 := by simpa [hq] using hi
        obtain ⟨v0, hv0⟩ := Option.isSome_iff_exists.1 hc.1
        simp [Instr.storeAt, Instr.sureAddr, storeVar, sizeOf, typeInfo, hq, hs, hv0, hc.2, Value.cells, storeCells, go_sem]
    simp only [ho, hx, hy, Sem.run_bind, Sem.run_pure, hr, Result.andThen_ok]
    exact hK _ _ h

theorem mem_beq (x y : Mem) : (x.n == y.n && (x.i == y.i && x.s == y.s)) = decide (x = y) := by
  rw [Bool.eq_iff_iff]
  cases x; cases y
  simp
theorem run_eql_mem (w : World) (x y : Mem) : (binOp .eql 38 (memV x) (memV y)).run Try.prog w = .ok (.bool (decide (x = y))) w := by
  rw [← mem_beq]
  unfold memV
  go_simp
  by_cases h1 : x.n = y.n <;> by_cases h2 : x.i = y.i <;> by_cases h3 : x.s = y.s <;> simp [h1, h2, h3]
theorem run_neq_mem (w : World) (x y : Mem) : (binOp .neq 38 (memV x) (memV y)).run Try.prog w = .ok (.bool (!decide (x = y))) w := by
  rw [← mem_beq]
  unfold memV
  go_simp
  by_cases h1 : x.n = y.n <;> by_cases h2 : x.i = y.i <;> by_cases h3 : x.s = y.s <;> simp [h1, h2, h3]

section
variable {P : Program} {ops : Array Oper} {Q : Exit → Act → World → Prop} {o : Oper} {rest : List Oper} {a : Act} {w : World}
theorem wpList_val (v : Value) (hw : Region.wanted o (yielded ops a.tmps) = true) (hv : (execOp a.eval o).run P w = .ok (.value v) w) (h : wpList P ops Q rest (a.put o.dst v) w) : wpList P ops Q (o :: rest) a w :=
  wpList_step fun K hK => by
    rw [if_pos hw]
    unfold Oper.wp
    rw [hv]
    exact hK _ _ h
theorem exec_allocZ (T : TypeId) (z : List Value) (ho : o.op = .alloc T) (hz : ∀ w, (zeroValue T).run P w = .ok (.agg z.toArray) w) (w : World) :
    (execOp a.eval o).run P w = .ok (.value (.pointer (some ⟨w.heap.size, 0, none⟩))) (w.alloc (.cells z.toArray T)) := by
  unfold execOp
  simp only [ho]
  go_simp
/-- a variable of several cells is made -/
theorem wpList_allocZ (T : TypeId) (z : List Value) (hw : Region.wanted o (yielded ops a.tmps) = true) (ho : o.op = .alloc T) (hz : ∀ w, (zeroValue T).run P w = .ok (.agg z.toArray) w)
    (h : ∀ g w', g = w.heap.size → At w' g T z → Below w.heap.size w w' → wpList P ops Q rest (a.put o.dst (.pointer (some ⟨g, 0, none⟩))) w') : wpList P ops Q (o :: rest) a w :=
  wpList_step fun K hK => by
    rw [if_pos hw]
    unfold Oper.wp
    rw [exec_allocZ T z ho hz w]
    exact hK _ _ (h _ _ rfl (At.new w T z) ((Below.refl _ _).alloc (Nat.le_refl _) _))
theorem wpList_build (cells : Array Value) (hw : Region.wanted o (yielded ops a.tmps) = true) (t : TypeId) (parts : Array (Nat × Operand)) (ho : o.op = .build t parts) (hb : P.built t (parts.map fun (i, x) => (i, a.eval x)).toList = some cells)
    (h : wpList P ops Q rest (a.put o.dst (.agg cells)) w) : wpList P ops Q (o :: rest) a w :=
  wpList_val _ hw (exec_build t parts cells ho hb w) h
end
def zInts (n : Nat) : List Value := List.replicate n (.int .i64 0)
def zBools (n : Nat) : List Value := List.replicate n (.bool false)
theorem zInts_one (n : Nat) : ∀ v ∈ zInts n, v.oneCell' = true := fun v hv => by rw [List.eq_of_mem_replicate hv]; rfl
theorem zBools_one (n : Nat) : ∀ v ∈ zBools n, v.oneCell' = true := fun v hv => by rw [List.eq_of_mem_replicate hv]; rfl
theorem below_drewN {B : Nat} {w0 w : World} (h : Below B w0 w) (n : Nat) : Below B w0 (w.drewN n) := by
  induction n with
  | zero => exact h
  | succ n ih => exact ih.drew
theorem run_eqGuard_mem (w : World) (op : BinOp) (x y : Operand) (a b : Mem) : (eqGuard op 38 x y (memV a) (memV b)).run Try.prog w = .ok () w :=
  run_eqGuard_agg w op 38 x y _ _ (by kernel_rfl)
/-- worlds behind a world -/
def Behind (w0 w' : World) : Prop := Below w0.heap.size w0 w'
theorem HumSt.sane {H : Type} {w : World} {A : Nat → Prop} {p b N : Nat} {t : Int} {f : Hm.St} (h : HumSt H w A p b N t f) : Hm.Sane t f := by
  obtain ⟨⟨F, h1, h2, _⟩, _⟩ := h
  rw [← h2]
  exact h1.sane
/-- a block that stands apart is written -/
theorem HumSt.apart {H : Type} {w w' : World} {A : Nat → Prop} {p b N : Nat} {t : Int} {f : Hm.St} (h : HumSt H w A p b N t f) {g : Nat} (hg : w.grownBy w' (some g)) (hA : A g) : HumSt H w' A p b N t f := by
  obtain ⟨⟨F, h1, h2, h3⟩, h4, h5, h6⟩ := h
  exact ⟨⟨F, h1.kept hg (by intro e; injection e with e; subst e; exact h4 hA) (by intro e; injection e with e; subst e; exact h5 hA) (fun x g' r hF e => by injection e with e; subst e; exact h3 x _ r hF hA), h2, h3⟩, h4, h5, fun i hi => Nat.lt_of_lt_of_le (h6 i hi) hg.size⟩
/-- a block that begins with hd and then holds the seven things c 0 .. c 6, of s cells each -/
def TblAt (w : World) (b : Nat) (T : TypeId) (hd : List Value) (s : Nat) (c : Nat → List Value) : Prop :=
  ∃ cs, At w b T cs ∧ cs.length = hd.length + 7 * s ∧ (∀ n, (c n).length = s) ∧ (∀ (j : Nat) v, hd[j]? = some v → cs[j]? = some v) ∧ ∀ n, n < 7 → ∀ (j : Nat) v, (c n)[j]? = some v → cs[hd.length + n * s + j]? = some v
section
variable {w w' : World} {b : Nat} {T : TypeId} {hd : List Value} {s : Nat} {c : Nat → List Value}
theorem TblAt.lt (h : TblAt w b T hd s c) : b < w.heap.size := by
  obtain ⟨cs, h1, _⟩ := h
  exact h1.lt
theorem TblAt.below (h : TblAt w b T hd s c) (hb : Below w.heap.size w w') : TblAt w' b T hd s c := by
  obtain ⟨cs, h1, h2⟩ := h
  exact ⟨cs, h1.below hb h1.lt, h2⟩
theorem TblAt.grown {row : Option Nat} (h : TblAt w b T hd s c) (hg : w.grownBy w' row) (hne : some b ≠ row) : TblAt w' b T hd s c := by
  obtain ⟨cs, h1, h2⟩ := h
  exact ⟨cs, h1.grown hg hne, h2⟩
theorem TblAt.keeps {A : Nat → Prop} (h : TblAt w b T hd s c) (hk : Keeps A w w') (hA : A b) : TblAt w' b T hd s c := by
  obtain ⟨cs, h1, h2⟩ := h
  exact ⟨cs, h1.keeps hk hA, h2⟩
theorem TblAt.cell (h : TblAt w b T hd s c) {n : Nat} (hn : n < 7) {j : Nat} {v : Value} (hv : (c n)[j]? = some v) : w.cell? ⟨b, hd.length + n * s + j, none⟩ = some v := by
  obtain ⟨cs, h1, _, _, _, h2⟩ := h
  exact h1.cell' (h2 n hn j v hv)
theorem TblAt.head (h : TblAt w b T hd s c) {j : Nat} {v : Value} (hv : hd[j]? = some v) : w.cell? ⟨b, j, none⟩ = some v := by
  obtain ⟨cs, h1, _, _, h2, _⟩ := h
  exact h1.cell' (h2 j v hv)
theorem TblAt.range (h : TblAt w b T hd s c) {n : Nat} (hn : n < 7) : w.rangeAt b (hd.length + n * s) (c n) := fun _ _ hv => h.cell hn hv
theorem TblAt.frozen (h : TblAt w b T hd s c) (i : Nat) : w.frozen? ⟨b, i, none⟩ = false := by
  obtain ⟨cs, h1, _⟩ := h
  exact h1.frozen i
theorem TblAt.there (h : TblAt w b T hd s c) {n : Nat} (hn : n < 7) : w.there b (hd.length + n * s) s := by
  obtain ⟨cs, h1, h2, _⟩ := h
  refine h1.there _ _ ?_
  rw [h2]
  have : n * s + s ≤ 7 * s := by rw [← Nat.succ_mul]; exact Nat.mul_le_mul_right _ hn
  omega
theorem TblAt.put (h : TblAt w b T hd s c) {n : Nat} (hn : n < 7) (vs : List Value) (hs : vs.length = s) : TblAt (w.setCells b (hd.length + n * s) vs) b T hd s (fun i => if i = n then vs else c i) := by
  obtain ⟨cs, h1, h2, h3, h4, h5⟩ := h
  have hle : n * s + s ≤ 7 * s := by rw [← Nat.succ_mul]; exact Nat.mul_le_mul_right _ hn
  have hfit : hd.length + n * s + vs.length ≤ cs.length := by omega
  refine ⟨_, h1.setCells vs _ hfit, ?_, fun i => ?_, fun j v hv => ?_, fun i hi j v hv => ?_⟩
  · simp only [List.length_append, List.length_take, List.length_drop]
    omega
  · show (if i = n then vs else c i).length = s
    split
    · exact hs
    · exact h3 i
  · have hj := (List.getElem?_eq_some_iff.1 hv).1
    rw [get_put hfit, if_neg (by omega)]
    exact h4 j v hv
  · rw [get_put hfit]
    by_cases hin : i = n
    · subst hin
      change (if i = i then vs else c i)[j]? = some v at hv
      rw [if_pos rfl] at hv
      have hj := (List.getElem?_eq_some_iff.1 hv).1
      rw [if_pos (by omega), show hd.length + i * s + j - (hd.length + i * s) = j from by omega]
      exact hv
    · change (if i = n then vs else c i)[j]? = some v at hv
      rw [if_neg hin] at hv
      have hj := (List.getElem?_eq_some_iff.1 hv).1
      rw [h3] at hj
      have hcmp : i * s + s ≤ n * s ∨ n * s + s ≤ i * s := by
        rcases Nat.lt_or_gt_of_ne hin with hlt | hlt
        · exact .inl (by rw [← Nat.succ_mul]; exact Nat.mul_le_mul_right _ hlt)
        · exact .inr (by rw [← Nat.succ_mul]; exact Nat.mul_le_mul_right _ hlt)
      rw [if_neg (by rw [hs]; omega)]
      exact h5 i hi j v hv
theorem TblAt.put1 (h : TblAt w b T hd 1 c) {n : Nat} (hn : n < 7) (v : Value) : TblAt (w.setCell ⟨b, hd.length + n, none⟩ v) b T hd 1 (fun i => if i = n then [v] else c i) := by
  have h1 := h.put hn [v] rfl
  rw [Nat.mul_one] at h1
  exact h1
theorem TblAt.there0 (h : TblAt w b T [] s c) {n : Nat} (hn : n < 7) : w.there b (n * s) s := by
  have h1 := h.there hn
  rwa [List.length_nil, Nat.zero_add] at h1
theorem TblAt.put0 (h : TblAt w b T [] s c) {n : Nat} (hn : n < 7) (vs : List Value) (hs : vs.length = s) : TblAt (w.setCells b (n * s) vs) b T [] s (fun i => if i = n then vs else c i) := by
  have h1 := h.put hn vs hs
  rwa [List.length_nil, Nat.zero_add] at h1
theorem TblAt.put10 (h : TblAt w b T [] 1 c) {n : Nat} (hn : n < 7) (v : Value) : TblAt (w.setCell ⟨b, n, none⟩ v) b T [] 1 (fun i => if i = n then [v] else c i) := by
  have h1 := h.put1 hn v
  rwa [List.length_nil, Nat.zero_add] at h1
theorem TblAt.cell0 (h : TblAt w b T [] s c) {n : Nat} (hn : n < 7) {j : Nat} {v : Value} (hv : (c n)[j]? = some v) : w.cell? ⟨b, n * s + j, none⟩ = some v := by
  have h1 := h.cell hn hv
  rwa [List.length_nil, Nat.zero_add] at h1
theorem TblAt.cell10 (h : TblAt w b T [] 1 c) {n : Nat} (hn : n < 7) {v : Value} (hv : c n = [v]) : w.cell? ⟨b, n, none⟩ = some v := by
  have h1 := h.cell0 hn (j := 0) (v := v) (by rw [hv]; rfl)
  rwa [Nat.mul_one, Nat.add_zero] at h1
theorem TblAt.range0 (h : TblAt w b T [] s c) {n : Nat} (hn : n < 7) : w.rangeAt b (n * s) (c n) := fun _ _ hv => h.cell0 hn hv
theorem TblAt.congr {c' : Nat → List Value} (h : TblAt w b T hd s c) (hc : ∀ n, c n = c' n) : TblAt w b T hd s c' := by
  have : c = c' := funext hc
  rw [← this]
  exact h
theorem TblAt.made {z : Value} (h : At w b T (hd ++ List.replicate (7 * s) z)) (hc : ∀ n, c n = List.replicate s z) : TblAt w b T hd s c := by
  refine ⟨_, h, by rw [List.length_append, List.length_replicate], fun n => by rw [hc, List.length_replicate], fun j v hv => ?_, fun n hn j v hv => ?_⟩
  · rw [List.getElem?_append_left (List.getElem?_eq_some_iff.1 hv).1]
    exact hv
  · rw [hc] at hv
    have hj := (List.getElem?_eq_some_iff.1 hv).1
    rw [List.length_replicate] at hj
    rw [List.getElem?_replicate, if_pos hj] at hv
    have hle : n * s + s ≤ 7 * s := by rw [← Nat.succ_mul]; exact Nat.mul_le_mul_right _ hn
    rw [List.getElem?_append_right (by omega), List.getElem?_replicate, if_pos (by omega)]
    exact hv
end
end Go.Proofs.Ytghefmppjdneoaa

namespace Go.Proofs.Ytghefmppjdneoaa
open Go.RowKit
theorem height_any (m : Mem) (hm : m.good = true) (w : World) : Calls Try.prog 39 #[memV m] w fun e w' => e = .returned (.int .i64 m.height) ∧ Below w.heap.size w w' := by
  have hg := (Mem.good_iff m).1 hm
  have hB : Below w.heap.size w (w.alloc (.cells #[.int .i64 m.n, .int .i64 m.i, .int .i64 m.s] 38)) := (Below.refl _ _).alloc (Nat.le_refl _) _
  have h1 : IntKind.i64.wrap (m.i * 4) = m.i * 4 := IntWalk.i64_in _ (by omega)
  have h2 : IntKind.i64.wrap (m.i * 4 + m.s) = m.i * 4 + m.s := IntWalk.i64_in _ (by omega)
  unfold memV Mem.height
  obtain ⟨i1, i2, i3, i4, i5, i6⟩ := hg
  clear hm
  go_enter Try.func39, Try.ntmps39
  go_wp2_with fail
  go_ret
  exact ⟨rfl, hB⟩
/-- both members lie where they were laid, and nothing older has turned -/
def HeldM (x y : Mem) (w w' : World) : Prop :=
  w'.rangeAt w.heap.size 0 [.int .i64 x.n, .int .i64 x.i, .int .i64 x.s] ∧ w'.rangeAt (w.heap.size + 1) 0 [.int .i64 y.n, .int .i64 y.i, .int .i64 y.s] ∧ w.heap.size + 1 < w'.heap.size ∧ Below w.heap.size w w'
theorem HeldM.below {x y : Mem} {w w' w'' : World} (h : HeldM x y w w') (hb : Below w'.heap.size w' w'') : HeldM x y w w'' :=
  ⟨range_below' h.1 hb (by have := h.2.2.1; omega), range_below' h.2.1 hb h.2.2.1, Nat.lt_of_lt_of_le h.2.2.1 hb.size, h.2.2.2.trans (hb.mono h.2.2.2.size)⟩
theorem HeldM.drew {x y : Mem} {w w' : World} (h : HeldM x y w w') : HeldM x y w w'.drew := h.below (Below.refl _ _).drew
theorem HeldM.laid (x y : Mem) (w : World) : HeldM x y w ((w.alloc (.cells #[.int .i64 x.n, .int .i64 x.i, .int .i64 x.s] 38)).alloc (.cells #[.int .i64 y.n, .int .i64 y.i, .int .i64 y.s] 38)) := by
  have h1 := (memAt w x).alloc (.cells #[.int .i64 y.n, .int .i64 y.i, .int .i64 y.s] 38)
  have h2 := memAt (w.alloc (.cells #[.int .i64 x.n, .int .i64 x.i, .int .i64 x.s] 38)) y
  rw [World.size_alloc] at h2
  exact ⟨fun j v hv => by rw [Nat.zero_add]; exact h1.cell' hv, fun j v hv => by rw [Nat.zero_add]; exact h2.cell' hv, h2.lt, ((Below.refl _ _).alloc (Nat.le_refl _) _).alloc (by simp) _⟩
set_option maxRecDepth 100000 in
set_option maxHeartbeats 2000000 in
theorem above_case (x y : Mem) (gx gy q1 q2 : Bool) (h1 : x.good = gx) (h2 : y.good = gy) (h3 : decide (x.n = y.n) = q1) (h4 : decide (y.height < x.height) = q2) (w : World) :
    Calls Try.prog 15 #[memV x, memV y] w fun e w' => e = .returned (.bool (gx && gy && q1 && q2)) ∧ Below w.heap.size w w' := by
  have HE := Lib.hid (And.intro h1 (And.intro h2 (And.intro h3 h4)))
  have HH := Lib.hid (HeldM.laid x y w)
  have HU := Lib.hid Try.underlying38
  have HI := Lib.hid (show (Try.prog.info? 38).map (·.size) = some 3 by kernel_rfl)
  have HQ1 := Lib.hid (show ∀ w, (binOp .eql 3 (.int .i64 x.n) (.int .i64 y.n)).run Try.prog w = .ok (.bool q1) w by
    intro w
    have h5 : (x.n == y.n) = q1 := by rw [← h3, Bool.eq_iff_iff, beq_iff_eq, decide_eq_true_eq]
    rw [← h5]
    go_simp)
  have HQ2 := Lib.hid (show ∀ w, (binOp .gtr 3 (.int .i64 x.height) (.int .i64 y.height)).run Try.prog w = .ok (.bool q2) w by
    intro w
    rw [← h4]
    go_simp)
  clear h1 h2 h3 h4
  go_enter Try.func15, Try.ntmps15
  unfold memV
  go_wp2_with fail
  generalize (w.alloc (.cells #[.int .i64 x.n, .int .i64 x.i, .int .i64 x.s] 38)).alloc (.cells #[.int .i64 y.n, .int .i64 y.i, .int .i64 y.s] 38) = w3 at HH ⊢
  cases gx <;> cases gy <;> cases q1 <;> cases q2
  all_goals
    refine wp_region_class (HeldM x y w) (by kernel_rfl) (by kernel_rfl) HH.out.drew ?_
    iterate 21 (first
      | (refine wpQuiet_not rfl ?_; simp only [Act.put, List.setIfInBounds_toArray, List.set_cons_zero, List.set_cons_succ])
      | (refine wpQuiet_loadAll rfl 38 _ rfl w.heap.size 0 rfl [.int .i64 x.n, .int .i64 x.i, .int .i64 x.s] _ (fun w h => h.1) HU.out rfl HI.out ?_; simp only [Act.put, List.setIfInBounds_toArray, List.set_cons_zero, List.set_cons_succ])
      | (refine wpQuiet_loadAll rfl 38 _ rfl (w.heap.size + 1) 0 rfl [.int .i64 y.n, .int .i64 y.i, .int .i64 y.s] _ (fun w h => h.2.1) HU.out rfl HI.out ?_; simp only [Act.put, List.setIfInBounds_toArray, List.set_cons_zero, List.set_cons_succ])
      | (refine wpQuiet_load1 (.int .i64 x.n) rfl 3 _ rfl _ Try.underlying3 w.heap.size 0 rfl (fun w h => h.1 0 _ rfl) ?_; simp only [Act.put, List.setIfInBounds_toArray, List.set_cons_zero, List.set_cons_succ])
      | (refine wpQuiet_load1 (.int .i64 y.n) rfl 3 _ rfl _ Try.underlying3 (w.heap.size + 1) 0 rfl (fun w h => h.2.1 0 _ rfl) ?_; simp only [Act.put, List.setIfInBounds_toArray, List.set_cons_zero, List.set_cons_succ])
      | (refine wpQuiet_call 38 [memV x] (.bool _) rfl _ _ rfl rfl (fun _ => by kernel_rfl) (fun w' h => (good_at x _ HE.out.1 _).mono fun e w'' ⟨he, hbx⟩ => ⟨he, h.below hbx⟩) ?_; simp only [Act.put, List.setIfInBounds_toArray, List.set_cons_zero, List.set_cons_succ])
      | (refine wpQuiet_call 38 [memV y] (.bool _) rfl _ _ rfl rfl (fun _ => by kernel_rfl) (fun w' h => (good_at y _ HE.out.2.1 _).mono fun e w'' ⟨he, hbx⟩ => ⟨he, h.below hbx⟩) ?_; simp only [Act.put, List.setIfInBounds_toArray, List.set_cons_zero, List.set_cons_succ])
      | (refine wpQuiet_call 39 [memV x] (.int .i64 x.height) rfl _ _ rfl rfl (fun _ => by kernel_rfl) (fun w' h => (height_any x HE.out.1 _).mono fun e w'' ⟨he, hbx⟩ => ⟨he, h.below hbx⟩) ?_; simp only [Act.put, List.setIfInBounds_toArray, List.set_cons_zero, List.set_cons_succ])
      | (refine wpQuiet_call 39 [memV y] (.int .i64 y.height) rfl _ _ rfl rfl (fun _ => by kernel_rfl) (fun w' h => (height_any y HE.out.2.1 _).mono fun e w'' ⟨he, hbx⟩ => ⟨he, h.below hbx⟩) ?_; simp only [Act.put, List.setIfInBounds_toArray, List.set_cons_zero, List.set_cons_succ])
      | (refine wpQuiet_bin rfl .eql 3 _ _ _ rfl (.int .i64 x.n) (.int .i64 y.n) (.bool _) rfl rfl (fun w => rfl) HQ1.out ?_; simp only [Act.put, List.setIfInBounds_toArray, List.set_cons_zero, List.set_cons_succ])
      | (refine wpQuiet_bin rfl .gtr 3 _ _ _ rfl (.int .i64 x.height) (.int .i64 y.height) (.bool _) rfl rfl (fun w => rfl) HQ2.out ?_; simp only [Act.put, List.setIfInBounds_toArray, List.set_cons_zero, List.set_cons_succ])
      | (refine wpQuiet_val (.pointer (some ⟨w.heap.size, 0, none⟩)) rfl (fun w' _ => ?_) ?_; (focus (go_simp; done)); simp only [Act.put, List.setIfInBounds_toArray, List.set_cons_zero, List.set_cons_succ])
      | (refine wpQuiet_val (.pointer (some ⟨w.heap.size + 1, 0, none⟩)) rfl (fun w' _ => ?_) ?_; (focus (go_simp; done)); simp only [Act.put, List.setIfInBounds_toArray, List.set_cons_zero, List.set_cons_succ])
      | (refine wpQuiet_val (.bool true) rfl (fun w' _ => rfl) ?_; simp only [Act.put, List.setIfInBounds_toArray, List.set_cons_zero, List.set_cons_succ])
      | (refine wpQuiet_val (.bool false) rfl (fun w' _ => rfl) ?_; simp only [Act.put, List.setIfInBounds_toArray, List.set_cons_zero, List.set_cons_succ]))
    refine wpQuiet_nil ?_
    intro w7 hH7
    go_wp2_with fail
    go_ret
    exact ⟨rfl, hH7.2.2.2⟩
theorem above_any (x y : Mem) (w : World) : Calls Try.prog 15 #[memV x, memV y] w fun e w' => e = .returned (.bool (x.above y)) ∧ Below w.heap.size w w' :=
  above_case x y _ _ _ _ rfl rfl rfl rfl w
end Go.Proofs.Ytghefmppjdneoaa

namespace Go.Proofs.Ytghefmppjdneoaa
open Go.RowKit Go.Maps

/-- a view: its struct at p, its map at b, what is known -/
def ViewAt (H : Type) (w : World) (p b N : Nat) (f : Known) : Prop :=
  At w p 102 [.map (some b)] ∧ w.ownsMap Try.prog 3 readM b N (mapD H f) ∧ Sane f ∧ p ≠ b
theorem keyed_int : Keyed Try.prog 3 := int_keyed Try.underlying3
theorem zero_mem (w : World) : (zeroValue 38).run Try.prog w = .ok (memV Mem.zero) w := by kernel_rfl
theorem key_int {n : Int} (h1 : -9223372036854775808 ≤ n) (h2 : n ≤ 9223372036854775807) : keyOf Try.prog 3 (.int .i64 n) = some (.int .i64 n) :=
  keyOf_int_mk Try.underlying3 (by simp [Lit.wf, IntKind.min, IntKind.max, IntKind.signed, IntKind.bits]; omega)
theorem sane_nodes {f : Known} (h : Sane f) : ∀ k m, f k = some m → k ∈ nodes := fun k m hk => by
  obtain ⟨hg, rfl⟩ := h k m hk
  exact good_node hg
/-- what a lookup with ok hands back -/
def found (f : Known) (k : Int) : Value := match f k with
  | some m => .tuple #[memV m, .bool true]
  | none => .tuple #[memV Mem.zero, .bool false]
theorem view_lookup {H : Type} {w : World} {p b N : Nat} {f : Known} (h : ViewAt H w p b N f) {k : Int} (h1 : -9223372036854775808 ≤ k) (h2 : k ≤ 9223372036854775807) :
    (Instr.lookup 100 (.map (some b)) (.int .i64 k) true).run Try.prog w = .ok (found f k) w := by
  obtain ⟨_, ⟨es, clock, hb, F, _, hD⟩, hs, _⟩ := h
  have hat : ∀ z : DataW H, (DataW.map ((es.toList.map (WideElems.rg Try.prog 3 readM)).foldr DataW.insert [])).atKey (.int .i64 k) z = (match f k with | some m => memD m | none => z) := fun z => by
    rw [← hD]
    exact atKey_mapD f k z (sane_nodes hs k)
  rcases Maps.fit_look true keyed_int Try.underlying100 (zero_mem w) hb F (key_int h1 h2) with ⟨hrun, _, hz⟩ | ⟨e0, y, _, _, hrun, hRv, hz, _⟩
  · rw [hrun]
    have : f k = none := by
      cases hf : f k with
      | none => rfl
      | some m =>
        have h3 := (hz .nil).symm.trans (hat .nil)
        rw [hf] at h3
        cases h3
    simp [found, this]
  · rw [hrun]
    obtain ⟨m, hv, rfl⟩ := readM_inv hRv
    have h3 := (hz .nil).symm.trans (hat .nil)
    cases hf : f k with
    | none =>
      rw [hf] at h3
      cases h3
    | some m' =>
      rw [hf] at h3
      have := memD_inj h3
      subst this
      simp [found, hf, hv]
theorem view_below {H : Type} {w w' : World} {p b N : Nat} {f : Known} (h : ViewAt H w p b N f) (hb : Below w.heap.size w w') : ViewAt H w' p b N f :=
  ⟨h.1.below hb h.1.lt, h.2.1.kept (row := none) ⟨hb.os, hb.tape, hb.output, hb.size, fun i hi _ => hb.block i hi⟩ (by simp), h.2.2⟩
end Go.Proofs.Ytghefmppjdneoaa
