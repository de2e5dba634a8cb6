/- Laws of plain regions: a variable made, a thing loaded out of a row, a thing stored into a row of the call's own. -/
import Derived.Test.YtdfeiajdmmlllaaDoorEncB
namespace Go.Proofs.YtdfeiajdmmlllaaDoor
open Go.Proofs Go.Shelf Go.RowKit Go.Lib Go.Sort

section
variable {P : Program} {ops : Array Oper} {Q : Exit → Act → World → Prop} {o : Oper} {rest : List Oper} {a : Act} {w : World}
theorem exec_allocZ (T : TypeId) (z : List Value) (ho : o.op = .alloc T) (hz : ∀ w, (zeroValue T).run P w = .ok (.agg z.toArray) w) (w : World) :
    (execOp a.eval o).run P w = .ok (.value (.pointer (some ⟨w.heap.size, 0, none⟩))) (w.alloc (.cells z.toArray T)) := by
  unfold execOp
  simp only [ho]
  go_simp
/-- a variable of several cells is made -/
theorem wpList_allocZ (T : TypeId) (z : List Value) (hw : Region.wanted o (yielded ops a.tmps) = true) (ho : o.op = .alloc T) (hz : ∀ w, (zeroValue T).run P w = .ok (.agg z.toArray) w)
    (h : ∀ g w', g = w.heap.size → At w' g T z → Below w.heap.size w w' → wpList P ops Q rest (a.put o.dst (.pointer (some ⟨g, 0, none⟩))) w') : wpList P ops Q (o :: rest) a w :=
  wpList_step fun K hK => by
    rw [if_pos hw]
    unfold Oper.wp
    rw [exec_allocZ T z ho hz w]
    exact hK _ _ (h _ _ rfl (At.new w T z) ((Below.refl _ _).alloc (Nat.le_refl _) _))
end
theorem range_below' {w w' : World} {b o : Nat} {cs : List Value} (h : w.rangeAt b o cs) (hb : Below w.heap.size w w') (hlt : b < w.heap.size) : w'.rangeAt b o cs := fun j v hv => (hb.cell (p := ⟨b, o + j, none⟩) hlt).trans (h j v hv)
section
variable {α : Type} {enc : α → List Value} {k : Nat}
/-- a thing of the row is changed -/
theorem own_put {w : World} {B n g cap : Nat} {e : TypeId} {l : List α} (hk : ∀ x, (enc x).length = k) (h : Own w B e k (.slice (some ⟨g, 0, none⟩) n cap) n (l.flatMap enc)) (hn : n = l.length) (i : Nat) (hi : i < n) (x : α) :
    Own (w.setCells g (i * k) (enc x)) B e k (.slice (some ⟨g, 0, none⟩) n cap) n ((l.set i x).flatMap enc) := by
  subst hn
  have hl : ∀ x ∈ l, (enc x).length = k := fun x _ => hk x
  have hl' : ∀ y ∈ l.set i x, (enc y).length = k := fun x _ => hk x
  refine ⟨by rw [enc_len hl', List.length_set], .inr ?_⟩
  rcases h.2 with ⟨h2, _⟩ | ⟨g', cap', cur, fr, h3, h4, h5, h6, h7, h8, h9, h10⟩
  · cases h2
  · injection h3 with e1 e2 e3
    injection e1 with e1
    injection e1 with e1
    subst e1 e3
    have hb : i * k + k ≤ l.length * k := by
      have := Nat.mul_le_mul_right k (show i + 1 ≤ l.length from hi)
      rwa [Nat.add_mul, Nat.one_mul] at this
    have hcap : l.length * k ≤ cap * k := Nat.mul_le_mul_right _ h7
    have hs := heap_setCells (enc x) (i * k) h5 (by rw [hk]; omega)
    refine ⟨g, cap, _, fr, rfl, h4, hs, fun j hj => h6 j ?_, h7, h8, ?_, ?_⟩
    · simp only [List.length_append, List.length_take, List.length_drop, hk] at hj
      omega
    · simp only [List.length_append, List.length_take, List.length_drop, hk]
      omega
    · have e1 : l = l.take i ++ l[i] :: l.drop (i + 1) := by rw [← List.drop_eq_getElem_cons hi, List.take_append_drop]
      have e2 : l.set i x = l.take i ++ x :: l.drop (i + 1) := by
        rw [List.set_eq_take_append_cons_drop, if_pos hi]
      rw [e2, List.flatMap_append, List.flatMap_cons]
      have t1 : cur.take (i * k) = (l.take i).flatMap enc := by
        rw [← enc_take hl, ← h10, List.take_take, Nat.min_eq_left (by omega)]
      have t2 : (cur.drop (i * k + k)).take (l.length * k - (i * k + k)) = (l.drop (i + 1)).flatMap enc := by
        have h11 : (cur.take (l.length * k)).drop (i * k + k) = (l.drop (i + 1)).flatMap enc := by
          rw [h10]
          conv => lhs; rw [← List.take_append_drop (i + 1) l, List.flatMap_append]
          have : ((l.take (i + 1)).flatMap enc).length = i * k + k := by
            rw [enc_len (fun x _ => hk x), List.length_take, Nat.min_eq_left hi]; exact Nat.succ_mul i k
          rw [← this, List.drop_left]
        rw [← h11, List.drop_take]
      rw [hk, t1, List.append_assoc]
      have l1 : ((l.take i).flatMap enc).length = i * k := by rw [enc_len (fun x _ => hk x), List.length_take, Nat.min_eq_left (by omega)]
      rw [List.take_append, l1, List.take_of_length_le (by rw [l1]; omega), List.take_append, hk, List.take_of_length_le (l := enc x) (by rw [hk]; omega)]
      congr 2
      rw [← t2]
      congr 1
      omega
theorem own_there {w : World} {B n g cap : Nat} {e : TypeId} {xs : List Value} (h : Own w B e k (.slice (some ⟨g, 0, none⟩) n cap) n xs) (i : Nat) (hi : i < n) : w.there g (i * k) k := fun j hj => by
  rcases h.2 with ⟨h2, _⟩ | ⟨g', cap', cur, fr, h3, h4, h5, h6, h7, h8, h9, h10⟩
  · cases h2
  · injection h3 with e1 e2 e3
    injection e1 with e1
    injection e1 with e1
    subst e1 e3
    have hb : i * k + k ≤ n * k := by
      have := Nat.mul_le_mul_right k (show i + 1 ≤ n from hi)
      rwa [Nat.add_mul, Nat.one_mul] at this
    have hcap : n * k ≤ cap * k := Nat.mul_le_mul_right _ h7
    have hc : i * k + j < cur.length := by omega
    constructor
    · simp [World.cell?, h5, hc]
    · simp only [World.frozen?, h5]
      exact h6 _ hc
theorem own_range {w : World} {B n g cap : Nat} {e : TypeId} {l : List α} (hk : ∀ x, (enc x).length = k) (h : Own w B e k (.slice (some ⟨g, 0, none⟩) n cap) n (l.flatMap enc)) (hn : n = l.length) (i : Nat) (hi : i < l.length) : w.rangeAt g (i * k) (enc l[i]) := fun j v hv => by
  have hij := enc_get (fun x _ => hk x) hi hv
  have hlt := (List.getElem?_eq_some_iff.1 hij).1
  rw [h.cellAt rfl _ (by rw [hn]; rwa [enc_len (fun x _ => hk x)] at hlt)]
  exact hij
variable {P : Program} {ops : Array Oper} {Q : Exit → Act → World → Prop} {o : Oper} {rest : List Oper} {a : Act} {w : World}
/-- a thing stored into a row -/
theorem wpList_put (hgd : o.guard = none) (ty : TypeId) (x y : Operand) (ho : o.op = .store ty x y) (g i : Nat) (hx : a.eval x = .pointer (some ⟨g, i * k, none⟩)) (u : α) (hy : a.eval y = .agg (enc u).toArray)
    {B n cap : Nat} {e : TypeId} (l : List α) (hk : ∀ x, (enc x).length = k) (h1 : ∀ v ∈ enc u, v.oneCell' = true) (hi : (P.info? ty).map (·.size) = some k) (hown : Own w B e k (.slice (some ⟨g, 0, none⟩) n cap) n (l.flatMap enc)) (hn : n = l.length) (hil : i < n)
    (h : ∀ w', Own w' B e k (.slice (some ⟨g, 0, none⟩) n cap) n ((l.set i u).flatMap enc) → w.grownBy w' (some g) → w'.heap.size = w.heap.size → wpList P ops Q rest (a.put o.dst undef) w') : wpList P ops Q (o :: rest) a w := by
  refine wpList_store_mid hgd ty x y ho g (i * k) (enc u).toArray hx hy ?_ (by simpa [hk] using hi) (all_oneCell_toArray h1) ?_
  · have := own_there hown i hil
    simpa [hk] using this
  · refine h _ ?_ (grown_setCells g _ _ w w (World.grownBy.refl w _)) ?_
    · have := own_put hk hown hn i hil u
      simpa using this
    · have hs : ∀ (vs : List Value) (o : Nat) (w : World), (w.setCells g o vs).heap.size = w.heap.size := by
        intro vs
        induction vs with
        | nil => intro o w; rfl
        | cons v r ih => intro o w; rw [World.setCells, ih]; simp [World.setCell]
      exact hs _ _ _
/-- 'clear' of a row's rest -/
theorem run_clear_own {P : Program} (hk : ∀ x, (enc x).length = k) (hk0 : 0 < k) {w : World} {B n g cap : Nat} {e : TypeId} {l : List α} (h : Own w B e k (.slice (some ⟨g, 0, none⟩) n cap) n (l.flatMap enc)) (hn : n = l.length) (t e' ty : TypeId) (z : α) (h1 : ∀ v ∈ enc z, v.oneCell' = true) (ht : P.underlying t = some (.slice e')) (hv : ∀ w, (zeroValue e').run P w = .ok (.agg (enc z).toArray) w) (i c : Nat) (hi : i < n) :
    (Builtin.clear_ #[t] ty #[.slice (some ⟨g, i * k, none⟩) (n - i) c]).run P w = .ok (.tuple #[]) (w.setCells g (i * k) (List.replicate (n - i) (enc z)).flatten) := by
  have hz : (Builtin.zeroCells (Value.agg (enc z).toArray).cells (n - i)).toList = (List.replicate (n - i) (enc z)).flatten := zeroCells_eq _ (by rw [hk]; exact hk0) _
  have hlen : (List.replicate (n - i) (enc z)).flatten.length = (n - i) * k := by simp [hk]
  have hb : i * k + (n - i) * k = n * k := by rw [← Nat.add_mul]; congr 1; omega
  have hth : ∀ j, j < (n - i) * k → (w.cell? ⟨g, i * k + j, none⟩).isSome = true ∧ w.frozen? ⟨g, i * k + j, none⟩ = false := by
    intro j hj
    rcases h.2 with ⟨h2, _⟩ | ⟨g', cap', cur, fr, h3, h4, h5, h6, h7, h8, h9, h10⟩
    · cases h2
    · injection h3 with e1 e2 e3
      injection e1 with e1
      injection e1 with e1
      subst e1 e3
      have hcap : n * k ≤ cap * k := Nat.mul_le_mul_right _ h7
      have hc : i * k + j < cur.length := by omega
      constructor
      · simp [World.cell?, h5, hc]
      · simp only [World.frozen?, h5]
        exact h6 _ hc
  have hst : Sem.run P (storeCells ⟨g, i * k, none⟩ (Builtin.zeroCells (Value.agg (enc z).toArray).cells (n - i)).toList) w = .ok () (w.setCells g (i * k) (List.replicate (n - i) (enc z)).flatten) := by
    rw [hz]
    have := stores_of_holds P (W := w) (blk := g) (off := i * k) (F := ((List.range ((n - i) * k)).map fun j => (w.cell? ⟨g, i * k + j, none⟩).getD undef).toArray) (fun j hj => by
      have hj' : j < (n - i) * k := by simpa using hj
      have h2 := hth j hj'
      refine ⟨?_, h2.2⟩
      obtain ⟨v, hv⟩ := Option.isSome_iff_exists.1 h2.1
      rw [hv]
      simp [hj', hv]) 0 (List.replicate (n - i) (enc z)).flatten (by simp [hk]) (by
      intro v hv
      obtain ⟨l, hl, hv⟩ := List.mem_flatten.1 hv
      rw [(List.mem_replicate.1 hl).2] at hv
      exact h1 v hv)
    simpa using this
  obtain ⟨m, hm⟩ : ∃ m, n - i = m + 1 := ⟨n - i - 1, by omega⟩
  rw [hm] at hst ⊢
  simp [Builtin.clear_, run_underlying ht, hv, hst]
theorem own_clear (hk : ∀ x, (enc x).length = k) {B n g cap : Nat} {e : TypeId} (z : α) : ∀ (m i : Nat) (l : List α) (w : World), Own w B e k (.slice (some ⟨g, 0, none⟩) n cap) n (l.flatMap enc) → n = l.length → i + m ≤ n →
    ∃ l' : List α, l'.length = n ∧ l'.take i = l.take i ∧ Own (w.setCells g (i * k) (List.replicate m (enc z)).flatten) B e k (.slice (some ⟨g, 0, none⟩) n cap) n (l'.flatMap enc) ∧ w.grownBy (w.setCells g (i * k) (List.replicate m (enc z)).flatten) (some g)
  | 0, i, l, w, h, hn, _ => ⟨l, hn.symm, rfl, by simpa [World.setCells] using h, World.grownBy.refl _ _⟩
  | m + 1, i, l, w, h, hn, hm => by
    obtain ⟨l', h1, h2, h3, h4⟩ := own_clear hk z m (i + 1) _ _ (own_put hk h hn i (by omega) z) (by simpa using hn) (by omega)
    refine ⟨l', h1, ?_, ?_, ?_⟩
    · have := congrArg (List.take i) h2
      rw [List.take_take, List.take_take, Nat.min_eq_left (by omega)] at this
      rw [this, List.take_set_of_le (Nat.le_refl i)]
    · rw [List.replicate_succ, List.flatten_cons, setCells_append, hk]
      have e : (i + 1) * k = i * k + k := by rw [Nat.add_mul]; omega
      rwa [e] at h3
    · rw [List.replicate_succ, List.flatten_cons]
      exact grown_setCells g _ _ w w (World.grownBy.refl _ _)
end
/-- nothing is appended -/
theorem wpList_append_nothing {P : Program} {ops : Array Oper} {rest : List Oper} {o : Oper} {a : Act} {w : World} {Q : Exit → Act → World → Prop} (hw : Region.wanted o (yielded ops a.tmps) = true) (s x : Operand) (t e : TypeId) (ho : o.op = .call { callee := .builtin .append, args := #[s, x], argTypes := #[t, t] })
    (i : TypeInfo) (ht : P.underlying t = some (.slice e)) (hi : P.info? e = some i) (base : Option Addr) (sLen sCap : Nat) (hle : sLen ≤ sCap) (hs : a.eval s = .slice base sLen sCap) (A : Option Addr) (c : Nat) (hx : a.eval x = .slice A 0 c)
    (h : wpList P ops Q rest (a.put o.dst (.slice base sLen sCap)) w) : wpList P ops Q (o :: rest) a w := by
  refine wpList_val (.slice base sLen sCap) hw ?_ h
  have hsrc : Src P i.size t (.slice A 0 c) 0 [] w := by
    cases A with
    | none => exact Src.ofNil w ht c
    | some ad => exact Src.ofSlice w ht ad 0 c [] (by simp) (fun j u hu => by simp at hu) (fun u hu => by simp at hu)
  have hr := run_append_nothing w t t o.type e i ht hi base sLen sCap hle (.slice A 0 c) hsrc
  unfold execOp
  simp only [ho, resolve, invoke, builtin, Sem.run_bind, Sem.run_pure, Result.andThen_ok, List.map_toArray, List.map_cons, List.map_nil, hs, hx, hr]
section
variable {α : Type} {enc : α → List Value} {k : Nat}
/-- things appended to a row of the call's own -/
theorem wpList_append_enc {P : Program} {ops : Array Oper} {rest : List Oper} {o : Oper} {a : Act} {w : World} {Q : Exit → Act → World → Prop} (hgd : o.guard = none) (hw : Region.wanted o (yielded ops a.tmps) = true) (s x : Operand) (t e bytes : Nat) (ho : o.op = .call { callee := .builtin .append, args := #[s, x], argTypes := #[t, t] })
    (z : Value) (ht : P.underlying t = some (.slice e)) (hinf : (P.info? e).map (fun i => (i.zero, i.size, i.bytes)) = some (some z, k, bytes)) (hzs : z.cells.size = k) (hsz : 0 < k)
    (base : Nat) (v : Value) (n : Nat) (l m : List α) (hs : a.eval s = v) (hown : Own w base e k v n (l.flatMap enc)) (hm : ∀ x ∈ m, (enc x).length = k) (hm1 : ∀ x ∈ m, ∀ u ∈ enc x, u.oneCell' = true)
    (B : Option Addr) (M d : Nat) (hx : a.eval x = .slice B M d) (hM : M = m.length) (hB : EncIn enc k w B m) (h63 : n + m.length ≤ maxLen) (hbytes : (n + m.length) * bytes ≤ 140737488355328) (hbase : base ≤ w.heap.size)
    (h : ∀ v' w', Own w' base e k v' (n + m.length) ((l ++ m).flatMap enc) → w.grownBy w' v.ownBlock → (v'.ownBlock = v.ownBlock ∨ v'.ownBlock = some w.heap.size) → wpList P ops Q rest (a.put o.dst v') w') : wpList P ops Q (o :: rest) a w := by
  subst hM
  cases hi : P.info? e with
  | none => rw [hi] at hinf; cases hinf
  | some i =>
    rw [hi, Option.map_some, Option.some.injEq, Prod.mk.injEq, Prod.mk.injEq] at hinf
    obtain ⟨hz, hsize, hby⟩ := hinf
    by_cases h0 : 0 < m.length
    · obtain ⟨gB, off, rfl, hlt, hc⟩ := hB h0
      refine wpList_append_Own w hgd s x t ho base e i z k bytes ht hi hz hsize hby hzs hsz _ n (l.flatMap enc) hs hown ⟨gB, off, none⟩ m.length d (m.flatMap enc) hx (enc_len hm) (enc_cells hsz hm hc) (enc_one hm1) h63 hbytes hbase ?_
      intro v' w' hO hg hor
      rw [← List.flatMap_append] at hO
      exact h v' w' hO hg hor
    · have hm0 : m = [] := List.length_eq_zero_iff.1 (by omega)
      subst hm0
      have hown2 := hown.2
      have key : ∃ base' c, v = .slice base' n c ∧ n ≤ c := by
        rcases hown2 with ⟨rfl, rfl⟩ | ⟨g, cap, cur, fr, rfl, _, _, _, hc, _⟩
        · exact ⟨none, 0, rfl, Nat.le_refl _⟩
        · exact ⟨_, cap, rfl, hc⟩
      obtain ⟨base', c, hv, hnc⟩ := key
      refine wpList_append_nothing hw s x t e ho i ht hi base' n c hnc (hs.trans hv) B d hx ?_
      rw [← hv]
      exact h v w (by simpa using hown) (World.grownBy.refl _ _) (.inl rfl)
end
end Go.Proofs.YtdfeiajdmmlllaaDoor
