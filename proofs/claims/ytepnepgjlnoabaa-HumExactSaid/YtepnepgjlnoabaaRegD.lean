/- Regions that draw their order, whose first operations are quiet in a class of worlds and whose last ones come up only in a row, behind all others: whatever the order drawn, the first ones in any order, then the last ones as the text has them. -/
import Derived.Test.YtepnepgjlnoabaaRegC
namespace Go.Proofs.Ytepnepgjlnoabaa
open Go.RowKit

section
variable {P : Program} {ops : Array Oper} {md : Region.Mode} {C : World → Prop}

/-- operation k waits for operation j -/
def edgeB (md : Region.Mode) (ops : Array Oper) (k j : Nat) : Bool :=
  match ops[k]? with
  | some o => o.after.any fun e => Region.binds md e && e.on == j
  | none => false
/-- every operation waits for earlier ones alone; each but the last has one behind it that waits for it: up to number p, or the very next one -/
def chainB (md : Region.Mode) (ops : Array Oper) (p : Nat) : Bool :=
  (List.range ops.size).all fun j =>
    (match ops[j]? with | some o => o.after.all (fun e => !Region.binds md e || decide (e.on < j)) | none => true) &&
    (j + 1 == ops.size || (List.range ops.size).any fun k => decide (j < k) && decide (k ≤ max p (j + 1)) && edgeB md ops k j)
/-- the first operations can be taken in the text's order -/
def preB (md : Region.Mode) (ops : Array Oper) : Nat → Nat → Array Bool → Bool
  | 0, _, _ => true
  | n + 1, k, listed => (Region.ready md ops listed).contains k && Region.free md ops listed k && preB md ops n (k + 1) (listed.setIfInBounds k true)

def Closed (md : Region.Mode) (ops : Array Oper) (listed : Array Bool) : Prop :=
  ∀ k o, ops[k]? = some o → listed.getD k false = true → ∀ e ∈ o.after, Region.binds md e = true → listed.getD e.on false = true

theorem edge_spec {k j : Nat} (h : edgeB md ops k j = true) : ∃ o, ops[k]? = some o ∧ ∃ e ∈ o.after, Region.binds md e = true ∧ e.on = j := by
  unfold edgeB at h
  split at h
  · rename_i o ho
    obtain ⟨e, he, hb⟩ := Array.any_eq_true'.1 h
    simp only [Bool.and_eq_true, beq_iff_eq] at hb
    exact ⟨o, ho, e, he, hb⟩
  · cases h
theorem chain_spec {p : Nat} (h : chainB md ops p = true) {j : Nat} (hj : j + 1 < ops.size) : ∃ k, j < k ∧ k ≤ max p (j + 1) ∧ edgeB md ops k j = true := by
  have h1 := List.all_eq_true.1 h j (List.mem_range.2 (by omega))
  simp only [Bool.and_eq_true, Bool.or_eq_true, beq_iff_eq] at h1
  rcases h1.2 with h2 | h2
  · omega
  · obtain ⟨k, _, hk⟩ := List.any_eq_true.1 h2
    simp only [Bool.and_eq_true, decide_eq_true_eq] at hk
    exact ⟨k, hk.1.1, hk.1.2, hk.2⟩
theorem chain_down {p : Nat} (h : chainB md ops p = true) {j : Nat} {o : Oper} (ho : ops[j]? = some o) : ∀ e ∈ o.after, Region.binds md e = true → e.on < j := by
  intro e he hb
  have hlt : j < ops.size := (Array.getElem?_eq_some_iff.1 ho).1
  have h1 := List.all_eq_true.1 h j (List.mem_range.2 hlt)
  simp only [ho, Bool.and_eq_true] at h1
  have h2 := (Array.all_eq_true_iff_forall_mem.1 h1.1) e he
  simpa [hb] using h2

/-- what is ready at p or behind has all others before it behind it -/
theorem all_before {p : Nat} (h : chainB md ops p = true) {listed : Array Bool} (hc : Closed md ops listed) {j : Nat} (hp : p ≤ j) (hr : j ∈ Region.ready md ops listed) : ∀ n i, j - i ≤ n → i < j → listed.getD i false = true := by
  obtain ⟨_, oj, hoj, hall⟩ := mem_ready.1 hr
  have hjs : j < ops.size := (Array.getElem?_eq_some_iff.1 hoj).1
  intro n
  induction n with
  | zero => intro i h1 h2; omega
  | succ n ih =>
    intro i h1 h2
    obtain ⟨k, hk1, hk2, hk3⟩ := chain_spec h (j := i) (by omega)
    obtain ⟨o, ho, e, he, hb, hon⟩ := edge_spec hk3
    have hkj : k ≤ j := by omega
    by_cases hkj2 : k = j
    · subst hkj2
      rw [hoj] at ho
      cases ho
      have := hall e he hb
      rwa [hon] at this
    · have hkl := ih k (by omega) (by omega)
      have := hc k o ho hkl e he hb
      rwa [hon] at this
theorem getD_both {listed : Array Bool} {i : Nat} (h : i < listed.size) (d : Bool) : listed.getD i d = listed[i] := by simp [h]
theorem ready_false {listed : Array Bool} (hsz : listed.size = ops.size) {i : Nat} (hr : i ∈ Region.ready md ops listed) : i < ops.size ∧ listed.getD i false = false ∧ listed.getD i true = false := by
  obtain ⟨h0, o, ho, _⟩ := mem_ready.1 hr
  have hlt : i < ops.size := (Array.getElem?_eq_some_iff.1 ho).1
  refine ⟨hlt, ?_, h0⟩
  rw [getD_both (by omega)] at h0 ⊢
  exact h0
theorem closed_set {listed : Array Bool} (hc : Closed md ops listed) {i : Nat} (hr : i ∈ Region.ready md ops listed) : Closed md ops (listed.setIfInBounds i true) := by
  intro k o ho hk e he hb
  obtain ⟨_, oi, hoi, hall⟩ := mem_ready.1 hr
  by_cases hki : i = k
  · subst hki
    rw [hoi] at ho
    cases ho
    exact getD_set_true (hall e he hb)
  · rw [getD_set_ne false hki] at hk
    exact getD_set_true (hc k o ho hk e he hb)
theorem set_self {listed : Array Bool} {i : Nat} (h : i < listed.size) (d : Bool) : (listed.setIfInBounds i true).getD i d = true := by simp [h]

/-- whatever order the first p operations are drawn in, so many of them being left -/
def anyL (P : Program) (md : Region.Mode) (ops : Array Oper) (C : World → Prop) (p : Nat) (R : Act → Prop) : Nat → Array Bool → Act → Prop
  | 0, listed, a => (∀ i, i < p → listed.getD i false = true) ∧ R a
  | n + 1, listed, a => (∃ i, i < p ∧ listed.getD i true = false) ∧ Region.ready md ops listed ≠ [] ∧ ∀ i ∈ Region.ready md ops listed, qOp P ops C i (anyL P md ops C p R n (listed.setIfInBounds i true)) a

theorem anyL_first {R : Act → Prop} {p i : Nat} {oi : Oper} {v : Value} (hch : chainB md ops p = true) (hi : ops[i]? = some oi) (hip : i < p) (hsel : ∀ (j : Nat) (o : Oper) cs b, ops[j]? = some o → o.op ≠ .select cs b) :
    ∀ (n : Nat) (listed : Array Bool) (a : Act), listed.size = ops.size → Closed md ops listed →
      (∀ j oj, ops[j]? = some oj → j ≠ i → listed.getD j true = false → (∀ e ∈ oj.after, Region.binds md e = true → e.on ≠ i) → oi.apart ops oj = true) →
      i ∈ Region.ready md ops listed → YieldsIn P ops C oi v a →
      anyL P md ops C p R n (listed.setIfInBounds i true) (a.put oi.dst v) → anyL P md ops C p R (n + 1) listed a := by
  intro n
  induction n with
  | zero =>
    intro listed a hsz hc _ hr hy H
    have hri := ready_false hsz hr
    refine ⟨⟨i, hip, hri.2.2⟩, (fun h => (by rw [h] at hr; cases hr)), fun j hj => ?_⟩
    by_cases hji : j = i
    · subst hji; exact hy.qOp hi H
    · exfalso
      have hrj := ready_false hsz hj
      by_cases hjp : j < p
      · have := H.1 j hjp
        rw [getD_set_ne false (Ne.symm hji), hrj.2.1] at this
        cases this
      · have := all_before hch hc (by omega) hj (j - i) i (Nat.le_refl _) (by omega)
        rw [hri.2.1] at this
        cases this
  | succ n ih =>
    intro listed a hsz hc hfree hr hy H
    have hri := ready_false hsz hr
    refine ⟨⟨i, hip, hri.2.2⟩, (fun h => (by rw [h] at hr; cases hr)), fun j hj => ?_⟩
    by_cases hji : j = i
    · subst hji; exact hy.qOp hi H
    · have hrj := ready_false hsz hj
      have hjp : j < p := by
        refine Nat.lt_of_not_le fun hjp => ?_
        have := all_before hch hc hjp hj (j - i) i (Nat.le_refl _) (by omega)
        rw [hri.2.1] at this
        cases this
      have h1 := H.2.2 j (ready_mono hj hji)
      obtain ⟨_, oj, hoj, hall⟩ := mem_ready.1 hj
      have hnot : ∀ e ∈ oj.after, Region.binds md e = true → e.on ≠ i := fun e he hb heq => by
        have h3 := hall e he hb
        rw [heq, hri.2.1] at h3
        cases h3
      have h2 := qOp_put hoj (hfree j oj hoj hji hrj.2.2 hnot) (fun cs b => hsel i oi cs b hi) (fun cs b => hsel j oj cs b hoj) hy h1
      refine qOp_mono (fun a' h3 => ih (listed.setIfInBounds j true) a' (by simpa using hsz) (closed_set hc hj) ?_ (ready_mono hr (Ne.symm hji)) h3.1 ?_) h2
      · intro k ok hk hki hun hno
        refine hfree k ok hk hki ?_ hno
        by_cases hjk : j = k
        · subst hjk; exact hrj.2.2
        · rw [getD_set_ne true hjk] at hun; exact hun
      · rw [Array.setIfInBounds_comm _ _ hji]
        exact h3.2

theorem anyL_lex {R : Act → Prop} {p : Nat} (hch : chainB md ops p = true) (hs : Region.noSelect ops = true) : ∀ (l : List Oper) (k : Nat) (listed : Array Bool) (a : Act), k + l.length = p → (∀ j, j < l.length → l[j]? = ops[k + j]?) →
    listed.size = ops.size → Closed md ops listed → (∀ i, i < k → listed.getD i false = true) → preB md ops l.length k listed = true → wpQuiet P ops C R l a → anyL P md ops C p R l.length listed a
  | [], k, listed, a, hk, _, _, _, hlt, _, h => ⟨fun i hi => hlt i (by simp at hk; omega), h⟩
  | o :: l, k, listed, a, hk, hl, hsz, hc, hlt, hB, h => by
    have h0 : ops[k]? = some o := by simpa using (hl 0 (by simp)).symm
    simp only [List.length_cons, preB, Bool.and_eq_true] at hB
    obtain ⟨⟨hr, hf⟩, hB'⟩ := hB
    have hr' : k ∈ Region.ready md ops listed := by simpa using hr
    have hst : qOp P ops C k (wpQuiet P ops C R l) a := by unfold qOp; simp only [h0]; exact h
    obtain ⟨v, hy, hK⟩ := yieldsIn_of_qOp h0 hst
    have hks := (ready_false hsz hr').1
    refine anyL_first hch h0 (by simp at hk; omega) (Region.noSelect_spec hs) l.length listed a hsz hc (Region.free_spec h0 hf) hr' hy ?_
    refine anyL_lex hch hs l (k + 1) _ _ (by simp at hk; omega) (fun j hj => ?_) (by simpa using hsz) (closed_set hc hr') (fun i hi => ?_) hB' hK
    · have := hl (j + 1) (by simpa using hj)
      simpa [Nat.add_assoc, Nat.add_comm 1 j] using this
    · by_cases hik : k = i
      · subst hik
        exact set_self (by omega) _
      · exact getD_set_true (hlt i (by omega))

/-- the last ones come up one behind the other -/
theorem post_sound {Q : Exit → Act → World → Prop} {p : Nat} (hch : chainB md ops p = true) : ∀ (l : List Oper) (j : Nat) (listed : Array Bool) (a : Act) (w : World), p ≤ j → j + l.length = ops.size → (∀ t, t < l.length → l[t]? = ops[j + t]?) →
    listed.size = ops.size → Closed md ops listed → (∀ i, i < j → listed.getD i false = true) → (∀ i, j ≤ i → i < ops.size → listed.getD i true = false) → wpList P ops Q l a w → wpAny P md ops Q l.length listed a w
  | [], j, listed, a, w, _, hj, _, hsz, _, hlt, _, h => by
    refine ⟨?_, h⟩
    rw [List.eq_nil_iff_forall_not_mem]
    intro i hi
    have := ready_false hsz hi
    have h2 := hlt i (by simp at hj; omega)
    rw [this.2.1] at h2
    cases h2
  | o :: l, j, listed, a, w, hp, hj, hl, hsz, hc, hlt, hge, h => by
    have h0 : ops[j]? = some o := by simpa using (hl 0 (by simp)).symm
    have hjs : j < ops.size := (Array.getElem?_eq_some_iff.1 h0).1
    have hjr : j ∈ Region.ready md ops listed := mem_ready.2 ⟨hge j (Nat.le_refl _) hjs, o, h0, fun e he hb => hlt _ (chain_down hch h0 e he hb)⟩
    refine ⟨(fun hn => (by rw [hn] at hjr; cases hjr)), fun i hi => ?_⟩
    have hri := ready_false hsz hi
    have hij : i = j := by
      by_cases h1 : i < j
      · have := hlt i h1
        rw [hri.2.1] at this
        cases this
      · by_cases h2 : j < i
        · have := all_before hch hc (by omega) hi (i - j) j (Nat.le_refl _) h2
          have h3 := hge j (Nat.le_refl _) hjs
          rw [getD_both (by omega)] at this h3
          rw [this] at h3
          cases h3
        · omega
    subst hij
    have hrest : ∀ a w, wpList P ops Q l a w → wpAny P md ops Q l.length (listed.setIfInBounds i true) a w := fun a w h => by
      refine post_sound hch l (i + 1) _ a w (by omega) (by simp at hj; omega) (fun t ht => ?_) (by simpa using hsz) (closed_set hc hi) (fun k hk => ?_) (fun k hk hks => ?_) h
      · have := hl (t + 1) (by simpa using ht)
        simpa [Nat.add_assoc, Nat.add_comm 1 t] using this
      · by_cases hik : i = k
        · subst hik
          exact set_self (by omega) _
        · exact getD_set_true (hlt k (by omega))
      · rw [getD_set_ne true (by omega)]
        exact hge k (by omega) hks
    unfold wpOp
    simp only [h0]
    unfold wpList at h
    split
    · rename_i hw
      rw [if_pos hw] at h
      rcases h with h | h
      · exact .inl (Oper.wp_mono hrest h)
      · exact .inr h
    · rename_i hw
      rw [if_neg hw] at h
      exact hrest _ _ h

theorem any_sound {Q : Exit → Act → World → Prop} {p : Nat} (hch : chainB md ops p = true) (post : List Oper) (hpl : p + post.length = ops.size) (hpost : ∀ t, t < post.length → post[t]? = ops[p + t]?) : ∀ (n : Nat) (listed : Array Bool) (a : Act) (w : World), C w → listed.size = ops.size → Closed md ops listed →
    (∀ i, p ≤ i → i < ops.size → listed.getD i true = false) → anyL P md ops C p (fun a' => ∀ w', C w' → wpList P ops Q post a' w') n listed a → wpAny P md ops Q (n + post.length) listed a w
  | 0, listed, a, w, hC, hsz, hc, hge, h => by
    rw [Nat.zero_add]
    exact post_sound hch post p listed a w (Nat.le_refl _) hpl hpost hsz hc h.1 hge (h.2 w hC)
  | n + 1, listed, a, w, hC, hsz, hc, hge, h => by
    rw [show n + 1 + post.length = n + post.length + 1 from by omega]
    obtain ⟨⟨u, hup, hu⟩, hne, hall⟩ := h
    refine ⟨fun hn => absurd hn hne, fun i hi => wpOp_of_qOp hC (fun a' w' hC' hK => ?_) (hall i hi)⟩
    have hri := ready_false hsz hi
    have hip : i < p := by
      refine Nat.lt_of_not_le fun hpi => ?_
      have := all_before hch hc hpi hi (i - u) u (Nat.le_refl _) (by omega)
      rw [getD_both (by omega)] at this hu
      rw [this] at hu
      cases hu
    refine any_sound hch post hpl hpost n _ a' w' hC' (by simpa using hsz) (closed_set hc hi) (fun k hk hks => ?_) hK
    rw [getD_set_ne true (by omega)]
    exact hge k hk hks

/-- THE LAW. 'pre': quiet in the class C; 'post': behind them, in a row. -/
theorem wp_region_then {id : Nat} {Q : Exit → Act → World → Prop} {a : Act} {w : World} {l : List Oper} (C : World → Prop) (p : Nat) (hm : P.follows .mixedOrders = true) (hs : Region.noSelect l.toArray = true)
    (hch : chainB .any l.toArray p = true) (hB : preB .any l.toArray p 0 (Array.replicate l.length false) = true) (hp : p ≤ l.length) (hC : C w.drew)
    (h : wpQuiet P l.toArray C (fun a' => ∀ w', C w' → wpList P l.toArray Q (l.drop p) a' w') (l.take p) a) : (Code.region id l.toArray true).wp P Q a w := by
  have hlt : (l.take p).length = p := by rw [List.length_take]; omega
  have hc0 : Closed Region.Mode.any l.toArray (Array.replicate l.length false) := fun k o _ hk => by
    rw [show (Array.replicate l.length false).getD k false = false by simp [Array.getElem?_replicate]; split <;> rfl] at hk
    cases hk
  refine wp_region_any hm ?_
  have h1 := anyL_lex (md := .any) (ops := l.toArray) (C := C) (R := fun a' => ∀ w', C w' → wpList P l.toArray Q (l.drop p) a' w') hch hs (l.take p) 0 (Array.replicate l.length false) a (by omega)
    (fun j hj => by rw [hlt] at hj; simp [hj]) (by simp) hc0 (fun i hi => by omega) (by rw [hlt]; exact hB) h
  have h2 := any_sound (md := .any) (ops := l.toArray) (C := C) (Q := Q) hch (l.drop p) (by simp; omega) (fun t ht => by simp) p (Array.replicate l.length false) a w.drew hC (by simp) hc0
    (fun i _ hi => by rw [getD_both (by simpa using hi)]; simp) (by rw [hlt] at h1; exact h1)
  rw [List.length_drop, show p + (l.length - p) = l.length from by omega] at h2
  simpa using h2
end
end Go.Proofs.Ytepnepgjlnoabaa
