/- GleanMeets, plain: two nodes that tell each other know the same keys in the end, unless a range in which they differ has one digest of both. -/
import Derived.Test.YtefbllhpibfojaaDoorGleHM
namespace Go.Proofs.YtefbllhpibfojaaDoor
open Go.Proofs Stab Go.Shelf Go.RowKit Go.Lib Go.Sort

/-- a letter -/
structure Lett where
  sums : List Rng
  items : List Rec
  asks : List Rng
def keptR (mine more : List Rec) : List Rec := sortR (mine ++ more)
def ansL (l : Lett) (mine : List Rec) : Lett :=
  ⟨(foldA l.sums (keptR mine l.items)).1.take 16, (foldA l.sums (keptR mine l.items)).2.1.take 16 ++ (if l.asks = [] then [] else fillR l.asks l.items mine), (foldA l.sums (keptR mine l.items)).2.2.take 16⟩

/-- more than what is in a list can't be counted in it -/
theorem len_sub {α : Type} [DecidableEq α] : ∀ (a b : List α), a.Nodup → (∀ x ∈ a, x ∈ b) → a.length ≤ b.length
  | [], _, _, _ => Nat.zero_le _
  | x :: a, b, hn, hs => by
    have h1 := List.nodup_cons.1 hn
    have hx := hs x List.mem_cons_self
    have ih := len_sub a (b.erase x) h1.2 fun y hy => by
      have hne : y ≠ x := fun e => h1.1 (e ▸ hy)
      exact (List.mem_erase_of_ne hne).2 (hs y (List.mem_cons_of_mem _ hy))
    rw [List.length_erase_of_mem hx] at ih
    have : 0 < b.length := List.length_pos_of_mem hx
    simp only [List.length_cons]
    omega
theorem Rising.nodup {l : List Rec} (h : Rising l) : l.Nodup := h.imp fun {a b} hab e => by
  rw [e, less_irrefl] at hab
  cases hab
theorem find_kept (mine more : List Rec) (k : List UInt8) : find (keptR mine more) k = (find mine k).or (find more k) := by
  unfold keptR
  rw [find_sortR, find_append]
theorem Rising.sortR {l : List Rec} (h : Rising l) : Go.Proofs.YtefbllhpibfojaaDoor.sortR l = l := (sortR_eq h fun _ => rfl).symm
theorem items_mem {r : Rng} {l : List Rec} {x : Rec} : x ∈ itemsR r l ↔ find l x.key = some x ∧ inB r x.key = true := by
  unfold itemsR
  rw [List.mem_filter, sortR_mem]
theorem items_nodup (r : Rng) (l : List Rec) : (itemsR r l).Nodup := (sortR_rising l).nodup.filter _
theorem inB_at {r : Rng} (hg : goodB r = true) (k : List UInt8) : inB r k = decide ((first16 k : Int) / 4 ^ (8 - r.depth).toNat = r.pref) := by
  unfold inB
  rw [hg, Bool.true_and]
/-- ranges at one depth with other prefixes have no key in common -/
theorem inB_apart {p q : Rng} (hd : p.depth = q.depth) (hne : p.pref ≠ q.pref) {k : List UInt8} (h : inB p k = true) : inB q k = false := by
  cases h2 : inB q k with
  | false => rfl
  | true =>
    unfold inB at h h2
    rw [Bool.and_eq_true, decide_eq_true_eq] at h h2
    rw [hd] at h
    exact absurd (h.2.symm.trans h2.2) hne
theorem inB_of {q : Rng} (hg : goodB q = true) {m : List Rec} (hm : m.length < 1048577) (k : List UInt8) : inB (ofR q m) k = inB q k := by
  have hp : placeB q.depth q.pref = true := by
    unfold goodB at hg
    rw [Bool.and_eq_true, Bool.and_eq_true] at hg
    exact hg.1.1
  rw [inB_ofR hp hm]
  unfold inB
  rw [goodB_bare hp, hg]
  rfl
theorem good_of {q : Rng} (hg : goodB q = true) {m : List Rec} (hm : m.length < 1048577) : goodB (ofR q m) = true := by
  have hp : placeB q.depth q.pref = true := by
    unfold goodB at hg
    rw [Bool.and_eq_true, Bool.and_eq_true] at hg
    exact hg.1.1
  exact goodB_ofR hp hm
theorem count_of {q : Rng} (hg : goodB q = true) {m : List Rec} (hm : m.length < 1048577) : (ofR q m).count = ((itemsR q m).length : Int) := by
  rw [count_ofR _ _ hm, itemsR_bare hg]
theorem ofR_idem (r : Rng) (l m : List Rec) : ofR (ofR r l) m = ofR r m := rfl

def difB (m : List Rec) (r : Rng) : Bool := decide (ofR r m ≠ r)
def smlB (m : List Rec) (r : Rng) : Bool := difB m r && smallB (ofR r m) r
def bigB (m : List Rec) (r : Rng) : Bool := difB m r && !smallB (ofR r m) r
def askB (m : List Rec) (r : Rng) : Bool := smlB m r && decide (0 < r.count)
theorem fold_eq (m : List Rec) : ∀ (L : List Rng) (s : List Rng × List Rec × List Rng), (∀ r ∈ L, goodB r = true) →
    L.foldl (stepA m) s = (s.1 ++ (L.filter (bigB m)).flatMap (fun r => partsR (ofR r m) m), s.2.1 ++ (L.filter (smlB m)).flatMap (fun r => itemsR r m), s.2.2 ++ (L.filter (askB m)).map fun r => ofR r m)
  | [], s, _ => by simp
  | r :: L, s, h => by
    have ih := fold_eq m L (stepA m s r) fun q hq => h q (List.mem_cons_of_mem _ hq)
    have hg := h r List.mem_cons_self
    rw [List.foldl_cons, ih, List.filter_cons, List.filter_cons, List.filter_cons]
    by_cases h1 : ofR r m = r
    · have e1 : bigB m r = false := by simp [bigB, difB, h1]
      have e2 : smlB m r = false := by simp [smlB, difB, h1]
      have e3 : askB m r = false := by simp [askB, e2]
      rw [e1, e2, e3, stepA_same h1]
      simp
    · have hd : difB m r = true := by simp [difB, h1]
      cases h2 : smallB (ofR r m) r with
      | true =>
        have e1 : bigB m r = false := by simp [bigB, h2]
        have e2 : smlB m r = true := by simp [smlB, hd, h2]
        by_cases h3 : 0 < r.count
        · have e3 : askB m r = true := by simp [askB, e2, h3]
          rw [e1, e2, e3, stepA_small hg h1 h2 h3]
          simp [List.append_assoc]
        · have e3 : askB m r = false := by simp [askB, h3]
          rw [e1, e2, e3, stepA_small0 hg h1 h2 h3]
          simp [List.append_assoc]
      | false =>
        have e1 : bigB m r = true := by simp [bigB, hd, h2]
        have e2 : smlB m r = false := by simp [smlB, h2]
        have e3 : askB m r = false := by simp [askB, e2]
        rw [e1, e2, e3, stepA_big hg h1 h2]
        simp [List.append_assoc]
theorem foldA_eq {L : List Rng} (m : List Rec) (hL : L.length ≤ 16) (h : ∀ r ∈ L, goodB r = true) :
    foldA L m = ((L.filter (bigB m)).flatMap (fun r => partsR (ofR r m) m), (L.filter (smlB m)).flatMap (fun r => itemsR r m), (L.filter (askB m)).map fun r => ofR r m) := by
  unfold foldA
  rw [List.take_of_length_le hL, fold_eq m L _ h]
  simp

/-- records of ranges that are apart: no more than there are -/
theorem apart_count {L : List Rng} {i : Int} {m m0 : List Rec} (hd : ∀ q ∈ L, q.depth = i) (hp : L.Pairwise fun a b => a.pref ≠ b.pref) (ho : ∀ q ∈ L, ∀ k, inB q k = true → find m k = find m0 k) :
    (L.flatMap fun q => itemsR q m).length ≤ m0.length := by
  refine len_sub _ _ ?_ ?_
  · refine List.pairwise_flatMap.2 ⟨fun q _ => items_nodup q m, ?_⟩
    refine List.Pairwise.imp_of_mem ?_ hp
    intro p q hp hq hne x hx y hy e
    subst e
    have h1 := (items_mem.1 hx).2
    have h2 := (items_mem.1 hy).2
    rw [inB_apart ((hd p hp).trans (hd q hq).symm) hne h1] at h2
    cases h2
  · intro x hx
    obtain ⟨q, hq, hx⟩ := List.mem_flatMap.1 hx
    obtain ⟨h1, h2⟩ := items_mem.1 hx
    rw [ho q hq _ h2] at h1
    exact (find_some h1).1
theorem nine_count (f g : Rng → List Rec) : ∀ (L : List Rng), (∀ q ∈ L, 9 ≤ (f q).length + (g q).length) → 9 * L.length ≤ (L.flatMap f).length + (L.flatMap g).length
  | [], _ => by simp
  | q :: L, h => by
    have ih := nine_count f g L fun p hp => h p (List.mem_cons_of_mem _ hp)
    have h1 := h q List.mem_cons_self
    simp only [List.flatMap_cons, List.length_append, List.length_cons]
    omega
theorem filter_count {β : Type} (f : Rng → List β) (p : Rng → Bool) : ∀ (L : List Rng), ((L.filter p).flatMap f).length ≤ (L.flatMap f).length
  | [] => by simp
  | q :: L => by
    have ih := filter_count f p L
    rw [List.filter_cons]
    split <;> simp only [List.flatMap_cons, List.length_append] <;> omega
theorem four_count (f : Rng → List Rng) : ∀ (L : List Rng), (∀ q ∈ L, (f q).length = 4) → (L.flatMap f).length = 4 * L.length
  | [], _ => by simp
  | q :: L, h => by
    have ih := four_count f L fun p hp => h p (List.mem_cons_of_mem _ hp)
    have h1 := h q List.mem_cons_self
    simp only [List.flatMap_cons, List.length_append, List.length_cons]
    omega

/-- no range in which two lists differ has one digest of both -/
def NoVeil (a b : List Rec) : Prop := ∀ q, goodB q = true → ofR q a = ofR q b → itemsR q a = itemsR q b

/-- what holds of a letter that is under way from s to r, where s0 and r0 were there first -/
structure Talk (i : Int) (s0 r0 s r : List Rec) (l : Lett) : Prop where
  n0 : s0.length ≤ 16 ∧ r0.length ≤ 16
  ns : s.length ≤ 1000 ∧ r.length ≤ 1000
  len : l.sums.length ≤ 16 ∧ l.asks.length ≤ 16
  sums : ∀ q ∈ l.sums, goodB q = true ∧ q.depth = i ∧ ofR q s = q
  apart : l.sums.Pairwise fun a b => a.pref ≠ b.pref
  opS : ∀ q ∈ l.sums, ∀ k, inB q k = true → find s k = find s0 k
  opR : ∀ q ∈ l.sums, ∀ k, inB q k = true → find r k = find r0 k
  askG : ∀ q ∈ l.asks, goodB q = true
  askR : ∀ q ∈ l.asks, ∀ k, inB q k = true → find r k = find r0 k
  askO : ∀ q ∈ l.asks, ∀ p ∈ l.sums, ∀ k, inB q k = true → inB p k = false
  its : ∀ x ∈ l.items, find s x.key ≠ none
  itsO : ∀ x ∈ l.items, ∀ p ∈ l.sums, inB p x.key = false
  acc : ∀ k, find s k ≠ none ∨ find r k ≠ none → (find s k ≠ none ∧ find r k ≠ none) ∨ (∃ q ∈ l.sums, inB q k = true) ∨ (∃ x ∈ l.items, x.key = k) ∨ (find r k ≠ none ∧ ∃ q ∈ l.asks, inB q k = true)

theorem part_in {q : Rng} (hg : goodB q = true) (h8 : q.depth ≠ 8) {m : List Rec} (hm : m.length < 1048577) {p : Rng} (hp : p ∈ partsR (ofR q m) m) :
    goodB p = true ∧ p.depth = q.depth + 1 ∧ ofR p m = p ∧ (∀ k, inB p k = true → inB q k = true) ∧ ∃ j : Nat, j < 4 ∧ p.pref = 4 * q.pref + j := by
  obtain ⟨j, hj, rfl⟩ := List.mem_map.1 hp
  have hj4 : j < 4 := by simpa using hj
  have hgo := good_of hg hm
  obtain ⟨f1, f2, _⟩ := part_facts (r := ofR q m) hgo h8 hj4 hm
  obtain ⟨g1, g2, g3, g4⟩ := sub_eq (r := ofR q m) hgo h8 hj4
  refine ⟨f1, f2, rfl, fun k hk => ?_, j, hj4, g2⟩
  rw [inB_sub hgo h8 hj4 hm, decide_eq_true_eq] at hk
  rw [inB_whole hg h8, decide_eq_true_eq]
  have e1 : subQ (ofR q m) k = subQ q k := rfl
  have e2 : (ofR q m).pref = q.pref := rfl
  rw [e1, e2] at hk
  omega
theorem part_of {q : Rng} (hg : goodB q = true) (h8 : q.depth ≠ 8) {m : List Rec} (hm : m.length < 1048577) {k : List UInt8} (hk : inB q k = true) : ∃ p ∈ partsR (ofR q m) m, inB p k = true := by
  have hgo := good_of hg hm
  rw [inB_whole hg h8, decide_eq_true_eq] at hk
  have e1 : subQ (ofR q m) k = subQ q k := rfl
  have e2 : (ofR q m).pref = q.pref := rfl
  have hj : ∃ j : Nat, j < 4 ∧ subQ q k = 4 * q.pref + j := ⟨(subQ q k - 4 * q.pref).toNat, by omega, by omega⟩
  obtain ⟨j, hj, e⟩ := hj
  refine ⟨ofR (sub (ofR q m) j) m, List.mem_map.2 ⟨j, by simpa using hj, rfl⟩, ?_⟩
  rw [inB_sub hgo h8 hj hm, e1, e2, e, decide_eq_true rfl]
theorem small_no {x y : Rng} (h : smallB x y = false) : ¬ x.count + y.count ≤ 8 ∧ x.depth ≠ 8 := by
  unfold smallB at h
  simp at h
  omega
theorem or_ne {α : Type} {a b : Option α} : a.or b ≠ none ↔ a ≠ none ∨ b ≠ none := by cases a <;> simp
theorem find_has {l : List Rec} {k : List UInt8} : find l k ≠ none ↔ ∃ x ∈ l, x.key = k := by
  constructor
  · intro h
    cases h1 : find l k with
    | none => exact absurd h1 h
    | some y => exact ⟨y, find_some h1⟩
  · rintro ⟨x, hx, rfl⟩
    obtain ⟨y, hy⟩ := find_isSome hx
    rw [hy]
    simp
/-- one letter is answered -/
theorem Talk.step {i : Int} {s0 r0 s r : List Rec} {l : Lett} (h : Talk i s0 r0 s r l) (_hr : Rising r0) (hk : (keptR r l.items).length ≤ 1000) (hv : NoVeil (keptR r l.items) s) :
    Talk (i + 1) r0 s0 (keptR r l.items) s (ansL l r) := by
  obtain ⟨m, hm⟩ : ∃ m, m = keptR r l.items := ⟨_, rfl⟩
  rw [← hm] at hk hv ⊢
  have hml : m.length < 1048577 := by omega
  have hsl : s.length < 1048577 := by have := h.ns.1; omega
  have hfm : ∀ k, find m k = (find r k).or (find l.items k) := fun k => by rw [hm, find_kept]
  have hmr : ∀ k, find r k ≠ none → find m k ≠ none := fun k hk => by rw [hfm]; exact or_ne.2 (.inl hk)
  have hgs : ∀ q ∈ l.sums, goodB q = true := fun q hq => (h.sums q hq).1
  have hopm : ∀ q ∈ l.sums, ∀ k, inB q k = true → find m k = find r0 k := fun q hq k hk => by
    rw [hfm, ← h.opR q hq k hk]
    have : find l.items k = none := by
      refine find_none fun x hx e => ?_
      have := h.itsO x hx q hq
      rw [e, hk] at this
      cases this
    rw [this, Option.or_none]
  have hF := foldA_eq m h.len.1 hgs
  -- how much there is
  have c1 := apart_count (fun q hq => (h.sums q hq).2.1) h.apart hopm
  have c2 := apart_count (fun q hq => (h.sums q hq).2.1) h.apart h.opS
  have c3 : ((l.sums.filter (smlB m)).flatMap fun q => itemsR q m).length ≤ 16 := Nat.le_trans (filter_count _ _ _) (Nat.le_trans c1 h.n0.2)
  have hbig : ∀ q ∈ l.sums.filter (bigB m), q ∈ l.sums ∧ ofR q m ≠ q ∧ 9 ≤ (itemsR q m).length + (itemsR q s).length ∧ q.depth ≠ 8 := fun q hq => by
    obtain ⟨q1, q2⟩ := List.mem_filter.1 hq
    unfold bigB difB at q2
    rw [Bool.and_eq_true, decide_eq_true_eq, Bool.not_eq_true'] at q2
    obtain ⟨s1, s2⟩ := small_no q2.2
    have e1 := count_of (hgs q q1) hml
    have e2 := count_of (hgs q q1) hsl
    rw [(h.sums q q1).2.2] at e2
    refine ⟨q1, q2.1, by omega, s2⟩
  have c4 := nine_count (fun q => itemsR q m) (fun q => itemsR q s) (l.sums.filter (bigB m)) fun q hq => (hbig q hq).2.2.1
  have c5 := filter_count (fun q => itemsR q m) (bigB m) l.sums
  have c6 := filter_count (fun q => itemsR q s) (bigB m) l.sums
  have hb3 : (l.sums.filter (bigB m)).length ≤ 3 := by have := h.n0; omega
  have c7 := four_count (fun q => partsR (ofR q m) m) (l.sums.filter (bigB m)) fun q _ => by simp [partsR]
  have c8 : ((l.sums.filter (askB m)).map fun q => ofR q m).length ≤ 16 := by
    rw [List.length_map]
    exact Nat.le_trans (List.length_filter_le _ _) h.len.1
  have hS : (ansL l r).sums = (l.sums.filter (bigB m)).flatMap fun q => partsR (ofR q m) m := by
    show (foldA l.sums (keptR r l.items)).1.take 16 = _
    rw [← hm, hF, List.take_of_length_le (by show (List.flatMap _ _).length ≤ 16; omega)]
  have hA : (ansL l r).asks = (l.sums.filter (askB m)).map fun q => ofR q m := by
    show (foldA l.sums (keptR r l.items)).2.2.take 16 = _
    rw [← hm, hF, List.take_of_length_le c8]
  have hI : (ansL l r).items = (l.sums.filter (smlB m)).flatMap (fun q => itemsR q m) ++ (if l.asks = [] then [] else fillR l.asks l.items r) := by
    show (foldA l.sums (keptR r l.items)).2.1.take 16 ++ _ = _
    rw [← hm, hF, List.take_of_length_le c3]
  have hSm : ∀ p ∈ (ansL l r).sums, ∃ q ∈ l.sums, bigB m q = true ∧ p ∈ partsR (ofR q m) m := fun p hp => by
    rw [hS] at hp
    obtain ⟨q, hq, hp⟩ := List.mem_flatMap.1 hp
    exact ⟨q, (List.mem_filter.1 hq).1, (List.mem_filter.1 hq).2, hp⟩
  have hSk : ∀ p ∈ (ansL l r).sums, ∃ q ∈ l.sums, bigB m q = true ∧ ∀ k, inB p k = true → inB q k = true := fun p hp => by
    obtain ⟨q, q1, q2, q3⟩ := hSm p hp
    exact ⟨q, q1, q2, (part_in (hgs q q1) (hbig q (List.mem_filter.2 ⟨q1, q2⟩)).2.2.2 hml q3).2.2.2.1⟩
  have hAm : ∀ p ∈ (ansL l r).asks, ∃ q ∈ l.sums, smlB m q = true ∧ p = ofR q m := fun p hp => by
    rw [hA] at hp
    obtain ⟨q, hq, rfl⟩ := List.mem_map.1 hp
    have h2 := (List.mem_filter.1 hq).2
    unfold askB at h2
    rw [Bool.and_eq_true] at h2
    exact ⟨q, (List.mem_filter.1 hq).1, h2.1, rfl⟩
  have hsb : ∀ q ∈ l.sums, ∀ p ∈ l.sums, smlB m q = true → bigB m p = true → ∀ k, inB q k = true → inB p k = false := fun q hq p hp h1 h2 k hk => by
    refine inB_apart ((h.sums q hq).2.1.trans (h.sums p hp).2.1.symm) (fun e => ?_) hk
    have : q = p := by
      by_cases hqp : q = p
      · exact hqp
      · exact absurd e (by
          have hpw := h.apart
          rcases List.getElem_of_mem hq with ⟨a, ha, rfl⟩
          rcases List.getElem_of_mem hp with ⟨b, hb, rfl⟩
          have hpw := List.pairwise_iff_getElem.1 hpw
          rcases Nat.lt_trichotomy a b with c | c | c
          · exact hpw a b ha hb c
          · subst c; exact absurd rfl hqp
          · exact fun e => hpw b a hb ha c e.symm)
    subst this
    unfold smlB at h1
    unfold bigB at h2
    rw [Bool.and_eq_true] at h1 h2
    rw [h1.2] at h2
    cases h2.2
  have hfill : ∀ x ∈ fillR l.asks l.items r, x ∈ r ∧ ∃ q ∈ l.asks, inB q x.key = true := fun x hx => by
    unfold fillR at hx
    have h1 := List.mem_filter.1 (List.mem_of_mem_take hx)
    have h2 := h1.2
    unfold outF at h2
    rw [Bool.not_eq_true', Bool.or_eq_false_iff] at h2
    have h3 := h2.2
    rw [Bool.not_eq_false', List.any_eq_true] at h3
    obtain ⟨q, hq, hi⟩ := h3
    unfold goodsF at hq
    exact ⟨sortR_sub h1.1, q, (List.mem_filter.1 (List.mem_of_mem_take hq)).1, hi⟩
  have hif : ∀ x, x ∈ (if l.asks = [] then [] else fillR l.asks l.items r) → x ∈ fillR l.asks l.items r := fun x hx => by
    split at hx
    · cases hx
    · exact hx
  refine ⟨⟨h.n0.2, h.n0.1⟩, ⟨hk, h.ns.1⟩, ⟨?_, ?_⟩, ?_, ?_, ?_, ?_, ?_, ?_, ?_, ?_, ?_, ?_⟩
  · rw [hS]; omega
  · rw [hA]; exact c8
  · intro p hp
    obtain ⟨q, q1, q2, q3⟩ := hSm p hp
    obtain ⟨p1, p2, p3, _⟩ := part_in (hgs q q1) (hbig q (List.mem_filter.2 ⟨q1, q2⟩)).2.2.2 hml q3
    exact ⟨p1, by rw [p2, (h.sums q q1).2.1], p3⟩
  · rw [hS]
    refine List.pairwise_flatMap.2 ⟨fun q hq => ?_, ?_⟩
    · obtain ⟨q1, _, _, q4⟩ := hbig q hq
      have hgo := good_of (hgs q q1) hml
      unfold partsR
      rw [List.pairwise_map]
      refine List.Pairwise.imp_of_mem ?_ (List.pairwise_lt_range (n := 4))
      intro a b ha hb hab e
      have e1 := (sub_eq hgo q4 (by simpa using ha : a < 4)).2.1
      have e2 := (sub_eq hgo q4 (by simpa using hb : b < 4)).2.1
      have e' : (sub (ofR q m) a).pref = (sub (ofR q m) b).pref := e
      omega
    · refine List.Pairwise.imp_of_mem ?_ (h.apart.filter _)
      intro p q hp hq hne x hx y hy e
      obtain ⟨p1, _, _, p4⟩ := hbig p hp
      obtain ⟨q1, _, _, q4⟩ := hbig q hq
      obtain ⟨_, _, _, _, a, ha, ea⟩ := part_in (hgs p p1) p4 hml hx
      obtain ⟨_, _, _, _, b, hb, eb⟩ := part_in (hgs q q1) q4 hml hy
      omega
  · intro p hp k hk
    obtain ⟨q, q1, _, q3⟩ := hSk p hp
    exact hopm q q1 k (q3 k hk)
  · intro p hp k hk
    obtain ⟨q, q1, _, q3⟩ := hSk p hp
    exact h.opS q q1 k (q3 k hk)
  · intro p hp
    obtain ⟨q, q1, _, rfl⟩ := hAm p hp
    exact good_of (hgs q q1) hml
  · intro p hp k hk
    obtain ⟨q, q1, _, rfl⟩ := hAm p hp
    rw [inB_of (hgs q q1) hml] at hk
    exact h.opS q q1 k hk
  · intro p hp p' hp' k hk
    obtain ⟨q, q1, q2, rfl⟩ := hAm p hp
    rw [inB_of (hgs q q1) hml] at hk
    obtain ⟨q', q1', q2', q3'⟩ := hSk p' hp'
    cases hc : inB p' k with
    | false => rfl
    | true =>
      have := hsb q q1 q' q1' q2 q2' k hk
      rw [q3' k hc] at this
      cases this
  · intro x hx
    rw [hI] at hx
    rcases List.mem_append.1 hx with hx | hx
    · obtain ⟨q, _, hx⟩ := List.mem_flatMap.1 hx
      rw [(items_mem.1 hx).1]
      simp
    · exact hmr _ (find_has.2 ⟨x, (hfill x (hif x hx)).1, rfl⟩)
  · intro x hx p hp
    rw [hI] at hx
    cases hc : inB p x.key with
    | false => rfl
    | true =>
      obtain ⟨q', q1', q2', q3'⟩ := hSk p hp
      have hc' := q3' _ hc
      rcases List.mem_append.1 hx with hx | hx
      · obtain ⟨q, hq, hx⟩ := List.mem_flatMap.1 hx
        obtain ⟨a1, a2⟩ := List.mem_filter.1 hq
        have := hsb q a1 q' q1' a2 q2' _ (items_mem.1 hx).2
        rw [hc'] at this
        cases this
      · obtain ⟨_, q, hq, hi⟩ := hfill x (hif x hx)
        have := h.askO q hq q' q1' _ hi
        rw [hc'] at this
        cases this
  · intro k hor
    have hor' : find s k ≠ none ∨ find r k ≠ none := by
      rcases hor with c | c
      · rw [hfm] at c
        rcases or_ne.1 c with c | c
        · exact .inr c
        · obtain ⟨x, hx, rfl⟩ := find_has.1 c
          exact .inl (h.its x hx)
      · exact .inl c
    rcases h.acc k hor' with c | ⟨q, hq, c⟩ | ⟨x, hx, rfl⟩ | ⟨c1, q, hq, c2⟩
    · exact .inl ⟨hmr k c.2, c.1⟩
    · -- an open key
      by_cases hd : ofR q m = q
      · have hvq := hv q (hgs q hq) (hd.trans (h.sums q hq).2.2.symm)
        have hboth : find m k = find s k := by
          cases hf : find m k with
          | some y =>
            have hy := find_some hf
            have hmem : y ∈ itemsR q m := items_mem.2 ⟨by rw [hy.2]; exact hf, by rw [hy.2]; exact c⟩
            rw [hvq] at hmem
            have := (items_mem.1 hmem).1
            rw [hy.2] at this
            exact this.symm
          | none =>
            cases hf2 : find s k with
            | none => rfl
            | some y =>
              have hy := find_some hf2
              have hmem : y ∈ itemsR q s := items_mem.2 ⟨by rw [hy.2]; exact hf2, by rw [hy.2]; exact c⟩
              rw [← hvq] at hmem
              have := (items_mem.1 hmem).1
              rw [hy.2, hf] at this
              cases this
        left
        rcases hor with c | c
        · exact ⟨c, by rw [← hboth]; exact c⟩
        · exact ⟨by rw [hboth]; exact c, c⟩
      · cases hsm : smallB (ofR q m) q with
        | true =>
          have hsml : smlB m q = true := by unfold smlB difB; rw [hsm, Bool.and_true]; exact decide_eq_true hd
          cases hf : find m k with
          | some y =>
            have hy := find_some hf
            right; right; left
            refine ⟨y, ?_, hy.2⟩
            rw [hI]
            exact List.mem_append_left _ (List.mem_flatMap.2 ⟨q, List.mem_filter.2 ⟨hq, hsml⟩, items_mem.2 ⟨by rw [hy.2]; exact hf, by rw [hy.2]; exact c⟩⟩)
          | none =>
            have hsn : find s k ≠ none := by
              rcases hor with c | c
              · exact absurd hf c
              · exact c
            right; right; right
            refine ⟨hsn, ofR q m, ?_, by rw [inB_of (hgs q hq) hml]; exact c⟩
            rw [hA]
            refine List.mem_map.2 ⟨q, List.mem_filter.2 ⟨hq, ?_⟩, rfl⟩
            unfold askB
            rw [hsml, Bool.true_and, decide_eq_true_eq]
            have e2 := count_of (hgs q hq) hsl
            rw [(h.sums q hq).2.2] at e2
            obtain ⟨y, hy, hyk⟩ := find_has.1 hsn
            have : 0 < (itemsR q s).length := by
              cases hf2 : find s k with
              | none => exact absurd hf2 hsn
              | some y =>
                have hy := find_some hf2
                exact List.length_pos_of_mem (items_mem.2 ⟨by rw [hy.2]; exact hf2, by rw [hy.2]; exact c⟩ : y ∈ itemsR q s)
            omega
        | false =>
          have hbg : bigB m q = true := by unfold bigB difB; rw [hsm]; simpa using hd
          have h8 := (hbig q (List.mem_filter.2 ⟨hq, hbg⟩)).2.2.2
          obtain ⟨p, hp, hpk⟩ := part_of (hgs q hq) h8 hml c
          right; left
          refine ⟨p, ?_, hpk⟩
          rw [hS]
          exact List.mem_flatMap.2 ⟨q, List.mem_filter.2 ⟨hq, hbg⟩, hp⟩
    · left
      refine ⟨?_, h.its x hx⟩
      rw [hfm]
      exact or_ne.2 (.inr (find_has.2 ⟨x, hx, rfl⟩))
    · -- a key that was asked for
      by_cases hs : find s k ≠ none
      · exact .inl ⟨hmr k c1, hs⟩
      · right; right; left
        cases hf : find r k with
        | none => exact absurd hf c1
        | some y =>
          have hy := find_some hf
          refine ⟨y, ?_, hy.2⟩
          rw [hI]
          refine List.mem_append_right _ ?_
          rw [if_neg (fun e => by rw [e] at hq; cases hq)]
          have hlen : ((sortR r).filter fun x => !outF l.items (goodsF l.asks) x).length ≤ 16 := by
            refine Nat.le_trans (len_sub _ r0 ((sortR_rising r).nodup.filter _) fun x hx => ?_) h.n0.2
            obtain ⟨x1, x2⟩ := List.mem_filter.1 hx
            unfold outF at x2
            rw [Bool.not_eq_true', Bool.or_eq_false_iff] at x2
            have x3 := x2.2
            rw [Bool.not_eq_false', List.any_eq_true] at x3
            obtain ⟨p, hp, hpi⟩ := x3
            unfold goodsF at hp
            have hfx := h.askR p (List.mem_filter.1 (List.mem_of_mem_take hp)).1 _ hpi
            rw [sortR_mem.1 x1] at hfx
            exact (find_some hfx.symm).1
          unfold fillR
          rw [List.take_of_length_le hlen]
          refine List.mem_filter.2 ⟨sortR_mem.2 (by rw [hy.2]; exact hf), ?_⟩
          unfold outF
          rw [Bool.not_eq_true', Bool.or_eq_false_iff]
          constructor
          · rw [List.any_eq_false]
            intro z hz e
            rw [decide_eq_true_eq] at e
            have := h.its z hz
            rw [← e, hy.2] at this
            exact hs this
          · rw [Bool.not_eq_false', List.any_eq_true]
            refine ⟨q, ?_, by rw [hy.2]; exact c2⟩
            unfold goodsF
            rw [List.take_of_length_le (Nat.le_trans (List.length_filter_le _ _) h.len.2)]
            exact List.mem_filter.2 ⟨hq, h.askG q hq⟩
end Go.Proofs.YtefbllhpibfojaaDoor
