/- GleanMeets, plain: what holds from letter to letter, and from turn to turn. -/
import Derived.Test.YtefbllhpibfojaaDoorGleMM
namespace Go.Proofs.YtefbllhpibfojaaDoor
open Go.Proofs Stab Go.Shelf Go.RowKit Go.Lib Go.Sort

theorem NoVeil.symm {a b : List Rec} (h : NoVeil a b) : NoVeil b a := fun q hg e => (h q hg e.symm).symm
theorem fold_items (m : List Rec) : ∀ (L : List Rng) (s : List Rng × List Rec × List Rng), (∀ x ∈ s.2.1, x ∈ m) → ∀ x ∈ (L.foldl (stepA m) s).2.1, x ∈ m
  | [], _, h => h
  | r :: L, s, h => by
    rw [List.foldl_cons]
    refine fold_items m L _ ?_
    unfold stepA
    split
    · exact h
    · split
      · exact h
      · split
        · intro x hx
          rcases List.mem_append.1 hx with hx | hx
          · exact h x hx
          · exact (find_some (items_mem.1 hx).1).1
        · exact h
theorem fill_sub {a : List Rng} {t l : List Rec} {x : Rec} (h : x ∈ fillR a t l) : x ∈ l := by
  unfold fillR at h
  exact sortR_sub (List.mem_filter.1 (List.mem_of_mem_take h)).1
theorem ans_items {l : Lett} {r : List Rec} {x : Rec} (h : x ∈ (ansL l r).items) : x ∈ keptR r l.items ∨ x ∈ r := by
  rcases List.mem_append.1 h with h | h
  · left
    refine fold_items _ _ _ ?_ x (List.mem_of_mem_take h)
    intro y hy
    cases hy
  · right
    split at h
    · cases h
    · exact fill_sub h
theorem ans_len (l : Lett) (r : List Rec) : (ansL l r).sums.length ≤ 16 ∧ (ansL l r).items.length ≤ 32 ∧ (ansL l r).asks.length ≤ 16 := by
  refine ⟨?_, ?_, ?_⟩
  · show (List.take _ _).length ≤ _
    rw [List.length_take]; omega
  · show (List.take _ _ ++ _).length ≤ _
    rw [List.length_append, List.length_take]
    have : (if l.asks = [] then [] else fillR l.asks l.items r).length ≤ 16 := by
      split
      · simp
      · unfold fillR; rw [List.length_take]; omega
    omega
  · show (List.take _ _).length ≤ _
    rw [List.length_take]; omega

/-- what holds of every letter: all records are of U, all keys of K -/
structure Keep (U K s r : List Rec) (l : Lett) : Prop where
  n : U.length ≤ 32
  rs : Rising s
  rr : Rising r
  us : ∀ x ∈ s, x ∈ U
  ur : ∀ x ∈ r, x ∈ U
  ui : ∀ x ∈ l.items, x ∈ U
  ik : ∀ x ∈ l.items, find K x.key ≠ none
  len : l.sums.length ≤ 16 ∧ l.items.length ≤ 32 ∧ l.asks.length ≤ 16
  keys : ∀ k, find K k ≠ none ↔ find s k ≠ none ∨ find r k ≠ none
theorem rising_len {U s : List Rec} (hn : U.length ≤ 32) (hs : Rising s) (hu : ∀ x ∈ s, x ∈ U) : s.length ≤ 32 := Nat.le_trans (len_sub s U hs.nodup hu) hn
theorem kept_sub {r i U : List Rec} (hr : ∀ x ∈ r, x ∈ U) (hi : ∀ x ∈ i, x ∈ U) : ∀ x ∈ keptR r i, x ∈ U := fun x hx => by
  rcases List.mem_append.1 (sortR_sub hx) with h | h
  · exact hr x h
  · exact hi x h
theorem Keep.kept {U K s r : List Rec} {l : Lett} (h : Keep U K s r l) : Rising (keptR r l.items) ∧ (keptR r l.items).length ≤ 32 :=
  ⟨sortR_rising _, rising_len h.n (sortR_rising _) (kept_sub h.ur h.ui)⟩
theorem Keep.step {U K s r : List Rec} {l : Lett} (h : Keep U K s r l) : Keep U K (keptR r l.items) s (ansL l r) := by
  have hm := kept_sub h.ur h.ui
  have hk : ∀ k, find (keptR r l.items) k ≠ none → find K k ≠ none := fun k hk => by
    rw [find_kept] at hk
    rcases or_ne.1 hk with c | c
    · exact (h.keys k).2 (.inr c)
    · obtain ⟨x, hx, rfl⟩ := find_has.1 c
      exact h.ik x hx
  refine ⟨h.n, sortR_rising _, h.rs, hm, h.us, fun x hx => ?_, fun x hx => ?_, ans_len l r, fun k => ⟨fun c => ?_, fun c => ?_⟩⟩
  · rcases ans_items hx with c | c
    · exact hm x c
    · exact h.ur x c
  · rcases ans_items hx with c | c
    · exact hk _ (find_has.2 ⟨x, c, rfl⟩)
    · exact (h.keys _).2 (.inr (find_has.2 ⟨x, c, rfl⟩))
  · rcases (h.keys k).1 c with c | c
    · exact .inr c
    · left
      rw [find_kept]
      exact or_ne.2 (.inl c)
  · rcases c with c | c
    · exact hk k c
    · exact (h.keys k).2 (.inl c)

/-- at which depth a letter is -/
def Phase (i : Nat) (l : Lett) : Prop := (∀ q ∈ l.sums, goodB q = true ∧ q.depth = (i : Int)) ∧ (10 ≤ i → l.asks = []) ∧ (11 ≤ i → l.items = [])
theorem Phase.none {i : Nat} {l : Lett} (h : Phase i l) (hi : 9 ≤ i) : l.sums = [] := by
  cases hs : l.sums with
  | nil => rfl
  | cons q L =>
    obtain ⟨h1, h2⟩ := h.1 q (by rw [hs]; exact List.mem_cons_self)
    have := (goodB_place h1).2.1
    omega
theorem fold_nil (m : List Rec) : foldA [] m = ([], [], []) := rfl
theorem Phase.step {i : Nat} {l : Lett} (h : Phase i l) (r : List Rec) (hl : l.sums.length ≤ 16) (hm : (keptR r l.items).length ≤ 32) : Phase (i + 1) (ansL l r) := by
  refine ⟨fun p hp => ?_, fun hi => ?_, fun hi => ?_⟩
  · have hp' := List.mem_of_mem_take (show p ∈ (foldA l.sums (keptR r l.items)).1.take 16 from hp)
    rw [foldA_eq _ hl fun q hq => (h.1 q hq).1] at hp'
    obtain ⟨q, hq, hp'⟩ := List.mem_flatMap.1 hp'
    obtain ⟨q1, q2⟩ := List.mem_filter.1 hq
    unfold bigB at q2
    rw [Bool.and_eq_true, Bool.not_eq_true'] at q2
    have h8 := (small_no q2.2).2
    obtain ⟨p1, p2, _⟩ := part_in (h.1 q q1).1 h8 (by omega) hp'
    refine ⟨p1, ?_⟩
    rw [p2, (h.1 q q1).2]
    omega
  · have hs := h.none (by omega)
    show (foldA l.sums (keptR r l.items)).2.2.take 16 = []
    rw [hs]
    rfl
  · have hs := h.none (by omega)
    have ha := h.2.1 (by omega)
    show (foldA l.sums (keptR r l.items)).2.1.take 16 ++ (if l.asks = [] then [] else fillR l.asks l.items r) = []
    rw [hs, if_pos ha]
    rfl
def quietB (l : Lett) : Bool := decide (l.sums.length = 0 ∧ l.items.length = 0 ∧ l.asks.length = 0)
theorem quiet_iff {l : Lett} : quietB l = true ↔ l.sums = [] ∧ l.items = [] ∧ l.asks = [] := by
  unfold quietB
  rw [decide_eq_true_eq, List.length_eq_zero_iff, List.length_eq_zero_iff, List.length_eq_zero_iff]
theorem Phase.quiet {i : Nat} {l : Lett} (h : Phase i l) (hi : 11 ≤ i) : quietB l = true := quiet_iff.2 ⟨h.none (by omega), h.2.2 hi, h.2.1 (by omega)⟩

/-- what holds within a turn -/
structure Inn (U K : List Rec) (turn i : Nat) (s r : List Rec) (l : Lett) (shown : Bool) : Prop where
  keep : Keep U K s r l
  phase : Phase i l
  late : turn ≠ 0 → shown = true
  talk : turn = 0 → shown = false → ∃ s0 r0, Rising s0 ∧ Rising r0 ∧ Talk i s0 r0 s r l
theorem Inn.step {U K : List Rec} {turn i : Nat} {s r : List Rec} {l : Lett} {shown : Bool} (h : Inn U K turn i s r l shown) {b : Bool} (hb : shown = false → b = false → NoVeil (keptR r l.items) s) :
    Inn U K turn (i + 1) (keptR r l.items) s (ansL l r) (shown || b) := by
  have hk := h.keep.kept.2
  refine ⟨h.keep.step, h.phase.step r h.keep.len.1 hk, fun ht => by rw [h.late ht]; rfl, fun ht hs => ?_⟩
  rw [Bool.or_eq_false_iff] at hs
  obtain ⟨s0, r0, h1, h2, h3⟩ := h.talk ht hs.1
  exact ⟨r0, s0, h2, h1, h3.step h2 (by omega) (hb hs.1 hs.2)⟩
/-- two rising rows of keys are told by what is in them -/
theorem asc_ext : ∀ {a b : List (List UInt8)}, a.Pairwise (fun x y => lessB x y = true) → b.Pairwise (fun x y => lessB x y = true) → (∀ k, k ∈ a ↔ k ∈ b) → a = b
  | [], [], _, _, _ => rfl
  | [], y :: b, _, _, h => by have := (h y).2 List.mem_cons_self; cases this
  | x :: a, [], _, _, h => by have := (h x).1 List.mem_cons_self; cases this
  | x :: a, y :: b, ha, hb, h => by
    have ha1 := List.pairwise_cons.1 ha
    have hb1 := List.pairwise_cons.1 hb
    have hxy : x = y := by
      rcases List.mem_cons.1 ((h x).1 List.mem_cons_self) with e | e
      · exact e
      · rcases List.mem_cons.1 ((h y).2 List.mem_cons_self) with e2 | e2
        · exact e2.symm
        · have := less_trans _ _ _ (hb1.1 x e) (ha1.1 y e2)
          rw [less_irrefl] at this
          cases this
    subst hxy
    rw [asc_ext ha1.2 hb1.2 fun k => ?_]
    constructor
    · intro hk
      rcases List.mem_cons.1 ((h k).1 (List.mem_cons_of_mem _ hk)) with e | e
      · have := ha1.1 k hk
        rw [e, less_irrefl] at this
        cases this
      · exact e
    · intro hk
      rcases List.mem_cons.1 ((h k).2 (List.mem_cons_of_mem _ hk)) with e | e
      · have := hb1.1 k hk
        rw [e, less_irrefl] at this
        cases this
      · exact e
def keysB (a b : List Rec) : Bool := decide (a.map (·.key) = b.map (·.key))
theorem keys_same {a K : List Rec} (ha : Rising a) (hK : Rising K) (h : ∀ k, find a k ≠ none ↔ find K k ≠ none) : keysB a K = true := by
  unfold keysB
  rw [decide_eq_true_eq]
  refine asc_ext (List.pairwise_map.2 ha) (List.pairwise_map.2 hK) fun k => ?_
  have e : ∀ (l : List Rec), k ∈ l.map (·.key) ↔ find l k ≠ none := fun l => by
    rw [find_has, List.mem_map]
  rw [e, e, h]
/-- a turn that is over -/
theorem Inn.over {U K : List Rec} {turn i : Nat} {s r : List Rec} {l : Lett} {shown : Bool} (h : Inn U K turn i s r l shown) (hK : Rising K) (hq : quietB l = true) : shown = true ∨ keysB s K = true ∧ keysB r K = true := by
  cases shown with
  | true => exact .inl rfl
  | false =>
    right
    have ht : turn = 0 := Classical.byContradiction fun e => by have := h.late e; cases this
    obtain ⟨s0, r0, _, _, h3⟩ := h.talk ht rfl
    obtain ⟨q1, q2, q3⟩ := quiet_iff.1 hq
    have hboth : ∀ k, find s k ≠ none ∨ find r k ≠ none → find s k ≠ none ∧ find r k ≠ none := fun k hk => by
      rcases h3.acc k hk with c | ⟨q, hq, _⟩ | ⟨x, hx, _⟩ | ⟨_, q, hq, _⟩
      · exact c
      · rw [q1] at hq; cases hq
      · rw [q2] at hx; cases hx
      · rw [q3] at hq; cases hq
    refine ⟨keys_same h.keep.rs hK fun k => ?_, keys_same h.keep.rr hK fun k => ?_⟩
    · rw [h.keep.keys k]
      exact ⟨fun c => .inl c, fun c => (hboth k c).1⟩
    · rw [h.keep.keys k]
      exact ⟨fun c => .inr c, fun c => (hboth k c).2⟩
/-- what holds from turn to turn -/
structure Out (U K : List Rec) (turn : Nat) (x y : List Rec) (shown : Bool) : Prop where
  n : U.length ≤ 32
  rx : Rising x
  ry : Rising y
  ux : ∀ z ∈ x, z ∈ U
  uy : ∀ z ∈ y, z ∈ U
  keys : ∀ k, find K k ≠ none ↔ find x k ≠ none ∨ find y k ≠ none
  first : turn = 0 → x.length ≤ 16 ∧ y.length ≤ 16
  late : turn ≠ 0 → shown = true ∨ keysB x K = true ∧ keysB y K = true
theorem Out.swap {U K : List Rec} {turn : Nat} {x y : List Rec} {shown : Bool} (h : Out U K turn x y shown) : Out U K turn y x shown :=
  ⟨h.n, h.ry, h.rx, h.uy, h.ux, fun k => (h.keys k).trans Or.comm, fun e => (h.first e).symm, fun e => (h.late e).imp id And.symm⟩
theorem zero_all (m : List Rec) (hm : m.length < 1048577) (k : List UInt8) : inB (ofR r00 m) k = true := inB_zero (goodB_ofR (by decide +kernel) hm) rfl rfl k
/-- a turn begins -/
theorem Out.begin {U K : List Rec} {turn : Nat} {x y : List Rec} {shown : Bool} (h : Out U K turn x y shown) (hne : ¬ (keysB x K = true ∧ keysB y K = true)) : Inn U K turn 0 x y ⟨[ofR r00 x], [], []⟩ shown := by
  have hx := rising_len h.n h.rx h.ux
  have hy := rising_len h.n h.ry h.uy
  have hg : goodB (ofR r00 x) = true := goodB_ofR (by decide +kernel) (by omega)
  refine ⟨⟨h.n, h.rx, h.ry, h.ux, h.uy, fun z hz => by (cases hz), fun z hz => by (cases hz), ⟨by simp, by simp, by simp⟩, h.keys⟩, ⟨fun q hq => ?_, fun _ => rfl, fun _ => rfl⟩, fun ht => ?_, fun ht hs => ⟨x, y, h.rx, h.ry, ?_⟩⟩
  · rw [List.mem_singleton.1 hq]
    exact ⟨hg, rfl⟩
  · rcases h.late ht with c | c
    · exact c
    · exact absurd c hne
  · refine ⟨h.first ht, ⟨by omega, by omega⟩, ⟨by simp, by simp⟩, fun q hq => ?_, List.pairwise_singleton _ _, fun _ _ _ _ => rfl, fun _ _ _ _ => rfl, fun q hq => by (cases hq), fun q hq => by (cases hq), fun q hq => by (cases hq), fun z hz => by (cases hz), fun z hz => by (cases hz), fun k _ => .inr (.inl ⟨_, List.mem_cons_self, zero_all x (by omega) k⟩)⟩
    rw [List.mem_singleton.1 hq]
    exact ⟨hg, rfl, rfl⟩
/-- a turn ends -/
theorem Inn.out {U K : List Rec} {turn i : Nat} {s r : List Rec} {l : Lett} {shown : Bool} (h : Inn U K turn i s r l shown) (hK : Rising K) (hq : quietB l = true) : Out U K (turn + 1) s r shown :=
  ⟨h.keep.n, h.keep.rs, h.keep.rr, h.keep.us, h.keep.ur, h.keep.keys, fun e => by omega, fun _ => h.over hK hq⟩
/-- at the beginning -/
theorem Out.first_turn {a b : List Rec} (ha : a.length ≤ 16) (hb : b.length ≤ 16) (shown : Bool) : Out (a ++ b) (keptR (sortR a) (sortR b)) 0 (sortR a) (sortR b) shown := by
  refine ⟨by rw [List.length_append]; omega, sortR_rising _, sortR_rising _, fun z hz => List.mem_append_left _ (sortR_sub hz), fun z hz => List.mem_append_right _ (sortR_sub hz), fun k => ?_, fun _ => ⟨Nat.le_trans (sortR_len a) ha, Nat.le_trans (sortR_len b) hb⟩, fun e => absurd rfl e⟩
  rw [find_kept]
  exact or_ne
end Go.Proofs.YtefbllhpibfojaaDoor
