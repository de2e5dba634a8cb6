/- Layer 15: Sort, isPlace, Good, In, Items. -/
import Derived.Test.YtefbllhpibfojaaDoorGrpH
import Derived.Test.YtefbllhpibfojaaDoorGrpC
import Derived.Test.YtefbllhpibfojaaDoorGrpG
import Derived.Shelf.Abstract
namespace Go.Proofs.YtefbllhpibfojaaDoor
open Go.Proofs Stab Go.Shelf Go.RowKit Go.Lib Go.Sort

/-- a record: what the action of a key comes to -/
structure Rec where
  key : List UInt8
  code : Int
  out : List UInt8
  hk : key.length = 32
  ho : out.length = 32
  hc : -9223372036854775808 ≤ code ∧ code ≤ 9223372036854775807
deriving DecidableEq
def zero32' : List UInt8 := List.replicate 32 0
def Rec.zero : Rec := ⟨zero32', 0, zero32', rfl, rfl, by omega⟩
instance : Inhabited Rec := ⟨Rec.zero⟩
theorem Rec.ext' {x y : Rec} (h1 : x.key = y.key) (h2 : x.code = y.code) (h3 : x.out = y.out) : x = y := by
  cases x; cases y; simp_all
def encR (x : Rec) : List Value := u8s x.key ++ .int .i64 x.code :: u8s x.out
def recV (x : Rec) : Value := .agg (encR x).toArray
theorem encR_len (x : Rec) : (encR x).length = 65 := by
  simp [encR, u8s_length, x.hk, x.ho]
theorem encR_one (x : Rec) : ∀ v ∈ encR x, v.oneCell' = true := by
  intro v hv
  rcases List.mem_append.1 hv with hv | hv
  · exact u8s_oneCell _ v hv
  · rcases List.mem_cons.1 hv with rfl | hv
    · rfl
    · exact u8s_oneCell _ v hv
theorem encR_key (x : Rec) : ((encR x).drop 0).take 32 = u8s x.key := by
  have h : (u8s x.key).length = 32 := by rw [u8s_length, x.hk]
  rw [List.drop_zero, encR, ← h, List.take_left]
theorem encR_code (x : Rec) : (encR x)[32]? = some (.int .i64 x.code) := by
  have h : (u8s x.key).length = 32 := by rw [u8s_length, x.hk]
  rw [encR, List.getElem?_append_right (by omega), h]
  rfl
theorem encR_out (x : Rec) : ((encR x).drop 33).take 32 = u8s x.out := by
  have h : (u8s x.key ++ [Value.int .i64 x.code]).length = 33 := by simp [u8s_length, x.hk]
  have h2 : (u8s x.out).length = 32 := by rw [u8s_length, x.ho]
  have e : encR x = (u8s x.key ++ [Value.int .i64 x.code]) ++ u8s x.out := by simp [encR]
  rw [e, ← h, List.drop_left, List.take_of_length_le (by omega)]
theorem aggRec : ∀ w, (isAgg 38).run Tryd.prog w = .ok true w := Tryd.isAgg38
theorem sizeRec : ∀ w, (Go.sizeOf 38).run Tryd.prog w = .ok 65 w := Tryd.sizeOf38
theorem infoRec : (Tryd.prog.info? 38).map (·.size) = some 65 := by kernel_rfl
theorem infoDg : (Tryd.prog.info? 24).map (·.size) = some 32 := by kernel_rfl
theorem At.key {w : World} {b : Nat} {t : TypeId} {x : Rec} (h : At w b t (encR x)) : w.rangeAt b 0 (u8s x.key) := by
  have := h.range 0 32
  rwa [encR_key] at this
theorem At.out {w : World} {b : Nat} {t : TypeId} {x : Rec} (h : At w b t (encR x)) : w.rangeAt b 33 (u8s x.out) := by
  have := h.range 33 32
  rwa [encR_out] at this
theorem At.code {w : World} {b : Nat} {t : TypeId} {x : Rec} (h : At w b t (encR x)) : w.cell? ⟨b, 32, none⟩ = some (.int .i64 x.code) := h.cell' (encR_code x)

set_option maxRecDepth 100000 in
set_option maxHeartbeats 1000000 in
theorem less_grown (a b : List UInt8) (ha : a.length = 32) (hb : b.length = 32) (w : World) :
    Calls Tryd.prog 21 #[dgV a, dgV b] w fun e w' => e = .returned (.bool (lessB a b)) ∧ Grw w w' := by
  have h1 : At (w.alloc (.cells (u8s a).toArray 24)) w.heap.size 24 (u8s a) := At.new w _ _
  have h2 : At ((w.alloc (.cells (u8s a).toArray 24)).alloc (.cells (u8s b).toArray 24)) (w.heap.size + 1) 24 (u8s b) := by
    have := At.new (w.alloc (.cells (u8s a).toArray 24)) 24 (u8s b)
    simpa using this
  have h1' := h1.alloc (.cells (u8s b).toArray 24)
  have hB : Grw w ((w.alloc (.cells (u8s a).toArray 24)).alloc (.cells (u8s b).toArray 24)) := ((Grw.refl _).alloc _).alloc _
  have e : ∀ (g j : Nat), (⟨g, 0, none⟩ : Addr).add j = ⟨g, j, none⟩ := by intro g j; unfold Addr.add; split <;> simp_all
  have hcm : ∀ W, At W w.heap.size 24 (u8s a) → At W (w.heap.size + 1) 24 (u8s b) →
      Calls Tryd.prog 57 #[.slice (some ⟨w.heap.size, 0, none⟩) 32 32, .slice (some ⟨w.heap.size + 1, 0, none⟩) 32 32] W fun e w' => e = .returned (.int .i64 (Lib.compareBytes a b)) ∧ w' = W := by
    intro W hx hy
    refine compare_any W _ _ 32 32 32 32 a b ha hb ?_ ?_
    · intro j hj; rw [e]; exact hx.cell' (by simp [u8s, hj])
    · intro j hj; rw [e]; exact hy.cell' (by simp [u8s, hj])
  have HC := Lib.hid hcm
  have H1 := Lib.hid h1'
  have H2 := Lib.hid h2
  have HB := Lib.hid hB
  clear hcm h1 h2 h1' hB e
  unfold dgV
  go_enter Tryd.func21, Tryd.ntmps21
  go_wp2_with fail
  generalize (w.alloc (.cells (u8s a).toArray 24)).alloc (.cells (u8s b).toArray 24) = w2 at H1 H2 HB ⊢
  go_quiet ((go_at_call 57; exact Calls.quiet_of_same (HC.out _ H1.out H2.out)))
  go_wp2_with fail
  go_ret
  exact ⟨rfl, HB.out.drewN nq⟩

/-- how two records stand: by their keys -/
def cfR (x y : Rec) : Int := if lessB x.key y.key then -1 else if x.key = y.key then 0 else 1

set_option maxRecDepth 100000 in
set_option maxHeartbeats 1000000 in
theorem cmp_any (x y : Rec) (w : World) :
    Calls Tryd.prog 54 #[.agg (encR x).toArray, .agg (encR y).toArray] w fun e w' => e = .returned (.int .i64 (cfR x y)) ∧ Grw w w' := by
  have h1 : At (w.alloc (.cells (encR x).toArray 38)) w.heap.size 38 (encR x) := At.new w _ _
  have h2 : At ((w.alloc (.cells (encR x).toArray 38)).alloc (.cells (encR y).toArray 38)) (w.heap.size + 1) 38 (encR y) := by
    have := At.new (w.alloc (.cells (encR x).toArray 38)) 38 (encR y)
    simpa using this
  have h1' := h1.alloc (.cells (encR y).toArray 38)
  have hB : Grw w ((w.alloc (.cells (encR x).toArray 38)).alloc (.cells (encR y).toArray 38)) := ((Grw.refl _).alloc _).alloc _
  have hi : (Tryd.prog.info? 24).map (·.size) = some (u8s x.key).length := by rw [u8s_length, x.hk]; exact infoDg
  have hj : (Tryd.prog.info? 24).map (·.size) = some (u8s y.key).length := by rw [u8s_length, y.hk]; exact infoDg
  have H1 := Lib.hid h1'
  have H2 := Lib.hid h2
  have HB := Lib.hid hB
  have HI := Lib.hid hi
  have HJ := Lib.hid hj
  clear h1 h2 h1' hB hi hj
  go_enter Tryd.func54, Tryd.ntmps54
  have he : ∀ w, (binOp .eql 24 (.agg (u8s x.key).toArray) (.agg (u8s y.key).toArray)).run Tryd.prog w = .ok (.bool (x.key == y.key)) w := fun w => run_eql_dg w _ _ x.hk y.hk
  have hg : ∀ w op x' y', (eqGuard op 24 x' y' (.agg (u8s x.key).toArray) (.agg (u8s y.key).toArray)).run Tryd.prog w = .ok () w := fun w op x' y' => run_eqGuard_dg w op x' y' _ _
  have HE := Lib.hid he
  have HGd := Lib.hid hg
  clear he hg
  have hlk : ∀ W, Calls Tryd.prog 21 #[.agg (u8s x.key).toArray, .agg (u8s y.key).toArray] W fun e w' => e = .returned (.bool (lessB x.key y.key)) ∧ Grw W w' := fun W => less_grown _ _ x.hk y.hk W
  have HL := Lib.hid hlk
  clear hlk
  unfold cfR
  cases hq : lessB x.key y.key with
  | true =>
    rw [hq] at HL
    go_wp2_with (first
    | (with_reducible refine wpList_load_mid rfl 24 (.tmp 6) rfl _ 0 rfl _ _ H1.out.key Tryd.underlying24 rfl HI.out ?_)
    | (with_reducible refine wpList_load_mid rfl 24 (.tmp 8) rfl _ 0 rfl _ _ H2.out.key Tryd.underlying24 rfl HJ.out ?_)
    | (go_at_call 21; (with_reducible refine Calls.mono (HL.out _) ?_); rintro e w3 ⟨rfl, hg⟩; have HG := Lib.hid (HB.out.trans hg); have H3 := Lib.hid (H1.out.below hg.below H1.out.lt); have H4 := Lib.hid (H2.out.below hg.below H2.out.lt); clear hg))
    go_ret
    exact ⟨rfl, HG.out⟩
  | false =>
    rw [hq] at HL
    by_cases hk : x.key = y.key
    · have hk2 : (x.key == y.key) = true := by simp [hk]
      rw [hk2] at HE
      have HK := Lib.hid hk
      clear hk hk2
      go_wp2_with (first
    | (with_reducible refine wpList_load_mid rfl 24 (.tmp 6) rfl _ 0 rfl _ _ H1.out.key Tryd.underlying24 rfl HI.out ?_)
    | (with_reducible refine wpList_load_mid rfl 24 (.tmp 8) rfl _ 0 rfl _ _ H2.out.key Tryd.underlying24 rfl HJ.out ?_)
    | (go_at_call 21; (with_reducible refine Calls.mono (HL.out _) ?_); rintro e w3 ⟨rfl, hg⟩; have HG := Lib.hid (HB.out.trans hg); have H3 := Lib.hid (H1.out.below hg.below H1.out.lt); have H4 := Lib.hid (H2.out.below hg.below H2.out.lt); clear hg)
    | (with_reducible refine wpList_load_mid rfl 24 (.tmp 12) rfl _ 0 rfl _ _ H3.out.key Tryd.underlying24 rfl HI.out ?_)
    | (with_reducible refine wpList_load_mid rfl 24 (.tmp 14) rfl _ 0 rfl _ _ H4.out.key Tryd.underlying24 rfl HJ.out ?_)
    | (with_reducible refine wpList_eq (.bool true) (by with_unfolding_all rfl) .eql 24 (.tmp 13) (.tmp 15) 24 rfl (.agg (u8s x.key).toArray) (.agg (u8s y.key).toArray) (by with_unfolding_all rfl) (by with_unfolding_all rfl) (fun w => HGd.out w _ _ _) HE.out ?_))
      go_ret
      exact ⟨rfl, HG.out⟩
    · have hk2 : (x.key == y.key) = false := by simp [hk]
      rw [hk2] at HE
      have HK := Lib.hid hk
      clear hk hk2
      go_wp2_with (first
    | (with_reducible refine wpList_load_mid rfl 24 (.tmp 6) rfl _ 0 rfl _ _ H1.out.key Tryd.underlying24 rfl HI.out ?_)
    | (with_reducible refine wpList_load_mid rfl 24 (.tmp 8) rfl _ 0 rfl _ _ H2.out.key Tryd.underlying24 rfl HJ.out ?_)
    | (go_at_call 21; (with_reducible refine Calls.mono (HL.out _) ?_); rintro e w3 ⟨rfl, hg⟩; have HG := Lib.hid (HB.out.trans hg); have H3 := Lib.hid (H1.out.below hg.below H1.out.lt); have H4 := Lib.hid (H2.out.below hg.below H2.out.lt); clear hg)
    | (with_reducible refine wpList_load_mid rfl 24 (.tmp 12) rfl _ 0 rfl _ _ H3.out.key Tryd.underlying24 rfl HI.out ?_)
    | (with_reducible refine wpList_load_mid rfl 24 (.tmp 14) rfl _ 0 rfl _ _ H4.out.key Tryd.underlying24 rfl HJ.out ?_)
    | (with_reducible refine wpList_eq (.bool false) (by with_unfolding_all rfl) .eql 24 (.tmp 13) (.tmp 15) 24 rfl (.agg (u8s x.key).toArray) (.agg (u8s y.key).toArray) (by with_unfolding_all rfl) (by with_unfolding_all rfl) (fun w => HGd.out w _ _ _) HE.out ?_))
      go_ret
      exact ⟨rfl, HG.out⟩
end Go.Proofs.YtefbllhpibfojaaDoor

namespace Go.Proofs.YtefbllhpibfojaaDoor
open Go.Proofs Stab Go.Shelf Go.RowKit Go.Lib Go.Sort

theorem ltOf_cfR (x y : Rec) : ltOf cfR x y = lessB x.key y.key := by
  show decide (cfR x y < 0) = _
  unfold cfR
  cases h : lessB x.key y.key with
  | true => simp
  | false =>
    by_cases h2 : x.key = y.key
    · simp [h2]
    · simp [h2]
theorem less_ntrans (a b c : List UInt8) (h1 : lessB a b = false) (h2 : lessB b c = false) : lessB a c = false := by
  by_cases hab : a = b
  · subst hab; exact h2
  · by_cases hbc : b = c
    · subst hbc; exact h1
    · have e1 := less_total b a (fun e => hab e.symm)
      have e2 := less_total c b (fun e => hbc e.symm)
      rw [h1] at e1
      rw [h2] at e2
      have := less_trans c b a e2 e1
      cases h : lessB a c with
      | false => rfl
      | true =>
        have h3 := less_trans a c a h this
        rw [less_irrefl] at h3
        cases h3
theorem swoR : SWO (ltOf cfR) where
  irrefl x := by rw [ltOf_cfR, less_irrefl]
  trans x y z h1 h2 := by rw [ltOf_cfR] at *; exact less_trans _ _ _ h1 h2
  ntrans x y z h1 h2 := by rw [ltOf_cfR] at *; exact less_ntrans _ _ _ h1 h2
theorem leC_cfR (x y : Rec) : leC cfR x y = !lessB y.key x.key := by
  unfold leC
  rw [ltOf_cfR]

def eqK (x y : Rec) : Bool := x.key == y.key
/-- the first record of a key -/
def find (l : List Rec) (k : List UInt8) : Option Rec := l.find? fun x => x.key == k
/-- rising keys -/
def Rising (l : List Rec) : Prop := l.Pairwise fun a b => lessB a.key b.key = true
/-- records by rising keys, one of each key: of one key the first -/
def sortR (l : List Rec) : List Rec := compL eqK (S (leC cfR) l)

theorem find_nil (k : List UInt8) : find [] k = none := rfl
theorem find_cons (x : Rec) (l : List Rec) (k : List UInt8) : find (x :: l) k = if x.key = k then some x else find l k := by
  unfold find
  rw [List.find?_cons]
  by_cases h : x.key = k
  · simp [h]
  · have : (x.key == k) = false := by simp [h]
    rw [this, if_neg h]
theorem find_append (a b : List Rec) (k : List UInt8) : find (a ++ b) k = (find a k).or (find b k) := by
  unfold find
  rw [List.find?_append]
theorem find_none {l : List Rec} {k : List UInt8} (h : ∀ x ∈ l, x.key ≠ k) : find l k = none := by
  unfold find
  rw [List.find?_eq_none]
  intro x hx
  simpa using h x hx
theorem find_some {l : List Rec} {k : List UInt8} {x : Rec} (h : find l k = some x) : x ∈ l ∧ x.key = k := by
  unfold find at h
  exact ⟨List.mem_of_find?_eq_some h, by simpa using List.find?_some h⟩
theorem find_isSome {l : List Rec} {x : Rec} (h : x ∈ l) : ∃ y, find l x.key = some y := by
  cases hf : find l x.key with
  | some y => exact ⟨y, rfl⟩
  | none =>
    unfold find at hf
    rw [List.find?_eq_none] at hf
    have := hf x h
    simp at this
theorem Rising.find {l : List Rec} (h : Rising l) {x : Rec} (hx : x ∈ l) : find l x.key = some x := by
  induction l with
  | nil => cases hx
  | cons y r ih =>
    rw [find_cons]
    rcases List.mem_cons.1 hx with rfl | hx
    · rw [if_pos rfl]
    · have hy := (List.pairwise_cons.1 h).1 x hx
      have hne : y.key ≠ x.key := fun e => by rw [e, less_irrefl] at hy; cases hy
      rw [if_neg hne]
      exact ih (List.pairwise_cons.1 h).2 hx
/-- rising lists are told by what is found in them -/
theorem rising_ext : ∀ {a b : List Rec}, Rising a → Rising b → (∀ k, find a k = find b k) → a = b
  | [], [], _, _, _ => rfl
  | [], y :: b, _, _, h => by
    have := h y.key
    rw [find_cons, if_pos rfl, find_nil] at this
    cases this
  | x :: a, [], _, _, h => by
    have := h x.key
    rw [find_cons, if_pos rfl, find_nil] at this
    cases this
  | x :: a, y :: b, ha, hb, h => by
    have ha1 := (List.pairwise_cons.1 ha).1
    have hb1 := (List.pairwise_cons.1 hb).1
    have hxy : x = y := by
      have h1 := h x.key
      rw [find_cons, if_pos rfl, find_cons] at h1
      by_cases e : y.key = x.key
      · rw [if_pos e] at h1
        injection h1
      · rw [if_neg e] at h1
        have h2 := h y.key
        rw [find_cons, find_cons, if_pos rfl, if_neg (fun e' => e e'.symm)] at h2
        have m1 := hb1 x (find_some h1.symm).1
        have m2 := ha1 y (find_some h2).1
        have := less_trans _ _ _ m1 m2
        rw [less_irrefl] at this
        cases this
    subst hxy
    have hab : a = b := by
      refine rising_ext (List.pairwise_cons.1 ha).2 (List.pairwise_cons.1 hb).2 fun k => ?_
      by_cases hk : x.key = k
      · rw [find_none fun z hz => ?_, find_none fun z hz => ?_]
        · intro e
          have := hb1 z hz
          rw [e, ← hk, less_irrefl] at this
          cases this
        · intro e
          have := ha1 z hz
          rw [e, ← hk, less_irrefl] at this
          cases this
      · have := h k
        rwa [find_cons, find_cons, if_neg hk, if_neg hk] at this
    rw [hab]
theorem find_merge_one {A : List Rec} (hA : A.Pairwise fun a b => leC cfR a b = true) (x : Rec) (k : List UInt8) : find (List.merge A [x] (leC cfR)) k = (find A k).or (if x.key = k then some x else none) := by
  induction A with
  | nil =>
    rw [List.nil_merge, find_cons, find_nil]
    rfl
  | cons a A ih =>
    rw [List.cons_merge_cons]
    by_cases h : leC cfR a x = true
    · rw [if_pos h, find_cons, ih (List.pairwise_cons.1 hA).2, find_cons]
      by_cases hk : a.key = k
      · rw [if_pos hk, if_pos hk]; rfl
      · rw [if_neg hk, if_neg hk]
    · rw [if_neg h, List.merge_right, find_cons, find_cons]
      have hlt : lessB x.key a.key = true := by
        rw [leC_cfR] at h
        simpa using h
      by_cases hx : x.key = k
      · rw [if_pos hx, if_pos hx]
        have hne : ∀ z ∈ a :: A, z.key ≠ k := by
          intro z hz e
          rcases List.mem_cons.1 hz with rfl | hz
          · rw [hx, ← e, less_irrefl] at hlt; cases hlt
          · have h2 := (List.pairwise_cons.1 hA).1 z hz
            rw [leC_cfR, e, ← hx, hlt] at h2
            cases h2
        have := find_none hne
        rw [find_cons] at this
        rw [this]; rfl
      · rw [if_neg hx, if_neg hx, Option.or_none]
theorem find_S (l : List Rec) (k : List UInt8) : find (S (leC cfR) l) k = find l k := by
  induction l using snoc_ind with
  | h0 => rfl
  | h1 l x ih =>
    rw [S_snoc, find_merge_one (S_sorted (leC_trans swoR) (leC_total swoR) l), ih, find_append, find_cons, find_nil]
theorem find_compF (r : List Rec) : ∀ (p : Rec) (k : List UInt8), find (p :: compF eqK p r) k = find (p :: r) k := by
  induction r with
  | nil => intro p k; rfl
  | cons y r ih =>
    intro p k
    have h := ih y k
    rw [find_cons p, find_cons p]
    by_cases hp : p.key = k
    · rw [if_pos hp, if_pos hp]
    · rw [if_neg hp, if_neg hp]
      unfold compF
      cases hq : eqK y p with
      | false => exact h
      | true =>
        have hyp : y.key = p.key := by simpa [eqK] using hq
        rw [find_cons, find_cons, if_neg (by rw [hyp]; exact hp), if_neg (by rw [hyp]; exact hp)] at h
        show find (compF eqK y r) k = _
        rw [h, find_cons, if_neg (by rw [hyp]; exact hp)]
theorem find_sortR (l : List Rec) (k : List UInt8) : find (sortR l) k = find l k := by
  unfold sortR
  rw [← find_S l k]
  cases S (leC cfR) l with
  | nil => rfl
  | cons p r => exact find_compF r p k
theorem compF_rising : ∀ (r : List Rec) (p : Rec), (p :: r).Pairwise (fun a b => leC cfR a b = true) → Rising (p :: compF eqK p r)
  | [], p, _ => List.pairwise_singleton _ _
  | y :: r, p, h => by
    have h1 := List.pairwise_cons.1 h
    have h2 := compF_rising r y h1.2
    unfold compF
    cases hq : eqK y p with
    | true =>
      have hyp : y.key = p.key := by simpa [eqK] using hq
      refine List.pairwise_cons.2 ⟨fun z hz => ?_, (List.pairwise_cons.1 h2).2⟩
      rw [← hyp]
      exact (List.pairwise_cons.1 h2).1 z hz
    | false =>
      have hyp : y.key ≠ p.key := by simpa [eqK] using hq
      have hpy : lessB p.key y.key = true := by
        have h3 := h1.1 y (List.mem_cons_self)
        rw [leC_cfR] at h3
        rw [less_total p.key y.key (fun e => hyp e.symm)]
        exact h3
      refine List.pairwise_cons.2 ⟨fun z hz => ?_, h2⟩
      rcases List.mem_cons.1 hz with rfl | hz
      · exact hpy
      · exact less_trans _ _ _ hpy ((List.pairwise_cons.1 h2).1 z hz)
theorem sortR_rising (l : List Rec) : Rising (sortR l) := by
  have h := S_sorted (leC_trans swoR) (leC_total swoR) l
  unfold sortR
  cases hS : S (leC cfR) l with
  | nil => exact List.Pairwise.nil
  | cons p r => rw [hS] at h; exact compF_rising r p h
theorem sortR_mem {l : List Rec} {x : Rec} : x ∈ sortR l ↔ find l x.key = some x := by
  constructor
  · intro h
    rw [← find_sortR]
    exact (sortR_rising l).find h
  · intro h
    rw [← find_sortR] at h
    exact (find_some h).1
theorem sortR_sub {l : List Rec} {x : Rec} (h : x ∈ sortR l) : x ∈ l := (find_some (sortR_mem.1 h)).1
theorem compF_len (r : List Rec) : ∀ p, (compF eqK p r).length ≤ r.length := by
  induction r with
  | nil => intro p; exact Nat.le_refl _
  | cons y r ih =>
    intro p
    unfold compF
    cases eqK y p with
    | true => have := ih y; simp; omega
    | false => have := ih y; simp; omega
theorem sortR_len (l : List Rec) : (sortR l).length ≤ l.length := by
  unfold sortR
  have h := S_len (leC cfR) l
  cases hS : S (leC cfR) l with
  | nil => simp [compL]
  | cons p r =>
    rw [hS] at h
    have := compF_len r p
    simp only [compL, List.length_cons] at h ⊢
    omega
/-- what is told by what is found -/
theorem sortR_eq {l m : List Rec} (hm : Rising m) (h : ∀ k, find m k = find l k) : m = sortR l := rising_ext hm (sortR_rising l) fun k => by rw [h, find_sortR]
end Go.Proofs.YtefbllhpibfojaaDoor

namespace Go.Proofs.YtefbllhpibfojaaDoor
open Go.Proofs Stab Go.Shelf Go.RowKit Go.Lib Go.Sort

theorem info3Rec : (Tryd.prog.info? 38).map (fun i => (i.zero, i.size, i.bytes)) = some (some (.agg (encR default).toArray), 65, 72) := by kernel_rfl
theorem zeroRec (w : World) : (zeroValue 38).run Tryd.prog w = .ok (.agg (encR default).toArray) w := by kernel_rfl
theorem egSort1 : ∀ args w, (callFunc 54 args).run Tryd.prog w = .ok (.enter 54 args) w := enters_of Tryd.func54 (by kernel_rfl) rfl
theorem egSort2 : ∀ args w, (callFunc 56 args).run Tryd.prog w = .ok (.enter 56 args) w := enters_of Tryd.func56 (by kernel_rfl) rfl
theorem cmpLays (blk off size : Nat) (w : World) : CmpLays Tryd.prog 54 #[] encR 65 cfR blk off size w := fun m os dk _ x y => by
  have := cmp_any x y (sortWorldK encR 65 w blk off m dk os)
  exact this.mono fun e w' ⟨h1, h2⟩ => ⟨h1, h2⟩

set_option maxRecDepth 100000 in
set_option maxHeartbeats 1000000 in
theorem eqK_any (x y : Rec) (w : World) :
    Calls Tryd.prog 56 #[.agg (encR x).toArray, .agg (encR y).toArray] w fun e w' => e = .returned (.bool (eqK x y)) ∧ Below w.heap.size w w' := by
  have h1 : At (w.alloc (.cells (encR x).toArray 38)) w.heap.size 38 (encR x) := At.new w _ _
  have h2 : At ((w.alloc (.cells (encR x).toArray 38)).alloc (.cells (encR y).toArray 38)) (w.heap.size + 1) 38 (encR y) := by
    have := At.new (w.alloc (.cells (encR x).toArray 38)) 38 (encR y)
    simpa using this
  have h1' := h1.alloc (.cells (encR y).toArray 38)
  have hB : Grw w ((w.alloc (.cells (encR x).toArray 38)).alloc (.cells (encR y).toArray 38)) := ((Grw.refl _).alloc _).alloc _
  have hi : (Tryd.prog.info? 24).map (·.size) = some (u8s x.key).length := by rw [u8s_length, x.hk]; exact infoDg
  have hj : (Tryd.prog.info? 24).map (·.size) = some (u8s y.key).length := by rw [u8s_length, y.hk]; exact infoDg
  have he : ∀ w, (binOp .eql 24 (.agg (u8s x.key).toArray) (.agg (u8s y.key).toArray)).run Tryd.prog w = .ok (.bool (x.key == y.key)) w := fun w => run_eql_dg w _ _ x.hk y.hk
  have hg : ∀ w op x' y', (eqGuard op 24 x' y' (.agg (u8s x.key).toArray) (.agg (u8s y.key).toArray)).run Tryd.prog w = .ok () w := fun w op x' y' => run_eqGuard_dg w op x' y' _ _
  have H1 := Lib.hid h1'
  have H2 := Lib.hid h2
  have HB := Lib.hid hB
  have HI := Lib.hid hi
  have HJ := Lib.hid hj
  have HE := Lib.hid he
  have HGd := Lib.hid hg
  clear h1 h2 h1' hB hi hj he hg
  go_enter Tryd.func56, Tryd.ntmps56
  go_wp2_with (first
    | (with_reducible refine wpList_load_mid rfl 24 (.tmp 5) rfl _ 0 rfl _ _ H1.out.key Tryd.underlying24 rfl HI.out ?_)
    | (with_reducible refine wpList_load_mid rfl 24 (.tmp 7) rfl _ 0 rfl _ _ H2.out.key Tryd.underlying24 rfl HJ.out ?_)
    | (with_reducible refine wpList_eq (.bool (x.key == y.key)) (by with_unfolding_all rfl) .eql 24 (.tmp 6) (.tmp 8) 24 rfl (.agg (u8s x.key).toArray) (.agg (u8s y.key).toArray) (by with_unfolding_all rfl) (by with_unfolding_all rfl) (fun w => HGd.out w _ _ _) HE.out ?_))
  go_ret
  exact ⟨rfl, HB.out.below⟩

set_option maxRecDepth 100000 in
set_option maxHeartbeats 1000000 in
theorem ssf_any (B : Nat) (v : Value) (n : Nat) (l : List Rec) (w : World) (hown : Own w B 38 65 v n (l.flatMap encR)) (hn : n = l.length) (hB : B ≤ w.heap.size) (hsz : n < 2305843009213693952) :
    Calls Tryd.prog 53 #[v, .func (.func 54) #[] #[]] w fun e w' => e = .returned (.tuple #[]) ∧ Own w' B 38 65 v n ((S (leC cfR) l).flatMap encR) ∧ Below B w w' := by
  by_cases h0 : n = 0
  · have hl : l = [] := List.eq_nil_of_length_eq_zero (by omega)
    subst hl
    obtain ⟨A, c, hv, hnc, hE⟩ := hown.rows hn (fun x _ => encR_len x)
    subst hv h0
    have HO := Lib.hid hown
    clear hown hE hn
    go_enter Tryd.func53, Tryd.ntmps53
    go_wp2_with (go_at_call 84; refine (stable_none A c _ w).mono ?_; rintro e w' ⟨rfl, rfl⟩)
    go_end0
    exact ⟨rfl, by simpa [S] using HO.out, Below.refl _ _⟩
  · obtain ⟨g, c, rfl, hBg, hgw, hnc, _⟩ := hown.form (by omega)
    have R := own_rowK encR_len encR_one hown hn
    have hst := stable_any 65 aggRec sizeRec encR cfR 54 #[] g 0 c l.toArray l.toArray w w egSort1 (cmpLays _ _ _ _) swoR R rfl (SWK.start R.hH) (by simp; omega)
    have e1 : l.toArray.size = n := by simp [hn]
    rw [e1] at hst
    have HST := Lib.hid hst
    have HO := Lib.hid hown
    have HH := Lib.hid (And.intro hBg hB)
    have HN := Lib.hid hn
    clear hst hown R hn e1 hBg hB
    go_enter Tryd.func53, Tryd.ntmps53
    go_wp2_with (go_at_call 84; refine Calls.mono HST.out ?_; rintro e w' ⟨rfl, d', hz, hl, hS⟩; have HS := Lib.hid hS; have HL := Lib.hid (And.intro hz hl); clear hS hz hl)
    go_end0
    refine ⟨rfl, ?_, swk_below HS.out HH.out.1 HH.out.2⟩
    have := swk_own encR_len HO.out HS.out (by rw [HL.out.1])
    rw [HL.out.2] at this
    exact this

set_option maxRecDepth 100000 in
set_option maxHeartbeats 1000000 in
theorem sort_any (A : Option Addr) (c : Nat) (l : List Rec) (w : World) (hE : EncIn encR 65 w A l) (hn : l.length < 1099511627776) :
    Calls Tryd.prog 20 #[.slice A l.length c] w fun e w' => ∃ v, e = .returned v ∧ Own w' w.heap.size 38 65 v (sortR l).length ((sortR l).flatMap encR) ∧ Below w.heap.size w w' := by
  have hcl := cloneRec_any 65 (by omega) encR encR_len encR_one 72 default info3Rec A c l w hE hn (by omega)
  have HCL := Lib.hid hcl
  have HN := Lib.hid hn
  have hSn : (S (leC cfR) l).length = l.length := S_len _ _
  have HSN := Lib.hid hSn
  obtain ⟨n, hln⟩ : ∃ n, n = l.length := ⟨_, rfl⟩
  have HLN := Lib.hid hln
  rw [← hln] at HCL ⊢
  clear hcl hn hln hSn hE
  go_enter Tryd.func20, Tryd.ntmps20
  go_wp2_with (first
    | (go_at_call 52; refine Calls.mono HCL.out ?_; rintro e w1 ⟨v, rfl, hO, hb⟩; have HO1 := Lib.hid hO; have HB1 := Lib.hid hb; clear hO hb)
    | (go_at_call 53; refine (ssf_any w.heap.size v n l w1 HO1.out HLN.out HB1.out.size (by have := HN.out; have := HLN.out; omega)).mono ?_; rintro e w2 ⟨rfl, hO, hb⟩; have HO2 := Lib.hid hO; have HB2 := Lib.hid (HB1.out.trans hb); clear hO hb)
    | (go_at_call 55; refine (cmpct_any 65 (by omega) aggRec sizeRec encR encR_len encR_one infoRec default zeroRec eqK 56 #[] egSort2 w.heap.size v n (S (leC cfR) l) w2 HO2.out (by rw [HSN.out]; exact HLN.out) (by have := HN.out; have := HLN.out; omega) (fun W x y => eqK_any x y W)).mono ?_; rintro e w3 ⟨v3, rfl, hO, hg⟩; have HO3 := Lib.hid hO; have HB3 := Lib.hid (own_below2 HO2.out HB2.out (Nat.le_refl _) HB2.out.size hg); clear hO hg))
  go_ret
  exact ⟨v3, rfl, HO3.out, HB3.out⟩
end Go.Proofs.YtefbllhpibfojaaDoor

namespace Go.Proofs.YtefbllhpibfojaaDoor
open Go.Proofs Stab Go.Shelf Go.RowKit Go.Lib Go.Sort

/-- whether a depth and a prefix can be -/
def placeB (d p : Int) : Bool := decide (0 ≤ d ∧ d ≤ 8 ∧ 0 ≤ p ∧ p < 4 ^ d.toNat)
theorem four_pow (d : Int) (h0 : 0 ≤ d) (h8 : d ≤ 8) : wrap64 (2 ^ (2 * d).toNat) = 4 ^ d.toNat := by
  have hd : d = 0 ∨ d = 1 ∨ d = 2 ∨ d = 3 ∨ d = 4 ∨ d = 5 ∨ d = 6 ∨ d = 7 ∨ d = 8 := by omega
  rcases hd with rfl | rfl | rfl | rfl | rfl | rfl | rfl | rfl | rfl <;> decide +kernel
set_option maxHeartbeats 1000000 in
theorem place_any (d p : Int) (w : World) (_hp : -9223372036854775808 ≤ p ∧ p ≤ 9223372036854775807) : Calls Tryd.prog 44 #[.int .i64 d, .int .i64 p] w fun e w' => e = .returned (.bool (placeB d p)) ∧ w = w' := by
  by_cases h0 : 0 ≤ d
  · by_cases h8 : d ≤ 8
    · by_cases hp0 : 0 ≤ p
      · go_enter Tryd.func44, Tryd.ntmps44
        go_wp2_with fail
        go_ret
        refine ⟨?_, rfl⟩
        show Ending.returned (.bool (decide (p < wrap64 (2 ^ (2 * d).toNat)))) = _
        rw [four_pow d h0 h8]
        unfold placeB
        simp [h0, h8, hp0]
      · go_enter Tryd.func44, Tryd.ntmps44
        go_wp2_with fail
        go_ret
        refine ⟨?_, rfl⟩
        show Ending.returned (.bool false) = _
        unfold placeB
        rw [decide_eq_false (fun h => absurd h.2.2.1 (by omega))]
    · go_enter Tryd.func44, Tryd.ntmps44
      go_wp2_with fail
      go_ret
      refine ⟨?_, rfl⟩
      show Ending.returned (.bool false) = _
      unfold placeB
      rw [decide_eq_false (fun h => absurd h.2.1 (by omega))]
  · go_enter Tryd.func44, Tryd.ntmps44
    go_wp2_with fail
    go_ret
    refine ⟨?_, rfl⟩
    show Ending.returned (.bool false) = _
    unfold placeB
    rw [decide_eq_false (fun h => absurd h.1 (by omega))]

/-- a range -/
structure Rng where
  depth : Int
  pref : Int
  count : Int
  sum : List UInt8
  hs : sum.length = 32
  hd : -9223372036854775808 ≤ depth ∧ depth ≤ 9223372036854775807
  hp : -9223372036854775808 ≤ pref ∧ pref ≤ 9223372036854775807
  hc : -9223372036854775808 ≤ count ∧ count ≤ 9223372036854775807
deriving DecidableEq
def Rng.zero : Rng := ⟨0, 0, 0, zero32', rfl, by omega, by omega, by omega⟩
instance : Inhabited Rng := ⟨Rng.zero⟩
theorem Rng.ext' {x y : Rng} (h1 : x.depth = y.depth) (h2 : x.pref = y.pref) (h3 : x.count = y.count) (h4 : x.sum = y.sum) : x = y := by
  cases x; cases y; simp_all
def encG (x : Rng) : List Value := .int .i64 x.depth :: .int .i64 x.pref :: .int .i64 x.count :: u8s x.sum
def rngV (x : Rng) : Value := .agg (encG x).toArray
theorem encG_len (x : Rng) : (encG x).length = 35 := by simp [encG, u8s_length, x.hs]
theorem encG_one (x : Rng) : ∀ v ∈ encG x, v.oneCell' = true := by
  intro v hv
  simp only [encG, List.mem_cons] at hv
  rcases hv with rfl | rfl | rfl | hv
  · rfl
  · rfl
  · rfl
  · exact u8s_oneCell _ v hv
theorem encG_sum (x : Rng) : ((encG x).drop 3).take 32 = u8s x.sum := by
  have h : (u8s x.sum).length = 32 := by rw [u8s_length, x.hs]
  show (u8s x.sum).take 32 = _
  rw [List.take_of_length_le (by omega)]
theorem aggRng : ∀ w, (isAgg 26).run Tryd.prog w = .ok true w := Tryd.isAgg26
theorem sizeRng : ∀ w, (Go.sizeOf 26).run Tryd.prog w = .ok 35 w := Tryd.sizeOf26
theorem infoRng : (Tryd.prog.info? 26).map (·.size) = some 35 := by kernel_rfl
theorem info3Rng : (Tryd.prog.info? 26).map (fun i => (i.zero, i.size, i.bytes)) = some (some (.agg (encG default).toArray), 35, 56) := by kernel_rfl
theorem zeroRng (w : World) : (zeroValue 26).run Tryd.prog w = .ok (.agg (encG default).toArray) w := by kernel_rfl
theorem At.depth {w : World} {b : Nat} {t : TypeId} {x : Rng} (h : At w b t (encG x)) : w.cell? ⟨b, 0, none⟩ = some (.int .i64 x.depth) := h.cell' rfl
theorem At.pref {w : World} {b : Nat} {t : TypeId} {x : Rng} (h : At w b t (encG x)) : w.cell? ⟨b, 1, none⟩ = some (.int .i64 x.pref) := h.cell' rfl
theorem At.count {w : World} {b : Nat} {t : TypeId} {x : Rng} (h : At w b t (encG x)) : w.cell? ⟨b, 2, none⟩ = some (.int .i64 x.count) := h.cell' rfl
theorem At.sum {w : World} {b : Nat} {t : TypeId} {x : Rng} (h : At w b t (encG x)) : w.rangeAt b 3 (u8s x.sum) := by
  have := h.range 3 32
  rwa [encG_sum] at this

/-- whether a range can be -/
def goodB (r : Rng) : Bool := placeB r.depth r.pref && decide (0 ≤ r.count) && decide (r.count ≤ 1048576)
set_option maxHeartbeats 1000000 in
theorem good_any (r : Rng) (w : World) : Calls Tryd.prog 14 #[.agg (encG r).toArray] w fun e w' => e = .returned (.bool (goodB r)) ∧ Below w.heap.size w w' := by
  have h1 : At (w.alloc (.cells (encG r).toArray 26)) w.heap.size 26 (encG r) := At.new w _ _
  have hd := h1.depth
  have hp := h1.pref
  have hc := h1.count
  have hB : Below w.heap.size w (w.alloc (.cells (encG r).toArray 26)) := (Below.refl _ _).alloc (Nat.le_refl _) _
  have hpl : ∀ W, Calls Tryd.prog 44 #[.int .i64 r.depth, .int .i64 r.pref] W fun e w' => e = .returned (.bool (placeB r.depth r.pref)) ∧ W = w' := fun W => place_any _ _ W r.hp
  have HP := Lib.hid hpl
  have HB := Lib.hid hB
  unfold goodB
  clear h1 hB hpl
  cases hq : placeB r.depth r.pref with
  | false =>
    rw [hq] at HP
    go_enter Tryd.func14, Tryd.ntmps14
    go_wp2_with (go_at_call 44; refine Calls.mono (HP.out _) ?_; rintro e w' ⟨rfl, rfl⟩)
    go_ret
    exact ⟨rfl, HB.out⟩
  | true =>
    rw [hq] at HP
    by_cases h0 : 0 ≤ r.count
    · by_cases h8 : r.count ≤ 1048576
      · go_enter Tryd.func14, Tryd.ntmps14
        go_wp2_with (go_at_call 44; refine Calls.mono (HP.out _) ?_; rintro e w' ⟨rfl, rfl⟩)
        go_ret
        refine ⟨?_, HB.out⟩
        show Ending.returned (.bool true) = _
        rw [decide_eq_true h0, decide_eq_true h8]; rfl
      · go_enter Tryd.func14, Tryd.ntmps14
        go_wp2_with (go_at_call 44; refine Calls.mono (HP.out _) ?_; rintro e w' ⟨rfl, rfl⟩)
        go_ret
        refine ⟨?_, HB.out⟩
        show Ending.returned (.bool (decide (r.count ≤ 1048576))) = _
        rw [decide_eq_true h0]; rfl
    · go_enter Tryd.func14, Tryd.ntmps14
      go_wp2_with (go_at_call 44; refine Calls.mono (HP.out _) ?_; rintro e w' ⟨rfl, rfl⟩)
      go_ret
      refine ⟨?_, HB.out⟩
      show Ending.returned (.bool false) = _
      rw [decide_eq_false (show ¬ 0 ≤ r.count by omega)]; rfl
end Go.Proofs.YtefbllhpibfojaaDoor

namespace Go.Proofs.YtefbllhpibfojaaDoor
open Go.Proofs Stab Go.Shelf Go.RowKit Go.Lib Go.Sort

theorem ofInt_i64 (a : Nat) (ha : a < 9223372036854775808) : (BitVec.ofInt 64 (a : Int)).toNat = a := by
  rw [BitVec.ofInt_natCast, BitVec.toNat_ofNat]; exact Nat.mod_eq_of_lt (by omega)
theorem i64_or_nat (a b : Nat) (ha : a < 9223372036854775808) (hb : b < 9223372036854775808) : bits .or .i64 (a : Int) (b : Int) = ((a ||| b : Nat) : Int) := by
  have hx : a ||| b < 2 ^ 63 := Nat.or_lt_two_pow (by omega) (by omega)
  show IntKind.i64.wrap ((BitVec.ofInt 64 (a : Int) ||| BitVec.ofInt 64 (b : Int)).toNat : Int) = _
  rw [BitVec.toNat_or, ofInt_i64 a ha, ofInt_i64 b hb, IntWalk.i64_in _ (by omega)]
theorem first_num (x y : UInt8) : bits .or .i64 ((x.toNat : Int) * 256) (y.toNat : Int) = ((x.toNat * 256 + y.toNat : Nat) : Int) := by
  have hx := x.toNat_lt
  have hy := y.toNat_lt
  have e1 : (x.toNat : Int) * 256 = ((x.toNat * 256 : Nat) : Int) := by omega
  have e3 := Nat.shiftLeft_add_eq_or_of_lt (i := 8) (b := y.toNat) (by omega) x.toNat
  rw [Nat.shiftLeft_eq] at e3
  rw [e1, i64_or_nat _ _ (by omega) (by omega), ← e3]
/-- a key's first sixteen bits -/
def first16 (k : List UInt8) : Nat := (k.getD 0 0).toNat * 256 + (k.getD 1 0).toNat
theorem first16_lt (k : List UInt8) : first16 k < 65536 := by
  unfold first16
  have := (k.getD 0 0).toNat_lt
  have := (k.getD 1 0).toNat_lt
  omega
/-- whether a key is in a range -/
def inB (r : Rng) (k : List UInt8) : Bool := goodB r && decide ((first16 k : Int) / 4 ^ (8 - r.depth).toNat = r.pref)
theorem u8s_getD (l : List UInt8) (i : Nat) (h : i < l.length) : (u8s l)[i]? = some (.int .u8 ((l.getD i 0).toNat : Int)) := by
  simp [u8s, h]
theorem goodB_place {r : Rng} (h : goodB r = true) : 0 ≤ r.depth ∧ r.depth ≤ 8 ∧ 0 ≤ r.pref ∧ r.pref < 4 ^ r.depth.toNat := by
  unfold goodB placeB at h
  simp only [Bool.and_eq_true, decide_eq_true_eq] at h
  exact h.1.1
theorem At.all {w : World} {b : Nat} {t : TypeId} {cs : List Value} (h : At w b t cs) : w.rangeAt b 0 cs := by
  have := h.range 0 cs.length
  rwa [List.drop_zero, List.take_length] at this
theorem two_four (n : Int) (h : 0 ≤ n) : (2 : Int) ^ (2 * n).toNat = 4 ^ n.toNat := by
  obtain ⟨m, rfl⟩ := Int.eq_ofNat_of_zero_le h
  have e : (2 * (m : Int)).toNat = 2 * m := by omega
  rw [e, Int.toNat_natCast, Int.pow_mul]
  rfl
set_option maxRecDepth 100000 in
set_option maxHeartbeats 1000000 in
theorem in_any (r : Rng) (k : List UInt8) (hk : k.length = 32) (w : World) : Calls Tryd.prog 22 #[.agg (encG r).toArray, .agg (u8s k).toArray] w fun e w' => e = .returned (.bool (inB r k)) ∧ Below w.heap.size w w' := by
  have h1 : At (w.alloc (.cells (encG r).toArray 26)) w.heap.size 26 (encG r) := At.new w _ _
  have h2 : At ((w.alloc (.cells (encG r).toArray 26)).alloc (.cells (u8s k).toArray 24)) (w.heap.size + 1) 24 (u8s k) := by
    have := At.new (w.alloc (.cells (encG r).toArray 26)) 24 (u8s k)
    simpa using this
  have h1' := h1.alloc (.cells (u8s k).toArray 24)
  have hB : Below w.heap.size w ((w.alloc (.cells (encG r).toArray 26)).alloc (.cells (u8s k).toArray 24)) := ((Below.refl _ _).alloc (Nat.le_refl _) _).alloc (by simp) _
  obtain ⟨x, hx⟩ : ∃ x, x = k.getD 0 0 := ⟨_, rfl⟩
  obtain ⟨y, hy⟩ : ∃ x, x = k.getD 1 0 := ⟨_, rfl⟩
  have c0 := h2.cell' (u8s_getD k 0 (by omega))
  have c1 := h2.cell' (u8s_getD k 1 (by omega))
  rw [← hx] at c0
  rw [← hy] at c1
  have x1 := x.toNat_lt
  have y1 := y.toNat_lt
  have hor := first_num x y
  have hfi : first16 k = x.toNat * 256 + y.toNat := by rw [hx, hy]; rfl
  have hgd : ∀ W W', Behind W W' → Calls Tryd.prog 14 #[.agg (encG r).toArray] W' fun e w' => e = .returned (.bool (goodB r)) ∧ Behind W w' := fun W W' h => (good_any r W').mono fun e w' ⟨h1, h2⟩ => ⟨h1, Below.trans h (h2.mono (Below.size h))⟩
  have hlen : (Tryd.prog.info? 26).map (·.size) = some (encG r).length := by rw [encG_len]; exact infoRng
  have HU := Lib.hid Tryd.underlying26
  have HUi := Lib.hid Tryd.underlying3
  have HL := Lib.hid hlen
  have HX := Lib.hid (And.intro hx hy)
  have HF := Lib.hid hfi
  have HG := Lib.hid hgd
  have HB := Lib.hid hB
  have H1 := Lib.hid h1'
  clear hx hy h1 h2 h1' hB hgd hlen hfi
  unfold inB
  cases hq : goodB r with
  | false =>
    rw [hq] at HG
    go_enter Tryd.func22, Tryd.ntmps22
    go_wp2_with fail
    generalize (w.alloc (.cells (encG r).toArray 26)).alloc (.cells (u8s k).toArray 24) = w2 at H1 HB ⊢
    have HR := Lib.hid (show ∀ W, Behind w2 W → W.rangeAt w.heap.size 0 (encG r) from fun W hW => by exact At.all (At.below H1.out hW H1.out.lt))
    refine wp_region_class (Behind w2) (by kernel_rfl) (by kernel_rfl) (Below.refl _ _).drew ?_
    iterate 14 (first
      | go_big_quiet_skip
      | (with_reducible refine wpQuiet_loadAll (by with_unfolding_all rfl) 26 _ (by with_unfolding_all rfl) (w.heap.size) 0 (by with_unfolding_all rfl) (encG r) _ (fun w h => HR.out w h) HU.out (by with_unfolding_all rfl) HL.out ?_; simp only [Act.put, List.setIfInBounds_toArray, List.set_cons_zero, List.set_cons_succ])
      | (with_reducible refine wpQuiet_call 14 [.agg (encG r).toArray] (.bool false) (by with_unfolding_all rfl) _ _ (by with_unfolding_all rfl) (by with_unfolding_all rfl) (fun _ => by kernel_rfl) (fun w' h => HG.out _ w' h) ?_; simp only [Act.put, List.setIfInBounds_toArray, List.set_cons_zero, List.set_cons_succ])
      | (go_big_quiet_step (exact fun _ => rfl)))
    with_reducible refine wpQuiet_nil ?_
    intro w3 h3
    have HB3 := Lib.hid (show Below w2.heap.size w2 w3 from h3)
    clear h3
    go_wp2_with fail
    go_ret
    exact ⟨rfl, HB.out.trans (HB3.out.mono HB.out.size)⟩
  | true =>
    have hpl := goodB_place hq
    have d0 := hpl.1
    have d8 := hpl.2.1
    have e1 : IntKind.i64.wrap (8 - r.depth) = 8 - r.depth := IntWalk.i64_in _ (by omega)
    have e2 : IntKind.i64.wrap (2 * (8 - r.depth)) = 2 * (8 - r.depth) := IntWalk.i64_in _ (by omega)
    have e3 : (0 : Int) ≤ 2 * (8 - r.depth) := by omega
    rw [hq] at HG
    go_enter Tryd.func22, Tryd.ntmps22
    go_wp2_with fail
    generalize (w.alloc (.cells (encG r).toArray 26)).alloc (.cells (u8s k).toArray 24) = w2 at H1 HB ⊢
    have HR := Lib.hid (show ∀ W, Behind w2 W → W.rangeAt w.heap.size 0 (encG r) from fun W hW => by exact At.all (At.below H1.out hW H1.out.lt))
    have HD := Lib.hid (show ∀ W, Behind w2 W → W.cell? ⟨w.heap.size, 0, none⟩ = some (.int .i64 r.depth) from fun W hW => At.depth (At.below H1.out hW H1.out.lt))
    have HP := Lib.hid (show ∀ W, Behind w2 W → W.cell? ⟨w.heap.size, 1, none⟩ = some (.int .i64 r.pref) from fun W hW => At.pref (At.below H1.out hW H1.out.lt))
    refine wp_region_class (Behind w2) (by kernel_rfl) (by kernel_rfl) (Below.refl _ _).drew ?_
    iterate 14 (first
      | go_big_quiet_skip
      | (with_reducible refine wpQuiet_loadAll (by with_unfolding_all rfl) 26 _ (by with_unfolding_all rfl) (w.heap.size) 0 (by with_unfolding_all rfl) (encG r) _ (fun w h => HR.out w h) HU.out (by with_unfolding_all rfl) HL.out ?_; simp only [Act.put, List.setIfInBounds_toArray, List.set_cons_zero, List.set_cons_succ])
      | (with_reducible refine wpQuiet_call 14 [.agg (encG r).toArray] (.bool true) (by with_unfolding_all rfl) _ _ (by with_unfolding_all rfl) (by with_unfolding_all rfl) (fun _ => by kernel_rfl) (fun w' h => HG.out _ w' h) ?_; simp only [Act.put, List.setIfInBounds_toArray, List.set_cons_zero, List.set_cons_succ])
      | (with_reducible refine wpQuiet_load1 (.int .i64 r.depth) (by with_unfolding_all rfl) 3 _ (by with_unfolding_all rfl) .i64 HUi.out (w.heap.size) 0 (by with_unfolding_all rfl) (fun w h => HD.out w h) ?_; simp only [Act.put, List.setIfInBounds_toArray, List.set_cons_zero, List.set_cons_succ])
      | (with_reducible refine wpQuiet_load1 (.int .i64 r.pref) (by with_unfolding_all rfl) 3 _ (by with_unfolding_all rfl) .i64 HUi.out (w.heap.size) 1 (by with_unfolding_all rfl) (fun w h => HP.out w h) ?_; simp only [Act.put, List.setIfInBounds_toArray, List.set_cons_zero, List.set_cons_succ])
      | (go_big_quiet_step (exact fun _ => rfl)))
    with_reducible refine wpQuiet_nil ?_
    intro w3 h3
    have HB3 := Lib.hid (show Below w2.heap.size w2 w3 from h3)
    clear h3
    go_wp2_with fail
    go_ret
    refine ⟨?_, HB.out.trans (HB3.out.mono HB.out.size)⟩
    show Ending.returned (.bool (((x.toNat : Int) * 256 + (y.toNat : Int)) / 2 ^ (2 * (8 - r.depth)).toNat == r.pref)) = Ending.returned (.bool (true && decide ((first16 k : Int) / 4 ^ (8 - r.depth).toNat = r.pref)))
    rw [two_four _ (by omega), HF.out, Bool.true_and]
    have e : ((x.toNat * 256 + y.toNat : Nat) : Int) = (x.toNat : Int) * 256 + (y.toNat : Int) := by omega
    rw [e]
    rfl
end Go.Proofs.YtefbllhpibfojaaDoor

namespace Go.Proofs.YtefbllhpibfojaaDoor
open Go.Proofs Stab Go.Shelf Go.RowKit Go.Lib Go.Sort

/-- a range's records -/
def itemsR (r : Rng) (l : List Rec) : List Rec := (sortR l).filter fun x => inB r x.key
theorem egItems1 : ∀ args w, (callFunc 47 args).run Tryd.prog w = .ok (.enter 47 args) w := enters_of Tryd.func47 (by kernel_rfl) rfl
set_option maxRecDepth 100000 in
set_option maxHeartbeats 1000000 in
theorem items1_any (r : Rng) (x : Rec) (b : Nat) (w : World) (hb : At w b 26 (encG r)) :
    Calls Tryd.prog 47 #[.agg (encR x).toArray, .pointer (some ⟨b, 0, none⟩)] w fun e w' => e = .returned (.bool (!inB r x.key)) ∧ Below w.heap.size w w' := by
  have h1 : At (w.alloc (.cells (encR x).toArray 38)) w.heap.size 38 (encR x) := At.new w _ _
  have h2 := hb.alloc (.cells (encR x).toArray 38)
  have hB : Below w.heap.size w (w.alloc (.cells (encR x).toArray 38)) := (Below.refl _ _).alloc (Nat.le_refl _) _
  have hi : (Tryd.prog.info? 24).map (·.size) = some (u8s x.key).length := by rw [u8s_length, x.hk]; exact infoDg
  have hj : (Tryd.prog.info? 26).map (·.size) = some (encG r).length := by rw [encG_len]; exact infoRng
  have hin : ∀ W, Calls Tryd.prog 22 #[.agg (encG r).toArray, .agg (u8s x.key).toArray] W fun e w' => e = .returned (.bool (inB r x.key)) ∧ Below W.heap.size W w' := fun W => in_any r x.key x.hk W
  have H1 := Lib.hid h1
  have H2 := Lib.hid h2
  have HB := Lib.hid hB
  have HI := Lib.hid hi
  have HJ := Lib.hid hj
  have HIN := Lib.hid hin
  clear hb h1 h2 hB hi hj hin
  go_enter Tryd.func47, Tryd.ntmps47
  go_wp2_with (first
    | (with_reducible refine wpList_loadAll rfl 26 (.tmp 1) rfl b rfl _ _ _ H2.out Tryd.underlying26 rfl HJ.out ?_)
    | (with_reducible refine wpList_load_mid rfl 24 (.tmp 5) rfl _ 0 rfl _ _ H1.out.key Tryd.underlying24 rfl HI.out ?_)
    | (go_at_call 22; refine Calls.mono (HIN.out _) ?_; rintro e w' ⟨rfl, hb3⟩; have HB3 := Lib.hid (HB.out.trans (hb3.mono HB.out.size)); clear hb3))
  go_ret
  exact ⟨rfl, HB3.out⟩
set_option maxRecDepth 100000 in
set_option maxHeartbeats 1000000 in
theorem items_any (r : Rng) (A : Option Addr) (c : Nat) (l : List Rec) (w : World) (hE : EncIn encR 65 w A l) (hn : l.length < 1099511627776) :
    Calls Tryd.prog 17 #[.agg (encG r).toArray, .slice A l.length c] w fun e w' => ∃ v, e = .returned v ∧ Own w' w.heap.size 38 65 v (itemsR r l).length ((itemsR r l).flatMap encR) ∧ Below w.heap.size w w' := by
  obtain ⟨w1, hw1⟩ : ∃ w1, w1 = w.alloc (.cells (encG r).toArray 26) := ⟨_, rfl⟩
  have h1 : At w1 w.heap.size 26 (encG r) := by rw [hw1]; exact At.new w _ _
  have hB : Below w.heap.size w w1 := by rw [hw1]; exact (Below.refl _ _).alloc (Nat.le_refl _) _
  have hz : w1.heap.size = w.heap.size + 1 := by rw [hw1]; simp
  have hs := sort_any A c l w1 (hE.up hB) hn
  have hsl := sortR_len l
  have H1 := Lib.hid h1
  have HB := Lib.hid hB
  have HS := Lib.hid hs
  have HN := Lib.hid (show (sortR l).length < 9223372036854775807 by omega)
  have HZ := Lib.hid hz
  clear h1 hB hs hn hsl hE hz
  go_enter Tryd.func17, Tryd.ntmps17
  go_wp2_with fail
  rw [← hw1]
  clear hw1
  go_wp2_with (first
    | (go_at_call 20; refine Calls.mono HS.out ?_; rintro e w2 ⟨v, rfl, hO, hb⟩; have HO2 := Lib.hid hO; have HB2 := Lib.hid hb; clear hO hb)
    | (go_at_call 46; refine (delRec_any 65 (by omega) aggRec sizeRec encR encR_len encR_one infoRec default zeroRec (fun x => !inB r x.key) 47 #[.pointer (some ⟨w.heap.size, 0, none⟩)] egItems1 w1.heap.size v _ (sortR l) w2 HO2.out rfl HN.out (fun W x hW => items1_any r x w.heap.size W ((H1.out.below HB2.out H1.out.lt).grown hW (fun hg => absurd (HO2.out.lt _ hg.symm).1 (by have := H1.out.lt; omega))))).mono ?_; rintro e w3 ⟨v3, m3, rfl, hm, hO, hg⟩; have HO3 := Lib.hid hO; have HM := Lib.hid hm; have HB3 := Lib.hid (own_below2 HO2.out (HB.out.trans (HB2.out.mono HB.out.size)) (by have := HZ.out; omega) (Nat.le_trans HB.out.size HB2.out.size) hg); clear hO hg hm))
  go_ret
  refine ⟨v3, rfl, ?_, HB3.out⟩
  have hf : ((sortR l).filter fun x => !!inB r x.key) = itemsR r l := by
    unfold itemsR
    congr 1
    funext x
    rw [Bool.not_not]
  have hO := HO3.out
  rw [HM.out] at hO
  rw [hf] at hO
  exact hO.rebase (by have := HZ.out; omega)
end Go.Proofs.YtefbllhpibfojaaDoor
