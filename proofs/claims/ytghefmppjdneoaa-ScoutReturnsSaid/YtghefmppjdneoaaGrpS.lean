/- Layer 12, the texts ScZq to ScZq joined: what the functions that a scout reaches do with memory, each told once. -/
import Derived.Test.YtghefmppjdneoaaGrpR
namespace Go.Proofs.Ytghefmppjdneoaa
open Go.Proofs Stab Go.Shelf Go.RowKit Go.Lib Go.Sort Go.Maps

/-- a scout at s: all its blocks are in O, and there -/
def OwnS (H : Type) (w : World) (O : Nat → Prop) (M s : Nat) (t : Sct) : Prop := ∃ b, b.s = s ∧ ScAt H w O M b t ∧ ∀ i, O i → i < w.heap.size
/-- what a call of it has made: itself, and frames in blocks behind all of its own -/
def Gave (H : Type) (w w' : World) (O : Nat → Prop) (M s : Nat) (t : Sct) (v : Value) (l : List Fr) : Prop :=
  ∃ O' B, OwnS H w' O' M s t ∧ (∀ i, O' i → (O i ∨ w.heap.size ≤ i) ∧ i < B) ∧ Keeps (fun i => ¬ O i) w w' ∧ w.heap.size ≤ B ∧ Sents w' B v l
section
variable {H : Type} {w w' w0 : World} {O : Nat → Prop} {M s : Nat} {t : Sct}
theorem OwnS.keep (h : OwnS H w O M s t) (hk : Keeps O w w') : OwnS H w' O M s t := by
  obtain ⟨b, h1, h2, h3⟩ := h
  exact ⟨b, h1, h2.keeps hk, fun i hi => Nat.lt_of_lt_of_le (h3 i hi) hk.size⟩
theorem OwnS.below (h : OwnS H w O M s t) (hb : Below w.heap.size w w') : OwnS H w' O M s t := h.keep (Keeps.ofBelow hb)
theorem OwnS.grew (h : OwnS H w O M s t) : Grew H w w O M s t := by
  obtain ⟨b, rfl, h2, _⟩ := h
  exact Grew.refl h2
theorem OwnS.bound (h : OwnS H w O M s t) : ∀ i, O i → i < w.heap.size := by
  obtain ⟨b, _, _, h3⟩ := h
  exact h3
theorem OwnS.mono {M' : Nat} (h : OwnS H w O M s t) (hM : M ≤ M') : OwnS H w O M' s t := by
  obtain ⟨b, h1, h2, h3⟩ := h
  exact ⟨b, h1, h2.mono hM, h3⟩
theorem OwnS.self (h : OwnS H w O M s t) : O s := by
  obtain ⟨b, rfl, h2, _⟩ := h
  exact h2.own _ (mem_list.2 (.inl rfl))
/-- new blocks were laid, its own ones may have been given up -/
theorem Told.gave {v : Value} {l : List Fr} (h : Told H w w' O M s t v l) (hO : ∀ i, O i → i < w.heap.size) : Gave H w w' O M s t v l := by
  obtain ⟨O1, B1, hG, hO1, hB1, hS, hOO, hK⟩ := h.root
  obtain ⟨b, O', h1, h2, h3, h4⟩ := hG
  have h5 : ∀ i, O' i → O1 i := fun i hi => by
    rcases h3 i hi with h | h
    · exact h
    · omega
  refine ⟨O', B1, ⟨b, h1, h2, fun i hi => ?_⟩, fun i hi => ⟨?_, hO1 i (h5 i hi)⟩, hK, hB1, hS⟩
  · rcases hOO i (h5 i hi) with h | h
    · exact Nat.lt_of_lt_of_le (hO i h) hK.size
    · exact h.2
  · rcases hOO i (h5 i hi) with h | h
    · exact .inl h
    · exact .inr h.1
theorem OwnS.tick (h : OwnS H w O M s t) (hM : M + 12 < 1000000) (d : Int) (hd : -9223372036854775808 ≤ d ∧ d ≤ 9223372036854775807) :
    Calls Try.prog 12 #[.pointer (some ⟨s, 0, none⟩), .int .i64 d] w fun e w' => ∃ v, e = .returned v ∧ Gave H w w' O (M + 10) s (t.tick d).1 v (t.tick d).2 :=
  (h.grew.tick hM d hd).mono fun _ _ ⟨v, he, hT⟩ => ⟨v, he, hT.gave h.bound⟩
theorem OwnS.hear (h : OwnS H w O M s t) {F : List Value} {x : Fr} {A : Option Addr} {c : Nat} (hM : M + x.rum.length + 3 < 1000000) (hF : FrIs F x A c) (hR : MemsIn w A x.rum) (hRO : 0 < x.rum.length → ∀ g, blkOf A = some g → ¬ O g ∧ g < w.heap.size) (hR64 : ∀ m ∈ x.rum, -9223372036854775808 ≤ m.n ∧ m.n ≤ 9223372036854775807) (h64 : -9223372036854775808 ≤ x.frm ∧ x.frm ≤ 9223372036854775807) :
    Calls Try.prog 13 #[.pointer (some ⟨s, 0, none⟩), .agg F.toArray] w fun e w' => ∃ v, e = .returned v ∧ Gave H w w' O (M + x.rum.length + 2) s (t.hear x).1 v (t.hear x).2 :=
  (h.grew.hear hM hF hR hRO hR64 h64).mono fun _ _ ⟨v, he, hT⟩ => ⟨v, he, hT.gave h.bound⟩
theorem OwnS.all (h : OwnS H w O M s t) : Calls Try.prog 10 #[.pointer (some ⟨s, 0, none⟩)] w fun e w' => ∃ A c, e = .returned (.slice A (Go.Proofs.Ytghefmppjdneoaa.all t.v).length c) ∧ MemsIn w' A (Go.Proofs.Ytghefmppjdneoaa.all t.v) ∧ (∀ g, blkOf A = some g → w.heap.size ≤ g) ∧ Below w.heap.size w w' := h.grew.all
/-- a scout laid anew -/
theorem own_new {me nodes : Int} (hme : 1 ≤ me ∧ me ≤ nodes ∧ nodes ≤ 6) : Calls Try.prog 11 #[.int .i64 me, .int .i64 nodes] w fun e w' => ∃ s O, e = .returned (.pointer (some ⟨s, 0, none⟩)) ∧ OwnS H w' O 0 s (Sct.fresh me nodes) ∧ Below w.heap.size w w' ∧ ∀ i, O i → w.heap.size ≤ i :=
  (new_sc hme).mono fun _ _ ⟨b, O, he, hS, hb, hO⟩ => ⟨b.s, O, he, ⟨b, rfl, hS, fun i hi => (hO i hi).2⟩, hb, fun i hi => (hO i hi).1⟩
end
/-- one frame, whole -/
theorem Sents.single {w : World} {B : Nat} {v : Value} {x : Fr} (h : Sents w B v [x]) : ∃ g cap A c, v = .slice (some ⟨g, 0, none⟩) 1 cap ∧ B ≤ g ∧ g < w.heap.size ∧ MemsIn w A x.rum ∧ (∀ k, blkOf A = some k → B ≤ k) ∧ x.rum.length ≤ 6 ∧ ∀ w' : World, w'.heap[g]? = w.heap[g]? → w'.rangeAt g 0 (sentC x A c) := by
  obtain ⟨L, A, cap, h1, h2, h3, h4⟩ := h
  match L, h1, h2, h3, h4 with
  | [p], h1, h2, h3, h4 =>
    obtain rfl : p.x = x := by simpa using h1
    rcases h4 with h4 | ⟨g, rfl, hB, hlt, hr⟩
    · cases h4
    · have ⟨m1, m2, m3⟩ := h3 p (List.mem_singleton.2 rfl)
      have hp : fpsC [p] = sentC p.x p.A p.c := by unfold fpsC; rw [List.flatMap_cons, List.flatMap_nil, List.append_nil]; rfl
      rw [hp] at hr
      exact ⟨g, cap, p.A, p.c, h2, hB, hlt, m1, m3, m2, fun w' hw' j v hv => (World.cell?_of_block (w := w) hw').trans (hr j v hv)⟩
theorem built_frame4 (k f s n : Int) : Try.prog.built 57 [(0, .int .i64 k), (1, .int .i64 f), (2, .int .i64 s), (3, .int .i64 n)] = some (frameC ⟨0, k, f, s, n, []⟩ none 0).toArray := by kernel_rfl
/-- a row of draws -/
def DRow (w : World) (A : Option Addr) (l : List Int) : Prop :=
  (∀ x ∈ l, -9223372036854775808 ≤ x ∧ x ≤ 9223372036854775807) ∧ l.length ≤ maxLen ∧ (0 < l.length → ∃ g off, A = some ⟨g, off, none⟩ ∧ g < w.heap.size ∧ ∀ k (h : k < l.length) (w' : World), w'.heap[g]? = w.heap[g]? → w'.cell? ⟨g, off + k, none⟩ = some (.int .i64 l[k]))
theorem wrap_rem2 (n b k : Int) (h1 : 1 ≤ k) (h2 : k ≤ 1000) (h3 : 0 ≤ b) (h4 : b ≤ 1000) : b ≤ wrap64 (b + wrap64 ((IntKind.u64.wrap n).tmod k)) ∧ wrap64 (b + wrap64 ((IntKind.u64.wrap n).tmod k)) < b + k := by
  have h0 : 0 ≤ IntKind.u64.wrap n := by
    simp only [IntKind.wrap, IntKind.bits, IntKind.signed]
    simp
    omega
  have h5 := Int.tmod_nonneg k h0
  have h6 := Int.tmod_lt_of_pos (IntKind.u64.wrap n) (show 0 < k by omega)
  have e1 : wrap64 ((IntKind.u64.wrap n).tmod k) = (IntKind.u64.wrap n).tmod k := by unfold wrap64; omega
  rw [e1]
  have e2 : wrap64 (b + (IntKind.u64.wrap n).tmod k) = b + (IntKind.u64.wrap n).tmod k := by unfold wrap64; omega
  rw [e2]
  omega
theorem u64_small {n : Int} (h1 : 0 ≤ n) (h2 : n ≤ 1000) : IntKind.u64.wrap n = n := by
  simp only [IntKind.wrap, IntKind.bits, IntKind.signed]
  simp
  omega
/-- the draw of a tick -/
theorem draw_at (k L : Nat) (hk : k ≤ 1000000) (hL : 0 < L) (_hL2 : L ≤ maxLen) : wrap64 ((k : Int).tmod (L : Int)) = ((k % L : Nat) : Int) := by
  rw [Int.tmod_eq_emod_of_nonneg (by omega), ← Int.natCast_emod]
  have := Nat.mod_lt k hL
  have := Nat.mod_le k L
  unfold wrap64
  omega
theorem builtB7 : Try.prog.built 42 [] = some (zBools 7).toArray := by kernel_rfl
theorem zeroB7 (w : World) : (zeroValue 42).run Try.prog w = .ok (.agg (zBools 7).toArray) w := by kernel_rfl
theorem infoB7 : (Try.prog.info? 42).map (·.size) = some (zBools 7).length := by kernel_rfl
end Go.Proofs.Ytghefmppjdneoaa
