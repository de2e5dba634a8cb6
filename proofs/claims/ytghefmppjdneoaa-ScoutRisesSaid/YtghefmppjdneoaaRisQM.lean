/- Layer 12: ScoutRises, how its calls go on. -/
import Derived.Test.YtghefmppjdneoaaRisPM
import Derived.Test.YtghefmppjdneoaaScRaM
namespace Go.Proofs.Ytghefmppjdneoaa
open Go.Proofs Stab Go.Shelf Go.RowKit Go.Lib Go.Sort Go.Maps

/-- a scout to whom this and that happens -/
structure RisS (w wr : World) (O : Nat → Prop) (M s : Nat) (t : Sct) (me n : Int) : Prop where
  own : OwnS Unit wr O M s t
  fit : Fit t me n
  new : ∀ i, O i → w.heap.size ≤ i
  below : Below w.heap.size w wr
/-- what was known, apart from it -/
def WasAt (w : World) (O : Nat → Prop) (A : Option Addr) (l : List Mem) : Prop := MemsIn w A l ∧ (0 < l.length → ∀ g, blkOf A = some g → ¬ O g)
/-- what happens, in its variable -/
def ActAt (w : World) (O : Nat → Prop) (g : Nat) (a : SAct) : Prop := At w g 63 (actC a) ∧ ¬ O g
/-- what an act has made of it -/
def Did (w wr w' : World) (O : Nat → Prop) (M s : Nat) (t : Sct) (me n : Int) (b : Bool) : Prop :=
  ∃ O' t', RisS w w' O' M s t' me n ∧ Up t.v t'.v ∧ t'.left = b ∧ Keeps (fun i => ¬ O i) wr w' ∧ ∀ i, O' i → O i ∨ wr.heap.size ≤ i
section
variable {w wr w' : World} {O O' : Nat → Prop} {M s : Nat} {t : Sct} {me n : Int} {l : List Mem} {A : Option Addr} {g : Nat} {a : SAct}
theorem RisS.up (h : RisS w wr O M s t me n) (hb : Below wr.heap.size wr w') : RisS w w' O M s t me n :=
  ⟨h.own.below hb, h.fit, h.new, h.below.trans (hb.mono h.below.size)⟩
theorem RisS.mono {M' : Nat} (h : RisS w wr O M s t me n) (hM : M ≤ M') : RisS w wr O M' s t me n := ⟨h.own.mono hM, h.fit, h.new, h.below⟩
theorem off_keep (hO : ∀ i, O' i → O i ∨ wr.heap.size ≤ i) (h : ¬ O g) (hlt : g < wr.heap.size) : ¬ O' g := fun ho => by
  rcases hO g ho with h1 | h1
  · exact h h1
  · omega
theorem WasAt.keep (h : WasAt wr O A l) (hk : Keeps (fun i => ¬ O i) wr w') (hO : ∀ i, O' i → O i ∨ wr.heap.size ≤ i) : WasAt w' O' A l := by
  refine ⟨fun h0 => ?_, fun h0 g hg => ?_⟩
  · exact h.1.keep hk.size (fun g off e hlt => hk.block g (h.2 h0 g (blk_some e)) hlt) h0
  · obtain ⟨g', off, e, hlt, _⟩ := h.1 h0
    have := blk_some e
    rw [hg] at this
    cases this
    exact off_keep hO (h.2 h0 g hg) hlt
theorem WasAt.up (h : WasAt wr O A l) (hb : Below wr.heap.size wr w') : WasAt w' O A l := ⟨h.1.below hb, h.2⟩
theorem ActAt.keep (h : ActAt wr O g a) (hk : Keeps (fun i => ¬ O i) wr w') (hO : ∀ i, O' i → O i ∨ wr.heap.size ≤ i) : ActAt w' O' g a := ⟨h.1.keeps hk h.2, off_keep hO h.2 h.1.lt⟩
theorem ActAt.up (h : ActAt wr O g a) (hb : Below wr.heap.size wr w') : ActAt w' O g a := ⟨h.1.below hb h.1.lt, h.2⟩
theorem RisS.all (h : RisS w wr O M s t me n) : Calls Try.prog 10 #[.pointer (some ⟨s, 0, none⟩)] wr fun e w' => ∃ A c, e = .returned (.slice A (Go.Proofs.Ytghefmppjdneoaa.all t.v).length c) ∧ WasAt w' O A (Go.Proofs.Ytghefmppjdneoaa.all t.v) ∧ Below wr.heap.size wr w' := by
  refine h.own.all.mono ?_
  rintro e w' ⟨A, c, rfl, hM, hg, hb⟩
  exact ⟨A, c, rfl, ⟨hM, fun _ g hA ho => by have := hg g hA; have := h.own.bound g ho; omega⟩, hb⟩
theorem RisS.did {M' : Nat} {t' : Sct} {v : Value} {l : List Fr} (h : RisS w wr O M s t me n) (hG : Gave Unit wr w' O M' s t' v l) (hf : Fit t' me n) (hu : Up t.v t'.v) (hM : M' ≤ M + 30) : Did w wr w' O (M + 30) s t me n t'.left := by
  obtain ⟨O', B, h1, h2, h3, h4, _⟩ := hG
  refine ⟨O', t', ⟨h1.mono hM, hf, fun i hi => ?_, h.below.trans (h3.below (fun i hi ho => by have := h.new i ho; omega) h.below.size)⟩, hu, rfl, h3, fun i hi => (h2 i hi).1⟩
  rcases (h2 i hi).1 with ho | ho
  · exact h.new i ho
  · exact Nat.le_trans h.below.size ho
theorem RisS.tick (h : RisS w wr O M s t me n) (hme : 1 ≤ me ∧ me ≤ n) (hM : M + 30 < 1000000) (d : Int) (hd : -9223372036854775808 ≤ d ∧ d ≤ 9223372036854775807) :
    Calls Try.prog 12 #[.pointer (some ⟨s, 0, none⟩), .int .i64 d] wr fun e w' => ∃ v, e = .returned v ∧ Did w wr w' O (M + 30) s t me n t.left := by
  refine (h.own.tick (by omega) d hd).mono ?_
  rintro e w' ⟨v, rfl, hG⟩
  have hT := h.fit.tick hme d
  exact ⟨v, rfl, hT.left ▸ h.did hG hT.fit hT.up (by omega)⟩
theorem RisS.hear {c : Nat} {x : Fr} {F : List Value} (h : RisS w wr O M s t me n) (hM : M + 30 < 1000000) (hF : FrIs F x A c) (hR : MemsIn w A x.rum) (hl : x.rum.length ≤ 20) (hW : ∀ m ∈ x.rum, m.Wf) (h64 : -9223372036854775808 ≤ x.frm ∧ x.frm ≤ 9223372036854775807) :
    Calls Try.prog 13 #[.pointer (some ⟨s, 0, none⟩), .agg F.toArray] wr fun e w' => ∃ A' c', e = .returned (.slice A' (t.hear x).2.length c') ∧ Did w wr w' O (M + 30) s t me n t.left := by
  have hR' : MemsIn wr A x.rum := hR.keep h.below.size fun g _ _ hg => h.below.block g hg
  refine (h.own.hear (by omega) hF hR' (fun h0 g hg => ?_) (fun m hm => (hW m hm).1) h64).mono ?_
  · obtain ⟨g', off, e, hlt, _⟩ := hR h0
    have := blk_some e
    rw [hg] at this
    cases this
    exact ⟨fun ho => by have := h.new g ho; omega, Nat.lt_of_lt_of_le hlt h.below.size⟩
  · rintro e w' ⟨v, rfl, hG⟩
    have hT := h.fit.hear x
    have hD := hT.left ▸ h.did hG hT.fit hT.up (by omega)
    obtain ⟨O', B, _, _, _, _, L, A', c', e1, e2, _⟩ := hG
    refine ⟨A', c', ?_, hD⟩
    rw [e2, ← e1, List.length_map]
theorem RisS.leave (h : RisS w wr O M s t me n) (hme : 1 ≤ me ∧ me ≤ n) (hn : n ≤ 6) (hM : M + 30 < 1000000) :
    Calls Try.prog 14 #[.pointer (some ⟨s, 0, none⟩)] wr fun e w' => ∃ v, e = .returned v ∧ Did w wr w' O (M + 30) s t me n true := by
  obtain ⟨b, rfl, hS, hO⟩ := h.own
  refine (leave_any hS (by omega)).mono ?_
  rintro e w' ⟨v, rfl, hT⟩
  obtain ⟨h1, h2, h3⟩ := h.fit.leave hme hn
  exact ⟨v, rfl, h3 ▸ h.did (hT.gave hO) h1 h2 (by omega)⟩
theorem RisS.getMe (h : RisS w wr O M s t me n) : Calls Try.prog 16 #[.pointer (some ⟨s, 0, none⟩)] wr fun e w' => ∃ x y : Int, e = .returned (.agg #[.int .i64 x, .int .i64 y, .int .i64 (if t.left = true then 3 else 0)]) ∧ Below wr.heap.size wr w' := by
  refine h.own.grew.getMe.mono ?_
  rintro e w' ⟨rfl, hb⟩
  refine ⟨t.own.n, t.own.i, ?_, hb⟩
  have : t.own.s = if t.left = true then 3 else 0 := by
    unfold Sct.own
    rw [h.fit.meq]
    rcases h.fit.own with ⟨h1, h2⟩ | ⟨h1, h2⟩
    · rw [if_pos h1, h2]
    · rw [if_neg (by rw [h1]; decide), h2]
  rw [← this]
  rfl
theorem RisS.getMeT (h : RisS w wr O M s t me n) (hl : t.left = true) : Calls Try.prog 16 #[.pointer (some ⟨s, 0, none⟩)] wr fun e w' => ∃ x y : Int, e = .returned (.agg #[.int .i64 x, .int .i64 y, .int .i64 3]) ∧ Below wr.heap.size wr w' := by
  have := h.getMe
  rw [if_pos hl] at this
  exact this
theorem RisS.getMeF (h : RisS w wr O M s t me n) (hl : t.left = false) : Calls Try.prog 16 #[.pointer (some ⟨s, 0, none⟩)] wr fun e w' => ∃ x y : Int, e = .returned (.agg #[.int .i64 x, .int .i64 y, .int .i64 0]) ∧ Below wr.heap.size wr w' := by
  have := h.getMe
  rw [if_neg (by rw [hl]; decide)] at this
  exact this
end
theorem run_field_state (p q r : Int) (w : World) : (Instr.field 38 (.agg #[.int .i64 p, .int .i64 q, .int .i64 r]) 2).run Try.prog w = .ok (.int .i64 r) w := by kernel_rfl
theorem exec_field_state {ρ : Operand → Value} {o : Oper} (y : Operand) (ho : o.op = .field 38 y 2) {p q r : Int} (hy : ρ y = .agg #[.int .i64 p, .int .i64 q, .int .i64 r]) (w : World) : (execOp ρ o).run Try.prog w = .ok (.value (.int .i64 r)) w := by
  unfold execOp
  simp only [ho, hy, Sem.run_bind, run_field_state, Result.andThen_ok, Sem.run_pure]
theorem below_alloc_then {w w' : World} {o : Obj} (h : Below (w.alloc o).heap.size (w.alloc o) w') : Below w.heap.size w w' :=
  have h1 : Below w.heap.size w (w.alloc o) := (Below.refl _ _).alloc (Nat.le_refl _) _
  h1.trans (h.mono h1.size)
def actZ : List Value := .int .i64 0 :: .int .i64 0 :: frameC zFr none 0
theorem actZ_len : actZ.length = 239 := by
  unfold actZ
  rw [List.length_cons, List.length_cons, (frameC_is zFr none 0).len]
theorem zeroAct (w : World) : (zeroValue 63).run Try.prog w = .ok (.agg actZ.toArray) w := by kernel_rfl
theorem info_act : (Try.prog.info? 63).map (·.size) = some 239 := by kernel_rfl
theorem built_frameZ : Try.prog.built 57 [] = some (frameC zFr none 0).toArray := by kernel_rfl
theorem built_sentZ : Try.prog.built 59 [] = some (bareC zFr).toArray := by kernel_rfl
theorem actC_one {W : World} (a : SAct) (h : a.Ok W) : ∀ v ∈ actC a, v.oneCell' = true := by
  intro v hv
  unfold actC at hv
  rcases List.mem_cons.1 hv with rfl | hv
  · rfl
  · rcases List.mem_cons.1 hv with rfl | hv
    · rfl
    · exact h.fr.one v hv
end Go.Proofs.Ytghefmppjdneoaa
