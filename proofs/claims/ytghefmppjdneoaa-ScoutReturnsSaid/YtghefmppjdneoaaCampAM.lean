/- Layer 12: a row of frames under way: frames are appended behind an offset. -/
import Derived.Test.YtghefmppjdneoaaGrpS
namespace Go.Proofs.Ytghefmppjdneoaa
open Go.Proofs Stab Go.Shelf Go.RowKit Go.Lib Go.Sort Go.Maps

/-- a row of frames that may be written: its slice value begins at place off of its block -/
def SRow (w : World) (A : Option Addr) (c : Nat) (L : List Fp) : Prop :=
  (A = none ∧ L = [] ∧ c = 0) ∨ ∃ g off cs, A = some ⟨g, off, none⟩ ∧ At w g 59 cs ∧ (cs.drop off).take (L.length * 238) = fpsC L ∧ off + c * 238 ≤ cs.length ∧ L.length ≤ c ∧ c ≤ maxLen
theorem SRow.nil (w : World) : SRow w none 0 [] := .inl ⟨rfl, rfl, rfl⟩
theorem SRow.keep {w w' : World} {A : Option Addr} {c : Nat} {L : List Fp} (h : SRow w A c L) (hk : ∀ g, blkOf A = some g → w'.heap[g]? = w.heap[g]?) : SRow w' A c L := by
  rcases h with h | ⟨g, off, cs, rfl, h1, h2⟩
  · exact .inl h
  · exact .inr ⟨g, off, cs, rfl, (hk g rfl).trans h1, h2⟩
theorem SRow.lt {w : World} {A : Option Addr} {c : Nat} {L : List Fp} (h : SRow w A c L) {g : Nat} (hA : blkOf A = some g) : g < w.heap.size := by
  rcases h with ⟨rfl, _⟩ | ⟨g', off, cs, rfl, h1, _⟩
  · cases hA
  · cases hA
    exact h1.lt
theorem SRow.len {w : World} {A : Option Addr} {c : Nat} {L : List Fp} (h : SRow w A c L) : L.length ≤ c ∧ c ≤ maxLen := by
  rcases h with ⟨rfl, rfl, rfl⟩ | ⟨g, off, cs, rfl, h1, h2, h3, h4, h5⟩
  · exact ⟨Nat.le_refl _, Nat.zero_le _⟩
  · exact ⟨h4, h5⟩
theorem srow_own {w : World} {B : Nat} {v : Value} {L : List Fp} (h : w.ownsRow B 59 238 v L.length (fpsC L)) : ∃ A c, v = .slice A L.length c ∧ SRow w A c L ∧ ∀ g, blkOf A = some g → B ≤ g := by
  rcases h.2 with ⟨h1, h2⟩ | ⟨g, cap, cur, h1, h2, h3, h4, h5, h6, h7⟩
  · have h0 : L = [] := List.length_eq_zero_iff.1 h2
    subst h0
    exact ⟨none, 0, h1, SRow.nil _, fun g hg => by cases hg⟩
  · refine ⟨_, cap, h1, .inr ⟨g, 0, cur.toList, rfl, by unfold At; rw [h3], by rw [List.drop_zero]; exact h7, by rw [Nat.zero_add, Array.length_toList, h6]; exact Nat.le_refl _, h4, h5⟩, fun g' hg => by cases hg; exact h2⟩
theorem fpsC_one (L : List Fp) : ∀ u ∈ fpsC L, u.oneCell' = true := by
  intro u hu
  obtain ⟨x, _, hx⟩ := List.mem_flatMap.1 hu
  exact sentC_one _ _ _ u hx
theorem fpsC_app (a b : List Fp) : fpsC (a ++ b) = fpsC a ++ fpsC b := List.flatMap_append
/-- nothing appended -/
theorem run_append_nothing {P : Program} (w : World) (t ty e : TypeId) (i : TypeInfo) (ht : P.underlying t = some (.slice e)) (hi : P.info? e = some i) (b : Option Addr) (n cap : Nat) (h : n ≤ cap) (A : Option Addr) (c : Nat) :
    (Builtin.append_ #[t, t] ty #[.slice b n cap, .slice A 0 c]).run P w = .ok (.slice b n cap) w := by
  have hfc : (Builtin.firstCells i.size 0 (.slice A 0 c)).run P w = .ok #[] w := by
    cases A with
    | none => rfl
    | some a => exact run_firstCells_some (P := P) w i.size 0 a 0 c [] (by simp) (fun j u hu => by simp at hu)
  cases b with
  | none => simp [Builtin.append_, run_underlying ht, sizeOf, typeInfo, hi, Builtin.lenOf, h, hfc]
  | some a => simp [Builtin.append_, run_underlying ht, sizeOf, typeInfo, hi, Builtin.lenOf, h, hfc, storeCells]
/-- frames appended -/
theorem exec_app_net {ρ : Operand → Value} {o : Oper} (x y : Operand) (ho : o.op = .call { callee := .builtin .append, args := #[x, y], argTypes := #[33, 33] }) {c c2 : Nat} {A A2 : Option Addr} {L L2 : List Fp} {w : World} (hx : ρ x = .slice A L.length c) (hy : ρ y = .slice A2 L2.length c2)
    (hR : SRow w A c L) (hr : L2 = [] ∨ ∃ g, A2 = some ⟨g, 0, none⟩ ∧ w.rangeAt g 0 (fpsC L2)) (hl : L.length + L2.length ≤ 1000) :
    ∃ A' c' w', (execOp ρ o).run Try.prog w = .ok (.value (.slice A' (L ++ L2).length c')) w' ∧ SRow w' A' c' (L ++ L2) ∧ (∀ g, blkOf A' = some g → blkOf A = some g ∨ w.heap.size ≤ g) ∧ Keeps (fun i => blkOf A ≠ some i) w w' := by
  obtain ⟨i0, hi, hz0, hz1, hz2⟩ := info_parts info_sent3
  have hexec : ∀ v' w', (Builtin.append_ #[33, 33] o.type #[.slice A L.length c, .slice A2 L2.length c2]).run Try.prog w = .ok v' w' → (execOp ρ o).run Try.prog w = .ok (.value v') w' := fun v' w' h => by
    unfold execOp
    simp only [ho, resolve, invoke, builtin, Sem.run_bind, Sem.run_pure, Result.andThen_ok, List.map_toArray, List.map_cons, List.map_nil, hx, hy, h]
  rcases hr with rfl | ⟨g, rfl, hg⟩
  · refine ⟨A, c, w, ?_, by rw [List.append_nil]; exact hR, fun g hg => .inl hg, Keeps.refl _ _⟩
    rw [List.append_nil]
    exact hexec _ _ (run_append_nothing w _ _ _ i0 Try.underlying33 hi A L.length c hR.len.1 A2 c2)
  have hnew : ∀ j u, (fpsC L2)[j]? = some u → w.cell? ((⟨g, 0, none⟩ : Addr).add j) = some u := fun j u hu => by rw [Addr.add_lit]; exact hg j u hu
  have hzl : (Value.agg (bareC ⟨0, 0, 0, 0, 0, []⟩).toArray).cells.size = 238 := by
    rw [show (Value.agg (bareC ⟨0, 0, 0, 0, 0, []⟩).toArray).cells = (bareC ⟨0, 0, 0, 0, 0, []⟩).toArray from rfl, List.size_toArray]
    exact sentC_len _ _ _
  rcases hR with ⟨rfl, rfl, rfl⟩ | ⟨b, off, cs, rfl, h1, h2, h3, h4, h5⟩
  · obtain ⟨v', w', e1, e2, e3, _⟩ := run_append_own (P := Try.prog) w w.heap.size 33 o.type 59 i0 _ 238 408 Try.underlying33 hi hz0 hz1 hz2 hzl (by omega) (.slice none 0 0) 0 [] (World.ownsRow_nil w _ _ _) ⟨g, 0, none⟩ L2.length c2 (fpsC L2) (fpsC_len L2) hnew (fpsC_one L2) (by unfold maxLen; omega) (by omega) (Nat.le_refl _)
    have e2' : w'.ownsRow w.heap.size 59 238 v' ([] ++ L2).length (fpsC ([] ++ L2)) := by
      rw [List.nil_append]
      rw [List.nil_append, Nat.zero_add] at e2
      exact e2
    obtain ⟨A', c', rfl, hr, hlo⟩ := srow_own e2'
    exact ⟨A', c', w', hexec _ _ e1, hr, fun g hg => .inr (hlo g hg), Keeps.grown e3 fun k hk => by cases hk⟩
  · by_cases hroom : L.length + L2.length ≤ c
    · have hL2 := fpsC_len L2
      have hL := fpsC_len L
      have hcl : off + L.length * 238 + L2.length * 238 ≤ cs.length := by omega
      have e1 := run_append_room_cells (P := Try.prog) w 33 o.type 59 i0 Try.underlying33 hi b off L.length c ⟨g, 0, none⟩ L2.length c2 (fpsC L2) (by rw [hz1]; exact hL2) hnew (fpsC_one L2) hroom (fun j hj => by rw [hz1, h1.cell, List.getElem?_eq_getElem (by rw [hL2] at hj; omega)]; rfl) (fun j hj => h1.frozen _)
      rw [hz1] at e1
      have hset := h1.setCells (fpsC L2) (off + L.length * 238) (by rw [hL2]; omega)
      refine ⟨some ⟨b, off, none⟩, c, _, ?_, .inr ⟨b, off, _, rfl, hset, ?_, ?_, ?_, h5⟩, fun g hg => .inl hg, Keeps.ofGrown (grown_setCells b _ _ w w (World.grownBy.refl _ _)) fun h => h rfl⟩
      · rw [List.length_append]
        exact hexec _ _ e1
      · rw [List.length_append, fpsC_app, ← h2]
        have e5 : cs.take (off + L.length * 238) = cs.take off ++ (cs.drop off).take (L.length * 238) := by rw [List.take_add]
        have e6 : (cs.take off).length = off := by rw [List.length_take]; omega
        have e7 : ((cs.drop off).take (L.length * 238)).length = L.length * 238 := by rw [List.length_take, List.length_drop]; omega
        have e8 : (L.length + L2.length) * 238 = ((cs.drop off).take (L.length * 238)).length + (fpsC L2).length := by rw [e7, hL2, Nat.add_mul]
        have e9 := mid_take (cs.take off) ((cs.drop off).take (L.length * 238)) (fpsC L2) (cs.drop (off + L.length * 238 + (fpsC L2).length))
        rw [e6] at e9
        rw [e5, e8, e9]
      · rw [List.length_append, List.length_append, List.length_take, List.length_drop, hL2]
        omega
      · rw [List.length_append]; exact hroom
    · obtain ⟨v', w', e1, e2, e3⟩ := run_append_arg_grows (P := Try.prog) w 33 o.type 59 i0 _ 238 408 Try.underlying33 hi hz0 hz1 hz2 hzl (by omega) ⟨b, off, none⟩ L.length c (fpsC L) (fpsC_len L) (fun j u hu => by
        have hj : j < L.length * 238 := by have := (List.getElem?_eq_some_iff.1 hu).1; rwa [fpsC_len] at this
        rw [Addr.add_lit]
        refine h1.cell' ?_
        rw [← h2, List.getElem?_take, if_pos hj, List.getElem?_drop] at hu
        exact hu) ⟨g, 0, none⟩ L2.length c2 (fpsC L2) (fpsC_len L2) hnew (by omega) (by unfold maxLen; omega) (by omega)
      have e2' : w'.ownsRow w.heap.size 59 238 v' (L ++ L2).length (fpsC (L ++ L2)) := by rw [List.length_append, fpsC_app]; exact e2
      obtain ⟨A', c', rfl, hr, hlo⟩ := srow_own e2'
      exact ⟨A', c', w', hexec _ _ e1, hr, fun g hg => .inr (hlo g hg), Keeps.grown e3 fun k hk => by cases hk⟩
/-- the first frame is taken away -/
theorem SRow.tail {w : World} {g off c : Nat} {x : Fp} {L : List Fp} (h : SRow w (some ⟨g, off, none⟩) c (x :: L)) : SRow w (some ⟨g, off + 238, none⟩) (c - 1) L ∧ w.rangeAt g off (sentC x.x x.A x.c) := by
  rcases h with ⟨h, _⟩ | ⟨g', off', cs, e, h1, h2, h3, h4, h5⟩
  · cases h
  · injection e with e
    injection e with e1 e2 _
    subst e1 e2
    have hs : fpsC (x :: L) = sentC x.x x.A x.c ++ fpsC L := by unfold fpsC; rw [List.flatMap_cons]; rfl
    have hsl := sentC_len x.x x.A x.c
    rw [List.length_cons] at h2 h4
    rw [hs, Nat.add_mul, Nat.one_mul, Nat.add_comm, List.take_add] at h2
    have ⟨q1, q2⟩ := List.append_inj h2 (by rw [List.length_take, List.length_drop, hsl]; omega)
    refine ⟨.inr ⟨g, off + 238, cs, rfl, h1, ?_, ?_, by omega, by omega⟩, fun j v hv => ?_⟩
    · rw [List.drop_drop] at q2
      exact q2
    · rw [Nat.sub_mul]
      omega
    · refine h1.cell' ?_
      rw [← q1] at hv
      have hj : j < 238 := by
        have := (List.getElem?_eq_some_iff.1 hv).1
        rw [List.length_take] at this
        omega
      rw [List.getElem?_take, if_pos hj, List.getElem?_drop] at hv
      exact hv
theorem SRow.nul {w : World} {g off c : Nat} {L : List Fp} (h : SRow w (some ⟨g, off, none⟩) c L) : SRow w (some ⟨g, off, none⟩) 0 [] := by
  rcases h with ⟨h, _⟩ | ⟨g', off', cs, e, h1, h2, h3, h4, h5⟩
  · cases h
  · injection e with e
    injection e with e1 e2 _
    subst e1 e2
    exact .inr ⟨g, off, cs, rfl, h1, by rw [List.length_nil, Nat.zero_mul, List.take_zero]; rfl, by omega, Nat.le_refl _, Nat.zero_le _⟩
theorem SRow.some {w : World} {A : Option Addr} {c : Nat} {x : Fp} {L : List Fp} (h : SRow w A c (x :: L)) : ∃ g off, A = some ⟨g, off, none⟩ := by
  rcases h with ⟨_, h, _⟩ | ⟨g, off, _, e, _⟩
  · cases h
  · exact ⟨g, off, e⟩
end Go.Proofs.Ytghefmppjdneoaa
