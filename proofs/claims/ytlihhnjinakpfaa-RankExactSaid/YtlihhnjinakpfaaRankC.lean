/- Layer 10: Get, Merge. -/
import Derived.Test.YtlihhnjinakpfaaRankB
import Derived.Test.YtlihhnjinakpfaaRegD
import Derived.Deep.RegionHeld3
import Derived.BigQuiet
namespace Go.Proofs.Ytlihhnjinakpfaa
open Go.RowKit Go.Maps

theorem results_cell_row2 {P : Program} {fn : Func} {p u : Tmp} {ty : TypeId} (h : fn.results = #[.cell p ty, .tmp u]) (tmps : Array Value) (w : World) (g : Nat) (t : TypeId) (cs : Array Value) (fr : Nat × Nat) (d : TypeDesc)
    (hp : tmps.getD p undef = .pointer (some ⟨g, 0, none⟩)) (hg : w.heap[g]? = some (.cells cs t fr))
    (hu : P.underlying ty = some d) (hd : (match d with | .struct _ | .array _ _ => true | _ => false) = true) (hi : (P.info? ty).map (·.size) = some cs.size) :
    (results fn tmps).run P w = .ok (.tuple #[.agg cs, tmps.getD u undef]) w := by
  have hp' : tmps[p]?.getD undef = .pointer (some ⟨g, 0, none⟩) := by simpa using hp
  simp [results, h, hp', asAddr, run_loadVar_row w g t ty cs fr d hg hu hd hi]
theorem info_mem3 : (Try.prog.info? 28).map (·.size) = some 3 := by kernel_rfl
def cellsM (m : Mem) : List Value := [.int .i64 m.n, .int .i64 m.i, .int .i64 m.s]

set_option maxRecDepth 100000 in
set_option maxHeartbeats 1000000 in
theorem get_any {H : Type} {w : World} {p b N : Nat} {f : Known} (h : ViewAt H w p b N f) (k : Int) (h1 : -9223372036854775808 ≤ k) (h2 : k ≤ 9223372036854775807) :
    Calls Try.prog 22 #[.pointer (some ⟨p, 0, none⟩), .int .i64 k] w fun e w' => e = .returned (found f k) ∧ Below w.heap.size w w' := by
  obtain ⟨R, m, hf, hR⟩ : ∃ (R : Bool) (m : Mem), found f k = .tuple #[memV m, .bool R] ∧ True := by
    unfold found
    cases f k with
    | none => exact ⟨false, Mem.zero, rfl, trivial⟩
    | some m => exact ⟨true, m, rfl, trivial⟩
  have hA : At (w.alloc (.cells #[.int .i64 0, .int .i64 0, .int .i64 0] 28)) w.heap.size 28 (cellsM Mem.zero) := At.newA _ _ rfl
  have hB : Below w.heap.size w (w.alloc (.cells #[.int .i64 0, .int .i64 0, .int .i64 0] 28)) := (Below.refl _ _).alloc (Nat.le_refl _) _
  have hv := view_below h hB
  have hl := view_lookup hv h1 h2
  rw [hf] at hl ⊢
  have c0 := hv.1.cell' (i := 0) (v := .map (some b)) rfl
  have hpl := h.1.lt
  have HA := Lib.hid hA
  have HB := Lib.hid hB
  clear hA hB hv h hf hR
  unfold memV at hl
  go_enter Try.func22, Try.ntmps22
  go_wp2_with fail
  clear HA HB
  refine bodyPost_ret (results_cell_row2 rfl _ _ w.heap.size _ _ (0, 0) _ rfl ((memAt w m).alloc _) Try.underlying28 rfl info_mem3) rfl ⟨rfl, ?_⟩
  exact ((Below.refl _ _).alloc (Nat.le_refl _) _).alloc (by simp) _

/-- the slice value holds these members -/
def MemsIn (w : World) (A : Option Addr) (l : List Mem) : Prop :=
  0 < l.length → ∃ g off, A = some ⟨g, off, none⟩ ∧ g < w.heap.size ∧ ∀ i (h : i < l.length), w.rangeAt g (off + i * 3) (cellsM l[i])
theorem MemsIn.below {w w' : World} {A : Option Addr} {l : List Mem} (h : MemsIn w A l) (hb : Below w.heap.size w w') : MemsIn w' A l := fun h0 => by
  obtain ⟨g, off, rfl, hlt, hc⟩ := h h0
  exact ⟨g, off, rfl, Nat.lt_of_lt_of_le hlt hb.size, fun i hi => range_below' (hc i hi) hb hlt⟩
theorem MemsIn.cells {w w' : World} {A : Option Addr} {l : List Mem} (h : MemsIn w A l) {N : Nat} (hg : ∀ g off, A = some ⟨g, off, none⟩ → g < w.heap.size → w'.heap[g]? = w.heap[g]?) {k : Nat} (hk : k < l.length) (_hN : N = N) :
    ∃ g off, A = some ⟨g, off, none⟩ ∧ w'.cell? ⟨g, off + k * 3, none⟩ = some (.int .i64 l[k].n) ∧ w'.cell? ⟨g, off + k * 3 + 1, none⟩ = some (.int .i64 l[k].i) ∧ w'.cell? ⟨g, off + k * 3 + 2, none⟩ = some (.int .i64 l[k].s) := by
  obtain ⟨g, off, rfl, hlt, hc⟩ := h (by omega)
  have hb := hg g off rfl hlt
  refine ⟨g, off, rfl, ?_, ?_, ?_⟩
  · rw [World.cell?_of_block (w := w) hb]
    exact hc k hk 0 _ rfl
  · rw [World.cell?_of_block (w := w) hb]
    exact hc k hk 1 _ rfl
  · rw [World.cell?_of_block (w := w) hb]
    exact hc k hk 2 _ rfl
theorem grown_own {w w1 w2 : World} {b : Nat} {row : Option Nat} (h : w.grownBy w1 (some b)) (k : w1.grownBy w2 row) (hr : ∀ q, row = some q → w.heap.size ≤ q) : w.grownBy w2 (some b) :=
  ⟨k.os.trans h.os, k.tape.trans h.tape, k.output.trans h.output, Nat.le_trans h.size k.size, fun i hi hne => (k.block i (Nat.lt_of_lt_of_le hi h.size) (by
    intro e
    have := hr i e.symm
    omega)).trans (h.block i hi hne)⟩
theorem view_grown {H : Type} {w w' : World} {p b N : Nat} {f : Known} {row : Option Nat} (h : ViewAt H w p b N f) (hg : w.grownBy w' row) (hp : some p ≠ row) (hb : some b ≠ row) : ViewAt H w' p b N f :=
  ⟨h.1.grown hg hp, h.2.1.kept hg hb, h.2.2⟩
theorem view_mono {H : Type} {w : World} {p b N N' : Nat} {f : Known} (h : ViewAt H w p b N f) (hN : N ≤ N') : ViewAt H w p b N' f := ⟨h.1, h.2.1.mono hN, h.2.2⟩
theorem takes_eq {F : Known} {m was : Mem} {R : Bool} (h : found F m.n = .tuple #[memV was, .bool R]) : takes F m = (m.good && (!R || m.above was)) := by
  unfold found at h
  unfold takes
  cases hf : F m.n with
  | none =>
    simp only [hf, Value.tuple.injEq] at h
    have h2 : R = false := by
      have := congrArg (fun a => a[1]?) h
      simpa using this.symm
    simp [h2]
  | some x =>
    simp only [hf, Value.tuple.injEq] at h
    have h2 : R = true := by
      have := congrArg (fun a => a[1]?) h
      simpa using this.symm
    have h3 : memV x = memV was := by
      have := congrArg (fun a => a[0]?) h
      simpa using this
    have h4 : x = was := by
      cases x; cases was
      simpa [memV] using h3
    simp [h2, h4]
theorem merge_snoc (f : Known) (l : List Mem) (k : Nat) (hk : k < l.length) : merge f (l.take (k + 1)) = (hear (merge f (l.take k)).1 l[k], (merge f (l.take k)).2 ++ (if takes (merge f (l.take k)).1 l[k] then [l[k]] else [])) := by
  rw [take_snoc l k hk, merge_append]
  simp [merge]
theorem sane_upd {F : Known} (h : Sane F) {m : Mem} (hm : m.good = true) : Sane (upd F m) := by
  intro k x hx
  unfold upd at hx
  split at hx
  · rename_i hk
    cases hx
    exact ⟨hm, hk.symm⟩
  · exact h k x hx
theorem merge_len (l : List Mem) : ∀ f, (merge f l).2.length ≤ l.length := by
  induction l with
  | nil => intro f; exact Nat.le_refl _
  | cons m l ih =>
    intro f
    have := ih (hear f m)
    simp only [merge, List.length_append, List.length_cons]
    split
    · simp only [List.length_cons, List.length_nil]; omega
    · simp only [List.length_nil]; omega
theorem three_new (w : World) (m : Mem) : ∀ j u, (cellsM m)[j]? = some u → (w.alloc (.cells #[.int .i64 m.n, .int .i64 m.i, .int .i64 m.s] 28)).cell? ((⟨w.heap.size, 0, none⟩ : Addr).add j) = some u := by
  intro j u hu
  have e : (⟨w.heap.size, 0, none⟩ : Addr).add j = ⟨w.heap.size, j, none⟩ := by unfold Addr.add; split <;> simp_all
  rw [e]
  exact (memAt w m).cell' hu
theorem cellsM_oneCell (m : Mem) : ∀ u ∈ cellsM m, u.oneCell' = true := by
  intro u hu
  simp only [cellsM, List.mem_cons, List.not_mem_nil, or_false] at hu
  rcases hu with rfl | rfl | rfl <;> rfl
theorem above_at (x y : Mem) (g : Bool) (hg : x.above y = g) (w : World) : Calls Try.prog 20 #[.agg #[.int .i64 x.n, .int .i64 x.i, .int .i64 x.s], .agg #[.int .i64 y.n, .int .i64 y.i, .int .i64 y.s]] w fun e w' => e = .returned (.bool g) ∧ Below w.heap.size w w' := by
  subst hg
  exact above_any x y w
/-- members as cells, one behind the other -/
def memsV (l : List Mem) : List Value := l.flatMap cellsM
theorem info_mem : (Try.prog.info? 28).map (fun i => (i.zero, i.size, i.bytes)) = some (some (memV Mem.zero), 3, 24) := by kernel_rfl

set_option maxRecDepth 100000 in
set_option maxHeartbeats 4000000 in
theorem merge_any {H : Type} {w : World} {p b N : Nat} {f : Known} (h : ViewAt H w p b N f) (A : Option Addr) (c : Nat) (l : List Mem) (hl : MemsIn w A l) (hA : ∀ g off, 0 < l.length → A = some ⟨g, off, none⟩ → g ≠ b) (hN : N + l.length < 1099511627776) (hi64 : ∀ m ∈ l, -9223372036854775808 ≤ m.n ∧ m.n ≤ 9223372036854775807) :
    Calls Try.prog 11 #[.pointer (some ⟨p, 0, none⟩), .slice A l.length c] w fun e w' => ∃ v : Value, e = .returned v ∧ ViewAt H w' p b (N + l.length) (merge f l).1 ∧ w.grownBy w' (some b) ∧ Own w' w.heap.size 28 3 v (merge f l).2.length (memsV (merge f l).2) := by
  have HV := Lib.hid h
  have HL := Lib.hid hl
  have HA := Lib.hid hA
  have H64 := Lib.hid hi64
  have hpl := h.1.lt
  obtain ⟨i0, hi, hz0, hz1, hz2⟩ := info_parts info_mem
  clear h hl hA hi64
  go_enter Try.func11, Try.ntmps11
  go_wp2_with fail
  go_loopw [4, 13] (fun v i wr => ∃ k : Nat, k ≤ l.length ∧ i = .int .i64 k ∧ ViewAt H wr p b (N + k) (merge f (l.take k)).1 ∧ w.grownBy wr (some b) ∧ Own wr w.heap.size 28 3 v (merge f (l.take k)).2.length (memsV (merge f (l.take k)).2)) (fun _ i _ => l.length - (RowKit.intOf i).toNat)
  case atStart => exact ⟨0, by omega, rfl, HV.out, World.grownBy.refl w _, Own.nil _ _ _ _⟩
  case round =>
    obtain ⟨k, hk, rfl, hV, hg, hO⟩ := hrel
    by_cases hlt : k < l.length
    · obtain ⟨g, off, rfl, c0, c1, c2⟩ := HL.out.cells (w' := wr) (N := 0) (fun g off e hlt' => hg.block g hlt' (by intro e2; injection e2 with e2; exact HA.out g off (by omega) e e2)) hlt rfl
      obtain ⟨m, hm⟩ : ∃ m, m = l[k] := ⟨_, rfl⟩
      rw [← hm] at c0 c1 c2
      have hmn := H64.out m (by rw [hm]; exact List.getElem_mem hlt)
      have HM := Lib.hid hm
      have HTb := Lib.hid (show b < wr.heap.size from hV.2.1.lt)
      have HV2 := Lib.hid hV
      have HG := Lib.hid hg
      have HO := Lib.hid hO
      clear hm hV hg hO
      have i1 : (0 : Int) ≤ (k : Int) := by omega
      have i2 : (k : Int) < (l.length : Int) := by omega
      obtain ⟨F, hF⟩ : ∃ F, F = (merge f (l.take k)).1 := ⟨_, rfl⟩
      rw [← hF] at HV2
      have HF := Lib.hid hF
      clear hF
      obtain ⟨R, was, hf⟩ : ∃ (R : Bool) (was : Mem), found F m.n = .tuple #[memV was, .bool R] := by
        unfold found
        cases F m.n with
        | none => exact ⟨false, Mem.zero, rfl⟩
        | some m => exact ⟨true, m, rfl⟩
      obtain ⟨w5, hw5⟩ : ∃ w5, w5 = wr.alloc (.cells #[.int .i64 m.n, .int .i64 m.i, .int .i64 m.s] 28) := ⟨_, rfl⟩
      have hA5 : At w5 wr.heap.size 28 (cellsM m) := by rw [hw5]; exact memAt wr m
      have hV5 : ViewAt H w5 p b (N + k) F := by rw [hw5]; exact view_below HV2.out ((Below.refl _ _).alloc (Nat.le_refl _) _)
      have hs5 : w5.heap.size = wr.heap.size + 1 := by rw [hw5]; simp
      have HK := Lib.hid (show ∀ w', Below w5.heap.size w5 w' → w'.cell? ⟨p, 0, none⟩ = some (.map (some b)) ∧ w'.cell? ⟨wr.heap.size, 0, none⟩ = some (.int .i64 m.n) ∧ (Instr.lookup 50 (.map (some b)) (.int .i64 m.n) true).run Try.prog w' = .ok (.tuple #[memV was, .bool R]) w' ∧ Below w5.heap.size w5 w' from fun w' hb => by
        have hv := view_below hV5 hb
        refine ⟨hv.1.cell' rfl, (hA5.below hb hA5.lt).cell' rfl, ?_, hb⟩
        rw [← hf]
        exact view_lookup hv hmn.1 hmn.2)
      have HW5 := Lib.hid hw5
      have HA5 := Lib.hid hA5
      have HV5 := Lib.hid hV5
      have HS5 := Lib.hid hs5
      have HFd := Lib.hid hf
      clear hw5 hA5 hV5 hs5 hf
      go_wp2_with fail
      rw [← HW5.out]
      unfold memV at HK
      go_region_held3 (fun w' => w'.cell? ⟨p, 0, none⟩ = some (.map (some b)) ∧ w'.cell? ⟨wr.heap.size, 0, none⟩ = some (.int .i64 m.n) ∧ (Instr.lookup 50 (.map (some b)) (.int .i64 m.n) true).run Try.prog w' = .ok (.tuple #[.agg #[.int .i64 was.n, .int .i64 was.i, .int .i64 was.s], .bool R]) w' ∧ Below w5.heap.size w5 w')
        (first
          | exact HK.out _ (Below.refl _ _).drew
          | exact HK.out _ (((Below.refl _ _).alloc (Nat.le_refl _) _).drew)
          | exact HK.out _ (((Below.refl _ _).drew.alloc (Nat.le_refl _) _)))
        (fail)
      all_goals
        have HB6 := Lib.hid (((Below.refl w5.heap.size w5).alloc (Nat.le_refl _) (.cells #[.int .i64 was.n, .int .i64 was.i, .int .i64 was.s] 28)).drew)
        have HA7 := Lib.hid ((memAt w5 was).drew)
        generalize (w5.alloc (.cells #[.int .i64 was.n, .int .i64 was.i, .int .i64 was.s] 28)).drew = w6 at HB6 HA7 ⊢
        have HA6 := Lib.hid (HA5.out.below HB6.out HA5.out.lt)
        have HV6 := Lib.hid (view_below HV5.out HB6.out)
        have hB56 : Below wr.heap.size wr w5 := by rw [HW5.out]; exact (Below.refl _ _).alloc (Nat.le_refl _) _
        have hBr6 := hB56.trans (HB6.out.mono hB56.size)
        have HG6 := Lib.hid (grown_below HG.out hBr6)
        have HO6 := Lib.hid (HO.out.below hBr6)
        have d0 := HA6.out.cell' (i := 0) (v := .int .i64 m.n) rfl
        have d1 := HA6.out.cell' (i := 1) (v := .int .i64 m.i) rfl
        have d2 := HA6.out.cell' (i := 2) (v := .int .i64 m.s) rfl
        have e0 := HA7.out.cell' (i := 0) (v := .int .i64 was.n) rfl
        have e1 := HA7.out.cell' (i := 1) (v := .int .i64 was.i) rfl
        have e2 := HA7.out.cell' (i := 2) (v := .int .i64 was.s) rfl
        clear HK HA5 HV5 HW5 HG HO HV2 hB56 hBr6 c0 c1 c2
        obtain ⟨gd, hgd⟩ : ∃ gd, m.good = gd := ⟨_, rfl⟩
        have HGD := Lib.hid hgd
        clear hgd
        go_wp2_with fail
        refine (good_at m gd HGD.out w6).mono ?_
        rintro e w7 ⟨rfl, hb7⟩
        have HB7 := Lib.hid hb7
        clear hb7
        cases gd
        · go_wp2_with fail
          go_roundw
          case rel =>
            refine ⟨k + 1, by omega, by go_num, ?_, ?_, ?_⟩
            · rw [merge_snoc f l k hlt, ← HF.out, ← HM.out]
              have ht : takes F m = false := by rw [takes_eq HFd.out, HGD.out]; rfl
              simp only [hear, ht, Bool.false_eq_true, if_false]
              exact view_mono (Lib.hid (view_below HV6.out HB7.out)).out (by omega)
            · exact grown_below HG6.out HB7.out
            · rw [merge_snoc f l k hlt, ← HF.out, ← HM.out]
              have ht : takes F m = false := by rw [takes_eq HFd.out, HGD.out]; rfl
              simp only [ht, Bool.false_eq_true, if_false, List.append_nil]
              exact HO6.out.below HB7.out
          case measure => simp [RowKit.intOf]; omega
        · have HVX := Lib.hid (view_below HV6.out HB7.out)
          have HAX := Lib.hid (HA6.out.below HB7.out HA6.out.lt)
          have HA7' := Lib.hid (HA7.out.below HB7.out HA7.out.lt)
          have HGX := Lib.hid (grown_below HG6.out HB7.out)
          have HOX := Lib.hid (HO6.out.below HB7.out)
          have d0 := HAX.out.cell' (i := 0) (v := .int .i64 m.n) rfl
          have d1 := HAX.out.cell' (i := 1) (v := .int .i64 m.i) rfl
          have d2 := HAX.out.cell' (i := 2) (v := .int .i64 m.s) rfl
          have e0 := HA7'.out.cell' (i := 0) (v := .int .i64 was.n) rfl
          have e1 := HA7'.out.cell' (i := 1) (v := .int .i64 was.i) rfl
          have e2 := HA7'.out.cell' (i := 2) (v := .int .i64 was.s) rfl
          clear HA6 HV6 HG6 HO6 HB7 HB6
          cases R
          · have HAB := Lib.hid (show (!false || m.above was) = true from rfl)
            obtain ⟨wX, hwX⟩ : ∃ wX, wX = w7 := ⟨_, rfl⟩
            subst hwX
            have g0 := HAX.out.cell' (i := 0) (v := .int .i64 m.n) rfl
            have g1 := HAX.out.cell' (i := 1) (v := .int .i64 m.i) rfl
            have g2 := HAX.out.cell' (i := 2) (v := .int .i64 m.s) rfl
            have gp := HVX.out.1.cell' (i := 0) (v := .map (some b)) rfl
            go_wp2_with fail
            refine wp_region_then (fun w' => ∃ n, w' = wX.drewN n) 7 (by kernel_rfl) (by kernel_rfl) (by kernel_rfl) (by kernel_rfl) (by decide) ⟨1, rfl⟩ ?_
            simp only [List.take_succ_cons, List.take_zero, List.drop_succ_cons, List.drop_zero]
            repeat (go_big_quiet_step (fail))
            refine wpQuiet_nil ?_
            intro _ hw'
            obtain ⟨nq, rfl⟩ := hw'
            have hown : (wX.drewN nq).ownsMap Try.prog 3 readM b (N + k) (mapD H F) := HVX.out.2.1
            refine wpList_mapUpdate_own _ rfl (.tmp 42) (.tmp 44) (.tmp 45) 50 rfl 3 28 keyed_int Try.underlying50 readM b (N + k) (mapD H F) rfl hown (by unfold maxLen; omega) (.int .i64 m.n) (memV m) (.int .i64 m.n) rfl rfl (key_int hmn.1 hmn.2) (memD m) [] (readM_mem m) ?_
            intro w8 hown8 hg8
            have hgood : m.good = true := HGD.out
            rw [put_mapD F m (good_node hgood)] at hown8
            have hpb : p ≠ b := HVX.out.2.2.2
            have hbl : b < w.heap.size := HV.out.2.1.lt
            have hg8' : wX.grownBy w8 (some b) := ⟨hg8.os, hg8.tape, hg8.output, hg8.size, hg8.block⟩
            have HV8 := Lib.hid (show ViewAt H w8 p b (N + k + 1) (upd F m) from ⟨HVX.out.1.grown hg8' (by intro e; injection e with e; exact hpb e), hown8, sane_upd HVX.out.2.2.1 hgood, hpb⟩)
            have HA8 := Lib.hid (HAX.out.grown hg8' (by intro e; injection e with e; have := HTb.out; omega))
            have HG8 := Lib.hid (grown_trans HGX.out hg8')
            have HO8 := Lib.hid (HOX.out.grown hg8' (by
              cases hv : u4.ownBlock with
              | none => exact .inl rfl
              | some q => exact .inr (by intro e; injection e with e; have := (HOX.out.lt q hv).1; omega)))
            have hml := merge_len (l.take k) f
            rw [List.length_take] at hml
            have h0 := HA8.out.cell' (i := 0) (v := .int .i64 m.n) rfl
            have h1 := HA8.out.cell' (i := 1) (v := .int .i64 m.i) rfl
            have h2 := HA8.out.cell' (i := 2) (v := .int .i64 m.s) rfl
            have hw8 : w.heap.size ≤ w8.heap.size := HG8.out.size
            clear hown hown8 hg8 hg8' g0 g1 g2 gp
            go_wp2_with (at_builtin; (refine wpList_append_Own _ rfl (.tmp 46) (.tmp 48) 33 rfl w.heap.size 28 i0 _ 3 24 Try.underlying33 hi hz0 hz1 hz2 rfl (by omega) _ _ _ rfl (HO8.out.alloc _) ⟨_, 0, none⟩ 1 1 (cellsM m) rfl rfl (three_new _ _) (cellsM_oneCell _) ?_ ?_ ?_ ?_); (focus (unfold maxLen; omega)); (focus omega); (focus (simp; omega)); intro v9 w9 hO9 hg9 hat9)
            go_roundw
            case rel =>
              have ht : takes F m = true := by rw [takes_eq HFd.out, HGD.out, HAB.out]; rfl
              have hrow : ∀ q, u4.ownBlock = some q → w.heap.size ≤ q := fun q hq => (HO8.out.lt q hq).1
              refine ⟨k + 1, by omega, by go_num, ?_, ?_, ?_⟩
              · rw [merge_snoc f l k hlt, ← HF.out, ← HM.out]
                simp only [hear, ht, if_true]
                refine view_grown (view_below HV8.out ((Below.refl _ _).alloc (Nat.le_refl _) _)) hg9 ?_ ?_
                · intro e; have := hrow p e.symm; omega
                · intro e; have := hrow b e.symm; omega
              · exact grown_own (grown_alloc HG8.out _) hg9 hrow
              · rw [merge_snoc f l k hlt, ← HF.out, ← HM.out]
                simp only [ht, if_true, List.length_append, List.length_cons, List.length_nil]
                have e : memsV ((merge f (l.take k)).2 ++ [m]) = memsV (merge f (l.take k)).2 ++ cellsM m := by simp [memsV]
                rw [e]
                exact hO9
            case measure => simp [RowKit.intOf]; omega

          · obtain ⟨ab, hab⟩ : ∃ ab, m.above was = ab := ⟨_, rfl⟩
            have HAB := Lib.hid (show (!true || m.above was) = ab by rw [hab]; rfl)
            go_wp2_with fail
            refine (above_at m was ab hab _).mono ?_
            rintro e wX ⟨rfl, hb8⟩
            have HVX := Lib.hid (view_below HVX.out hb8)
            have HAX := Lib.hid (HAX.out.below hb8 HAX.out.lt)
            have HGX := Lib.hid (grown_below HGX.out hb8)
            have HOX := Lib.hid (HOX.out.below hb8)
            clear hb8 hab d0 d1 d2 e0 e1 e2
            cases ab
            · go_wp2_with fail
              go_roundw
              case rel =>
                refine ⟨k + 1, by omega, by go_num, ?_, ?_, ?_⟩
                · rw [merge_snoc f l k hlt, ← HF.out, ← HM.out]
                  have ht : takes F m = false := by rw [takes_eq HFd.out, HGD.out, HAB.out]; rfl
                  simp only [hear, ht, Bool.false_eq_true, if_false]
                  exact view_mono HVX.out (by omega)
                · exact HGX.out
                · rw [merge_snoc f l k hlt, ← HF.out, ← HM.out]
                  have ht : takes F m = false := by rw [takes_eq HFd.out, HGD.out, HAB.out]; rfl
                  simp only [ht, Bool.false_eq_true, if_false, List.append_nil]
                  exact HOX.out
              case measure => simp [RowKit.intOf]; omega
            · have g0 := HAX.out.cell' (i := 0) (v := .int .i64 m.n) rfl
              have g1 := HAX.out.cell' (i := 1) (v := .int .i64 m.i) rfl
              have g2 := HAX.out.cell' (i := 2) (v := .int .i64 m.s) rfl
              have gp := HVX.out.1.cell' (i := 0) (v := .map (some b)) rfl
              go_wp2_with fail
              refine wp_region_then (fun w' => ∃ n, w' = wX.drewN n) 7 (by kernel_rfl) (by kernel_rfl) (by kernel_rfl) (by kernel_rfl) (by decide) ⟨1, rfl⟩ ?_
              simp only [List.take_succ_cons, List.take_zero, List.drop_succ_cons, List.drop_zero]
              repeat (go_big_quiet_step (fail))
              refine wpQuiet_nil ?_
              intro _ hw'
              obtain ⟨nq, rfl⟩ := hw'
              have hown : (wX.drewN nq).ownsMap Try.prog 3 readM b (N + k) (mapD H F) := HVX.out.2.1
              refine wpList_mapUpdate_own _ rfl (.tmp 42) (.tmp 44) (.tmp 45) 50 rfl 3 28 keyed_int Try.underlying50 readM b (N + k) (mapD H F) rfl hown (by unfold maxLen; omega) (.int .i64 m.n) (memV m) (.int .i64 m.n) rfl rfl (key_int hmn.1 hmn.2) (memD m) [] (readM_mem m) ?_
              intro w8 hown8 hg8
              have hgood : m.good = true := HGD.out
              rw [put_mapD F m (good_node hgood)] at hown8
              have hpb : p ≠ b := HVX.out.2.2.2
              have hbl : b < w.heap.size := HV.out.2.1.lt
              have hg8' : wX.grownBy w8 (some b) := ⟨hg8.os, hg8.tape, hg8.output, hg8.size, hg8.block⟩
              have HV8 := Lib.hid (show ViewAt H w8 p b (N + k + 1) (upd F m) from ⟨HVX.out.1.grown hg8' (by intro e; injection e with e; exact hpb e), hown8, sane_upd HVX.out.2.2.1 hgood, hpb⟩)
              have HA8 := Lib.hid (HAX.out.grown hg8' (by intro e; injection e with e; have := HTb.out; omega))
              have HG8 := Lib.hid (grown_trans HGX.out hg8')
              have HO8 := Lib.hid (HOX.out.grown hg8' (by
                cases hv : u4.ownBlock with
                | none => exact .inl rfl
                | some q => exact .inr (by intro e; injection e with e; have := (HOX.out.lt q hv).1; omega)))
              have hml := merge_len (l.take k) f
              rw [List.length_take] at hml
              have h0 := HA8.out.cell' (i := 0) (v := .int .i64 m.n) rfl
              have h1 := HA8.out.cell' (i := 1) (v := .int .i64 m.i) rfl
              have h2 := HA8.out.cell' (i := 2) (v := .int .i64 m.s) rfl
              have hw8 : w.heap.size ≤ w8.heap.size := HG8.out.size
              clear hown hown8 hg8 hg8' g0 g1 g2 gp
              go_wp2_with (at_builtin; (refine wpList_append_Own _ rfl (.tmp 46) (.tmp 48) 33 rfl w.heap.size 28 i0 _ 3 24 Try.underlying33 hi hz0 hz1 hz2 rfl (by omega) _ _ _ rfl (HO8.out.alloc _) ⟨_, 0, none⟩ 1 1 (cellsM m) rfl rfl (three_new _ _) (cellsM_oneCell _) ?_ ?_ ?_ ?_); (focus (unfold maxLen; omega)); (focus omega); (focus (simp; omega)); intro v9 w9 hO9 hg9 hat9)
              go_roundw
              case rel =>
                have ht : takes F m = true := by rw [takes_eq HFd.out, HGD.out, HAB.out]; rfl
                have hrow : ∀ q, u4.ownBlock = some q → w.heap.size ≤ q := fun q hq => (HO8.out.lt q hq).1
                refine ⟨k + 1, by omega, by go_num, ?_, ?_, ?_⟩
                · rw [merge_snoc f l k hlt, ← HF.out, ← HM.out]
                  simp only [hear, ht, if_true]
                  refine view_grown (view_below HV8.out ((Below.refl _ _).alloc (Nat.le_refl _) _)) hg9 ?_ ?_
                  · intro e; have := hrow p e.symm; omega
                  · intro e; have := hrow b e.symm; omega
                · exact grown_own (grown_alloc HG8.out _) hg9 hrow
                · rw [merge_snoc f l k hlt, ← HF.out, ← HM.out]
                  simp only [ht, if_true, List.length_append, List.length_cons, List.length_nil]
                  have e : memsV ((merge f (l.take k)).2 ++ [m]) = memsV (merge f (l.take k)).2 ++ cellsM m := by simp [memsV]
                  rw [e]
                  exact hO9
              case measure => simp [RowKit.intOf]; omega
    · have hkl : k = l.length := by omega
      have HV2 := Lib.hid hV
      have HG := Lib.hid hg
      have HO := Lib.hid hO
      have HKL := Lib.hid hkl
      clear hV hg hO hkl
      go_wp2_with fail
      go_ret
      refine ⟨u4, rfl, ?_, HG.out, ?_⟩
      · have h := HV2.out
        rw [HKL.out, List.take_length] at h
        exact h
      · have h := HO.out
        rw [HKL.out, List.take_length] at h
        exact h
end Go.Proofs.Ytlihhnjinakpfaa
