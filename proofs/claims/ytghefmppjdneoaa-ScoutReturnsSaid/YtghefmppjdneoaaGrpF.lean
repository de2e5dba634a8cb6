/- Layer 12, the texts ViC to ScM joined: what the functions that a scout reaches do with memory, each told once. -/
import Derived.Test.YtghefmppjdneoaaGrpE
import Derived.Deep.RegionHeld3
import Derived.BigQuiet
import Derived.Shelf.SlIterI.Nil
import Derived.Shelf.SortM.Plain
import Derived.Shelf.SortM.SortNone
import Derived.Ground.GgzProg
import Derived.Ground.SlgmProg
import Derived.BigRegion
import Derived.Sort.WalkA
namespace Go.Proofs.Ytghefmppjdneoaa
open Go.RowKit Go.Maps

theorem MemsIn.cellsV {w w' : World} {A : Option Addr} {l : List Mem} (h : MemsIn w A l) {N : Nat} (hg : ∀ g off, A = some ⟨g, off, none⟩ → g < w.heap.size → w'.heap[g]? = w.heap[g]?) {k : Nat} (hk : k < l.length) (_hN : N = N) :
    ∃ g off, A = some ⟨g, off, none⟩ ∧ w'.cell? ⟨g, off + k * 3, none⟩ = some (.int .i64 l[k].n) ∧ w'.cell? ⟨g, off + k * 3 + 1, none⟩ = some (.int .i64 l[k].i) ∧ w'.cell? ⟨g, off + k * 3 + 2, none⟩ = some (.int .i64 l[k].s) := by
  obtain ⟨g, off, rfl, hlt, hc⟩ := h (by omega)
  have hb := hg g off rfl hlt
  refine ⟨g, off, rfl, ?_, ?_, ?_⟩
  · rw [World.cell?_of_block (w := w) hb]
    exact hc k hk 0 _ rfl
  · rw [World.cell?_of_block (w := w) hb]
    exact hc k hk 1 _ rfl
  · rw [World.cell?_of_block (w := w) hb]
    exact hc k hk 2 _ rfl
theorem results_cell_row2 {P : Program} {fn : Func} {p u : Tmp} {ty : TypeId} (h : fn.results = #[.cell p ty, .tmp u]) (tmps : Array Value) (w : World) (g : Nat) (t : TypeId) (cs : Array Value) (fr : Nat × Nat) (d : TypeDesc)
    (hp : tmps.getD p undef = .pointer (some ⟨g, 0, none⟩)) (hg : w.heap[g]? = some (.cells cs t fr))
    (hu : P.underlying ty = some d) (hd : (match d with | .struct _ | .array _ _ => true | _ => false) = true) (hi : (P.info? ty).map (·.size) = some cs.size) :
    (results fn tmps).run P w = .ok (.tuple #[.agg cs, tmps.getD u undef]) w := by
  have hp' : tmps[p]?.getD undef = .pointer (some ⟨g, 0, none⟩) := by simpa using hp
  simp [results, h, hp', asAddr, run_loadVar_row w g t ty cs fr d hg hu hd hi]
set_option maxRecDepth 100000 in
set_option maxHeartbeats 1000000 in
theorem get_any {H : Type} {w : World} {p b N : Nat} {f : Known} (h : ViewAt H w p b N f) (k : Int) (h1 : -9223372036854775808 ≤ k) (h2 : k ≤ 9223372036854775807) :
    Calls Try.prog 32 #[.pointer (some ⟨p, 0, none⟩), .int .i64 k] w fun e w' => e = .returned (found f k) ∧ Below w.heap.size w w' := by
  obtain ⟨R, m, hf, hR⟩ : ∃ (R : Bool) (m : Mem), found f k = .tuple #[memV m, .bool R] ∧ True := by
    unfold found
    cases f k with
    | none => exact ⟨false, Mem.zero, rfl, trivial⟩
    | some m => exact ⟨true, m, rfl, trivial⟩
  have hA : At (w.alloc (.cells #[.int .i64 0, .int .i64 0, .int .i64 0] 38)) w.heap.size 38 (cellsM Mem.zero) := At.newA _ _ rfl
  have hB : Below w.heap.size w (w.alloc (.cells #[.int .i64 0, .int .i64 0, .int .i64 0] 38)) := (Below.refl _ _).alloc (Nat.le_refl _) _
  have hv := view_below h hB
  have hl := view_lookup hv h1 h2
  rw [hf] at hl ⊢
  have c0 := hv.1.cell' (i := 0) (v := .map (some b)) rfl
  have hpl := h.1.lt
  have HA := Lib.hid hA
  have HB := Lib.hid hB
  clear hA hB hv h hf hR
  unfold memV at hl
  go_enter Try.func32, Try.ntmps32
  go_wp2_with fail
  clear HA HB
  refine bodyPost_ret (results_cell_row2 rfl _ _ w.heap.size _ _ (0, 0) _ rfl ((memAt w m).alloc _) Try.underlying38 rfl info_mem3) rfl ⟨rfl, ?_⟩
  exact ((Below.refl _ _).alloc (Nat.le_refl _) _).alloc (by simp) _
theorem grown_own {w w1 w2 : World} {b : Nat} {row : Option Nat} (h : w.grownBy w1 (some b)) (k : w1.grownBy w2 row) (hr : ∀ q, row = some q → w.heap.size ≤ q) : w.grownBy w2 (some b) :=
  ⟨k.os.trans h.os, k.tape.trans h.tape, k.output.trans h.output, Nat.le_trans h.size k.size, fun i hi hne => (k.block i (Nat.lt_of_lt_of_le hi h.size) (by
    intro e
    have := hr i e.symm
    omega)).trans (h.block i hi hne)⟩
theorem view_grown {H : Type} {w w' : World} {p b N : Nat} {f : Known} {row : Option Nat} (h : ViewAt H w p b N f) (hg : w.grownBy w' row) (hp : some p ≠ row) (hb : some b ≠ row) : ViewAt H w' p b N f :=
  ⟨h.1.grown hg hp, h.2.1.kept hg hb, h.2.2⟩
theorem view_mono {H : Type} {w : World} {p b N N' : Nat} {f : Known} (h : ViewAt H w p b N f) (hN : N ≤ N') : ViewAt H w p b N' f := ⟨h.1, h.2.1.mono hN, h.2.2⟩
theorem takes_eq {F : Known} {m was : Mem} {R : Bool} (h : found F m.n = .tuple #[memV was, .bool R]) : takes F m = (m.good && (!R || m.above was)) := by
  unfold found at h
  unfold takes
  cases hf : F m.n with
  | none =>
    simp only [hf, Value.tuple.injEq] at h
    have h2 : R = false := by
      have := congrArg (fun a => a[1]?) h
      simpa using this.symm
    simp [h2]
  | some x =>
    simp only [hf, Value.tuple.injEq] at h
    have h2 : R = true := by
      have := congrArg (fun a => a[1]?) h
      simpa using this.symm
    have h3 : memV x = memV was := by
      have := congrArg (fun a => a[0]?) h
      simpa using this
    have h4 : x = was := by
      cases x; cases was
      simpa [memV] using h3
    simp [h2, h4]
theorem merge_snoc (f : Known) (l : List Mem) (k : Nat) (hk : k < l.length) : merge f (l.take (k + 1)) = (hear (merge f (l.take k)).1 l[k], (merge f (l.take k)).2 ++ (if takes (merge f (l.take k)).1 l[k] then [l[k]] else [])) := by
  rw [take_snoc l k hk, merge_append]
  simp [merge]
theorem sane_upd {F : Known} (h : Sane F) {m : Mem} (hm : m.good = true) : Sane (upd F m) := by
  intro k x hx
  unfold upd at hx
  split at hx
  · rename_i hk
    cases hx
    exact ⟨hm, hk.symm⟩
  · exact h k x hx
theorem merge_len (l : List Mem) : ∀ f, (merge f l).2.length ≤ l.length := by
  induction l with
  | nil => intro f; exact Nat.le_refl _
  | cons m l ih =>
    intro f
    have := ih (hear f m)
    simp only [merge, List.length_append, List.length_cons]
    split
    · simp only [List.length_cons, List.length_nil]; omega
    · simp only [List.length_nil]; omega
theorem above_at (x y : Mem) (g : Bool) (hg : x.above y = g) (w : World) : Calls Try.prog 15 #[.agg #[.int .i64 x.n, .int .i64 x.i, .int .i64 x.s], .agg #[.int .i64 y.n, .int .i64 y.i, .int .i64 y.s]] w fun e w' => e = .returned (.bool g) ∧ Below w.heap.size w w' := by
  subst hg
  exact above_any x y w
set_option maxRecDepth 100000 in
set_option maxHeartbeats 4000000 in
theorem merge_any {H : Type} {w : World} {p b N : Nat} {f : Known} (h : ViewAt H w p b N f) (A : Option Addr) (c : Nat) (l : List Mem) (hl : MemsIn w A l) (hA : ∀ g off, 0 < l.length → A = some ⟨g, off, none⟩ → g ≠ b) (hN : N + l.length < 1099511627776) (hi64 : ∀ m ∈ l, -9223372036854775808 ≤ m.n ∧ m.n ≤ 9223372036854775807) :
    Calls Try.prog 22 #[.pointer (some ⟨p, 0, none⟩), .slice A l.length c] w fun e w' => ∃ v : Value, e = .returned v ∧ ViewAt H w' p b (N + l.length) (merge f l).1 ∧ w.grownBy w' (some b) ∧ Own w' w.heap.size 38 3 v (merge f l).2.length (memsV (merge f l).2) := by
  have HV := Lib.hid h
  have HL := Lib.hid hl
  have HA := Lib.hid hA
  have H64 := Lib.hid hi64
  have hpl := h.1.lt
  obtain ⟨i0, hi, hz0, hz1, hz2⟩ := info_parts info_mem
  clear h hl hA hi64
  go_enter Try.func22, Try.ntmps22
  go_wp2_with fail
  go_loopw [4, 13] (fun v i wr => ∃ k : Nat, k ≤ l.length ∧ i = .int .i64 k ∧ ViewAt H wr p b (N + k) (merge f (l.take k)).1 ∧ w.grownBy wr (some b) ∧ Own wr w.heap.size 38 3 v (merge f (l.take k)).2.length (memsV (merge f (l.take k)).2)) (fun _ i _ => l.length - (RowKit.intOf i).toNat)
  case atStart => exact ⟨0, by omega, rfl, HV.out, World.grownBy.refl w _, Own.nil _ _ _ _⟩
  case round =>
    obtain ⟨k, hk, rfl, hV, hg, hO⟩ := hrel
    by_cases hlt : k < l.length
    · obtain ⟨g, off, rfl, c0, c1, c2⟩ := HL.out.cellsV (w' := wr) (N := 0) (fun g off e hlt' => hg.block g hlt' (by intro e2; injection e2 with e2; exact HA.out g off (by omega) e e2)) hlt rfl
      obtain ⟨m, hm⟩ : ∃ m, m = l[k] := ⟨_, rfl⟩
      rw [← hm] at c0 c1 c2
      have hmn := H64.out m (by rw [hm]; exact List.getElem_mem hlt)
      have HM := Lib.hid hm
      have HTb := Lib.hid (show b < wr.heap.size from hV.2.1.lt)
      have HV2 := Lib.hid hV
      have HG := Lib.hid hg
      have HO := Lib.hid hO
      clear hm hV hg hO
      have i1 : (0 : Int) ≤ (k : Int) := by omega
      have i2 : (k : Int) < (l.length : Int) := by omega
      obtain ⟨F, hF⟩ : ∃ F, F = (merge f (l.take k)).1 := ⟨_, rfl⟩
      rw [← hF] at HV2
      have HF := Lib.hid hF
      clear hF
      obtain ⟨R, was, hf⟩ : ∃ (R : Bool) (was : Mem), found F m.n = .tuple #[memV was, .bool R] := by
        unfold found
        cases F m.n with
        | none => exact ⟨false, Mem.zero, rfl⟩
        | some m => exact ⟨true, m, rfl⟩
      obtain ⟨w5, hw5⟩ : ∃ w5, w5 = wr.alloc (.cells #[.int .i64 m.n, .int .i64 m.i, .int .i64 m.s] 38) := ⟨_, rfl⟩
      have hA5 : At w5 wr.heap.size 38 (cellsM m) := by rw [hw5]; exact memAt wr m
      have hV5 : ViewAt H w5 p b (N + k) F := by rw [hw5]; exact view_below HV2.out ((Below.refl _ _).alloc (Nat.le_refl _) _)
      have hs5 : w5.heap.size = wr.heap.size + 1 := by rw [hw5]; simp
      have HK := Lib.hid (show ∀ w', Below w5.heap.size w5 w' → w'.cell? ⟨p, 0, none⟩ = some (.map (some b)) ∧ w'.cell? ⟨wr.heap.size, 0, none⟩ = some (.int .i64 m.n) ∧ (Instr.lookup 100 (.map (some b)) (.int .i64 m.n) true).run Try.prog w' = .ok (.tuple #[memV was, .bool R]) w' ∧ Below w5.heap.size w5 w' from fun w' hb => by
        have hv := view_below hV5 hb
        refine ⟨hv.1.cell' rfl, (hA5.below hb hA5.lt).cell' rfl, ?_, hb⟩
        rw [← hf]
        exact view_lookup hv hmn.1 hmn.2)
      have HW5 := Lib.hid hw5
      have HA5 := Lib.hid hA5
      have HV5 := Lib.hid hV5
      have HS5 := Lib.hid hs5
      have HFd := Lib.hid hf
      clear hw5 hA5 hV5 hs5 hf
      go_wp2_with fail
      rw [← HW5.out]
      unfold memV at HK
      go_region_held3 (fun w' => w'.cell? ⟨p, 0, none⟩ = some (.map (some b)) ∧ w'.cell? ⟨wr.heap.size, 0, none⟩ = some (.int .i64 m.n) ∧ (Instr.lookup 100 (.map (some b)) (.int .i64 m.n) true).run Try.prog w' = .ok (.tuple #[.agg #[.int .i64 was.n, .int .i64 was.i, .int .i64 was.s], .bool R]) w' ∧ Below w5.heap.size w5 w')
        (first
          | exact HK.out _ (Below.refl _ _).drew
          | exact HK.out _ (((Below.refl _ _).alloc (Nat.le_refl _) _).drew)
          | exact HK.out _ (((Below.refl _ _).drew.alloc (Nat.le_refl _) _)))
        (fail)
      all_goals
        have HB6 := Lib.hid (((Below.refl w5.heap.size w5).alloc (Nat.le_refl _) (.cells #[.int .i64 was.n, .int .i64 was.i, .int .i64 was.s] 38)).drew)
        have HA7 := Lib.hid ((memAt w5 was).drew)
        generalize (w5.alloc (.cells #[.int .i64 was.n, .int .i64 was.i, .int .i64 was.s] 38)).drew = w6 at HB6 HA7 ⊢
        have HA6 := Lib.hid (HA5.out.below HB6.out HA5.out.lt)
        have HV6 := Lib.hid (view_below HV5.out HB6.out)
        have hB56 : Below wr.heap.size wr w5 := by rw [HW5.out]; exact (Below.refl _ _).alloc (Nat.le_refl _) _
        have hBr6 := hB56.trans (HB6.out.mono hB56.size)
        have HG6 := Lib.hid (grown_below HG.out hBr6)
        have HO6 := Lib.hid (HO.out.below hBr6)
        have d0 := HA6.out.cell' (i := 0) (v := .int .i64 m.n) rfl
        have d1 := HA6.out.cell' (i := 1) (v := .int .i64 m.i) rfl
        have d2 := HA6.out.cell' (i := 2) (v := .int .i64 m.s) rfl
        have e0 := HA7.out.cell' (i := 0) (v := .int .i64 was.n) rfl
        have e1 := HA7.out.cell' (i := 1) (v := .int .i64 was.i) rfl
        have e2 := HA7.out.cell' (i := 2) (v := .int .i64 was.s) rfl
        clear HK HA5 HV5 HW5 HG HO HV2 hB56 hBr6 c0 c1 c2
        obtain ⟨gd, hgd⟩ : ∃ gd, m.good = gd := ⟨_, rfl⟩
        have HGD := Lib.hid hgd
        clear hgd
        go_wp2_with fail
        refine (good_at m gd HGD.out w6).mono ?_
        rintro e w7 ⟨rfl, hb7⟩
        have HB7 := Lib.hid hb7
        clear hb7
        cases gd
        · go_wp2_with fail
          go_roundw
          case rel =>
            refine ⟨k + 1, by omega, by go_num, ?_, ?_, ?_⟩
            · rw [merge_snoc f l k hlt, ← HF.out, ← HM.out]
              have ht : takes F m = false := by rw [takes_eq HFd.out, HGD.out]; rfl
              simp only [hear, ht, Bool.false_eq_true, if_false]
              exact view_mono (Lib.hid (view_below HV6.out HB7.out)).out (by omega)
            · exact grown_below HG6.out HB7.out
            · rw [merge_snoc f l k hlt, ← HF.out, ← HM.out]
              have ht : takes F m = false := by rw [takes_eq HFd.out, HGD.out]; rfl
              simp only [ht, Bool.false_eq_true, if_false, List.append_nil]
              exact HO6.out.below HB7.out
          case measure => simp [RowKit.intOf]; omega
        · have HVX := Lib.hid (view_below HV6.out HB7.out)
          have HAX := Lib.hid (HA6.out.below HB7.out HA6.out.lt)
          have HA7' := Lib.hid (HA7.out.below HB7.out HA7.out.lt)
          have HGX := Lib.hid (grown_below HG6.out HB7.out)
          have HOX := Lib.hid (HO6.out.below HB7.out)
          have d0 := HAX.out.cell' (i := 0) (v := .int .i64 m.n) rfl
          have d1 := HAX.out.cell' (i := 1) (v := .int .i64 m.i) rfl
          have d2 := HAX.out.cell' (i := 2) (v := .int .i64 m.s) rfl
          have e0 := HA7'.out.cell' (i := 0) (v := .int .i64 was.n) rfl
          have e1 := HA7'.out.cell' (i := 1) (v := .int .i64 was.i) rfl
          have e2 := HA7'.out.cell' (i := 2) (v := .int .i64 was.s) rfl
          clear HA6 HV6 HG6 HO6 HB7 HB6
          cases R
          · have HAB := Lib.hid (show (!false || m.above was) = true from rfl)
            obtain ⟨wX, hwX⟩ : ∃ wX, wX = w7 := ⟨_, rfl⟩
            subst hwX
            have g0 := HAX.out.cell' (i := 0) (v := .int .i64 m.n) rfl
            have g1 := HAX.out.cell' (i := 1) (v := .int .i64 m.i) rfl
            have g2 := HAX.out.cell' (i := 2) (v := .int .i64 m.s) rfl
            have gp := HVX.out.1.cell' (i := 0) (v := .map (some b)) rfl
            go_wp2_with fail
            refine wp_region_then (fun w' => ∃ n, w' = wX.drewN n) 7 (by kernel_rfl) (by kernel_rfl) (by kernel_rfl) (by kernel_rfl) (by decide) ⟨1, rfl⟩ ?_
            simp only [List.take_succ_cons, List.take_zero, List.drop_succ_cons, List.drop_zero]
            repeat (go_big_quiet_step (fail))
            refine wpQuiet_nil ?_
            intro _ hw'
            obtain ⟨nq, rfl⟩ := hw'
            have hown : (wX.drewN nq).ownsMap Try.prog 3 readM b (N + k) (mapD H F) := HVX.out.2.1
            refine wpList_mapUpdate_own _ rfl (.tmp 42) (.tmp 44) (.tmp 45) 100 rfl 3 38 keyed_int Try.underlying100 readM b (N + k) (mapD H F) rfl hown (by unfold maxLen; omega) (.int .i64 m.n) (memV m) (.int .i64 m.n) rfl rfl (key_int hmn.1 hmn.2) (memD m) [] (readM_mem m) ?_
            intro w8 hown8 hg8
            have hgood : m.good = true := HGD.out
            rw [put_mapD F m (good_node hgood)] at hown8
            have hpb : p ≠ b := HVX.out.2.2.2
            have hbl : b < w.heap.size := HV.out.2.1.lt
            have hg8' : wX.grownBy w8 (some b) := ⟨hg8.os, hg8.tape, hg8.output, hg8.size, hg8.block⟩
            have HV8 := Lib.hid (show ViewAt H w8 p b (N + k + 1) (upd F m) from ⟨HVX.out.1.grown hg8' (by intro e; injection e with e; exact hpb e), hown8, sane_upd HVX.out.2.2.1 hgood, hpb⟩)
            have HA8 := Lib.hid (HAX.out.grown hg8' (by intro e; injection e with e; have := HTb.out; omega))
            have HG8 := Lib.hid (grown_trans HGX.out hg8')
            have HO8 := Lib.hid (HOX.out.grown hg8' (by
              cases hv : u4.ownBlock with
              | none => exact .inl rfl
              | some q => exact .inr (by intro e; injection e with e; have := (HOX.out.lt q hv).1; omega)))
            have hml := merge_len (l.take k) f
            rw [List.length_take] at hml
            have h0 := HA8.out.cell' (i := 0) (v := .int .i64 m.n) rfl
            have h1 := HA8.out.cell' (i := 1) (v := .int .i64 m.i) rfl
            have h2 := HA8.out.cell' (i := 2) (v := .int .i64 m.s) rfl
            have hw8 : w.heap.size ≤ w8.heap.size := HG8.out.size
            clear hown hown8 hg8 hg8' g0 g1 g2 gp
            go_wp2_with (at_builtin; (refine wpList_append_Own _ rfl (.tmp 46) (.tmp 48) 30 rfl w.heap.size 38 i0 _ 3 24 Try.underlying30 hi hz0 hz1 hz2 rfl (by omega) _ _ _ rfl (HO8.out.alloc _) ⟨_, 0, none⟩ 1 1 (cellsM m) rfl rfl (three_new _ _) (cellsM_oneCell _) ?_ ?_ ?_ ?_); (focus (unfold maxLen; omega)); (focus omega); (focus (simp; omega)); intro v9 w9 hO9 hg9 hat9)
            go_roundw
            case rel =>
              have ht : takes F m = true := by rw [takes_eq HFd.out, HGD.out, HAB.out]; rfl
              have hrow : ∀ q, u4.ownBlock = some q → w.heap.size ≤ q := fun q hq => (HO8.out.lt q hq).1
              refine ⟨k + 1, by omega, by go_num, ?_, ?_, ?_⟩
              · rw [merge_snoc f l k hlt, ← HF.out, ← HM.out]
                simp only [hear, ht, if_true]
                refine view_grown (view_below HV8.out ((Below.refl _ _).alloc (Nat.le_refl _) _)) hg9 ?_ ?_
                · intro e; have := hrow p e.symm; omega
                · intro e; have := hrow b e.symm; omega
              · exact grown_own (grown_alloc HG8.out _) hg9 hrow
              · rw [merge_snoc f l k hlt, ← HF.out, ← HM.out]
                simp only [ht, if_true, List.length_append, List.length_cons, List.length_nil]
                have e : memsV ((merge f (l.take k)).2 ++ [m]) = memsV (merge f (l.take k)).2 ++ cellsM m := by simp [memsV]
                rw [e]
                exact hO9
            case measure => simp [RowKit.intOf]; omega

          · obtain ⟨ab, hab⟩ : ∃ ab, m.above was = ab := ⟨_, rfl⟩
            have HAB := Lib.hid (show (!true || m.above was) = ab by rw [hab]; rfl)
            go_wp2_with fail
            refine (above_at m was ab hab _).mono ?_
            rintro e wX ⟨rfl, hb8⟩
            have HVX := Lib.hid (view_below HVX.out hb8)
            have HAX := Lib.hid (HAX.out.below hb8 HAX.out.lt)
            have HGX := Lib.hid (grown_below HGX.out hb8)
            have HOX := Lib.hid (HOX.out.below hb8)
            clear hb8 hab d0 d1 d2 e0 e1 e2
            cases ab
            · go_wp2_with fail
              go_roundw
              case rel =>
                refine ⟨k + 1, by omega, by go_num, ?_, ?_, ?_⟩
                · rw [merge_snoc f l k hlt, ← HF.out, ← HM.out]
                  have ht : takes F m = false := by rw [takes_eq HFd.out, HGD.out, HAB.out]; rfl
                  simp only [hear, ht, Bool.false_eq_true, if_false]
                  exact view_mono HVX.out (by omega)
                · exact HGX.out
                · rw [merge_snoc f l k hlt, ← HF.out, ← HM.out]
                  have ht : takes F m = false := by rw [takes_eq HFd.out, HGD.out, HAB.out]; rfl
                  simp only [ht, Bool.false_eq_true, if_false, List.append_nil]
                  exact HOX.out
              case measure => simp [RowKit.intOf]; omega
            · have g0 := HAX.out.cell' (i := 0) (v := .int .i64 m.n) rfl
              have g1 := HAX.out.cell' (i := 1) (v := .int .i64 m.i) rfl
              have g2 := HAX.out.cell' (i := 2) (v := .int .i64 m.s) rfl
              have gp := HVX.out.1.cell' (i := 0) (v := .map (some b)) rfl
              go_wp2_with fail
              refine wp_region_then (fun w' => ∃ n, w' = wX.drewN n) 7 (by kernel_rfl) (by kernel_rfl) (by kernel_rfl) (by kernel_rfl) (by decide) ⟨1, rfl⟩ ?_
              simp only [List.take_succ_cons, List.take_zero, List.drop_succ_cons, List.drop_zero]
              repeat (go_big_quiet_step (fail))
              refine wpQuiet_nil ?_
              intro _ hw'
              obtain ⟨nq, rfl⟩ := hw'
              have hown : (wX.drewN nq).ownsMap Try.prog 3 readM b (N + k) (mapD H F) := HVX.out.2.1
              refine wpList_mapUpdate_own _ rfl (.tmp 42) (.tmp 44) (.tmp 45) 100 rfl 3 38 keyed_int Try.underlying100 readM b (N + k) (mapD H F) rfl hown (by unfold maxLen; omega) (.int .i64 m.n) (memV m) (.int .i64 m.n) rfl rfl (key_int hmn.1 hmn.2) (memD m) [] (readM_mem m) ?_
              intro w8 hown8 hg8
              have hgood : m.good = true := HGD.out
              rw [put_mapD F m (good_node hgood)] at hown8
              have hpb : p ≠ b := HVX.out.2.2.2
              have hbl : b < w.heap.size := HV.out.2.1.lt
              have hg8' : wX.grownBy w8 (some b) := ⟨hg8.os, hg8.tape, hg8.output, hg8.size, hg8.block⟩
              have HV8 := Lib.hid (show ViewAt H w8 p b (N + k + 1) (upd F m) from ⟨HVX.out.1.grown hg8' (by intro e; injection e with e; exact hpb e), hown8, sane_upd HVX.out.2.2.1 hgood, hpb⟩)
              have HA8 := Lib.hid (HAX.out.grown hg8' (by intro e; injection e with e; have := HTb.out; omega))
              have HG8 := Lib.hid (grown_trans HGX.out hg8')
              have HO8 := Lib.hid (HOX.out.grown hg8' (by
                cases hv : u4.ownBlock with
                | none => exact .inl rfl
                | some q => exact .inr (by intro e; injection e with e; have := (HOX.out.lt q hv).1; omega)))
              have hml := merge_len (l.take k) f
              rw [List.length_take] at hml
              have h0 := HA8.out.cell' (i := 0) (v := .int .i64 m.n) rfl
              have h1 := HA8.out.cell' (i := 1) (v := .int .i64 m.i) rfl
              have h2 := HA8.out.cell' (i := 2) (v := .int .i64 m.s) rfl
              have hw8 : w.heap.size ≤ w8.heap.size := HG8.out.size
              clear hown hown8 hg8 hg8' g0 g1 g2 gp
              go_wp2_with (at_builtin; (refine wpList_append_Own _ rfl (.tmp 46) (.tmp 48) 30 rfl w.heap.size 38 i0 _ 3 24 Try.underlying30 hi hz0 hz1 hz2 rfl (by omega) _ _ _ rfl (HO8.out.alloc _) ⟨_, 0, none⟩ 1 1 (cellsM m) rfl rfl (three_new _ _) (cellsM_oneCell _) ?_ ?_ ?_ ?_); (focus (unfold maxLen; omega)); (focus omega); (focus (simp; omega)); intro v9 w9 hO9 hg9 hat9)
              go_roundw
              case rel =>
                have ht : takes F m = true := by rw [takes_eq HFd.out, HGD.out, HAB.out]; rfl
                have hrow : ∀ q, u4.ownBlock = some q → w.heap.size ≤ q := fun q hq => (HO8.out.lt q hq).1
                refine ⟨k + 1, by omega, by go_num, ?_, ?_, ?_⟩
                · rw [merge_snoc f l k hlt, ← HF.out, ← HM.out]
                  simp only [hear, ht, if_true]
                  refine view_grown (view_below HV8.out ((Below.refl _ _).alloc (Nat.le_refl _) _)) hg9 ?_ ?_
                  · intro e; have := hrow p e.symm; omega
                  · intro e; have := hrow b e.symm; omega
                · exact grown_own (grown_alloc HG8.out _) hg9 hrow
                · rw [merge_snoc f l k hlt, ← HF.out, ← HM.out]
                  simp only [ht, if_true, List.length_append, List.length_cons, List.length_nil]
                  have e : memsV ((merge f (l.take k)).2 ++ [m]) = memsV (merge f (l.take k)).2 ++ cellsM m := by simp [memsV]
                  rw [e]
                  exact hO9
              case measure => simp [RowKit.intOf]; omega
    · have hkl : k = l.length := by omega
      have HV2 := Lib.hid hV
      have HG := Lib.hid hg
      have HO := Lib.hid hO
      have HKL := Lib.hid hkl
      clear hV hg hO hkl
      go_wp2_with fail
      go_ret
      refine ⟨u4, rfl, ?_, HG.out, ?_⟩
      · have h := HV2.out
        rw [HKL.out, List.take_length] at h
        exact h
      · have h := HO.out
        rw [HKL.out, List.take_length] at h
        exact h
end Go.Proofs.Ytghefmppjdneoaa

namespace Go.Proofs
open Go.RowKit Go.Maps Go.Sort Go.Shelf

shelf_lay_g SlLaysZI.n7 Ggz 7 at Try 44 as Try.keysV
shelf_lay_g SlLaysZI.n6 Ggz 6 at Try 43 as Try.sortedV
shelf_lay_g SlLaysM.n5 Slgm 5 at Try 62 as Try.sortV
end Go.Proofs
namespace Go.Proofs.Ytghefmppjdneoaa
open Go.RowKit Go.Maps Go.Sort Go.Shelf

theorem sortsV (m : Nat) : AnyZI.SortsIn Try.prog Try.sortedV_ren Fence.wide m :=
  ⟨fun blk off cap ss W hH hblk hsz => callsIn_wide.2 (AnyM.slices_Sort_int Try.sortV blk off cap ss W hH hblk hsz),
   fun p cap W => callsIn_wide.2 (AnyM.slices_Sort_int_none Try.sortV p cap W)⟩
theorem keys_callV (mb : Option Nat) (W : World) : Calls Try.prog 44 #[.map mb] W fun e w' =>
    e = .returned (.func (.func 63) #[] #[.pointer (some ⟨W.heap.size, 0, none⟩)]) ∧ w' = W.alloc (.cells #[.map mb] 100) :=
  (callsIn_wide (n := 5)).1 (AnyZI.keys_in Try.keysV Fence.wide 5 trivial rfl mb W)
theorem sorted_callV {H : Type} (b nn : Nat) (D0 : DataW H) (R : Value → Option (DataW H × List MemPlace)) (w : World) (hown : w.ownsMap Try.prog 3 R b nn D0) (hmax : Maps.size D0 ≤ maxLen) (hbytes : Maps.size D0 * 8 ≤ 140737488355328) :
    Calls Try.prog 43 #[.func (.func 63) #[] #[.pointer (some ⟨w.heap.size, 0, none⟩)]] (w.alloc (.cells #[.map (some b)] 100)) fun e w' =>
      ∃ (v : Value) (ss : List Int), e = .returned v ∧ ss.Perm (intKeys D0) ∧
      w'.ownsRow (w.alloc (.cells #[.map (some b)] 100)).heap.size 3 1 v ss.length ((ss.mergeSort (fun x y => decide (x ≤ y))).map encZ) ∧ (v = .slice none 0 0 ↔ ss = []) ∧ Below (w.alloc (.cells #[.map (some b)] 100)).heap.size (w.alloc (.cells #[.map (some b)] 100)) w' := by
  refine (callsIn_wide (n := 5)).1 ?_
  have hbl := hown.lt
  have hseq : SeqGives Fence.wide 2 Try.prog 63 #[.pointer (some ⟨w.heap.size, 0, none⟩)] encZ (fun ss => ss.Perm (intKeys D0)) (Maps.size D0) (w.alloc (.cells #[.map (some b)] 100)) :=
    AnyZI.keys_gives (ρ := Try.keysV_ren) { Try.keysV with } Fence.wide _ trivial rfl (by omega) w.heap.size b nn D0 _ (by simp) (by simp) (by
      obtain ⟨es, clock, hb, Ft, hs, hD⟩ := hown
      exact ⟨es, clock, (Below.heap_alloc _ _ b hbl).trans hb, Ft, hs, hD⟩)
  have cS := AnyZI.sorted_in Try.sortedV Fence.wide 5 trivial trivial trivial trivial rfl (by omega) (sortsV _) (enters_of Try.func62 (by kernel_rfl) rfl) 63 #[.pointer (some ⟨w.heap.size, 0, none⟩)] trivial (enters_of Try.func63 (by kernel_rfl) rfl) _ _ hmax hbytes _ hseq
  exact cS.mono fun e w' ⟨v, ss, h1, h2, h3, h4, h5⟩ => ⟨v, ss, h1, h2, h3, h4, h5⟩
end Go.Proofs.Ytghefmppjdneoaa

namespace Go.Proofs.Ytghefmppjdneoaa
open Go.RowKit Go.Maps Go.Sort
def keysOfV (f : Known) : List Int := nodes.filter fun k => (f k).isSome
theorem keysOfV_sorted (f : Known) : (keysOfV f).Pairwise (· ≤ ·) := by
  have h : nodes.Pairwise (· ≤ ·) := by decide
  exact h.filter _
theorem sort_keysV {H : Type} {f : Known} {ss : List Int} (h : ss.Perm (intKeys (mapD H f))) : ss.mergeSort (fun x y => decide (x ≤ y)) = keysOfV f := by
  rw [intKeys_mapD] at h
  refine eq_of_perm_le ((List.mergeSort_perm ss _).trans h) ?_ (keysOfV_sorted f)
  have := List.pairwise_mergeSort (le := fun x y : Int => decide (x ≤ y)) (fun a b c h1 h2 => by simp at *; omega) (fun a b => by simp; omega) ss
  exact this.imp (fun h => by simpa using h)
theorem keysOfV_len (f : Known) : (keysOfV f).length ≤ 6 := by
  have := List.length_filter_le (fun k => (f k).isSome) nodes
  exact this
theorem all_keys (f : Known) : all f = (keysOfV f).filterMap f := by
  unfold all keysOfV
  induction nodes with
  | nil => rfl
  | cons x r ih =>
    rw [List.filterMap_cons, List.filter_cons]
    cases hf : f x with
    | none => simp [ih]
    | some m => simp [hf, ih]
theorem view_lookup1 {H : Type} {w : World} {p b N : Nat} {f : Known} (h : ViewAt H w p b N f) {k : Int} (h1 : -9223372036854775808 ≤ k) (h2 : k ≤ 9223372036854775807) {m : Mem} (hm : f k = some m) :
    (Instr.lookup 100 (.map (some b)) (.int .i64 k) false).run Try.prog w = .ok (memV m) w := by
  obtain ⟨_, ⟨es, clock, hb, F, _, hD⟩, hs, _⟩ := h
  have hat : ∀ z : DataW H, (DataW.map ((es.toList.map (WideElems.rg Try.prog 3 readM)).foldr DataW.insert [])).atKey (.int .i64 k) z = memD m := fun z => by
    rw [← hD, atKey_mapD f k z (sane_nodes hs k), hm]
  rcases Maps.fit_look false keyed_int Try.underlying100 (zero_mem w) hb F (key_int h1 h2) with ⟨_, _, hz⟩ | ⟨e0, y, _, _, hrun, hRv, hz, _⟩
  · have h3 := (hz .nil).symm.trans (hat .nil)
    cases h3
  · rw [hrun]
    obtain ⟨m', hv, rfl⟩ := readM_inv hRv
    have h3 := (hz .nil).symm.trans (hat .nil)
    have := memD_inj h3
    subst this
    simp [hv]
theorem size_mapD (H : Type) (f : Known) : Maps.size (mapD H f) ≤ 6 := List.length_filterMap_le _ nodes
theorem keysOfV_get {f : Known} {k : Nat} (hk : k < (keysOfV f).length) : ∃ m, f (keysOfV f)[k] = some m ∧ -9223372036854775808 ≤ (keysOfV f)[k] ∧ (keysOfV f)[k] ≤ 9223372036854775807 := by
  have hm := List.getElem_mem hk
  obtain ⟨h1, h2⟩ := List.mem_filter.1 hm
  obtain ⟨m, h3⟩ := Option.isSome_iff_exists.1 h2
  refine ⟨m, h3, ?_⟩
  simp only [nodes, List.mem_cons, List.not_mem_nil, or_false] at h1
  omega
set_option maxRecDepth 100000 in
set_option maxHeartbeats 4000000 in
theorem all_any {H : Type} {w : World} {p b N : Nat} {f : Known} (h : ViewAt H w p b N f) :
    Calls Try.prog 19 #[.pointer (some ⟨p, 0, none⟩)] w fun e w' => ∃ v : Value, e = .returned v ∧ Own w' w.heap.size 38 3 v (all f).length (memsV (all f)) ∧ Below w.heap.size w w' := by
  have c0 := h.1.cell' (i := 0) (v := .map (some b)) rfl
  have HV := Lib.hid h
  obtain ⟨i0, hi, hz0, hz1, hz2⟩ := info_parts info_mem
  clear h
  go_enter Try.func19, Try.ntmps19
  go_wp2_with fail
  refine (keys_callV _ _).mono ?_
  rintro e w1 ⟨rfl, rfl⟩
  go_wp2_with fail
  refine (sorted_callV b N (mapD H f) readM w HV.out.2.1 ?_ ?_).mono ?_
  · have := size_mapD H f
    unfold maxLen
    omega
  · have := size_mapD H f
    omega
  rintro e w2 ⟨v, ss, rfl, hp, hrow, hnil, hb⟩
  have hB1 : Below w.heap.size w (w.alloc (.cells #[.map (some b)] 100)) := (Below.refl _ _).alloc (Nat.le_refl _) _
  have HB2 := Lib.hid (hB1.trans (hb.mono hB1.size))
  have hlen := hp.length_eq
  rw [sort_keysV hp] at hrow
  obtain ⟨ks, hks⟩ : ∃ ks, ks = keysOfV f := ⟨_, rfl⟩
  have hkl : ss.length = ks.length := by rw [hlen, intKeys_mapD, hks]; rfl
  rw [← hks, hkl] at hrow
  have HO := Lib.hid (own_ofRow hrow)
  have HKS := Lib.hid hks
  have hk6 : ks.length ≤ 6 := by rw [hks]; exact keysOfV_len f
  clear hrow hp hnil hb hlen hkl hks hB1 c0
  have hform : ∃ A c, v = .slice A ks.length c := by
    rcases HO.out.2 with ⟨h1, h2⟩ | ⟨g, cap, cur, fr, h1, _⟩
    · exact ⟨none, 0, by rw [h1, h2]⟩
    · exact ⟨_, cap, h1⟩
  obtain ⟨A, c, rfl⟩ := hform
  go_wp2_with fail
  obtain ⟨B, hBe⟩ : ∃ B, B = w2.heap.size := ⟨_, rfl⟩
  have HBe := Lib.hid hBe
  clear hBe
  go_loopw [2, 14] (fun v2 i wr => ∃ k : Nat, k ≤ ks.length ∧ i = .int .i64 k ∧ Own wr B 38 3 v2 k (memsV ((ks.take k).filterMap f)) ∧ Below w2.heap.size w2 wr) (fun _ i _ => ks.length - (RowKit.intOf i).toNat)
  case atStart => exact ⟨0, by omega, rfl, Own.nil _ _ _ _, Below.refl _ _⟩
  case round =>
    obtain ⟨k, hk, rfl, hO2, hb⟩ := hrel
    have hBw : Below w.heap.size w wr := HB2.out.trans (hb.mono HB2.out.size)
    by_cases hlt : k < ks.length
    · obtain ⟨g, cap, hA, hgb, hgl, _, _⟩ := HO.out.form (by omega)
      obtain ⟨rfl, rfl⟩ : A = some ⟨g, 0, none⟩ ∧ c = cap := by simpa using hA
      obtain ⟨x, hx⟩ : ∃ x, x = ks[k] := ⟨_, rfl⟩
      obtain ⟨m, hm, x1, x2⟩ : ∃ m, f x = some m ∧ -9223372036854775808 ≤ x ∧ x ≤ 9223372036854775807 := by
        have h := HKS.out
        subst h
        rw [hx]
        exact keysOfV_get hlt
      have hVr := view_below HV.out hBw
      have hl1 := view_lookup1 hVr x1 x2 hm
      have c0 := hVr.1.cell' (i := 0) (v := .map (some b)) rfl
      have ck : wr.cell? ⟨g, k, none⟩ = some (.int .i64 x) := by
        rw [hb.cell (p := ⟨g, k, none⟩) hgl, HO.out.cellAt rfl k (by omega), hx]
        simp [encZ, hlt]
      have HX := Lib.hid (And.intro hx hm)
      have HO2 := Lib.hid hO2
      have HBr := Lib.hid hb
      have HBq := Lib.hid (show B ≤ wr.heap.size from by rw [HBe.out]; exact hb.size)
      have i1 : (0 : Int) ≤ (k : Int) := by omega
      have i2 : (k : Int) < (ks.length : Int) := by omega
      unfold memV at hl1
      clear hx hm hO2 hb hVr hA hBw
      go_wp2_with (at_builtin; (refine wpList_append_Own _ rfl (.tmp 18) (.tmp 25) 30 rfl B 38 i0 _ 3 24 Try.underlying30 hi hz0 hz1 hz2 rfl (by omega) _ _ _ rfl (HO2.out.alloc _) ⟨_, 0, none⟩ 1 1 (cellsM m) rfl rfl (three_new _ _) (cellsM_oneCell _) ?_ ?_ ?_ ?_); (focus (unfold maxLen; omega)); (focus omega); (focus (have := HBq.out; simp; omega)); intro v9 w9 hO9 hg9 hat9)
      go_roundw
      case rel =>
        refine ⟨k + 1, by omega, by go_num, ?_, ?_⟩
        · rw [take_snoc ks k hlt, ← HX.out.1, List.filterMap_append]
          have e : memsV ((ks.take k).filterMap f ++ [x].filterMap f) = memsV ((ks.take k).filterMap f) ++ cellsM m := by simp [memsV, HX.out.2]
          rw [e]
          exact hO9
        · exact own_below2 (HO2.out.alloc _) (HBr.out.alloc HBr.out.size _) (by have := HBe.out; omega) (HBr.out.alloc HBr.out.size _).size hg9
      case measure => simp [RowKit.intOf]; omega
    · have hkl : k = ks.length := by omega
      have HO2 := Lib.hid hO2
      have HBw := Lib.hid hBw
      have HKL := Lib.hid hkl
      clear hO2 hBw hkl hb
      go_wp2_with fail
      go_ret
      refine ⟨u2, rfl, ?_, HBw.out⟩
      have h := HO2.out
      rw [HKL.out, List.take_length, HKS.out, ← all_keys] at h
      have hl : (keysOfV f).length = (all f).length := by
        rw [all_keys]
        exact (filterMap_len fun x hx => (List.mem_filter.1 hx).2).symm
      rw [hl] at h
      exact h.rebase (by have := HB2.out.size; have := HBe.out; omega)
end Go.Proofs.Ytghefmppjdneoaa

namespace Go.Proofs.Ytghefmppjdneoaa
open Go.RowKit Go.Maps Go.Sort
/-- the cells of a slice of members that the call owns, as members -/
theorem own_mems {w : World} {base : Nat} {A : Option Addr} {n c : Nat} {l : List Mem} (h : Own w base 38 3 (.slice A n c) l.length (memsV l)) : MemsIn w A l ∧ n = l.length := by
  rcases h.2 with ⟨h1, h2⟩ | ⟨g, cap, cur, fr, h1, hb, hgg, _, hcap, _, hlen, htake⟩
  · injection h1 with e1 e2 e3
    exact ⟨fun h0 => by omega, by omega⟩
  · injection h1 with e1 e2 e3
    subst e1 e2
    refine ⟨fun h0 => ⟨g, 0, rfl, (Array.getElem?_eq_some_iff.1 hgg).1, ?_⟩, rfl⟩
    intro i hi j v hv
    have hj : j < 3 := by
      have := (List.getElem?_eq_some_iff.1 hv).1
      simpa [cellsM] using this
    rw [h.cellAt rfl (0 + i * 3 + j) (by omega), Nat.zero_add]
    exact memsV_at l i hi j v hv
/-- a slice value of members -/
def Mems (w : World) (lo : Nat) (v : Value) (l : List Mem) : Prop :=
  ∃ A c, v = .slice A l.length c ∧ MemsIn w A l ∧ ∀ g off, A = some ⟨g, off, none⟩ → lo ≤ g ∧ g < w.heap.size
theorem Mems.own {w : World} {base : Nat} {v : Value} {l : List Mem} (h : Own w base 38 3 v l.length (memsV l)) : Mems w base v l := by
  have hf : ∃ A c, v = .slice A l.length c := by
    rcases h.2 with ⟨h1, h2⟩ | ⟨g, cap, cur, fr, h1, _⟩
    · exact ⟨none, 0, by rw [h1, h2]⟩
    · exact ⟨_, cap, h1⟩
  obtain ⟨A, c, rfl⟩ := hf
  refine ⟨A, c, rfl, (own_mems h).1, fun g off e => ?_⟩
  subst e
  rcases h.2 with ⟨h1, h2⟩ | ⟨g', cap, cur, fr, h1, hb, hgg, _⟩
  · cases h1
  · injection h1 with e1 e2 e3
    injection e1 with e1
    injection e1 with e4 e5
    subst e4
    exact ⟨hb, (Array.getElem?_eq_some_iff.1 hgg).1⟩
theorem one_new_at (w : World) (x : Value) (t : TypeId) {q : Nat} (hq : q = w.heap.size) : ∀ j u, [x][j]? = some u → (w.alloc (.cells #[x] t)).cell? ((⟨q, 0, none⟩ : Addr).add j) = some u := by subst hq; exact one_new w x t
theorem info_int : (Try.prog.info? 3).map (fun i => (i.zero, i.size, i.bytes)) = some (some (.int .i64 0), 1, 8) := by kernel_rfl
def presentL (l : List Mem) : List Int := (l.filter fun m => decide (m.s ≤ 1)).map Mem.n
theorem presentL_len (l : List Mem) : (presentL l).length ≤ l.length := by
  unfold presentL
  rw [List.length_map]
  exact List.length_filter_le _ _
theorem presentL_snoc (l : List Mem) (k : Nat) (hk : k < l.length) : presentL (l.take (k + 1)) = presentL (l.take k) ++ (if l[k].s ≤ 1 then [l[k].n] else []) := by
  rw [take_snoc l k hk]
  unfold presentL
  rw [List.filter_append, List.map_append]
  by_cases h : l[k].s ≤ 1 <;> simp [h]
set_option maxRecDepth 100000 in
set_option maxHeartbeats 4000000 in
theorem present_any {H : Type} {w : World} {p b N : Nat} {f : Known} (h : ViewAt H w p b N f) :
    Calls Try.prog 42 #[.pointer (some ⟨p, 0, none⟩)] w fun e w' => ∃ v : Value, e = .returned v ∧ w'.ownsRow w.heap.size 3 1 v (present f).length ((present f).map (.int .i64 ·)) ∧ Below w.heap.size w w' := by
  have HV := Lib.hid h
  obtain ⟨i0, hi, hz0, hz1, hz2⟩ := info_parts info_int
  clear h
  go_enter Try.func42, Try.ntmps42
  go_wp2_with fail
  refine (all_any HV.out).mono ?_
  rintro e w1 ⟨v, rfl, hO, hB⟩
  obtain ⟨l, hl⟩ : ∃ l, l = all f := ⟨_, rfl⟩
  rw [← hl] at hO
  obtain ⟨A, c, rfl, hM, hlo⟩ := Mems.own hO
  have HL := Lib.hid hl
  have HM := Lib.hid hM
  have HB := Lib.hid hB
  have HLO := Lib.hid hlo
  have hl6 : l.length ≤ 6 := by rw [hl]; exact List.length_filterMap_le _ nodes
  clear hO hl hM hB hlo
  go_wp2_with fail
  go_loopw [2, 8] (fun v2 i wr => ∃ k : Nat, k ≤ l.length ∧ i = .int .i64 k ∧ wr.ownsRow w1.heap.size 3 1 v2 (presentL (l.take k)).length ((presentL (l.take k)).map (.int .i64 ·)) ∧ Below w1.heap.size w1 wr) (fun _ i _ => l.length - (RowKit.intOf i).toNat)
  case atStart => exact ⟨0, by omega, rfl, World.ownsRow_nil _ _ _ _, Below.refl _ _⟩
  case round =>
    obtain ⟨k, hk, rfl, hO2, hb⟩ := hrel
    by_cases hlt : k < l.length
    · obtain ⟨m, hm⟩ : ∃ m, m = l[k] := ⟨_, rfl⟩
      obtain ⟨g, off, rfl, c0, c1, c2⟩ := HM.out.cellsV (w' := wr) (N := 0) (fun g off e hlt' => hb.block g hlt') hlt rfl
      rw [← hm] at c0 c1 c2
      have HX := Lib.hid hm
      have HO2 := Lib.hid hO2
      have HBr := Lib.hid hb
      have hs1 : w1.heap.size ≤ wr.heap.size := hb.size
      have hpl := presentL_len (l.take k)
      rw [List.length_take] at hpl
      have i1 : (0 : Int) ≤ (k : Int) := by omega
      have i2 : (k : Int) < (l.length : Int) := by omega
      have d0 := (memAt wr m).cell' (i := 0) (v := .int .i64 m.n) rfl
      have d2 := (memAt wr m).cell' (i := 2) (v := .int .i64 m.s) rfl
      clear hm hO2 hb
      by_cases hst : m.s ≤ 1
      · go_wp2_with (at_builtin; go_loud ((refine wpList_append_own_at _ rfl (.tmp 15) (.tmp 18) 23 rfl w1.heap.size 3 i0 _ 1 8 Try.underlying23 hi hz0 hz1 hz2 rfl (by omega) _ _ _ rfl ((HO2.out.alloc _).alloc _) ⟨_, 0, none⟩ 1 1 [.int .i64 m.n] rfl rfl (one_new_at _ _ _ (by simp)) (by simp [Value.oneCell']) ?_ ?_ ?_ ?_); (focus (unfold maxLen; omega)); (focus omega); (focus (simp; omega)); intro v9 w9 hO9 hg9 hn9 hat9))
        go_roundw
        case rel =>
          refine ⟨k + 1, by omega, by go_num, ?_, ?_⟩
          · rw [presentL_snoc l k hlt, ← HX.out, if_pos hst, List.map_append, List.length_append]
            exact hO9
          · exact row_below2 ((HO2.out.alloc _).alloc _) ((HBr.out.alloc HBr.out.size _).alloc (HBr.out.alloc HBr.out.size _).size _) (Nat.le_refl _) ((HBr.out.alloc HBr.out.size _).alloc (HBr.out.alloc HBr.out.size _).size _).size hg9
        case measure => simp [RowKit.intOf]; omega
      · go_wp2_with fail
        go_roundw
        case rel =>
          refine ⟨k + 1, by omega, by go_num, ?_, ?_⟩
          · rw [presentL_snoc l k hlt, ← HX.out, if_neg hst, List.append_nil]
            exact HO2.out.alloc _
          · exact HBr.out.alloc HBr.out.size _
        case measure => simp [RowKit.intOf]; omega
    · have hkl : k = l.length := by omega
      have HO2 := Lib.hid hO2
      have HBr := Lib.hid hb
      have HKL := Lib.hid hkl
      clear hO2 hkl hb
      go_wp2_with fail
      go_ret
      have hBw : Below w.heap.size w wr := HB.out.trans (HBr.out.mono HB.out.size)
      refine ⟨u2, rfl, ?_, hBw⟩
      have h := HO2.out
      rw [HKL.out, List.take_length, HL.out] at h
      exact row_rebase h HB.out.size
end Go.Proofs.Ytghefmppjdneoaa

namespace Go.Proofs.Ytghefmppjdneoaa
open Go.RowKit Go.Maps Go.Sort

set_option maxRecDepth 100000 in
set_option maxHeartbeats 4000000 in
theorem new_any {H : Type} {w : World} (A : Option Addr) (c : Nat) (l : List Mem) (hl : MemsIn w A l) (hN : l.length < 1099511627776) (hi64 : ∀ m ∈ l, -9223372036854775808 ≤ m.n ∧ m.n ≤ 9223372036854775807) :
    Calls Try.prog 20 #[.slice A l.length c] w fun e w' => ∃ p b : Nat, e = .returned (.pointer (some ⟨p, 0, none⟩)) ∧ ViewAt H w' p b l.length (merge (fun _ => none) l).1 ∧ Below w.heap.size w w' ∧ w.heap.size ≤ p ∧ w.heap.size ≤ b := by
  have HL := Lib.hid hl
  have H64 := Lib.hid hi64
  clear hl hi64
  have hmm : (Instr.makeMap 100 none).run Try.prog w = .ok (.map (some w.heap.size)) (w.alloc (.map #[] 0)) := rfl
  have hV : ViewAt H ((w.alloc (.map #[] 0)).alloc (.cells #[.map (some w.heap.size)] 102)) (w.heap.size + 1) w.heap.size 0 (fun _ => none) := by
    refine ⟨?_, ?_, sane_none, by omega⟩
    · have h := At.newA (w.alloc (.map #[] 0)) 102 (C := #[.map (some w.heap.size)]) (cs := [.map (some w.heap.size)]) rfl
      rw [World.size_alloc] at h
      exact h
    · rw [mapD_none]
      exact (World.ownsMap_made w Try.prog 3 readM).kept (row := none) (grown_alloc (World.grownBy.refl _ _) _) (by simp)
  have HV := Lib.hid hV
  have HB := Lib.hid (((Below.refl w.heap.size w).alloc (Nat.le_refl _) (.map #[] 0)).alloc (by simp) (.cells #[.map (some w.heap.size)] 102))
  clear hV
  go_enter Try.func20, Try.ntmps20
  go_wp2_with fail
  refine (merge_any HV.out A c l (HL.out.below HB.out) (fun g off h0 e => by obtain ⟨g', off', e', hg, _⟩ := HL.out h0; rw [e] at e'; injection e' with e'; injection e' with e'; omega) (by omega) H64.out).mono ?_
  rintro e w1 ⟨v, rfl, hV1, hg1, hO1⟩
  have HV1 := Lib.hid hV1
  have HB1 := Lib.hid (Below.ofGrown HB.out hg1 HB.out.size (Nat.le_refl _))
  clear hV1 hg1 hO1
  go_wp2_with fail
  go_ret
  refine ⟨_, _, rfl, ?_, HB1.out, by omega, Nat.le_refl _⟩
  have h := HV1.out
  rw [Nat.zero_add] at h
  exact h
theorem nil_get (k : Int) (w : World) : Calls Try.prog 32 #[.pointer none, .int .i64 k] w fun e w' => e = .returned (found (fun _ => none) k) ∧ Below w.heap.size w w' := by
  go_enter Try.func32, Try.ntmps32
  go_wp2_with fail
  refine bodyPost_ret (results_cell_row2 rfl _ _ w.heap.size _ _ (0, 0) _ rfl (memAt w Mem.zero) Try.underlying38 rfl info_mem3) rfl ⟨rfl, ?_⟩
  exact (Below.refl _ _).alloc (Nat.le_refl _) _
theorem nil_merge (v : Value) (w : World) : Calls Try.prog 22 #[.pointer none, v] w fun e w' => e = .returned (.slice none 0 0) ∧ Below w.heap.size w w' := by
  go_enter Try.func22, Try.ntmps22
  go_wp2_with fail
  go_ret
  exact ⟨rfl, Below.refl _ _⟩
theorem nil_all (w : World) : Calls Try.prog 19 #[.pointer none] w fun e w' => e = .returned (.slice none 0 0) ∧ Below w.heap.size w w' := by
  go_enter Try.func19, Try.ntmps19
  go_wp2_with fail
  go_ret
  exact ⟨rfl, Below.refl _ _⟩
theorem nil_present (w : World) : Calls Try.prog 42 #[.pointer none] w fun e w' => e = .returned (.slice none 0 0) ∧ Below w.heap.size w w' := by
  go_enter Try.func42, Try.ntmps42
  go_wp2_with fail
  refine (nil_all _).mono ?_
  rintro e w1 ⟨rfl, hb⟩
  have HB := Lib.hid hb
  clear hb
  go_wp2_with fail
  go_loopw [2, 8] (fun v2 i wr => v2 = .slice none 0 0 ∧ i = .int .i64 0 ∧ Below w1.heap.size w1 wr) (fun _ i _ => 0)
  case atStart => exact ⟨rfl, rfl, Below.refl _ _⟩
  case round =>
    obtain ⟨rfl, rfl, hb⟩ := hrel
    go_wp2_with fail
    go_ret
    exact ⟨rfl, HB.out.trans (hb.mono HB.out.size)⟩
end Go.Proofs.Ytghefmppjdneoaa

namespace Go.Proofs.Ytghefmppjdneoaa
open Go.Proofs Stab Go.Shelf Go.RowKit Go.Lib Go.Sort Go.Maps

/-- numbers as cells -/
def nums (l : List Int) : List Value := l.map (Value.int .i64)
theorem nums_len (l : List Int) : (nums l).length = l.length := by unfold nums; rw [List.length_map]
/-- a row of numbers that may be written: its slice value begins at place off of its block -/
def IRow (w : World) (A : Option Addr) (c : Nat) (l : List Int) : Prop :=
  (A = none ∧ l = [] ∧ c = 0) ∨ ∃ g off cs, A = some ⟨g, off, none⟩ ∧ At w g 3 cs ∧ (cs.drop off).take l.length = nums l ∧ off + c ≤ cs.length ∧ l.length ≤ c ∧ c ≤ maxLen
theorem IRow.keep {w w' : World} {A : Option Addr} {c : Nat} {l : List Int} (h : IRow w A c l) (hk : ∀ g off, A = some ⟨g, off, none⟩ → w'.heap[g]? = w.heap[g]?) : IRow w' A c l := by
  rcases h with h | ⟨g, off, cs, rfl, h1, h2⟩
  · exact .inl h
  · exact .inr ⟨g, off, cs, rfl, (hk g off rfl).trans h1, h2⟩
theorem IRow.lt {w : World} {A : Option Addr} {c : Nat} {l : List Int} (h : IRow w A c l) {g off : Nat} (hA : A = some ⟨g, off, none⟩) : g < w.heap.size := by
  rcases h with ⟨h, _⟩ | ⟨g', off', cs, h0, h1, _⟩
  · rw [hA] at h; cases h
  · rw [hA] at h0
    injection h0 with h0
    injection h0 with h0 _
    subst h0
    exact h1.lt
theorem IRow.cell {w : World} {g off c : Nat} {l : List Int} (h : IRow w (some ⟨g, off, none⟩) c l) {i : Nat} (hi : i < l.length) : w.cell? ⟨g, off + i, none⟩ = some (.int .i64 l[i]) ∧ w.frozen? ⟨g, off + i, none⟩ = false := by
  rcases h with ⟨h, _⟩ | ⟨g', off', cs, h0, h1, h2, h3, h4, _⟩
  · cases h
  · injection h0 with h0
    injection h0 with e1 e2
    subst e1 e2
    refine ⟨h1.cell' ?_, h1.frozen _⟩
    have h5 := congrArg (fun x => x[i]?) h2
    simp only [List.getElem?_take, if_pos hi, List.getElem?_drop] at h5
    rw [h5]
    simp [nums, hi]
theorem IRow.set {w : World} {g off c : Nat} {l : List Int} (h : IRow w (some ⟨g, off, none⟩) c l) (i : Nat) (n : Int) : IRow (w.setCell ⟨g, off + i, none⟩ (.int .i64 n)) (some ⟨g, off, none⟩) c (l.set i n) := by
  rcases h with ⟨h, _⟩ | ⟨g', off', cs, h0, h1, h2, h3, h4, h5⟩
  · cases h
  · injection h0 with h0
    injection h0 with e1 e2
    subst e1 e2
    refine .inr ⟨g, off, cs.set (off + i) (.int .i64 n), rfl, h1.set _ _, ?_, by rw [List.length_set]; exact h3, by rw [List.length_set]; exact h4, h5⟩
    rw [List.length_set, List.drop_set, if_neg (by omega), show off + i - off = i from by omega, List.take_set, h2]
    unfold nums
    rw [List.map_set]
def swapL (l : List Int) (i j : Nat) : List Int := (l.set i (l.getD j 0)).set j (l.getD i 0)
theorem swapL_len (l : List Int) (i j : Nat) : (swapL l i j).length = l.length := by unfold swapL; rw [List.length_set, List.length_set]
theorem swapL_perm (l : List Int) {i j : Nat} (hi : i < l.length) (hj : j < l.length) : (swapL l i j).Perm l := by
  unfold swapL
  have e1 : l.getD j 0 = l[j] := by simp [List.getD, hj]
  have e2 : l.getD i 0 = l[i] := by simp [List.getD, hi]
  rw [e1, e2]
  exact List.set_set_perm hi hj
/-- which place a draw tells among the first m -/
def jOf (d m : Int) : Int := if d.tmod m < 0 then d.tmod m + m else d.tmod m
theorem jOf_range (d m : Int) (hm : 0 < m) : 0 ≤ jOf d m ∧ jOf d m < m := by
  unfold jOf
  have h1 := Int.tmod_lt_of_pos d hm
  have h2 := Int.lt_tmod_of_pos d hm
  split <;> omega
def mixL : Nat → List Int → Int → List Int
  | 0, l, _ => l
  | i + 1, l, d => mixL i (swapL l (i + 1) (jOf d (i + 2)).toNat) (d.tdiv (i + 2))
theorem mixL_len : ∀ (i : Nat) (l : List Int) (d : Int), (mixL i l d).length = l.length
  | 0, _, _ => rfl
  | i + 1, l, d => by rw [mixL, mixL_len i, swapL_len]
theorem mixL_perm : ∀ (i : Nat) (l : List Int) (d : Int), i < l.length → (mixL i l d).Perm l
  | 0, _, _, _ => List.Perm.refl _
  | i + 1, l, d, h => by
    rw [mixL]
    have hj := jOf_range d (i + 2) (by omega)
    refine (mixL_perm i _ _ (by rw [swapL_len]; omega)).trans (swapL_perm l h ?_)
    omega
/-- what mixed answers -/
def mixR (l : List Int) (d : Int) : List Int := mixL (l.length - 1) l d
theorem mixR_perm (l : List Int) (d : Int) : (mixR l d).Perm l := by
  cases l with
  | nil => exact List.Perm.refl _
  | cons a r => exact mixL_perm _ _ _ (by simp)
theorem tdiv_in {d m : Int} (hm : 2 ≤ m) (h1 : -9223372036854775808 ≤ d) (h2 : d ≤ 9223372036854775807) : -9223372036854775808 ≤ d.tdiv m ∧ d.tdiv m ≤ 9223372036854775807 := by
  rcases Int.le_total 0 d with h | h
  · have := Int.tdiv_le_self m h
    have := Int.tdiv_nonneg h (show 0 ≤ m by omega)
    omega
  · have h3 : (-d).tdiv m ≤ -d := Int.tdiv_le_self m (by omega)
    have h4 := Int.tdiv_nonneg (show 0 ≤ -d by omega) (show 0 ≤ m by omega)
    rw [Int.neg_tdiv] at h3 h4
    omega
theorem mixed_none (c : Nat) (A : Option Addr) (d : Int) (w : World) : Calls Try.prog 65 #[.slice A 0 c, .int .i64 d] w fun e w' => e = .returned (.slice A 0 c) ∧ w' = w := by
  go_enter Try.func65, Try.ntmps65
  go_wp2_with fail
  go_loopw [5] (fun s5 wr => s5 = .int .i64 (-1) ∧ wr = w) (fun _ _ => 0)
  case atStart => exact ⟨rfl, rfl⟩
  case round =>
    obtain ⟨rfl, rfl⟩ := hrel
    go_wp2_with fail
    go_ret
    exact ⟨rfl, rfl⟩
set_option maxRecDepth 100000 in
set_option maxHeartbeats 4000000 in
theorem mixed_any {g off c : Nat} {l : List Int} (d : Int) {w : World} (h : IRow w (some ⟨g, off, none⟩) c l) (h0 : 0 < l.length) (hl : l.length ≤ 1000) (hd : -9223372036854775808 ≤ d ∧ d ≤ 9223372036854775807) :
    Calls Try.prog 65 #[.slice (some ⟨g, off, none⟩) l.length c, .int .i64 d] w fun e w' => e = .returned (.slice (some ⟨g, off, none⟩) l.length c) ∧ IRow w' (some ⟨g, off, none⟩) c (mixR l d) ∧ w.grownBy w' (some g) := by
  have HR := Lib.hid h
  have HD := Lib.hid hd
  obtain ⟨n, hn⟩ : ∃ n, n = l.length := ⟨_, rfl⟩
  have HN := Lib.hid hn
  rw [← hn] at h0 hl ⊢
  clear h hd hn
  go_enter Try.func65, Try.ntmps65
  go_wp2_with fail
  go_loopw [1, 5] (fun s1 s5 wr => ∃ (i : Nat) (l' : List Int) (d' : Int), s5 = .int .i64 i ∧ s1 = .int .i64 d' ∧ i < n ∧ Hid (l'.length = n ∧ -9223372036854775808 ≤ d' ∧ d' ≤ 9223372036854775807 ∧ IRow wr (some ⟨g, off, none⟩) c l' ∧ mixL i l' d' = mixR l d ∧ w.grownBy wr (some g))) (fun _ s5 _ => (RowKit.intOf s5).toNat)
  case atStart => exact ⟨n - 1, l, d, by go_num, rfl, by omega, HN.out.symm, HD.out.1, HD.out.2, HR.out, by unfold mixR; rw [HN.out], World.grownBy.refl _ _⟩
  case round =>
    obtain ⟨i, l', d', rfl, rfl, hi, HS⟩ := hrel
    by_cases hi0 : 0 < i
    · obtain ⟨k, rfl⟩ : ∃ k, i = k + 1 := ⟨i - 1, by omega⟩
      have hj := jOf_range d' ((k : Int) + 2) (by omega)
      have hq := tdiv_in (d := d') (m := (k : Int) + 2) (by omega) HS.out.2.1 HS.out.2.2.1
      obtain ⟨r, hr⟩ : ∃ r, r = d'.tmod ((k : Int) + 2) := ⟨_, rfl⟩
      obtain ⟨q, hqq⟩ : ∃ q, q = d'.tdiv ((k : Int) + 2) := ⟨_, rfl⟩
      have HRQ := Lib.hid (And.intro hr hqq)
      have hk1 : (k : Int) + 1 < 1000 := by omega
      have e2 : (k : Int) + 1 + 1 = (k : Int) + 2 := by omega
      by_cases hneg : r < 0
      · go_wp2_with fail
        have ejz : wrap64 (d'.tmod ((k : Int) + 2) + ((k : Int) + 2)) = ((jOf d' ((k : Int) + 2)).toNat : Int) := by
          unfold jOf wrap64 at *
          rw [if_pos (by omega)] at hj ⊢
          omega
        rw [ejz]
        obtain ⟨jn, hjn⟩ : ∃ jn, jn = (jOf d' ((k : Int) + 2)).toNat := ⟨_, rfl⟩
        rw [← hjn]
        have hjn2 : jn < l'.length := by have := HS.out.1; omega
        have hil : k + 1 < l'.length := by have := HS.out.1; omega
        have cj := HS.out.2.2.2.1.cell hjn2
        have ci := HS.out.2.2.2.1.cell hil
        obtain ⟨a, ha⟩ : ∃ a, a = l'[k + 1] := ⟨_, rfl⟩
        obtain ⟨b, hb⟩ : ∃ b, b = l'[jn] := ⟨_, rfl⟩
        rw [← hb] at cj
        rw [← ha] at ci
        have R1 := HS.out.2.2.2.1.set (k + 1) b
        have R2 := R1.set jn a
        obtain ⟨hcj, hfj⟩ := cj
        obtain ⟨hci, hfi⟩ := ci
        obtain ⟨x2, hc2⟩ : ∃ x2 : Int, (wr.setCell ⟨g, off + (k + 1), none⟩ (.int .i64 b)).cell? ⟨g, off + jn, none⟩ = some (.int .i64 x2) := ⟨_, (R1.cell (i := jn) (by rw [List.length_set]; exact hjn2)).1⟩
        have hf2 := (R1.cell (i := jn) (by rw [List.length_set]; exact hjn2)).2
        have hg2 : w.grownBy (((wr.setCell ⟨g, off + (k + 1), none⟩ (.int .i64 b)).setCell ⟨g, off + jn, none⟩ (.int .i64 a)).drew) (some g) := grown_drew (grown_setCell (grown_setCell HS.out.2.2.2.2.2 (.inl rfl) _) (.inl rfl) _)
        have hsw : (l'.set (k + 1) b).set jn a = swapL l' (k + 1) jn := by
          have e1 : l'.getD jn 0 = l'[jn] := by simp [List.getD, hjn2]
          have e2' : l'.getD (k + 1) 0 = l'[k + 1] := by simp [List.getD, hil]
          unfold swapL
          rw [e1, e2', ha, hb]
        rw [hsw] at R2
        have HR2 := Lib.hid (show IRow (((wr.setCell ⟨g, off + (k + 1), none⟩ (.int .i64 b)).setCell ⟨g, off + jn, none⟩ (.int .i64 a)).drew) (some ⟨g, off, none⟩) c (swapL l' (k + 1) jn) from R2)
        have HG2 := Lib.hid hg2
        have HJ := Lib.hid hjn
        have j1 : (0 : Int) ≤ (jn : Int) := by omega
        have j2 : (jn : Int) < (n : Int) := by have := HS.out.1; omega
        have j3 : (0 : Int) ≤ ((k + 1 : Nat) : Int) := by omega
        have j4 : ((k + 1 : Nat) : Int) < (n : Int) := by omega
        clear R1 R2 hg2 hsw ha hb hjn ejz hjn2 hil
        have mixed : Try.prog.follows .mixedOrders = true := by kernel_rfl
        go_big_region_o
        generalize ((wr.setCell ⟨g, off + (k + 1), none⟩ (.int .i64 b)).setCell ⟨g, off + jn, none⟩ (.int .i64 a)).drew = w8 at HR2 HG2 ⊢
        clear hci hcj hfi hfj hc2 hf2 mixed j1 j2 j3 j4
        go_wp2_with fail
        go_roundw
        case rel =>
          refine ⟨k, swapL l' (k + 1) jn, d'.tdiv ((k : Int) + 2), by go_num, rfl, by omega, ⟨by rw [swapL_len]; exact HS.out.1, hq.1, hq.2, HR2.out, ?_, HG2.out⟩⟩
          rw [← HS.out.2.2.2.2.1, mixL, HJ.out]
        case measure => simp [RowKit.intOf]
      · go_wp2_with fail
        have ejz : d'.tmod ((k : Int) + 2) = ((jOf d' ((k : Int) + 2)).toNat : Int) := by
          unfold jOf at *
          rw [if_neg (by omega)] at hj ⊢
          omega
        rw [ejz]
        obtain ⟨jn, hjn⟩ : ∃ jn, jn = (jOf d' ((k : Int) + 2)).toNat := ⟨_, rfl⟩
        rw [← hjn]
        have hjn2 : jn < l'.length := by have := HS.out.1; omega
        have hil : k + 1 < l'.length := by have := HS.out.1; omega
        have cj := HS.out.2.2.2.1.cell hjn2
        have ci := HS.out.2.2.2.1.cell hil
        obtain ⟨a, ha⟩ : ∃ a, a = l'[k + 1] := ⟨_, rfl⟩
        obtain ⟨b, hb⟩ : ∃ b, b = l'[jn] := ⟨_, rfl⟩
        rw [← hb] at cj
        rw [← ha] at ci
        have R1 := HS.out.2.2.2.1.set (k + 1) b
        have R2 := R1.set jn a
        obtain ⟨hcj, hfj⟩ := cj
        obtain ⟨hci, hfi⟩ := ci
        obtain ⟨x2, hc2⟩ : ∃ x2 : Int, (wr.setCell ⟨g, off + (k + 1), none⟩ (.int .i64 b)).cell? ⟨g, off + jn, none⟩ = some (.int .i64 x2) := ⟨_, (R1.cell (i := jn) (by rw [List.length_set]; exact hjn2)).1⟩
        have hf2 := (R1.cell (i := jn) (by rw [List.length_set]; exact hjn2)).2
        have hg2 : w.grownBy (((wr.setCell ⟨g, off + (k + 1), none⟩ (.int .i64 b)).setCell ⟨g, off + jn, none⟩ (.int .i64 a)).drew) (some g) := grown_drew (grown_setCell (grown_setCell HS.out.2.2.2.2.2 (.inl rfl) _) (.inl rfl) _)
        have hsw : (l'.set (k + 1) b).set jn a = swapL l' (k + 1) jn := by
          have e1 : l'.getD jn 0 = l'[jn] := by simp [List.getD, hjn2]
          have e2' : l'.getD (k + 1) 0 = l'[k + 1] := by simp [List.getD, hil]
          unfold swapL
          rw [e1, e2', ha, hb]
        rw [hsw] at R2
        have HR2 := Lib.hid (show IRow (((wr.setCell ⟨g, off + (k + 1), none⟩ (.int .i64 b)).setCell ⟨g, off + jn, none⟩ (.int .i64 a)).drew) (some ⟨g, off, none⟩) c (swapL l' (k + 1) jn) from R2)
        have HG2 := Lib.hid hg2
        have HJ := Lib.hid hjn
        have j1 : (0 : Int) ≤ (jn : Int) := by omega
        have j2 : (jn : Int) < (n : Int) := by have := HS.out.1; omega
        have j3 : (0 : Int) ≤ ((k + 1 : Nat) : Int) := by omega
        have j4 : ((k + 1 : Nat) : Int) < (n : Int) := by omega
        clear R1 R2 hg2 hsw ha hb hjn ejz hjn2 hil
        have mixed : Try.prog.follows .mixedOrders = true := by kernel_rfl
        go_big_region_o
        generalize ((wr.setCell ⟨g, off + (k + 1), none⟩ (.int .i64 b)).setCell ⟨g, off + jn, none⟩ (.int .i64 a)).drew = w8 at HR2 HG2 ⊢
        clear hci hcj hfi hfj hc2 hf2 mixed j1 j2 j3 j4
        go_wp2_with fail
        go_roundw
        case rel =>
          refine ⟨k, swapL l' (k + 1) jn, d'.tdiv ((k : Int) + 2), by go_num, rfl, by omega, ⟨by rw [swapL_len]; exact HS.out.1, hq.1, hq.2, HR2.out, ?_, HG2.out⟩⟩
          rw [← HS.out.2.2.2.2.1, mixL, HJ.out]
        case measure => simp [RowKit.intOf]
    · have hi0e : i = 0 := by omega
      subst hi0e
      go_wp2_with fail
      go_ret
      exact ⟨rfl, by have h := HS.out.2.2.2.2.1; rw [← h]; exact HS.out.2.2.2.1, HS.out.2.2.2.2.2⟩
end Go.Proofs.Ytghefmppjdneoaa
