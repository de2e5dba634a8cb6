/- Slices of a slice of arrays of bytes; what an append has made of them. -/
import Derived.Test.YtcpnlojcmlldpaaMixB
import Derived.Deep.Upon
namespace Go.Proofs.Ytcpnlojcmlldpaa
open Go.RowKit

/-- where a slice's part begins -/
def cutA (A : Option Addr) (k cap sz : Nat) : Option Addr := if cap = k then A else A.map (·.add (k * sz))
theorem cutA_at {A : Option Addr} {k cap sz : Nat} {g off : Nat} (hA : A = some ⟨g, off, none⟩) (h : k < cap) : cutA A k cap sz = some ⟨g, off + k * sz, none⟩ := by
  subst hA
  unfold cutA
  rw [if_neg (by omega)]
  simp only [Option.map_some, Option.some.injEq]
  unfold Addr.add
  split
  · rename_i h0
    rw [h0, Nat.add_zero]
  · rfl
theorem bytes_drop {w : World} {A : Option Addr} {sz k c : Nat} {l : List (List UInt8)} (h : BytesIn w A sz l) (hc : l.length ≤ c) : BytesIn w (cutA A k c sz) sz (l.drop k) := fun h0 => by
  rw [List.length_drop] at h0
  obtain ⟨g, off, hA, hlt, hc'⟩ := h (by omega)
  refine ⟨g, off + k * sz, cutA_at hA (by omega), hlt, fun i hi => ?_⟩
  rw [List.length_drop] at hi
  have := hc' (k + i) (by omega)
  rw [List.getElem_drop]
  rwa [Nat.add_mul, ← Nat.add_assoc] at this
theorem bytes_take {w : World} {A : Option Addr} {sz k c : Nat} {l : List (List UInt8)} (h : BytesIn w A sz l) (hc : l.length ≤ c) : BytesIn w (cutA A 0 c sz) sz (l.take k) := fun h0 => by
  rw [List.length_take] at h0
  obtain ⟨g, off, hA, hlt, hc'⟩ := h (by omega)
  refine ⟨g, off, ?_, hlt, fun i hi => ?_⟩
  · have := cutA_at (sz := sz) hA (k := 0) (cap := c) (by omega)
    rwa [Nat.zero_mul, Nat.add_zero] at this
  · rw [List.length_take] at hi
    rw [List.getElem_take]
    exact hc' i (by omega)
theorem elem_dgs : Try.prog.underlying 51 = some (.slice (Try.prog.elem 51)) := by kernel_rfl
theorem size_dgs (w : World) : (sizeOf (Try.prog.elem 51)).run Try.prog w = .ok 32 w := by kernel_rfl
theorem exec_slice_l {a : Act} {o : Oper} (x y : Operand) (ho : o.op = .slice 51 x (some y) none none) (A : Option Addr) (len cap k : Nat) (hx : a.eval x = .slice A len cap) (hy : a.eval y = .int .i64 (k : Int)) (hk : k ≤ len) (w : World) :
    (execOp a.eval o).run Try.prog w = .ok (.value (.slice (cutA A k cap 32) (len - k) (cap - k))) w := by
  have h0 : (0 : Int) ≤ (k : Int) := by omega
  have h1 : (k : Int) ≤ (len : Int) := by omega
  have hr : (Instr.slice 51 (.slice A len cap) (some (.int .i64 (k : Int))) none none).run Try.prog w = .ok (.slice (cutA A k cap 32) (len - k) (cap - k)) w := by
    have h2 := run_slice_l (P := Try.prog) (w := w) 51 A len cap elem_dgs .i64 (k : Int) h0 h1
    rw [h2, size_dgs]
    simp [Result.andThen, sliced, cutA]
  unfold execOp
  simp only [ho, Option.map_some, Option.map_none, hx, hy, Sem.run_bind, Sem.run_pure]
  rw [run_sliceAt_slice _ _ _ _ _ _ elem_dgs, hr]
  rfl
theorem exec_slice_h {a : Act} {o : Oper} (x y : Operand) (ho : o.op = .slice 51 x none (some y) none) (A : Option Addr) (len cap k : Nat) (hx : a.eval x = .slice A len cap) (hy : a.eval y = .int .i64 (k : Int)) (hk : k ≤ cap) (w : World) :
    (execOp a.eval o).run Try.prog w = .ok (.value (.slice (cutA A 0 cap 32) k cap)) w := by
  have h0 : (0 : Int) ≤ (k : Int) := by omega
  have h1 : (k : Int) ≤ (cap : Int) := by omega
  have hr : (Instr.slice 51 (.slice A len cap) none (some (.int .i64 (k : Int))) none).run Try.prog w = .ok (.slice (cutA A 0 cap 32) k cap) w := by
    have h2 := run_slice_h (P := Try.prog) (w := w) 51 A len cap elem_dgs .i64 (k : Int) h0 h1
    rw [h2, size_dgs]
    simp [Result.andThen, sliced, cutA]
  unfold execOp
  simp only [ho, Option.map_some, Option.map_none, hx, hy, Sem.run_bind, Sem.run_pure]
  rw [run_sliceAt_slice _ _ _ _ _ _ elem_dgs, hr]
  rfl
/-- the cells of arrays of bytes, one behind the other -/
theorem flat_get {l : List (List UInt8)} {sz : Nat} (hl : ∀ x ∈ l, x.length = sz) {i : Nat} (hi : i < l.length) {j : Nat} {v : Value} (hv : (u8s l[i])[j]? = some v) : (l.flatMap u8s)[i * sz + j]? = some v := by
  induction l generalizing i with
  | nil => cases hi
  | cons x r ih =>
    have hx := hl x List.mem_cons_self
    rw [List.flatMap_cons]
    cases i with
    | zero =>
      have hv' : (u8s x)[j]? = some v := hv
      rw [Nat.zero_mul, Nat.zero_add, List.getElem?_append_left (List.getElem?_eq_some_iff.1 hv').1]
      exact hv'
    | succ i =>
      have e : (i + 1) * sz + j = (u8s x).length + (i * sz + j) := by rw [u8s_len, hx, Nat.add_mul]; omega
      rw [e, List.getElem?_append_right (by omega), Nat.add_sub_cancel_left]
      have hi' : i < r.length := by simpa using hi
      exact ih (fun y hy => hl y (List.mem_cons_of_mem _ hy)) hi' hv
theorem flat_len {l : List (List UInt8)} {sz : Nat} (hl : ∀ x ∈ l, x.length = sz) : (l.flatMap u8s).length = l.length * sz := by
  induction l with
  | nil => simp
  | cons x r ih =>
    rw [List.flatMap_cons, List.length_append, u8s_len, hl x List.mem_cons_self, ih (fun y hy => hl y (List.mem_cons_of_mem _ hy)), List.length_cons, Nat.succ_mul]
    omega
theorem flat_cells {w : World} {g off sz : Nat} {l : List (List UInt8)} (hsz : 0 < sz) (hl : ∀ x ∈ l, x.length = sz) (h : ∀ i (h : i < l.length), w.rangeAt g (off + i * sz) (u8s l[i])) : ∀ j u, (l.flatMap u8s)[j]? = some u → w.cell? ((⟨g, off, none⟩ : Addr).add j) = some u := by
  intro j u hu
  have hj : j < l.length * sz := by
    rw [← flat_len hl]
    exact (List.getElem?_eq_some_iff.1 hu).1
  have hi : j / sz < l.length := (Nat.div_lt_iff_lt_mul hsz).2 hj
  have hm : j % sz < sz := Nat.mod_lt _ hsz
  have he : j / sz * sz + j % sz = j := by rw [Nat.mul_comm]; exact Nat.div_add_mod j sz
  have hlen := hl _ (List.getElem_mem hi)
  obtain ⟨v, hv⟩ : ∃ v, (u8s l[j / sz])[j % sz]? = some v := ⟨_, List.getElem?_eq_getElem (by rw [u8s_len, hlen]; exact hm)⟩
  have h1 := flat_get hl hi hv
  rw [he, hu] at h1
  injection h1 with h1
  subst h1
  have h2 := h (j / sz) hi (j % sz) u hv
  have e : (⟨g, off, none⟩ : Addr).add j = ⟨g, off + j / sz * sz + j % sz, none⟩ := by
    unfold Addr.add
    split
    · rename_i h0
      rw [Nat.add_assoc, he, h0]
      rfl
    · simp only [Addr.mk.injEq, and_true, true_and]
      omega
  rw [e]
  exact h2
/-- a row that an append has made, as arrays of bytes -/
theorem own_bytes {w : World} {base : Nat} {e : TypeId} {sz n : Nat} {v : Value} {l : List (List UInt8)} (h : Own w base e sz v n (l.flatMap u8s)) (hn : n = l.length) (hl : ∀ x ∈ l, x.length = sz) : ∃ A c, v = .slice A n c ∧ BytesIn w A sz l := by
  by_cases h0 : 0 < n
  · obtain ⟨g, cap, rfl, _, hg, _, _⟩ := h.form h0
    refine ⟨_, _, rfl, fun _ => ⟨g, 0, rfl, hg, fun i hi j v hv => ?_⟩⟩
    have hij := flat_get hl hi hv
    rw [Nat.zero_add, h.cellAt rfl _ (by
      have := (List.getElem?_eq_some_iff.1 hij).1
      rwa [flat_len hl, ← hn] at this)]
    exact hij
  · have hl0 : ¬ 0 < l.length := by omega
    rcases h.2 with ⟨rfl, h2⟩ | ⟨g, cap, cur, fr, h1, _⟩
    · exact ⟨none, 0, by rw [h2], fun h => absurd h hl0⟩
    · exact ⟨_, cap, h1, fun h => absurd h hl0⟩
/-- nothing is appended -/
theorem wpList_append_nothing {P : Program} {ops : Array Oper} {rest : List Oper} {o : Oper} {a : Act} {w : World} {Q : Exit → Act → World → Prop} (hw : Region.wanted o (yielded ops a.tmps) = true) (s x : Operand) (t e : TypeId) (ho : o.op = .call { callee := .builtin .append, args := #[s, x], argTypes := #[t, t] })
    (i : TypeInfo) (ht : P.underlying t = some (.slice e)) (hi : P.info? e = some i) (base : Option Addr) (sLen sCap : Nat) (hle : sLen ≤ sCap) (hs : a.eval s = .slice base sLen sCap) (A : Option Addr) (c : Nat) (hx : a.eval x = .slice A 0 c)
    (h : wpList P ops Q rest (a.put o.dst (.slice base sLen sCap)) w) : wpList P ops Q (o :: rest) a w := by
  refine wpList_val (.slice base sLen sCap) hw ?_ h
  have hsrc : Src P i.size t (.slice A 0 c) 0 [] w := by
    cases A with
    | none => exact Src.ofNil w ht c
    | some ad => exact Src.ofSlice w ht ad 0 c [] (by simp) (fun j u hu => by simp at hu) (fun u hu => by simp at hu)
  have hr := run_append_nothing w t t o.type e i ht hi base sLen sCap hle (.slice A 0 c) hsrc
  unfold execOp
  simp only [ho, resolve, invoke, builtin, Sem.run_bind, Sem.run_pure, Result.andThen_ok, List.map_toArray, List.map_cons, List.map_nil, hs, hx, hr]
theorem wpList_rows {P : Program} {ops : Array Oper} {rest : List Oper} {o : Oper} {a : Act} {w : World} {Q : Exit → Act → World → Prop} (hw : Region.wanted o (yielded ops a.tmps) = true) (t e sz : Nat) (l : List (List UInt8)) (parts : Array (Nat × Operand)) (hop : o.op = .buildSlice t l.length parts) (hu : P.underlying t = some (.slice e)) (hie : (P.info? e).map (fun i => (i.zero.isSome, i.size)) = some (true, sz)) (hsz : 0 < sz) (hl : 0 < l.length) (hsm : l.length * sz ≤ 2 ^ 24) (h32 : ∀ x ∈ l, x.length = sz)
    (hp : (parts.map fun (i, x) => (i, a.eval x)).toList = ((l.map fun x => Value.agg (u8s x).toArray).zipIdx 0).map fun x => (x.2, x.1))
    (h : ∀ g w', g = w.heap.size → Below w.heap.size w w' → BytesIn w' (some ⟨g, 0, none⟩) sz l → Own w' w.heap.size e sz (.slice (some ⟨g, 0, none⟩) l.length l.length) l.length (l.flatMap u8s) → wpList P ops Q rest (a.put o.dst (.slice (some ⟨g, 0, none⟩) l.length l.length)) w') : wpList P ops Q (o :: rest) a w :=
  wpList_step fun K hK => by
    rw [if_pos hw]
    unfold Oper.wp
    rw [exec_rows t e sz l parts hop hu hie hsz hl hsm h32 hp w]
    refine hK _ _ (h _ _ rfl ((Below.refl _ _).alloc (Nat.le_refl _) _) (bytes_laid w e sz l h32 rfl rfl) ?_)
    have hm : l.length ≤ maxLen := by
      have : l.length * 1 ≤ l.length * sz := Nat.mul_le_mul_left _ hsz
      unfold maxLen
      omega
    have h1 := Own.made (base := w.heap.size) w e sz (l.flatMap u8s) l.length l.length (Nat.le_refl _) (Nat.le_refl _) hm (flat_len h32)
    rwa [List.take_of_length_le (by rw [flat_len h32]; exact Nat.le_refl _)] at h1
/-- arrays of bytes appended to a row of these -/
theorem wpList_append_bytes {P : Program} {ops : Array Oper} {rest : List Oper} {o : Oper} {a : Act} {w : World} {Q : Exit → Act → World → Prop} (hgd : o.guard = none) (hw : Region.wanted o (yielded ops a.tmps) = true) (s x : Operand) (t e sz bytes : Nat) (ho : o.op = .call { callee := .builtin .append, args := #[s, x], argTypes := #[t, t] })
    (i : TypeInfo) (z : Value) (ht : P.underlying t = some (.slice e)) (hi : P.info? e = some i) (hz : i.zero = some z) (hsize : i.size = sz) (hby : i.bytes = bytes) (hzs : z.cells.size = sz) (hsz : 0 < sz)
    (base : Nat) (g n c : Nat) (l m : List (List UInt8)) (hs : a.eval s = .slice (some ⟨g, 0, none⟩) n c) (hown : Own w base e sz (.slice (some ⟨g, 0, none⟩) n c) n (l.flatMap u8s)) (hl : ∀ x ∈ l, x.length = sz) (hm : ∀ x ∈ m, x.length = sz) (hn : n = l.length) (hnc : n ≤ c)
    (B : Option Addr) (d : Nat) (hx : a.eval x = .slice B m.length d) (hB : BytesIn w B sz m) (h63 : n + m.length ≤ maxLen) (hbytes : (n + m.length) * bytes ≤ 140737488355328) (hbase : base ≤ w.heap.size)
    (h : ∀ A' c' w', BytesIn w' A' sz (l ++ m) → Below base w w' → wpList P ops Q rest (a.put o.dst (.slice A' (n + m.length) c')) w') : wpList P ops Q (o :: rest) a w := by
  by_cases h0 : 0 < m.length
  · obtain ⟨gB, off, rfl, hlt, hc⟩ := hB h0
    refine wpList_append_Own w hgd s x t ho base e i z sz bytes ht hi hz hsize hby hzs hsz _ n (l.flatMap u8s) hs hown ⟨gB, off, none⟩ m.length d (m.flatMap u8s) hx (flat_len hm) (flat_cells hsz hm hc) ?_ h63 hbytes hbase ?_
    · intro u hu
      obtain ⟨y, _, hy⟩ := List.mem_flatMap.1 hu
      exact u8s_one y u hy
    · intro v' w' hO hg hor
      rw [← List.flatMap_append] at hO
      obtain ⟨A', c', rfl, hb⟩ := own_bytes hO (by rw [List.length_append, hn]) (fun y hy => by rcases List.mem_append.1 hy with hy | hy; exact hl y hy; exact hm y hy)
      exact h A' c' w' hb (own_below2 hown (Below.refl _ _) (Nat.le_refl _) hbase hg)
  · have hm0 : m = [] := List.length_eq_zero_iff.1 (by omega)
    subst hm0
    refine wpList_append_nothing hw s x t e ho i ht hi (some ⟨g, 0, none⟩) n c hnc hs B d hx ?_
    obtain ⟨A', c', he, hb⟩ := own_bytes hown hn hl
    injection he with e1 e2 e3
    subst e1
    have := h (some ⟨g, 0, none⟩) c w (by rw [List.append_nil]; exact hb) (Below.refl _ _)
    exact this
end Go.Proofs.Ytcpnlojcmlldpaa
