/- A row that a library function rewrites in place (SWK), and the row that the call owns (Own); one thing stored, the rest cleared. -/
import Derived.Test.YtdfeiajdmmlllaaDoorEncA
import Derived.Lib.SlKept
namespace Go.Proofs.YtdfeiajdmmlllaaDoor
open Go.Proofs Go.Shelf Go.RowKit Go.Lib Go.Sort

section
variable {α : Type} [Inhabited α] {enc : α → List Value} {k : Nat}
theorem setMany_put (hk : ∀ x, (enc x).length = k) (d : Array α) (i : Nat) (hi : i < d.size) (x : α) : setMany (flatK enc k d) (i * k) (enc x) = flatK enc k (d.setIfInBounds i x) := by
  refine ext_get! (by simp) fun t ht => ?_
  have ht' : t < d.size * k := by simpa using ht
  have k0 : 0 < k := by
    rcases Nat.eq_zero_or_pos k with h | h
    · subst h; simp at ht'
    · exact h
  rw [get_setMany _ _ _ t (by simpa using ht'), get_flatK _ _ _ t ht', get_flatK _ _ _ t (by simpa using ht'), hk]
  by_cases a : t / k = i
  · rw [if_pos ((blk_iff k i t k0).2 a)]
    have e : t - i * k = t % k := by subst a; rw [Nat.mod_eq_sub_div_mul]
    rw [e, a, getElem!_set_same d i x hi]
  · rw [if_neg (fun h => a ((blk_iff k i t k0).1 h)), getElem!_set_other d i (t / k) x a]
variable {w0 W : World} {blk off : Nat} {dk : Array α}
theorem swk_put (h : SWK enc k w0 blk off dk W) (hk : ∀ x, (enc x).length = k) (hblk : blk < w0.heap.size) (i : Nat) (hi : i < dk.size) (x : α) :
    SWK enc k w0 blk off (dk.setIfInBounds i x) (W.setCells blk (off + i * k) (enc x)) := by
  obtain ⟨n, os, rfl⟩ := h
  refine ⟨n, os, ?_⟩
  unfold sortWorldK
  rw [setCells_grow os blk _ _ _ (by rw [size_putRowK]; exact hblk)]
  congr 1
  unfold putRowK
  have hb : i * k + k ≤ dk.size * k := by
    have := Nat.mul_le_mul_right k (show i + 1 ≤ dk.size from hi)
    rwa [Nat.add_mul, Nat.one_mul] at this
  rw [setCells_putRow _ _ _ _ _ _ (by rw [hk, size_flatK]; exact hb), setMany_put hk dk i hi x]
theorem setCells_append (b : Nat) : ∀ (us vs : List Value) (o : Nat) (w : World), w.setCells b o (us ++ vs) = (w.setCells b o us).setCells b (o + us.length) vs
  | [], vs, o, w => rfl
  | u :: us, vs, o, w => by
    rw [List.cons_append, World.setCells, setCells_append b us vs, World.setCells]
    congr 1
    simp; omega
theorem swk_puts (hk : ∀ x, (enc x).length = k) (hblk : blk < w0.heap.size) (z : α) : ∀ (m i : Nat) (dk : Array α) (W : World), SWK enc k w0 blk off dk W → i + m ≤ dk.size →
    ∃ dk' : Array α, dk'.size = dk.size ∧ (∀ j, j < i → dk'[j]! = dk[j]!) ∧ SWK enc k w0 blk off dk' (W.setCells blk (off + i * k) (List.replicate m (enc z)).flatten)
  | 0, i, dk, W, h, _ => ⟨dk, rfl, fun _ _ => rfl, by simpa [World.setCells] using h⟩
  | m + 1, i, dk, W, h, hm => by
    obtain ⟨dk', h1, h2, h3⟩ := swk_puts hk hblk z m (i + 1) _ _ (swk_put h hk hblk i (by omega) z) (by simp; omega)
    refine ⟨dk', by simpa using h1, fun j hj => ?_, ?_⟩
    · rw [h2 j (by omega), getElem!_set_other dk i j z (by omega)]
    · rw [List.replicate_succ, List.flatten_cons, setCells_append, hk]
      have e : off + (i + 1) * k = off + i * k + k := by rw [Nat.add_mul]; omega
      rwa [e] at h3
theorem flatten_replicate_get (L : List Value) (hL : 0 < L.length) : ∀ (m t : Nat), t < m * L.length → (List.replicate m L).flatten[t]? = L[t % L.length]?
  | 0, t, h => by simp at h
  | m + 1, t, h => by
    rw [List.replicate_succ, List.flatten_cons]
    by_cases ht : t < L.length
    · rw [List.getElem?_append_left ht, Nat.mod_eq_of_lt ht]
    · rw [List.getElem?_append_right (by omega), flatten_replicate_get L hL m _ (by rw [Nat.succ_mul] at h; omega)]
      congr 1
      rw [Nat.mod_eq_sub_mod (a := t) (by omega)]
theorem zeroCells_eq (L : List Value) (hL : 0 < L.length) (m : Nat) : (Builtin.zeroCells L.toArray m).toList = (List.replicate m L).flatten := by
  apply List.ext_getElem?
  intro t
  by_cases ht : t < m * L.length
  · rw [flatten_replicate_get L hL m t ht]
    have hm : t % L.length < L.length := Nat.mod_lt _ hL
    simp [Builtin.zeroCells, ht, hm]
  · have h1 : (List.replicate m L).flatten.length = m * L.length := by simp
    rw [List.getElem?_eq_none (by simp [Builtin.zeroCells]; omega), List.getElem?_eq_none (by omega)]
/-- 'clear' of the rest of a row -/
theorem run_clear_enc {P : Program} (h : SWK enc k w0 blk off dk W) {d0 : Array α} (R : RowK enc k w0 blk off d0) (hs : dk.size = d0.size) (hk0 : 0 < k) (t e ty : TypeId) (z : α) (ht : P.underlying t = some (.slice e)) (hv : ∀ w, (zeroValue e).run P w = .ok (.agg (enc z).toArray) w) (i c : Nat) (hi : i < dk.size) :
    (Builtin.clear_ #[t] ty #[.slice (some ⟨blk, off + i * k, none⟩) (dk.size - i) c]).run P W = .ok (.tuple #[]) (W.setCells blk (off + i * k) (List.replicate (dk.size - i) (enc z)).flatten) := by
  have hz : (Builtin.zeroCells (Value.agg (enc z).toArray).cells (dk.size - i)).toList = (List.replicate (dk.size - i) (enc z)).flatten := zeroCells_eq _ (by rw [R.hk]; exact hk0) _
  have hlen : (List.replicate (dk.size - i) (enc z)).flatten.length = (dk.size - i) * k := by simp [R.hk]
  have hb : i * k + (dk.size - i) * k = dk.size * k := by rw [← Nat.add_mul]; congr 1; omega
  have hst : Sem.run P (storeCells ⟨blk, off + i * k, none⟩ (Builtin.zeroCells (Value.agg (enc z).toArray).cells (dk.size - i)).toList) W = .ok () (W.setCells blk (off + i * k) (List.replicate (dk.size - i) (enc z)).flatten) := by
    rw [hz]
    refine stores_of_holds P (h.holds R.hblk R.hH hs) (i * k) _ (by rw [size_flatK, hlen]; omega) ?_
    intro v hv
    obtain ⟨l, hl, hv⟩ := List.mem_flatten.1 hv
    rw [(List.mem_replicate.1 hl).2] at hv
    exact R.h1 z v hv
  obtain ⟨n, hn⟩ : ∃ n, dk.size - i = n + 1 := ⟨dk.size - i - 1, by omega⟩
  rw [hn] at hst ⊢
  simp [Builtin.clear_, run_underlying ht, hv, hst]

/-- the row that a call owns, to a function that rewrites it -/
theorem own_holdsK {w : World} {B g n cap : Nat} {e : TypeId} {l : List α} (hk : ∀ x, (enc x).length = k) (h : Own w B e k (.slice (some ⟨g, 0, none⟩) n cap) n (l.flatMap enc)) (hl : n = l.length) : HoldsK enc k w g 0 l.toArray := by
  intro j hj
  have hj' : j < l.length * k := by simpa using hj
  have hk0 : 0 < k := by
    rcases Nat.eq_zero_or_pos k with h | h
    · subst h; simp at hj'
    · exact h
  have hi : j / k < l.length := (Nat.div_lt_iff_lt_mul hk0).2 hj'
  have hm : j % k < k := Nat.mod_lt _ hk0
  have he : j / k * k + j % k = j := by rw [Nat.mul_comm]; exact Nat.div_add_mod j k
  rw [get_flatK _ _ _ j (by simpa using hj'), Nat.zero_add]
  have hx : l.toArray[j / k]! = l[j / k] := by simp [hi]
  rw [hx]
  constructor
  · rw [h.cellAt rfl j (by rw [hl]; exact hj')]
    have hv : (enc l[j / k])[j % k]? = some (enc l[j / k])[j % k]! := by
      have hmm : j % k < (enc l[j / k]).length := by rw [hk]; exact hm
      simp [hmm]
    have := enc_get (fun x _ => hk x) hi hv
    rwa [he] at this
  · rcases h.2 with ⟨h2, _⟩ | ⟨g', cap', cur, fr, h3, h4, h5, h6, h7, h8, h9, h10⟩
    · cases h2
    · injection h3 with e1 e2 e3
      injection e1 with e1
      injection e1 with e1
      subst e1 e3
      have hcl : j < cur.length := by
        rw [h9]
        have : l.length * k ≤ cap * k := Nat.mul_le_mul_right _ (by omega)
        omega
      simp only [World.frozen?, h5]
      exact h6 j hcl
theorem own_rowK {w : World} {B g n cap : Nat} {e : TypeId} {l : List α} (hk : ∀ x, (enc x).length = k) (h1 : ∀ x, ∀ v ∈ enc x, v.oneCell' = true) (h : Own w B e k (.slice (some ⟨g, 0, none⟩) n cap) n (l.flatMap enc)) (hl : n = l.length) : RowK enc k w g 0 l.toArray :=
  ⟨hk, h1, own_holdsK hk h hl, (h.lt g rfl).2⟩
theorem heap_grow_at {w : World} {os : Array Obj} {b : Nat} (h : b < w.heap.size) : (grow w os).heap[b]? = w.heap[b]? := by
  show (w.heap ++ os)[b]? = _
  rw [Array.getElem?_append_left h]
theorem heap_putRow_other {w : World} {F : Array Value} {g b : Nat} (h : b ≠ g) : (putRow id w g 0 F).heap[b]? = w.heap[b]? := by
  unfold putRow mapBlock
  simp only [Array.getElem?_modify]
  rw [if_neg (fun e => h e.symm)]
theorem swk_below {w W : World} {g : Nat} {d : Array α} (h : SWK enc k w g 0 d W) {B : Nat} (hg : B ≤ g) (hB : B ≤ w.heap.size) : Below B w W := by
  obtain ⟨n, os, rfl⟩ := h
  unfold sortWorldK
  have h1 : Below B w (putRowK enc k (Sort.ahead w n) g 0 d) := ⟨rfl, rfl, rfl, by rw [size_putRowK]; exact Nat.le_refl _, fun b hb => heap_putRow_other (w := Sort.ahead w n) (by omega)⟩
  exact below_grow h1 (by rw [size_putRowK]; exact hB) os
theorem swk_block {w W : World} {g : Nat} {d : Array α} (h : SWK enc k w g 0 d W) {cur : List Value} {e : TypeId} {fr : Nat × Nat} (hg : w.heap[g]? = some (.cells cur.toArray e fr)) :
    W.heap[g]? = some (.cells (putCells id 0 (flatK enc k d) cur.toArray) e fr) := by
  obtain ⟨n, os, rfl⟩ := h
  unfold sortWorldK
  have hlt : g < w.heap.size := (Array.getElem?_eq_some_iff.1 hg).1
  rw [heap_grow_at (by rw [size_putRowK]; exact hlt)]
  unfold putRowK putRow mapBlock
  simp only [Array.getElem?_modify, if_true]
  show (w.heap[g]?).map _ = _
  rw [hg]
  rfl
theorem flatK_list (hk : ∀ x, (enc x).length = k) (d : Array α) : (flatK enc k d).toList = d.toList.flatMap enc := by
  have hl : ∀ x ∈ d.toList, (enc x).length = k := fun x _ => hk x
  apply List.ext_getElem?
  intro j
  by_cases hj : j < d.size * k
  · have hk0 : 0 < k := by
      rcases Nat.eq_zero_or_pos k with h | h
      · subst h; simp at hj
      · exact h
    have hi : j / k < d.toList.length := by rw [Array.length_toList]; exact (Nat.div_lt_iff_lt_mul hk0).2 hj
    have hm : j % k < k := Nat.mod_lt _ hk0
    have he : j / k * k + j % k = j := by rw [Nat.mul_comm]; exact Nat.div_add_mod j k
    have hmm : j % k < (enc d.toList[j / k]).length := by rw [hk]; exact hm
    have h1 := enc_get hl hi (j := j % k) (v := (enc d.toList[j / k])[j % k]) (List.getElem?_eq_getElem hmm)
    rw [he] at h1
    rw [h1]
    have h2 := get_flatK enc k d j hj
    rw [Array.getElem?_toList, Array.getElem?_eq_getElem (by simpa using hj)]
    rw [getElem!_pos _ j (by simpa using hj)] at h2
    rw [h2]
    have h3 : d[j / k]! = d.toList[j / k] := by
      have : j / k < d.size := by simpa using hi
      simp [this]
    rw [h3, getElem!_pos (enc d.toList[j / k]) (j % k) hmm]
  · rw [List.getElem?_eq_none (by simp; omega), List.getElem?_eq_none (by rw [enc_len hl, Array.length_toList]; omega)]
/-- .. and back -/
theorem swk_own {w W : World} {B g n cap : Nat} {e : TypeId} {xs : List Value} {d : Array α} (hk : ∀ x, (enc x).length = k) (h : Own w B e k (.slice (some ⟨g, 0, none⟩) n cap) n xs) (hS : SWK enc k w g 0 d W) (hd : d.size = n) :
    Own W B e k (.slice (some ⟨g, 0, none⟩) n cap) n (d.toList.flatMap enc) := by
  have hl : ∀ x ∈ d.toList, (enc x).length = k := fun x _ => hk x
  refine ⟨by rw [enc_len hl, Array.length_toList, hd], .inr ?_⟩
  rcases h.2 with ⟨h2, _⟩ | ⟨g', cap', cur, fr, h3, h4, h5, h6, h7, h8, h9, h10⟩
  · cases h2
  · injection h3 with e1 e2 e3
    injection e1 with e1
    injection e1 with e1
    subst e1 e3
    have hb := swk_block hS h5
    have hlen : (putCells id 0 (flatK enc k d) cur.toArray).toList.length = cur.length := by simp [putCells]
    refine ⟨g, cap, (putCells id 0 (flatK enc k d) cur.toArray).toList, fr, rfl, h4, by rw [Array.toArray_toList]; exact hb, fun i hi => h6 i (by omega), h7, h8, by rw [hlen, h9], ?_⟩
    rw [← flatK_list hk]
    apply List.ext_getElem?
    intro j
    have hc : n * k ≤ cur.length := by rw [h9]; exact Nat.mul_le_mul_right _ h7
    rw [List.getElem?_take]
    by_cases hj : j < n * k
    · rw [if_pos hj, Array.getElem?_toList, Array.getElem?_toList]
      unfold putCells
      rw [Array.getElem?_mapIdx]
      have hjc : j < cur.toArray.size := by simp; omega
      have hjd : j < d.size * k := by rw [hd]; exact hj
      have hjf : j < (flatK enc k d).size := by rw [size_flatK]; exact hjd
      rw [Array.getElem?_eq_getElem hjc, Array.getElem?_eq_getElem hjf, Option.map_some, if_pos ⟨by omega, by omega⟩, Nat.sub_zero, getElem!_pos _ j hjf]
      rfl
    · rw [if_neg hj, List.getElem?_eq_none]
      simp [hd]; omega
end
end Go.Proofs.YtdfeiajdmmlllaaDoor
