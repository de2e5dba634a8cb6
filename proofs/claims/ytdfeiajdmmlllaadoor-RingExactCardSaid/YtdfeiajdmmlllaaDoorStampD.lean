/- Layer 2: a state's bytes, a new press, its length: what the program's functions compute. -/
import Derived.Test.YtdfeiajdmmlllaaDoorStampC
namespace Go.Proofs.YtdfeiajdmmlllaaDoor
open Go.RowKit

theorem digest_get (s : Sha.St) (k : Nat) (hk : k < 32) : (Sha.digest s)[k]? = some (UInt8.ofNat (s.list.getD (k / 4) 0 / 2 ^ (24 - k % 4 * 8) % 256)) := by
  match k, hk with
  | 0, _ => rfl
  | 1, _ => rfl
  | 2, _ => rfl
  | 3, _ => rfl
  | 4, _ => rfl
  | 5, _ => rfl
  | 6, _ => rfl
  | 7, _ => rfl
  | 8, _ => rfl
  | 9, _ => rfl
  | 10, _ => rfl
  | 11, _ => rfl
  | 12, _ => rfl
  | 13, _ => rfl
  | 14, _ => rfl
  | 15, _ => rfl
  | 16, _ => rfl
  | 17, _ => rfl
  | 18, _ => rfl
  | 19, _ => rfl
  | 20, _ => rfl
  | 21, _ => rfl
  | 22, _ => rfl
  | 23, _ => rfl
  | 24, _ => rfl
  | 25, _ => rfl
  | 26, _ => rfl
  | 27, _ => rfl
  | 28, _ => rfl
  | 29, _ => rfl
  | 30, _ => rfl
  | 31, _ => rfl
  | n + 32, h => exact absurd h (by omega)
theorem digest_length (s : Sha.St) : (Sha.digest s).length = 32 := rfl
theorem u8s_length (l : List UInt8) : (u8s l).length = l.length := by simp [u8s]
theorem u8s_oneCell (l : List UInt8) : ∀ v ∈ u8s l, v.oneCell' = true := by
  intro v hv
  simp only [u8s, List.mem_map] at hv
  obtain ⟨n, _, rfl⟩ := hv
  rfl
def dgV (d : List UInt8) : Value := .agg (u8s d).toArray
/-- k bytes of a list, then zeros up to n -/
def filled (d : List UInt8) (k n : Nat) : List Value := u8s (d.take k) ++ List.replicate (n - k) (.int .u8 0)
theorem filled_length (d : List UInt8) (k n : Nat) (hk : k ≤ n) (hd : d.length = n) : (filled d k n).length = n := by
  simp [filled, u8s_length]; omega
theorem filled_set (d : List UInt8) (k n : Nat) (hk : k < n) (hd : d.length = n) (b : UInt8) (hb : d[k]? = some b) (v : Value) (hv : v = .int .u8 (b.toNat : Int)) : (filled d k n).set k v = filled d (k + 1) n := by
  subst hv
  have hlt : k < d.length := by omega
  have hb' : d[k] = b := by rw [List.getElem?_eq_getElem hlt] at hb; injection hb
  unfold filled
  rw [List.set_append_right _ _ (by rw [u8s_length, List.length_take]; omega), u8s_length, List.length_take, Nat.min_eq_left (by omega), Nat.sub_self, show n - k = (n - (k + 1)) + 1 from by omega, List.replicate_succ, List.set_cons_zero, take_snoc d k hlt, hb']
  simp [u8s]
theorem filled_all (d : List UInt8) (n : Nat) (hd : d.length = n) : filled d n n = u8s d := by
  simp [filled, ← hd]

set_option maxRecDepth 100000 in
set_option maxHeartbeats 4000000 in
theorem digest_any (st : Sha.St) (b : Nat) (t : TypeId) (more : List Value) (w : World) (hat : At w b t (stV st ++ more)) :
    Calls Tryd.prog 65 #[.pointer (some ⟨b, 0, none⟩)] w fun e w' => e = .returned (dgV (Sha.digest st)) ∧ Below w.heap.size w w' := by
  have HA := Lib.hid hat
  clear hat
  go_enter Tryd.func65, Tryd.ntmps65
  go_wp2_with fail
  go_loopw [4] (fun i wr => ∃ k : Nat, k ≤ 32 ∧ i = .int .i64 k ∧ At wr w.heap.size 23 (filled (Sha.digest st) k 32) ∧ Below w.heap.size w wr) (fun i _ => 32 - (intOf i).toNat)
  case atStart => exact ⟨0, by omega, rfl, At.newA _ _ rfl, (Below.refl _ _).alloc (Nat.le_refl _) _⟩
  case round =>
    obtain ⟨k, hk, rfl, ha, hb⟩ := hrel
    by_cases hlt : k < 32
    · have i1 : (0 : Int) ≤ (k : Int) := by omega
      have i2 : (k : Int) < 32 := by omega
      obtain ⟨x, hx⟩ : ∃ x, x = st.list.getD (k / 4) 0 := ⟨_, rfl⟩
      obtain ⟨y, hy⟩ : ∃ y, y = 24 - k % 4 * 8 := ⟨_, rfl⟩
      obtain ⟨q, hq⟩ : ∃ q, q = k / 4 := ⟨_, rfl⟩
      have hq2 : (k : Int) / 4 = (q : Int) := by omega
      have q1 : q < 8 := by omega
      have hcell : wr.cell? ⟨b, q, none⟩ = some (.int .u32 (x : Int)) := by
        refine (HA.out.below hb HA.out.lt).cell' ?_
        rw [List.getElem?_append_left (by simpa [stV_eq] using q1), hx, ← hq]
        exact u32s_getD st.list q (by simpa [Sha.St.list] using q1)
      have hy2 : (24 : Int) - (k : Int) % 4 * 8 = (y : Int) := by omega
      have hsh : ∀ w, (Op.shift .shr .u32 (x : Int) .i64 (y : Int)).run Tryd.prog w = .ok (.int .u32 ((x / 2 ^ y : Nat) : Int)) w := by
        intro w
        rw [shift_shr_u32 _ _ _ (by omega) (by omega), Int.toNat_natCast]
        simp
      have hd := ha.cell' (i := k) (v := .int .u8 0) (by
        unfold filled
        rw [List.getElem?_append_right (by rw [u8s_length, List.length_take, digest_length]; omega), u8s_length, List.length_take, digest_length, Nat.min_eq_left (by omega), Nat.sub_self, List.getElem?_replicate, if_pos (by omega)])
      have hf := ha.frozen k
      have HA2 := Lib.hid ha
      have HB2 := Lib.hid hb
      have HX := Lib.hid hx
      have HY := Lib.hid hy
      clear ha hb hx hy hq
      go_wp2_with fail
      go_roundw
      case rel =>
        refine ⟨k + 1, by omega, by go_num, ?_, HB2.out.setCell (Nat.le_refl _) _⟩
        have h := digest_get st k hlt
        rw [← HX.out, ← HY.out] at h
        rw [← filled_set _ k 32 hlt (digest_length st) _ h (.int .u8 ((x : Int) / 2 ^ y % 256)) ?_]
        · exact HA2.out.set k _
        · have : (UInt8.ofNat (x / 2 ^ y % 256)).toNat = x / 2 ^ y % 256 := by simp
          rw [this]
          simp
      case measure => simp [intOf]; omega
    · have hk32 : k = 32 := by omega
      rw [hk32, filled_all _ _ (digest_length st)] at ha
      have hl : (Tryd.prog.info? 23).map (·.size) = some (u8s (Sha.digest st)).length := by rw [u8s_length, digest_length]; kernel_rfl
      have HI := Lib.hid hl
      have HB2 := Lib.hid hb
      clear hl hb hk32
      go_wp2_with (first
        | (with_reducible refine wpList_loadAll rfl 23 (.tmp 2) rfl _ rfl _ _ _ ha Tryd.underlying23 rfl HI.out ?_)
        | (with_reducible refine wpList_storeAll rfl 23 (.tmp 2) (.tmp 22) rfl _ rfl _ _ _ ha rfl rfl HI.out (u8s_oneCell _) ?_; intro w3 hat3 hg3 hs3))
      refine ret_cellAll rfl rfl w.heap.size _ _ _ rfl hat3 Tryd.underlying23 rfl HI.out ⟨rfl, ?_⟩
      exact HB2.out.grown hg3 (Nat.le_of_lt ha.lt) (by intro k hk; injection hk; omega)

theorem new_any (w : World) : Calls Tryd.prog 41 #[] w fun e w' => ∃ p, e = .returned (.pointer (some ⟨p, 0, none⟩)) ∧ w.heap.size ≤ p ∧ At w' p 100 (stV Sha.begun ++ [.string ByteArray.empty, .int .i64 0]) ∧ Below w.heap.size w w' := by
  go_enter Tryd.func41, Tryd.ntmps41
  go_wp2_with fail
  refine (begun_any _).mono ?_
  rintro e w1 ⟨rfl, hb1⟩
  go_wp2_with fail
  go_ret
  exact ⟨w1.heap.size, rfl, hb1.size, At.newA _ _ rfl, hb1.alloc hb1.size _⟩
end Go.Proofs.YtdfeiajdmmlllaaDoor
