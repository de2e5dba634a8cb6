/- Layer 2's words: a word turned right, and a block's schedule: what the program's functions compute. -/
import Derived.Test.YtdfeiajdmmlllaaDoorLib
import Derived.Test.YtdfeiajdmmlllaaDoorSha
namespace Go.Proofs.YtdfeiajdmmlllaaDoor
open Go.RowKit

theorem rotAmt (n : Nat) (h0 : 0 < n) (h : n < 32) : bits BinOp.and IntKind.u64 (IntKind.u64.wrap (-(n : Int))) 31 = ((32 - n : Nat) : Int) := by
  have : ∀ n : Fin 32, 0 < n.val → bits BinOp.and IntKind.u64 (IntKind.u64.wrap (-(n.val : Int))) 31 = ((32 - n.val : Nat) : Int) := by decide +kernel
  exact this ⟨n, h⟩ h0

theorem rot_any (x n : Nat) (hx : x < 4294967296) (h0 : 0 < n) (h : n < 32) (w : World) :
    Calls Tryd.prog 80 #[.int .u32 x, .int .i64 (-n)] w fun e w' => e = .returned (.int .u32 (Sha.rotr x n)) ∧ w = w' := by
  have H := rotAmt n h0 h
  obtain ⟨m, hm, hm1, hm2, hm3⟩ : ∃ m : Nat, m = 32 - n ∧ 0 < m ∧ m < 32 ∧ n = 32 - m := ⟨32 - n, rfl, by omega, by omega, by omega⟩
  rw [← hm] at H
  have hn : (32 : Int) - (m : Int) = (n : Int) := by omega
  have e1 : ∀ w, Sem.run Tryd.prog (Op.shift BinOp.shl IntKind.u32 (x : Int) IntKind.u64 (m : Int)) w = .ok (.int .u32 ((x * 2 ^ m % 4294967296 : Nat) : Int)) w := by
    intro w
    rw [shift_shl_u32 _ _ _ (by omega) (by omega), Int.toNat_natCast, IntKind.wrap_u32']
    simp
  have e2 : ∀ w, Sem.run Tryd.prog (Op.shift BinOp.shr IntKind.u32 (x : Int) IntKind.u64 (n : Int)) w = .ok (.int .u32 ((x / 2 ^ n : Nat) : Int)) w := by
    intro w
    rw [shift_shr_u32 _ _ _ (by omega) (by omega), Int.toNat_natCast]
    simp
  have e3 : bits .or .u32 ((x * 2 ^ m % 4294967296 : Nat) : Int) ((x / 2 ^ n : Nat) : Int) = (Sha.rotr x n : Nat) := by
    rw [u32_or_nat _ _ (Nat.mod_lt _ (by omega)) (Nat.lt_of_le_of_lt (Nat.div_le_self _ _) hx), Sha.rotr, hm]
  clear hm hm3
  go_enter Tryd.func80, Tryd.ntmps80
  go_wp2
  go_ret
  exact ⟨by rw [← e3]; simp, rfl⟩

theorem turned_any (x : Nat) (ns : List Nat) (b c : Nat) (w : World) (hx : x < 4294967296) (hns : ∀ n ∈ ns, 0 < n ∧ n < 32) (hl : ns.length < 100)
    (hc : ∀ i (h : i < ns.length), w.cell? ⟨b, i, none⟩ = some (.int .i64 ns[i])) :
    Calls Tryd.prog 76 #[.int .u32 x, .slice (some ⟨b, 0, none⟩) ns.length c] w fun e w' => e = .returned (.int .u32 (Sha.turned x ns)) ∧ w = w' := by
  go_enter Tryd.func76, Tryd.ntmps76
  go_wp2
  go_loop [4, 9] (fun t i => ∃ k : Nat, k ≤ ns.length ∧ i = .int .i64 k ∧ t = .int .u32 (Sha.turned x (ns.take k))) (fun _ i => ns.length - (intOf i).toNat)
  case atStart => exact ⟨0, Nat.zero_le _, rfl, rfl⟩
  case round =>
    obtain ⟨k, hk, rfl, rfl⟩ := hrel
    by_cases hlt : k < ns.length
    · have h1 := hns ns[k] (List.getElem_mem hlt)
      have hcell := hc k hlt
      clear hc hns
      have h2 := Sha.turned_lt x (ns.take k) hx
      have h3 := Sha.rotr_lt x ns[k] hx
      have HT := Lib.hid (take_snoc ns k hlt)
      go_wp2_with (go_at_call 80; refine (rot_any x ns[k] hx h1.1 h1.2 _).mono ?_; rintro e w' ⟨rfl, rfl⟩)
      go_round
      case rel => exact ⟨k + 1, by omega, by go_num, by rw [HT.out, Sha.turned_snoc, u32_xor_nat _ _ h2 h3]⟩
      case measure => simp [intOf]; omega
    · clear hc
      go_wp2
      go_ret
      exact ⟨by rw [List.take_of_length_le (by omega)]; rfl, rfl⟩
theorem turned_two (x n m : Nat) (n' m' : Int) (en : n' = n) (em : m' = m) (b c : Nat) (w : World) (hx : x < 4294967296) (hn : 0 < n ∧ n < 32) (hm : 0 < m ∧ m < 32)
    (h0 : w.cell? ⟨b, 0, none⟩ = some (.int .i64 n')) (h1 : w.cell? ⟨b, 1, none⟩ = some (.int .i64 m')) :
    Calls Tryd.prog 76 #[.int .u32 x, .slice (some ⟨b, 0, none⟩) 2 c] w fun e w' => e = .returned (.int .u32 (Sha.turned x [n, m])) ∧ w = w' :=
  turned_any x [n, m] b c w hx (by simp; omega) (by simp) (by
    subst en em
    intro i hi
    match i, hi with
    | 0, _ => exact h0
    | 1, _ => exact h1)
theorem turned_three (x n m k : Nat) (n' m' k' : Int) (en : n' = n) (em : m' = m) (ek : k' = k) (b c : Nat) (w : World) (hx : x < 4294967296) (hn : 0 < n ∧ n < 32) (hm : 0 < m ∧ m < 32) (hk : 0 < k ∧ k < 32)
    (h0 : w.cell? ⟨b, 0, none⟩ = some (.int .i64 n')) (h1 : w.cell? ⟨b, 1, none⟩ = some (.int .i64 m')) (h2 : w.cell? ⟨b, 2, none⟩ = some (.int .i64 k')) :
    Calls Tryd.prog 76 #[.int .u32 x, .slice (some ⟨b, 0, none⟩) 3 c] w fun e w' => e = .returned (.int .u32 (Sha.turned x [n, m, k])) ∧ w = w' :=
  turned_any x [n, m, k] b c w hx (by simp; omega) (by simp) (by
    subst en em ek
    intro i hi
    match i, hi with
    | 0, _ => exact h0
    | 1, _ => exact h1
    | 2, _ => exact h2)
theorem turned_17_19 (x b c : Nat) (w : World) (hx : x < 4294967296) (h0 : w.cell? ⟨b, 0, none⟩ = some (.int .i64 17)) (h1 : w.cell? ⟨b, 1, none⟩ = some (.int .i64 19)) :
    Calls Tryd.prog 76 #[.int .u32 x, .slice (some ⟨b, 0, none⟩) 2 c] w fun e w' => e = .returned (.int .u32 (Sha.turned x [17, 19])) ∧ w = w' :=
  turned_two x 17 19 17 19 rfl rfl b c w hx (by omega) (by omega) h0 h1
theorem turned_7_18 (x b c : Nat) (w : World) (hx : x < 4294967296) (h0 : w.cell? ⟨b, 0, none⟩ = some (.int .i64 7)) (h1 : w.cell? ⟨b, 1, none⟩ = some (.int .i64 18)) :
    Calls Tryd.prog 76 #[.int .u32 x, .slice (some ⟨b, 0, none⟩) 2 c] w fun e w' => e = .returned (.int .u32 (Sha.turned x [7, 18])) ∧ w = w' :=
  turned_two x 7 18 7 18 rfl rfl b c w hx (by omega) (by omega) h0 h1
theorem turned_6_11_25 (x b c : Nat) (w : World) (hx : x < 4294967296) (h0 : w.cell? ⟨b, 0, none⟩ = some (.int .i64 6)) (h1 : w.cell? ⟨b, 1, none⟩ = some (.int .i64 11)) (h2 : w.cell? ⟨b, 2, none⟩ = some (.int .i64 25)) :
    Calls Tryd.prog 76 #[.int .u32 x, .slice (some ⟨b, 0, none⟩) 3 c] w fun e w' => e = .returned (.int .u32 (Sha.turned x [6, 11, 25])) ∧ w = w' :=
  turned_three x 6 11 25 6 11 25 rfl rfl rfl b c w hx (by omega) (by omega) (by omega) h0 h1 h2
theorem turned_2_13_22 (x b c : Nat) (w : World) (hx : x < 4294967296) (h0 : w.cell? ⟨b, 0, none⟩ = some (.int .i64 2)) (h1 : w.cell? ⟨b, 1, none⟩ = some (.int .i64 13)) (h2 : w.cell? ⟨b, 2, none⟩ = some (.int .i64 22)) :
    Calls Tryd.prog 76 #[.int .u32 x, .slice (some ⟨b, 0, none⟩) 3 c] w fun e w' => e = .returned (.int .u32 (Sha.turned x [2, 13, 22])) ∧ w = w' :=
  turned_three x 2 13 22 2 13 22 rfl rfl rfl b c w hx (by omega) (by omega) (by omega) h0 h1 h2
end Go.Proofs.YtdfeiajdmmlllaaDoor
