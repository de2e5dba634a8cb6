/- Layer 14: May at a nil sky; what May answers, in plain Lean. -/
import Derived.Test.YtcpnlojcmlldpaaSkyF
namespace Go.Proofs.Ytcpnlojcmlldpaa
open Go.RowKit Go.Maps Go.Sort

/-- whether a cloud tells of a key at a time -/
def tells (key : List UInt8) (now : Int) (c : Cloud) : Bool := decide (c.t ≤ now) && decide (now ≤ c.t + 40) && Hz.has c.h key
/-- the nodes, rising, that may have a key -/
def mayS (f : Clouds) (key : List UInt8) (now : Int) : List Int := (keysOf f).filter fun n => match f n with
  | some c => tells key now c
  | none => false
theorem nil_may (key : List UInt8) (hk : key.length = 32) (now : Int) (w : World) : Calls Try.prog 19 #[.pointer none, hzV key, .int .i64 now] w fun e w' => e = .returned (.slice none 0 0) ∧ Below w.heap.size w w' := by
  have hik : (Try.prog.info? 23).map (·.size) = some (u8s key).toArray.size := by
    rw [List.size_toArray, u8s_len, hk]
    kernel_rfl
  go_enter Try.func19, Try.ntmps19
  go_wp2_with fail
  go_ret
  exact ⟨rfl, (Below.refl _ _).alloc (Nat.le_refl _) _⟩
end Go.Proofs.Ytcpnlojcmlldpaa
