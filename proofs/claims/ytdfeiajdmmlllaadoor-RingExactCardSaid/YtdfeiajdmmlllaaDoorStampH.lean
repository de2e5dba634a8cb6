/- Layer 2: Row, Less and Hex: what they compute. -/
import Derived.Test.YtdfeiajdmmlllaaDoorSap
import Derived.Lib.Bytealg
import Derived.Deep.RegionLaw
import Derived.Deep.QuietTactic
import Derived.BigQuiet
namespace Go.Proofs.YtdfeiajdmmlllaaDoor
open Go.RowKit

def sha1 (l : List UInt8) : List UInt8 := Sha.sha l
theorem sap_row_length (ss : List ByteArray) : (Sap.row (lists ss)).length ≤ 9 + 9 * ss.length + (flat ss).length := by
  have h1 := Sap.num_length ((lists ss).length : Int)
  have h2 := texts_length ss
  rw [Sap.row, List.length_append]
  omega
theorem one_str (w : World) (s : ByteArray) (p : Nat) (hp : w.heap.size ≠ p) : StrsAt (w.alloc (.cells #[.string s] 9)) (some ⟨w.heap.size, 0, none⟩) [s] p := fun _ =>
  ⟨_, rfl, hp, by simp, fun i hi => by
    have hi0 : i = 0 := by simpa using hi
    subst hi0
    simp [Addr.add, World.cell?, World.alloc, -World.alloc_eq]⟩
theorem row_any (A : Option Addr) (c : Nat) (ss : List ByteArray) (w : World) (hs : StrsAt w A ss w.heap.size) (hlen : (flat ss).length < 1099511627776) (hn : ss.length < 1099511627776)
    (hw : Tab w 0 (u32s Sha.words)) :
    Calls Tryd.prog 17 #[.slice A ss.length c] w fun e w' => e = .returned (dgV (Sha.sha (Sap.row (lists ss)))) ∧ Below w.heap.size w w' := by
  have HS := Lib.hid hs
  have HW := Lib.hid hw
  clear hs hw
  have hD : At (w.alloc (.cells #[.int .u8 0, .int .u8 0, .int .u8 0, .int .u8 0, .int .u8 0, .int .u8 0, .int .u8 0, .int .u8 0, .int .u8 0, .int .u8 0, .int .u8 0, .int .u8 0, .int .u8 0, .int .u8 0, .int .u8 0, .int .u8 0, .int .u8 0, .int .u8 0, .int .u8 0, .int .u8 0, .int .u8 0, .int .u8 0, .int .u8 0, .int .u8 0, .int .u8 0, .int .u8 0, .int .u8 0, .int .u8 0, .int .u8 0, .int .u8 0, .int .u8 0, .int .u8 0] 23)) w.heap.size 23 (List.replicate 32 (.int .u8 0)) := At.newA _ _ rfl
  have hB1 : Below w.heap.size w (w.alloc (.cells #[.int .u8 0, .int .u8 0, .int .u8 0, .int .u8 0, .int .u8 0, .int .u8 0, .int .u8 0, .int .u8 0, .int .u8 0, .int .u8 0, .int .u8 0, .int .u8 0, .int .u8 0, .int .u8 0, .int .u8 0, .int .u8 0, .int .u8 0, .int .u8 0, .int .u8 0, .int .u8 0, .int .u8 0, .int .u8 0, .int .u8 0, .int .u8 0, .int .u8 0, .int .u8 0, .int .u8 0, .int .u8 0, .int .u8 0, .int .u8 0, .int .u8 0, .int .u8 0] 23)) := (Below.refl _ _).alloc (Nat.le_refl _) _
  go_enter Tryd.func17, Tryd.ntmps17
  go_wp2_with fail
  generalize w.alloc (.cells #[.int .u8 0, .int .u8 0, .int .u8 0, .int .u8 0, .int .u8 0, .int .u8 0, .int .u8 0, .int .u8 0, .int .u8 0, .int .u8 0, .int .u8 0, .int .u8 0, .int .u8 0, .int .u8 0, .int .u8 0, .int .u8 0, .int .u8 0, .int .u8 0, .int .u8 0, .int .u8 0, .int .u8 0, .int .u8 0, .int .u8 0, .int .u8 0, .int .u8 0, .int .u8 0, .int .u8 0, .int .u8 0, .int .u8 0, .int .u8 0, .int .u8 0, .int .u8 0] 23) = w1 at hD hB1 ⊢
  have hs1 : StrsAt w1 A ss w1.heap.size := strs_keep HS.out hB1 hB1.size
  refine (saprow_any A c ss _ hs1 hlen hn).mono ?_
  rintro e w2 ⟨rfl, hb2⟩
  have hB2 := hB1.trans (hb2.mono hB1.size)
  have hD2 := hD.below hb2 hD.lt
  obtain ⟨rb, hrb⟩ : ∃ rb, rb = Sap.row (lists ss) := ⟨_, rfl⟩
  have hrl := sap_row_length ss
  rw [← hrb] at hrl ⊢
  have HRB := Lib.hid hrb
  clear hrb hD hB1 hs1 hb2
  go_wp2_with fail
  have hB3 := hB2.alloc hB2.size (.cells #[.string ⟨rb.toArray⟩] 9)
  have hD3 := hD2.alloc (.cells #[.string ⟨rb.toArray⟩] 9)
  have hst := one_str w2 ⟨rb.toArray⟩ (w2.alloc (.cells #[.string ⟨rb.toArray⟩] 9)).heap.size (by simp)
  have hw3 : Tab (w2.alloc (.cells #[.string ⟨rb.toArray⟩] 9)) 0 (u32s Sha.words) := HW.out.below hB3 HW.out.lt
  have hfl : flat [⟨rb.toArray⟩] = rb := by simp [flat]
  have hofc := of_any (some ⟨w2.heap.size, 0, none⟩) 1 [⟨rb.toArray⟩] _ hst (by rw [hfl]; omega) (by simp) hw3
  rw [hfl] at hofc
  refine hofc.mono ?_
  rintro e w4 ⟨rfl, hb4⟩
  have hB4 := hB3.trans (hb4.mono hB3.size)
  have hD4 := hD3.below hb4 hD3.lt
  have HI := Lib.hid (show (Tryd.prog.info? 23).map (·.size) = some (u8s (Sha.sha rb)).length by rw [u8s_length, Sha.sha, digest_length]; kernel_rfl)
  have HB := Lib.hid hB4
  clear hB3 hD3 hb4 hB4 hw3 hB2 hD2 hst hofc hfl
  unfold dgV
  go_wp2_with (with_reducible refine wpList_storeAll rfl 23 (.tmp 2) (.tmp 6) rfl _ rfl _ _ _ hD4 rfl ?_ HI.out (u8s_oneCell _) ?_; (focus (rw [u8s_length, Sha.sha, digest_length, List.length_replicate])); intro w5 hat5 hg5 hs5)
  refine ret_cellAll rfl rfl w.heap.size _ _ _ rfl hat5 Tryd.underlying23 rfl HI.out ⟨by rw [HRB.out]; rfl, ?_⟩
  exact Below.ofGrown HB.out hg5 HB.out.size (Nat.le_refl _)
/-- whether one digest is below another one -/
def lessB (a b : List UInt8) : Bool := decide (Lib.compareBytes a b < 0)
end Go.Proofs.YtdfeiajdmmlllaaDoor
