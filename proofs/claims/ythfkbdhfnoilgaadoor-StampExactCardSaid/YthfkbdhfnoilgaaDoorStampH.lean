/- Layer 2: Row, Less and Hex: what they compute. -/
import Derived.Test.YthfkbdhfnoilgaaDoorSap
import Derived.Lib.Bytealg
import Derived.Deep.RegionLaw
import Derived.Deep.QuietTactic
import Derived.BigQuiet
namespace Go.Proofs.YthfkbdhfnoilgaaDoor
open Go.RowKit

def sha1 (l : List UInt8) : List UInt8 := Sha.sha l
theorem sap_row_length (ss : List ByteArray) : (Sap.row (lists ss)).length ≤ 9 + 9 * ss.length + (flat ss).length := by
  have h1 := Sap.num_length ((lists ss).length : Int)
  have h2 := texts_length ss
  rw [Sap.row, List.length_append]
  omega
theorem one_str (w : World) (s : ByteArray) (p : Nat) (hp : w.heap.size ≠ p) : StrsAt (w.alloc (.cells #[.string s] 9)) (some ⟨w.heap.size, 0, none⟩) [s] p := fun _ =>
  ⟨_, rfl, hp, by simp, fun i hi => by
    have hi0 : i = 0 := by simpa using hi
    subst hi0
    simp [Addr.add, World.cell?, World.alloc, -World.alloc_eq]⟩

theorem row_any (A : Option Addr) (c : Nat) (ss : List ByteArray) (w : World) (hs : StrsAt w A ss w.heap.size) (hlen : (flat ss).length < 1099511627776) (hn : ss.length < 1099511627776)
    (hw : Tab w 0 (u32s Sha.words)) :
    Calls Tryd.prog 13 #[.slice A ss.length c] w fun e w' => e = .returned (dgV (Sha.sha (Sap.row (lists ss)))) ∧ Below w.heap.size w w' := by
  have HS := Lib.hid hs
  have HW := Lib.hid hw
  clear hs hw
  have hD : At (w.alloc (.cells #[.int .u8 0, .int .u8 0, .int .u8 0, .int .u8 0, .int .u8 0, .int .u8 0, .int .u8 0, .int .u8 0, .int .u8 0, .int .u8 0, .int .u8 0, .int .u8 0, .int .u8 0, .int .u8 0, .int .u8 0, .int .u8 0, .int .u8 0, .int .u8 0, .int .u8 0, .int .u8 0, .int .u8 0, .int .u8 0, .int .u8 0, .int .u8 0, .int .u8 0, .int .u8 0, .int .u8 0, .int .u8 0, .int .u8 0, .int .u8 0, .int .u8 0, .int .u8 0] 27)) w.heap.size 27 (List.replicate 32 (.int .u8 0)) := At.newA _ _ rfl
  have hB1 : Below w.heap.size w (w.alloc (.cells #[.int .u8 0, .int .u8 0, .int .u8 0, .int .u8 0, .int .u8 0, .int .u8 0, .int .u8 0, .int .u8 0, .int .u8 0, .int .u8 0, .int .u8 0, .int .u8 0, .int .u8 0, .int .u8 0, .int .u8 0, .int .u8 0, .int .u8 0, .int .u8 0, .int .u8 0, .int .u8 0, .int .u8 0, .int .u8 0, .int .u8 0, .int .u8 0, .int .u8 0, .int .u8 0, .int .u8 0, .int .u8 0, .int .u8 0, .int .u8 0, .int .u8 0, .int .u8 0] 27)) := (Below.refl _ _).alloc (Nat.le_refl _) _
  go_enter Tryd.func13, Tryd.ntmps13
  go_wp2_with fail
  generalize w.alloc (.cells #[.int .u8 0, .int .u8 0, .int .u8 0, .int .u8 0, .int .u8 0, .int .u8 0, .int .u8 0, .int .u8 0, .int .u8 0, .int .u8 0, .int .u8 0, .int .u8 0, .int .u8 0, .int .u8 0, .int .u8 0, .int .u8 0, .int .u8 0, .int .u8 0, .int .u8 0, .int .u8 0, .int .u8 0, .int .u8 0, .int .u8 0, .int .u8 0, .int .u8 0, .int .u8 0, .int .u8 0, .int .u8 0, .int .u8 0, .int .u8 0, .int .u8 0, .int .u8 0] 27) = w1 at hD hB1 ⊢
  have hs1 : StrsAt w1 A ss w1.heap.size := strs_keep HS.out hB1 hB1.size
  refine (saprow_any A c ss _ hs1 hlen hn).mono ?_
  rintro e w2 ⟨rfl, hb2⟩
  have hB2 := hB1.trans (hb2.mono hB1.size)
  have hD2 := hD.below hb2 hD.lt
  obtain ⟨rb, hrb⟩ : ∃ rb, rb = Sap.row (lists ss) := ⟨_, rfl⟩
  have hrl := sap_row_length ss
  rw [← hrb] at hrl ⊢
  have HRB := Lib.hid hrb
  clear hrb hD hB1 hs1 hb2
  go_wp2_with fail
  have hB3 := hB2.alloc hB2.size (.cells #[.string ⟨rb.toArray⟩] 9)
  have hD3 := hD2.alloc (.cells #[.string ⟨rb.toArray⟩] 9)
  have hst := one_str w2 ⟨rb.toArray⟩ (w2.alloc (.cells #[.string ⟨rb.toArray⟩] 9)).heap.size (by simp)
  have hw3 : Tab (w2.alloc (.cells #[.string ⟨rb.toArray⟩] 9)) 0 (u32s Sha.words) := HW.out.below hB3 HW.out.lt
  have hfl : flat [⟨rb.toArray⟩] = rb := by simp [flat]
  have hofc := of_any (some ⟨w2.heap.size, 0, none⟩) 1 [⟨rb.toArray⟩] _ hst (by rw [hfl]; omega) (by simp) hw3
  rw [hfl] at hofc
  refine hofc.mono ?_
  rintro e w4 ⟨rfl, hb4⟩
  have hB4 := hB3.trans (hb4.mono hB3.size)
  have hD4 := hD3.below hb4 hD3.lt
  have HI := Lib.hid (show (Tryd.prog.info? 27).map (·.size) = some (u8s (Sha.sha rb)).length by rw [u8s_length, Sha.sha, digest_length]; kernel_rfl)
  have HB := Lib.hid hB4
  clear hB3 hD3 hb4 hB4 hw3 hB2 hD2 hst hofc hfl
  unfold dgV
  go_wp2_with (with_reducible refine wpList_storeAll rfl 27 (.tmp 2) (.tmp 6) rfl _ rfl _ _ _ hD4 rfl ?_ HI.out (u8s_oneCell _) ?_; (focus (rw [u8s_length, Sha.sha, digest_length, List.length_replicate])); intro w5 hat5 hg5 hs5)
  refine ret_cellAll rfl rfl w.heap.size _ _ _ rfl hat5 Tryd.underlying27 rfl HI.out ⟨by rw [HRB.out]; rfl, ?_⟩
  exact Below.ofGrown HB.out hg5 HB.out.size (Nat.le_refl _)

theorem run_load_bytes {P : Program} (w : World) : ∀ (l : List UInt8) (a : Addr) (acc : ByteArray), (∀ j (h : j < l.length), w.cell? (a.add j) = some (.int .u8 (l[j].toNat : Int))) →
    (Extern.Bytes.loadBytes a l.length acc).run P w = .ok ⟨acc.data ++ l.toArray⟩ w
  | [], a, acc, _ => by simp [Extern.Bytes.loadBytes]
  | x :: l, a, acc, h => by
    have h0 := h 0 (by simp)
    have ha0 : a.add 0 = a := by simp [Addr.add]
    rw [ha0] at h0
    have ih := run_load_bytes (P := P) w l (a.add 1) (acc.push x) (fun j hj => by
      have := h (j + 1) (by simp; omega)
      have e : a.add (j + 1) = (a.add 1).add j := by
        unfold Addr.add
        by_cases hj0 : j = 0
        · simp [hj0]
        · simp [hj0, Nat.add_assoc, Nat.add_comm 1 j]
      rw [← e]
      simpa using this)
    simp only [List.length_cons, Extern.Bytes.loadBytes, Sem.run_bind, run_load, h0, Result.andThen_ok]
    simp
    rw [ih]
    simp [ByteArray.push]
theorem run_compare_slices {P : Program} (w : World) (A B : Addr) (ca cb : Nat) (la lb : List UInt8) (hA : ∀ j (h : j < la.length), w.cell? (A.add j) = some (.int .u8 (la[j].toNat : Int)))
    (hB : ∀ j (h : j < lb.length), w.cell? (B.add j) = some (.int .u8 (lb[j].toNat : Int))) :
    (Extern.BytealgCompare.compare #[.slice (some A) la.length ca, .slice (some B) lb.length cb]).run P w = .ok (.int .i64 (Lib.compareBytes la lb)) w := by
  change Sem.run P (do pure (goInt (Extern.BytealgCompare.cmp (← Extern.Bytes.bytesOf (.slice (some A) la.length ca)) (← Extern.Bytes.bytesOf (.slice (some B) lb.length cb))))) w = _
  simp only [Extern.Bytes.bytesOf, Sem.run_bind, run_load_bytes w la A _ hA, run_load_bytes w lb B _ hB, Sem.run_pure, Result.andThen_ok]
  rw [Lib.cmp_eq]
  simp [goInt]
set_option maxHeartbeats 1000000 in
theorem compare_any (w : World) (A B : Addr) (ca cb na nb : Nat) (la lb : List UInt8) (hna : la.length = na) (hnb : lb.length = nb) (hA : ∀ j (h : j < la.length), w.cell? (A.add j) = some (.int .u8 (la[j].toNat : Int)))
    (hB : ∀ j (h : j < lb.length), w.cell? (B.add j) = some (.int .u8 (lb[j].toNat : Int))) :
    Calls Tryd.prog 27 #[.slice (some A) na ca, .slice (some B) nb cb] w fun e w' => e = .returned (.int .i64 (Lib.compareBytes la lb)) ∧ w' = w := by
  have hr := run_compare_slices (P := Tryd.prog) w A B ca cb la lb hA hB
  rw [hna, hnb] at hr
  clear hA hB hna hnb
  go_enter Tryd.func27, Tryd.ntmps27
  go_wp2
  rw [run_callFunc_extern Tryd.func38 (by kernel_rfl) (by kernel_rfl) (by kernel_rfl) (e := Extern.BytealgCompare.compare) (by kernel_rfl)]
  rw [hr]
  simp only [Result.andThen]
  rw [Oper.upon_value]
  go_wp2
  go_ret
  exact ⟨rfl, rfl⟩
/-- whether one digest is below another one -/
def lessB (a b : List UInt8) : Bool := decide (Lib.compareBytes a b < 0)

set_option maxRecDepth 100000 in
set_option maxHeartbeats 1000000 in
theorem less_any (a b : List UInt8) (ha : a.length = 32) (hb : b.length = 32) (w : World) :
    Calls Tryd.prog 17 #[dgV a, dgV b] w fun e w' => e = .returned (.bool (lessB a b)) ∧ Below w.heap.size w w' := by
  have h1 : At (w.alloc (.cells (u8s a).toArray 27)) w.heap.size 27 (u8s a) := At.new w _ _
  have h2 : At ((w.alloc (.cells (u8s a).toArray 27)).alloc (.cells (u8s b).toArray 27)) (w.heap.size + 1) 27 (u8s b) := by
    have := At.new (w.alloc (.cells (u8s a).toArray 27)) 27 (u8s b)
    simpa using this
  have h1' := h1.alloc (.cells (u8s b).toArray 27)
  have hB : Below w.heap.size w ((w.alloc (.cells (u8s a).toArray 27)).alloc (.cells (u8s b).toArray 27)) := ((Below.refl _ _).alloc (Nat.le_refl _) _).alloc (by simp) _
  have e : ∀ (g j : Nat), (⟨g, 0, none⟩ : Addr).add j = ⟨g, j, none⟩ := by intro g j; unfold Addr.add; split <;> simp_all
  have hcm : ∀ W, At W w.heap.size 27 (u8s a) → At W (w.heap.size + 1) 27 (u8s b) →
      Calls Tryd.prog 27 #[.slice (some ⟨w.heap.size, 0, none⟩) 32 32, .slice (some ⟨w.heap.size + 1, 0, none⟩) 32 32] W fun e w' => e = .returned (.int .i64 (Lib.compareBytes a b)) ∧ w' = W := by
    intro W hx hy
    refine compare_any W _ _ 32 32 32 32 a b ha hb ?_ ?_
    · intro j hj; rw [e]; exact hx.cell' (by simp [u8s, hj])
    · intro j hj; rw [e]; exact hy.cell' (by simp [u8s, hj])
  have HC := Lib.hid hcm
  have H1 := Lib.hid h1'
  have H2 := Lib.hid h2
  have HB := Lib.hid hB
  clear hcm h1 h2 h1' hB e
  unfold dgV
  go_enter Tryd.func17, Tryd.ntmps17
  go_wp2_with fail
  generalize (w.alloc (.cells (u8s a).toArray 27)).alloc (.cells (u8s b).toArray 27) = w2 at H1 H2 HB ⊢
  go_quiet ((go_at_call 27; exact Calls.quiet_of_same (HC.out _ H1.out H2.out)))
  go_wp2_with fail
  go_ret
  exact ⟨rfl, ⟨HB.out.os, HB.out.tape, HB.out.output, HB.out.size, HB.out.block⟩⟩
end Go.Proofs.YthfkbdhfnoilgaaDoor
