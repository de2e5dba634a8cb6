/- Layer 14: Drop. -/
import Derived.Maps.OwnSet
import Derived.Test.YtcpnlojcmlldpaaSkyB
namespace Go.Proofs.Ytcpnlojcmlldpaa
open Go.RowKit Go.Maps

set_option maxRecDepth 100000 in
set_option maxHeartbeats 400000 in
theorem sky_drop {H : Type} {w : World} {p b N : Nat} {f : Clouds} (hs : SkyAt H w p b N f) (node : Int) (h64 : -9223372036854775808 ≤ node ∧ node ≤ 9223372036854775807) :
    Calls Try.prog 16 #[.pointer (some ⟨p, 0, none⟩), .int .i64 node] w fun e w' => e = .returned (.tuple #[]) ∧ SkyAt H w' p b N (Sk.del f node) ∧ w.grownBy w' (some b) := by
  have c0 := hs.1.cell' (i := 0) (v := .map (some b)) rfl
  obtain ⟨w', hrun, hown, hturn⟩ := hs.2.1.drop keyed_int Try.underlying60 (key_int h64.1 h64.2) 0
  rw [Sk.del_mapD] at hown
  have hg := hturn.grown
  have HG := Lib.hid hg
  have HF := Lib.hid (show SkyAt H w' p b N (Sk.del f node) from ⟨hs.1.grown hg (by intro e; injection e with e; exact hs.2.2.2 e), hown, ⟨Sk.sane_del hs.2.2.1.1 node, fun k c hk => by
    unfold Sk.del at hk
    split at hk
    · cases hk
    · exact hs.2.2.1.2 k c hk⟩, hs.2.2.2⟩)
  clear hs h64 hown hturn hg
  go_enter Try.func16, Try.ntmps16
  go_wp2_with fail
  go_end0
  exact ⟨rfl, HF.out, HG.out⟩
end Go.Proofs.Ytcpnlojcmlldpaa
