/- The reference's word. -/
import Derived.Test.YtmineipjnllopaaB5
import Derived.Deep.QuietTactic
import Derived.BigQuiet
namespace Go.Proofs.Ytmineipjnllopaa
open Go.RowKit
set_option linter.unusedVariables false

set_option maxHeartbeats 4000000 in
set_option maxRecDepth 100000 in
theorem word_ok (g o cp : Nat) (b0 b1 b2 b3 : Int) (w : World) (h0 : Byte b0) (h1 : Byte b1) (h2 : Byte b2) (h3 : Byte b3)
    (c0 : w.cell? ⟨g, o, none⟩ = some (.int .u8 b0)) (c1 : w.cell? ⟨g, o + 1, none⟩ = some (.int .u8 b1)) (c2 : w.cell? ⟨g, o + 2, none⟩ = some (.int .u8 b2)) (c3 : w.cell? ⟨g, o + 3, none⟩ = some (.int .u8 b3)) :
    Calls Try.prog 18 #[.slice (some ⟨g, o, none⟩) 4 cp] w fun e w' => e = .returned (.int .u32 (lit4 b0 b1 b2 b3)) ∧ ∃ n, w' = w.drewN n := by
  unfold Byte at h0 h1 h2 h3
  obtain ⟨h00, h01⟩ := h0
  obtain ⟨h10, h11⟩ := h1
  obtain ⟨h20, h21⟩ := h2
  obtain ⟨h30, h31⟩ := h3
  have m1 : IntKind.u32.wrap b0 = b0 := IntWalk.u32_in _ (by omega)
  have m2 : IntKind.u32.wrap b1 = b1 := IntWalk.u32_in _ (by omega)
  have m3 : IntKind.u32.wrap b2 = b2 := IntWalk.u32_in _ (by omega)
  have m4 : IntKind.u32.wrap b3 = b3 := IntWalk.u32_in _ (by omega)
  have m5 : IntKind.u32.wrap (b1 * 256) = b1 * 256 := IntWalk.u32_in _ (by omega)
  have m6 : IntKind.u32.wrap (b2 * 65536) = b2 * 65536 := IntWalk.u32_in _ (by omega)
  have m7 : IntKind.u32.wrap (b3 * 16777216) = b3 * 16777216 := IntWalk.u32_in _ (by omega)
  have m8 : IntKind.u32.wrap (b0 + b1 * 256) = b0 + b1 * 256 := IntWalk.u32_in _ (by omega)
  have m9 : IntKind.u32.wrap (b0 + b1 * 256 + b2 * 65536) = b0 + b1 * 256 + b2 * 65536 := IntWalk.u32_in _ (by omega)
  have m10 : IntKind.u32.wrap (b0 + b1 * 256 + b2 * 65536 + b3 * 16777216) = b0 + b1 * 256 + b2 * 65536 + b3 * 16777216 := IntWalk.u32_in _ (by omega)
  go_enter Try.func18, Try.ntmps18
  go_wp2
  go_quiet (fail)
  go_wp2
  go_ret
  exact ⟨rfl, _, rfl⟩
end Go.Proofs.Ytmineipjnllopaa
