/- scram at the example. -/
import Derived.Test.YtpbgfifojfakhaaGreatDoorU2
namespace Go.Proofs.YtpbgfifojfakhaaGreatDoor
open Go.RowKit
theorem valid_ann (w : World) (G : NameG w) : Calls Tryz.prog 82 #[.string ⟨#[97, 110, 110]⟩] w fun e w' => e = .returned (.bool true) ∧ Ext w w' := valid_plain [97, 110, 110] ⟨by decide, by decide⟩ w G
set_option maxRecDepth 100000 in
set_option maxHeartbeats 1000000 in
theorem value_ann (w : World) (G : NameG w) : Calls Tryz.prog 52 #[.string ⟨#[97, 110, 110]⟩] w fun e w' => e = .returned (.bool true) ∧ Ext w w' := by
  go_enter Tryz.func52, Tryz.ntmps52
  go_wp2_with (go_at_call 82; refine (valid_ann _ G).mono ?_; rintro e w1 ⟨rfl, hx1⟩)
  go_rounds 4
  go_ret
  exact ⟨rfl, hx1⟩
set_option maxRecDepth 100000 in
set_option maxHeartbeats 1000000 in
theorem nonce_abc (w : World) : Calls Tryz.prog 27 #[.string ⟨#[97, 98, 99]⟩] w fun e w' => e = .returned (.bool true) ∧ w = w' := by
  go_enter Tryz.func27, Tryz.ntmps27
  go_wp2
  go_rounds 4
  go_ret
  exact ⟨rfl, rfl⟩
end Go.Proofs.YtpbgfifojfakhaaGreatDoor
