/- Layer 26's law 'a nil guest, a nil box': for every text and all bytes the call returns true, and each argument reads behind it as it read before. Conditions: the listed package-level variables hold what the program's text lays (the card ties them); fmt isn't met. -/
import Derived.Test.YtpbgfifojfakhaaGreatDoorZ3
namespace Go.Proofs.YtpbgfifojfakhaaGreatDoor
open Go.ChangeShapes Go.WideShapes Go.ChangeAt Go.RowKit
theorem and_mk {a b : Bool} (ha : a = true) (hb : b = true) : (a && b) = true := by rw [ha, hb]; rfl
set_option maxRecDepth 100000 in
set_option maxHeartbeats 40000000 in
theorem closed : joinedFacts Tryz.pinned.checked.prog 3 Tryz.f3 Rows.guestNilSpec Rows.guestNilRow = true := by
  unfold joinedFacts
  repeat' (with_reducible refine and_mk ?_ ?_)
  all_goals (as_aux_lemma => kernel_rfl)
end Go.Proofs.YtpbgfifojfakhaaGreatDoor
