/- Layer 26's law 'a nil guest, a nil box': for every text and every bytes the call returns true, and each argument reads behind it as it read before. Conditions: the listed package-level variables (the tables of package name, sha and Go's library) hold what the program's text lays; the card ties them. -/
import Derived.Test.YtpbgfifojfakhaaGreatDoorZ1
import Derived.Test.YtpbgfifojfakhaaGreatDoorCards
import Derived.Test.YtpbgfifojfakhaaGreatDoorTie
import Derived.Lay
namespace Go.Proofs.YtpbgfifojfakhaaGreatDoor
open Go.ChangeShapes Go.WideShapes Go.ChangeAt Go.RowKit
open Go.ChangeMaps (open_string shut_string)
theorem own : ownKnob Tryz.prog.godebug = none := by kernel_rfl
theorem laidOut : laidOutB Tryz.prog = true := by kernel_rfl
/-- A start that fits: the listed variables hold what is listed. -/
noncomputable def startW (os : Os) : World := World.laidAll Tryz.prog os Rows.guestNilRow.laid
theorem fits1' (os : Os) : (World.holding Tryz.prog os ⟨#[], #[], []⟩).layFits Tryz.prog Rows.guestNilRow.laid [] = true := by kernel_rfl
theorem ifaces1 (os : Os) : (World.holding Tryz.prog os ⟨#[], #[], []⟩).layIfaces Tryz.prog Rows.guestNilRow.laid (World.laidAll Tryz.prog os Rows.guestNilRow.laid) = true := by kernel_rfl
theorem start_met (os : Os) (args : Array Value) : laidMetH Tryz.prog Rows.guestNilRow.laid ((startW os).forCall (fun _ _ => 0) ⟨#[], args, []⟩).memory := by
  rw [MakeChecks.laidMetH_plain _ _ _ (by kernel_rfl)]
  exact laidMet_laidAll args (fits1' os) (ifaces1 os)
theorem start_shaped (os : Os) (args : Array Value) : ((startW os).forCall (fun _ _ => 0) ⟨#[], args, []⟩).Shaped Tryz.prog := World.shaped_of_RefB (by kernel_rfl) (by kernel_rfl)
end Go.Proofs.YtpbgfifojfakhaaGreatDoor
