/- Layer 26's law 'a nil guest, a nil box': for every text and all bytes the call returns true, and each argument reads behind it as it read before. Conditions: the listed package-level variables hold what the program's text lays (the card ties them); fmt isn't met. -/
import Derived.Test.YtpbgfifojfakhaaGreatDoorZ4
namespace Go.Proofs.YtpbgfifojfakhaaGreatDoor
open Go.ChangeShapes Go.WideShapes Go.ChangeAt Go.RowKit
theorem guestNil_holds : Rows.GuestNilSaid :=
  OpenClaim.holds_of_wide 3 Tryz.f3 rfl rfl rfl rfl rfl rfl rfl ⟨rfl, rfl, rfl, rfl, rfl⟩ rfl rfl rfl rfl rfl (by kernel_rfl) Tryz.func3 closed
    (of_decide_eq_true (by kernel_rfl)) (by unfold Func.isWrapper; first | (rw [if_pos (by decide +kernel)]; kernel_rfl) | (rw [if_neg (by decide +kernel)]; exact ⟨rfl, rfl⟩))
    (fun os started H enc _ => lifted os started H enc)
theorem guestNil_card : Rows.GuestNilCardSaid :=
  Claim7.holds_tied_plain_at .later [] [.data, .data, .data, .data, .sentinel, .sentinel, .data, .data, .widerDeep, .widerDeep, .widerDeep, .data, .pinned] true Rows.guestNilCard.stood.harness true
    guestNil_holds (fun _ h => by cases h) (by kernel_rfl) (fun _ h => by cases h) guestNil_row_tie rfl ⟨rfl, rfl⟩ (by kernel_rfl) rfl
    (fun f fn hf hfn => by
      obtain rfl : f = 3 := Option.some.inj ((show Tryz.prog.funcNamed "ostiary/ostiarylaw26.GuestNil" = some 3 by kernel_rfl).symm.trans hf) |>.symm
      obtain rfl : fn = Tryz.f3 := (Option.some.inj (Tryz.func3.symm.trans hfn)).symm
      exact ⟨by kernel_rfl, fun j t ht => by
        rw [Tryz.params3] at ht
        have hm : t ∈ [9, 22] := by simpa using Array.mem_of_getElem? ht
        have hall : ([9, 22].all fun u => !Tryz.prog.wantsStandIn u) = true := by kernel_rfl
        exact (show Tryz.prog.wantsStandIn t = false by simpa using List.all_eq_true.1 hall t hm)⟩)
    (by kernel_rfl)
#print axioms guestNil_card
end Go.Proofs.YtpbgfifojfakhaaGreatDoor
