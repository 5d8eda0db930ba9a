/- The example of layer 26 whole: awake is true. -/
import Derived.Test.YtpbgfifojfakhaaGreatDoorU8
namespace Go.Proofs.YtpbgfifojfakhaaGreatDoor
open Go.RowKit
set_option maxRecDepth 100000 in
set_option maxHeartbeats 2000000 in
theorem awake_ok (w : World) (G : NameG w) : Calls Tryz.prog 4 #[] w fun e w' => e = .returned (.bool true) ∧ Ext w w' := by
  go_enter Tryz.func4, Tryz.ntmps4
  go_wp2_with (first
    | (go_at_call 22; refine (box_new _ _).mono ?_; rintro e w1 ⟨rfl, x1⟩)
    | (go_at_call 16; refine (ann_lit _).mono ?_; rintro e w2 ⟨rfl, x2⟩; have y2 := x1.trans x2)
    | (go_at_call 15; refine (make_ok _ _ (G.ext y2)).mono ?_; rintro e w3 ⟨g, rfl, hg, B3, x3⟩; have y3 := y2.trans x3; have hg0 : w.heap.size ≤ g := Nat.le_trans y2.size hg)
    | (go_at_call 7; refine (hello_ok _ g _ _ _ _ w _ y3 hg0 B3).mono ?_; rintro e w4 ⟨v4, rfl, x4, B4⟩))
  go_at_call 8
  refine (begin_ok _ g _ _ _ _ w _ x4 hg0 (G.ext x4) B4).mono ?_
  rintro e w5 ⟨v5, rfl, o5, x5, B5⟩
  obtain ⟨A5, cap5, rfl⟩ := o5.sl.val
  obtain ⟨b5, off5, rfl, hb5, hc5⟩ := o5.sl.get (by decide)
  have hl5 := o5.sl.len.2.1
  have hm5 := o5.sl.len.2.2
  unfold maxLen at hm5
  simp only [List.length_append, List.length_cons, List.length_nil, Nat.zero_add, Nat.reduceAdd] at hl5
  have hcut := o5.sl.cut 3 (by decide)
  rw [if_neg (by omega)] at hcut
  have k5 : (convert 22 9 (.slice (some ⟨b5, off5 + 3, none⟩) 14 (cap5 - 3))).run Tryz.prog w5 = .ok (.string ⟨#[110, 44, 44, 110, 61, 97, 110, 110, 44, 114, 61, 97, 98, 99]⟩) w5 := str8 hcut
  have c5 := (guest_cells B5).2.2.2
  clear hc5
  have H5 := Lib.hid o5
  clear o5 hcut
  go_wp2
  go_ret
  exact ⟨rfl, x5⟩
end Go.Proofs.YtpbgfifojfakhaaGreatDoor
