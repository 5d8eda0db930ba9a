/- The law of the nil guest: the walk. -/
import Derived.Test.YtpbgfifojfakhaaGreatDoorG1
namespace Go.Proofs.YtpbgfifojfakhaaGreatDoor
open Go.RowKit
theorem setTicket_nil (s : Value) (w : World) : Calls Tryz.prog 17 #[.pointer none, s] w fun e w' => (∃ r, e = .returned r) ∧ w = w' := by
  go_enter Tryz.func17, Tryz.ntmps17
  go_wp2
  go_end0
  exact ⟨⟨_, rfl⟩, rfl⟩
set_option maxRecDepth 100000 in
set_option maxHeartbeats 1000000 in
theorem guestNil_walk (l : List UInt8) (v : Value) (d : List UInt8) (w : World) (hs : l.length ≤ 9223372036854775807) (h : By w v d) (G : NameG w) : Calls Tryz.prog 3 #[tv l, v] w fun e w' => e = .returned (.bool true) ∧ Ext w w' := by
  obtain ⟨t, ht⟩ : ∃ t, t = tv (l.take 50) := ⟨_, rfl⟩
  have kt := fun w => cutText_tv l 50 w hs (by decide) (by decide)
  rw [show (50 : Int).toNat = 50 from rfl, ← ht] at kt
  have Kt := Lib.hid kt
  clear kt ht
  unfold tv at Kt ⊢
  go_enter Tryz.func3, Tryz.ntmps3
  go_wp2_with (first
    | (go_at_call 4; refine (awake_ok _ G).mono ?_; rintro e w1 ⟨rfl, x1⟩)
    | (go_at_call 5; refine (Kt.out _).mono ?_; rintro e w2 ⟨rfl, rfl⟩)
    | (go_at_call 6; refine (cut_by _ d 50 _ (h.ext x1) (by decide) (by decide)).mono ?_; rintro e w3 ⟨v3, rfl, o3, x3⟩; have y3 := x1.trans x3; clear o3)
    | (go_at_call 7; refine (hello_nil _).mono ?_; rintro e w4 ⟨rfl, x4⟩; have y4 := y3.trans x4)
    | (go_at_call 8; refine (begin_nil _ _).mono ?_; rintro e w5 ⟨rfl, x5⟩; have y5 := y4.trans x5)
    | (go_at_call 9; refine (request_nil _ _ _).mono ?_; rintro e w6 ⟨rfl, x6⟩; have y6 := y5.trans x6)
    | (go_at_call 10; refine (show_nil _).mono ?_; rintro e w7 ⟨rfl, x7⟩; have y7 := y6.trans x7)
    | (go_at_call 11; refine (open_nil _ _).mono ?_; rintro e w8 ⟨rfl, x8⟩; have y8 := y7.trans x8)
    | (go_at_call 12; refine (send_nil _ _).mono ?_; rintro e w9 ⟨rfl, x9⟩; have y9 := y8.trans x9)
    | (go_at_call 13; refine (bye_nil _).mono ?_; rintro e w10 ⟨rfl, x10⟩; have y10 := y9.trans x10)
    | (go_at_call 14; refine (hear_nil _ _).mono ?_; rintro e w11 ⟨rfl, x11⟩; have y11 := y10.trans x11)
    | (go_at_call 16; refine (ann_lit _).mono ?_; rintro e w12 ⟨rfl, x12⟩; have y12 := y11.trans x12)
    | (go_at_call 15; refine (make_nil (.pointer none) _ _).mono ?_; rintro e w13 ⟨rfl, x13⟩; have y13 := y12.trans x13)
    | (go_at_call 17; refine (setTicket_nil _ _).mono ?_; rintro e w14 ⟨⟨r, rfl⟩, rfl⟩))
  go_rounds 10
  go_ret
  exact ⟨rfl, y13.alloc _⟩
end Go.Proofs.YtpbgfifojfakhaaGreatDoor
