/- guest.Begin and the example whole. -/
import Derived.Test.YtpbgfifojfakhaaGreatDoorU7
import Derived.Outline
namespace Go.Proofs.YtpbgfifojfakhaaGreatDoor
open Go.RowKit
theorem box_new (b : Bool) (w : World) : Calls Tryz.prog 22 #[.bool b] w fun e w' => e = .returned (.pointer (some ⟨w.heap.size + 1, 0, none⟩)) ∧ Ext w w' := by
  have hmm := @run_makeMap Tryz.prog
  go_enter Tryz.func22, Tryz.ntmps22
  go_wp2
  go_ret
  exact ⟨rfl, by repeat' (first | exact Ext.refl _ | refine Ext.alloc ?_ _)⟩
set_option maxRecDepth 100000 in
set_option maxHeartbeats 2000000 in
theorem begin_ok (p : Addr) (g : Nat) (f a u nn : Value) (w0 w : World) (hx : Ext w0 w) (hg : w0.heap.size ≤ g) (G : NameG w) (B : Blk w g 53 (guestC p 1 f a u nn)) :
    Calls Tryz.prog 8 #[.pointer (some ⟨g, 0, none⟩), .string ⟨#[97, 98, 99]⟩] w fun e w' => ∃ v', e = .returned (.tuple #[v', .int .i64 0]) ∧ Own8 (g + 1) w' v' ([2, 0, 14] ++ [110, 44, 44, 110, 61, 97, 110, 110, 44, 114, 61, 97, 98, 99]) ∧ Ext w0 w' ∧
      Blk w' g 53 (guestC p 2 (.string ⟨#[110]⟩) (.string ⟨#[]⟩) (.string ⟨#[97, 110, 110]⟩) (.string ⟨#[97, 98, 99]⟩)) := by
  obtain ⟨c1, c2, c3, c5⟩ := guest_cells B
  have hlt := B.lt
  have ki : Calls Tryz.prog 23 #[.pointer (some ⟨g, 0, none⟩), .slice (some ⟨w.heap.size, 0, none⟩) 1 1] (w.alloc (.cells #[.int .i64 1] 3)) fun e w' => e = .returned (.int .i64 0) ∧ w.alloc (.cells #[.int .i64 1] 3) = w' := in_ok p g 1 f a u nn _ _ (B.alloc _) (cell_new_l w _ _).1
  go_enter Tryz.func8, Tryz.ntmps8
  go_wp2_with (first
    | (go_at_call 23; refine ki.mono ?_; rintro e w1 ⟨rfl, rfl⟩))
  go_region
  go_wp2_with fail
  obtain ⟨W, hW⟩ : ∃ W, W = ((w.alloc (.cells #[.int .i64 1] 3)).alloc (.cells #[.string ⟨#[110]⟩, .string ⟨#[]⟩, .string ⟨#[97, 110, 110]⟩, .string ⟨#[97, 98, 99]⟩, .slice none 0 0] 51)).drew := ⟨_, rfl⟩
  have B1 : Blk W g 53 (guestC p 1 f a u nn) := by subst hW; exact ((B.alloc _).alloc _).drew
  have F1 : Blk W (w.heap.size + 1) 51 #[.string ⟨#[110]⟩, .string ⟨#[]⟩, .string ⟨#[97, 110, 110]⟩, .string ⟨#[97, 98, 99]⟩, .slice none 0 0] := by
    subst hW
    have := Blk.new (w.alloc (.cells #[.int .i64 1] 3)) 51 #[.string ⟨#[110]⟩, .string ⟨#[]⟩, .string ⟨#[97, 110, 110]⟩, .string ⟨#[97, 98, 99]⟩, .slice none 0 0]
    rw [World.size_alloc] at this
    exact this.drew
  have x1 : Ext w W := by subst hW; exact (((Ext.refl w).alloc _).alloc _).drew
  rw [← hW]
  have HW := Lib.hid hW
  clear hW
  go_wp2_with (go_at_call 25; refine (first_text _ (G.ext x1)).mono ?_; rintro e w2 ⟨rfl, x2⟩; have B2 := B1.ext x2; have F2 := F1.ext x2; obtain ⟨d0, d1, d2, d3, d4⟩ := first_cells F2; have f6 := B2.free 6; have f7 := B2.free 7; have f8 := B2.free 8; have f9 := B2.free 9; have f10 := B2.free 10; have e6 := B2.cell 6; have e7 := B2.cell 7; have e8 := B2.cell 8; have e9 := B2.cell 9; have e10 := B2.cell 10; simp only [guestC] at e6 e7 e8 e9 e10)
  have B3 : Blk (((((w2.setCell ⟨g, 6, none⟩ (.string ⟨#[110]⟩)).setCell ⟨g, 7, none⟩ (.string ⟨#[]⟩)).setCell ⟨g, 8, none⟩ (.string ⟨#[97, 110, 110]⟩)).setCell ⟨g, 9, none⟩ (.string ⟨#[97, 98, 99]⟩)).setCell ⟨g, 10, none⟩ (.slice none 0 0)) g 53
      (guestC p 1 (.string ⟨#[110]⟩) (.string ⟨#[]⟩) (.string ⟨#[97, 110, 110]⟩) (.string ⟨#[97, 98, 99]⟩)) :=
    ((((B2.set 6 (.string ⟨#[110]⟩)).set 7 (.string ⟨#[]⟩)).set 8 (.string ⟨#[97, 110, 110]⟩)).set 9 (.string ⟨#[97, 98, 99]⟩)).set 10 (.slice none 0 0)
  have x3 : Ext w0 (((((w2.setCell ⟨g, 6, none⟩ (.string ⟨#[110]⟩)).setCell ⟨g, 7, none⟩ (.string ⟨#[]⟩)).setCell ⟨g, 8, none⟩ (.string ⟨#[97, 110, 110]⟩)).setCell ⟨g, 9, none⟩ (.string ⟨#[97, 98, 99]⟩)).setCell ⟨g, 10, none⟩ (.slice none 0 0)) :=
    ((((((hx.trans x1).trans x2).setCell (by exact hg) _).setCell (by exact hg) _).setCell (by exact hg) _).setCell (by exact hg) _).setCell (by exact hg) _
  have ks := send_ok p g 1 2 (.string ⟨#[110]⟩) (.string ⟨#[]⟩) (.string ⟨#[97, 110, 110]⟩) (.string ⟨#[97, 98, 99]⟩) 2 14 (by decide) (by decide) [110, 44, 44, 110, 61, 97, 110, 110, 44, 114, 61, 97, 98, 99] rfl w0 _ x3 hg B3
  go_wp2_with (go_at_call 24; refine (show Calls _ _ _ _ _ from ks).mono ?_; rintro e w4 ⟨v4, rfl, o4, x4, B4⟩)
  go_ret2
  exact ⟨_, rfl, o4, x4, B4⟩
theorem ann_lit (w : World) : Calls Tryz.prog 16 #[] w fun e w' => e = .returned (.agg #[.string ⟨#[116]⟩, .string ⟨#[97, 110, 110]⟩, .string ⟨#[]⟩]) ∧ Ext w w' := by
  go_enter Tryz.func16, Tryz.ntmps16
  go_wp2
  exact bodyPost_ret (v := .agg #[.string ⟨#[116]⟩, .string ⟨#[97, 110, 110]⟩, .string ⟨#[]⟩]) (by simp [results, Tryz.results16, go_sem]) rfl ⟨rfl, (Ext.refl w).alloc _⟩
end Go.Proofs.YtpbgfifojfakhaaGreatDoor
