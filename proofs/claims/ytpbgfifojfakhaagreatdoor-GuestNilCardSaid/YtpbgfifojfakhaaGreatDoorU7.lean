/- scram: extensions(nil), extended(nil), sized, Head, bare, right, Text at the example. -/
import Derived.Test.YtpbgfifojfakhaaGreatDoorU6
import Derived.Deep.RegionHeld3
import Derived.Outline
namespace Go.Proofs.YtpbgfifojfakhaaGreatDoor
open Go.RowKit
set_option maxRecDepth 100000 in
set_option maxHeartbeats 1000000 in
/-- An empty builder's text. -/
theorem str_empty (b : Nat) (w0 w : World) (B : Blk w b 124 #[.pointer none, .slice none 0 0]) (hx : Ext w0 w) : Calls Tryz.prog 81 #[.pointer (some ⟨b, 0, none⟩)] w fun e w' => e = .returned (.string ⟨#[]⟩) ∧ Ext w0 w' := by
  have c1 : w.drew.cell? ⟨b, 1, none⟩ = some (.slice none 0 0) := B.cell 1
  have hSD : (Builtin.unsafeSliceData_ #[22] 177 #[.slice none 0 0]).run Tryz.prog w.drew = .ok (.pointer none) w.drew := by show _ = _; kernel_rfl
  have hUS : (Builtin.unsafeString_ #[177, 3] 9 #[.pointer none, .int .i64 0]).run Tryz.prog w.drew = .ok (.string ⟨#[]⟩) w.drew := by show _ = _; kernel_rfl
  go_enter Tryz.func81, Tryz.ntmps81
  go_wp2
  go_region
  all_goals (go_simp; go_wp2; go_ret; exact ⟨rfl, Below.drew hx⟩)
set_option maxRecDepth 100000 in
set_option maxHeartbeats 1000000 in
theorem extensions_nil (w : World) : Calls Tryz.prog 51 #[.slice none 0 0] w fun e w' => e = .returned (.string ⟨#[]⟩) ∧ Ext w w' := by
  have k := str_empty w.heap.size w _ (Blk.new w 124 #[.pointer none, .slice none 0 0]) ((Ext.refl w).alloc _)
  go_enter Tryz.func51, Tryz.ntmps51
  go_wp2
  refine wp_loop_rounds 1 ?_
  rw [rounds_succ]
  go_wp2_with (go_at_call 81; refine k.mono ?_; rintro e w4 ⟨rfl, x4⟩)
  go_ret
  exact ⟨rfl, x4⟩
theorem extended_nil (s : Value) (w : World) : Calls Tryz.prog 53 #[.slice none 0 0, s] w fun e w' => e = .returned (.bool true) ∧ w = w' := by
  go_enter Tryz.func53, Tryz.ntmps53
  go_wp2
  go_rounds 1
  go_ret
  exact ⟨rfl, rfl⟩
/-- The first of the example. -/
def firstC : Array Value := #[.string ⟨#[110]⟩, .string ⟨#[]⟩, .string ⟨#[97, 110, 110]⟩, .string ⟨#[97, 98, 99]⟩, .slice none 0 0]
theorem first_cells {w : World} {g : Nat} (h : Blk w g 51 #[.string ⟨#[110]⟩, .string ⟨#[]⟩, .string ⟨#[97, 110, 110]⟩, .string ⟨#[97, 98, 99]⟩, .slice none 0 0]) : w.cell? ⟨g, 0, none⟩ = some (.string ⟨#[110]⟩) ∧ w.cell? ⟨g, 1, none⟩ = some (.string ⟨#[]⟩) ∧ w.cell? ⟨g, 2, none⟩ = some (.string ⟨#[97, 110, 110]⟩) ∧ w.cell? ⟨g, 3, none⟩ = some (.string ⟨#[97, 98, 99]⟩) ∧ w.cell? ⟨g, 4, none⟩ = some (.slice none 0 0) := ⟨h.cell 0, h.cell 1, h.cell 2, h.cell 3, h.cell 4⟩
theorem first_head (w : World) : Calls Tryz.prog 37 #[.agg #[.string ⟨#[110]⟩, .string ⟨#[]⟩, .string ⟨#[97, 110, 110]⟩, .string ⟨#[97, 98, 99]⟩, .slice none 0 0]] w fun e w' => e = .returned (.string ⟨#[110, 44, 44]⟩) ∧ Ext w w' := by
  go_enter Tryz.func37, Tryz.ntmps37
  go_wp2
  go_ret
  exact ⟨rfl, (Ext.refl w).alloc _⟩
set_option maxRecDepth 100000 in
set_option maxHeartbeats 2000000 in
theorem first_right (w : World) (G : NameG w) : Calls Tryz.prog 39 #[.agg #[.string ⟨#[110]⟩, .string ⟨#[]⟩, .string ⟨#[97, 110, 110]⟩, .string ⟨#[97, 98, 99]⟩, .slice none 0 0]] w fun e w' => e = .returned (.bool true) ∧ Ext w w' := by
  go_enter Tryz.func39, Tryz.ntmps39
  go_wp2_with (first
    | (go_at_call 50; refine (escape_ann _).mono ?_; rintro e w1 ⟨rfl, x1⟩; have y1 := ((Ext.refl w).alloc _).trans x1; have G1 := G.ext y1)
    | (go_at_call 52; refine (value_ann _ G1).mono ?_; rintro e w2 ⟨rfl, x2⟩; have y2 := y1.trans x2; have B2 := (Blk.new w 51 _).ext (x1.trans x2); obtain ⟨c0, c1, c2, c3, c4⟩ := first_cells B2)
    | (go_at_call 27; refine (nonce_abc _).mono ?_; rintro e w3 ⟨rfl, rfl⟩)
    | (go_at_call 53; refine (extended_nil _ _).mono ?_; rintro e w4 ⟨rfl, rfl⟩))
  go_ret
  exact ⟨rfl, y2⟩
set_option maxRecDepth 100000 in
set_option maxHeartbeats 2000000 in
theorem first_bare (w : World) : Calls Tryz.prog 38 #[.agg #[.string ⟨#[110]⟩, .string ⟨#[]⟩, .string ⟨#[97, 110, 110]⟩, .string ⟨#[97, 98, 99]⟩, .slice none 0 0]] w fun e w' => e = .returned (.string ⟨#[110, 61, 97, 110, 110, 44, 114, 61, 97, 98, 99]⟩) ∧ Ext w w' := by
  obtain ⟨g, hg⟩ : ∃ g, g = w.heap.size := ⟨_, rfl⟩
  obtain ⟨wa, hwa⟩ : ∃ wa, wa = w.alloc (.cells #[.string ⟨#[110]⟩, .string ⟨#[]⟩, .string ⟨#[97, 110, 110]⟩, .string ⟨#[97, 98, 99]⟩, .slice none 0 0] 51) := ⟨_, rfl⟩
  have B0 : Blk wa g 51 #[.string ⟨#[110]⟩, .string ⟨#[]⟩, .string ⟨#[97, 110, 110]⟩, .string ⟨#[97, 98, 99]⟩, .slice none 0 0] := by subst hg hwa; exact Blk.new w _ _
  have x0 : Ext w wa := by subst hwa; exact (Ext.refl w).alloc _
  have hlt := B0.lt
  obtain ⟨c0, c1, c2, c3, c4⟩ := first_cells B0
  have Hk := Lib.hid (show _ ∧ _ from ⟨hg, B0⟩)
  go_enter Tryz.func38, Tryz.ntmps38
  go_wp2
  rw [← hwa, ← hg]
  clear hg hwa B0
  have Hm := Lib.hid (show ∀ a b : World, (a.cell? ⟨g, 2, none⟩ = some (.string ⟨#[97, 110, 110]⟩) ∧ a.cell? ⟨g, 3, none⟩ = some (.string ⟨#[97, 98, 99]⟩) ∧ a.cell? ⟨g, 4, none⟩ = some (.slice none 0 0) ∧ Ext w a) → Ext a b → (b.cell? ⟨g, 2, none⟩ = some (.string ⟨#[97, 110, 110]⟩) ∧ b.cell? ⟨g, 3, none⟩ = some (.string ⟨#[97, 98, 99]⟩) ∧ b.cell? ⟨g, 4, none⟩ = some (.slice none 0 0) ∧ Ext w b) from fun a b h x => ⟨x.at_ h.1, x.at_ h.2.1, x.at_ h.2.2.1, h.2.2.2.trans x⟩)
  go_region_held3 (fun w' => w'.cell? ⟨g, 2, none⟩ = some (.string ⟨#[97, 110, 110]⟩) ∧ w'.cell? ⟨g, 3, none⟩ = some (.string ⟨#[97, 98, 99]⟩) ∧ w'.cell? ⟨g, 4, none⟩ = some (.slice none 0 0) ∧ Ext w w')
    (first | exact ⟨c2, c3, c4, x0⟩ | exact ⟨c2, c3, c4, x0.drew⟩ | (first | exact Hm.out _ _ (by assumption) x1 | exact Hm.out _ _ (by assumption) x2))
    (first | (go_at_call 50; refine (escape_ann _).mono ?_; rintro e w1 ⟨rfl, x1⟩) | (go_at_call 51; refine (extensions_nil _).mono ?_; rintro e w2 ⟨rfl, x2⟩))
  have hx := (by assumption : _ ∧ _ ∧ _ ∧ Ext w _).2.2.2
  go_wp2
  go_ret
  exact ⟨rfl, hx⟩
theorem sized_ok (s : ByteArray) (hs : s.size ≤ 4096) (w : World) : Calls Tryz.prog 36 #[.string s, .bool true] w fun e w' => e = .returned (.tuple #[.string s, .int .i64 0]) ∧ w = w' := by
  have h : ¬ (4096 : Int) < (s.size : Int) := by omega
  go_enter Tryz.func36, Tryz.ntmps36
  go_wp2
  go_ret2
  exact ⟨rfl, rfl⟩
set_option maxRecDepth 100000 in
set_option maxHeartbeats 2000000 in
theorem first_text (w : World) (G : NameG w) : Calls Tryz.prog 25 #[.agg #[.string ⟨#[110]⟩, .string ⟨#[]⟩, .string ⟨#[97, 110, 110]⟩, .string ⟨#[97, 98, 99]⟩, .slice none 0 0]] w fun e w' => e = .returned (.tuple #[.string ⟨#[110, 44, 44, 110, 61, 97, 110, 110, 44, 114, 61, 97, 98, 99]⟩, .int .i64 0]) ∧ Ext w w' := by
  obtain ⟨g, hg⟩ : ∃ g, g = w.heap.size := ⟨_, rfl⟩
  obtain ⟨wa, hwa⟩ : ∃ wa, wa = w.alloc (.cells #[.string ⟨#[110]⟩, .string ⟨#[]⟩, .string ⟨#[97, 110, 110]⟩, .string ⟨#[97, 98, 99]⟩, .slice none 0 0] 51) := ⟨_, rfl⟩
  have B0 : Blk wa g 51 #[.string ⟨#[110]⟩, .string ⟨#[]⟩, .string ⟨#[97, 110, 110]⟩, .string ⟨#[97, 98, 99]⟩, .slice none 0 0] := by subst hg hwa; exact Blk.new w _ _
  have x0 : Ext w wa := by subst hwa; exact (Ext.refl w).alloc _
  have hlt := B0.lt
  obtain ⟨c0, c1, c2, c3, c4⟩ := first_cells B0
  have Hk := Lib.hid (show _ ∧ _ from ⟨hg, B0⟩)
  have ks := Lib.hid (sized_ok ⟨#[110, 44, 44, 110, 61, 97, 110, 110, 44, 114, 61, 97, 98, 99]⟩ (by decide))
  go_enter Tryz.func25, Tryz.ntmps25
  go_wp2
  rw [← hwa, ← hg]
  clear hg hwa B0
  have Hm := Lib.hid (show ∀ a b : World, (a.cell? ⟨g, 0, none⟩ = some (.string ⟨#[110]⟩) ∧ a.cell? ⟨g, 1, none⟩ = some (.string ⟨#[]⟩) ∧ a.cell? ⟨g, 2, none⟩ = some (.string ⟨#[97, 110, 110]⟩) ∧ a.cell? ⟨g, 3, none⟩ = some (.string ⟨#[97, 98, 99]⟩) ∧ a.cell? ⟨g, 4, none⟩ = some (.slice none 0 0) ∧ Ext w a) → Ext a b → (b.cell? ⟨g, 0, none⟩ = some (.string ⟨#[110]⟩) ∧ b.cell? ⟨g, 1, none⟩ = some (.string ⟨#[]⟩) ∧ b.cell? ⟨g, 2, none⟩ = some (.string ⟨#[97, 110, 110]⟩) ∧ b.cell? ⟨g, 3, none⟩ = some (.string ⟨#[97, 98, 99]⟩) ∧ b.cell? ⟨g, 4, none⟩ = some (.slice none 0 0) ∧ Ext w b) from fun a b h x => ⟨x.at_ h.1, x.at_ h.2.1, x.at_ h.2.2.1, x.at_ h.2.2.2.1, x.at_ h.2.2.2.2.1, h.2.2.2.2.2.trans x⟩)
  go_region_held3 (fun w' => w'.cell? ⟨g, 0, none⟩ = some (.string ⟨#[110]⟩) ∧ w'.cell? ⟨g, 1, none⟩ = some (.string ⟨#[]⟩) ∧ w'.cell? ⟨g, 2, none⟩ = some (.string ⟨#[97, 110, 110]⟩) ∧ w'.cell? ⟨g, 3, none⟩ = some (.string ⟨#[97, 98, 99]⟩) ∧ w'.cell? ⟨g, 4, none⟩ = some (.slice none 0 0) ∧ Ext w w')
    (first | exact ⟨c0, c1, c2, c3, c4, x0⟩ | exact ⟨c0, c1, c2, c3, c4, x0.drew⟩ | (first | exact Hm.out _ _ (by assumption) x1 | exact Hm.out _ _ (by assumption) x2 | exact Hm.out _ _ (by assumption) x3 | assumption))
    (first | (go_at_call 37; refine (first_head _).mono ?_; rintro e w1 ⟨rfl, x1⟩) | (go_at_call 38; refine (first_bare _).mono ?_; rintro e w2 ⟨rfl, x2⟩) | (go_at_call 39; refine (first_right _ (G.ext (by assumption : _ ∧ _ ∧ _ ∧ _ ∧ _ ∧ Ext w _).2.2.2.2.2)).mono ?_; rintro e w3 ⟨rfl, x3⟩) | (go_at_call 36; refine (ks.out _).mono ?_; rintro e w4 ⟨rfl, rfl⟩))
  have hx := (by assumption : _ ∧ _ ∧ _ ∧ _ ∧ _ ∧ Ext w _).2.2.2.2.2
  go_wp2
  go_ret2
  exact ⟨rfl, hx⟩
end Go.Proofs.YtpbgfifojfakhaaGreatDoor
