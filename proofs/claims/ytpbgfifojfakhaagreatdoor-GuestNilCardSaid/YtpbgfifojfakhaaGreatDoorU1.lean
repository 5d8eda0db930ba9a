/- guest: the walk over what the document's example does. -/
import Derived.Test.YtpbgfifojfakhaaGreatDoorN5
namespace Go.Proofs.YtpbgfifojfakhaaGreatDoor
open Go.RowKit
def annL : List UInt8 := [97, 110, 110]
def pencilL : List UInt8 := [112, 101, 110, 99, 105, 108]
theorem ann_ok (w : World) (G : NameG w) : Calls Tryz.prog 32 #[.string ⟨#[97, 110, 110]⟩] w fun e w' => e = .returned (.tuple #[.string ⟨#[97, 110, 110]⟩, .int .i64 0]) ∧ Ext w w' := name_plain 97 [110, 110] ⟨by decide, by decide⟩ (by decide) w G
theorem pencil_ok (w : World) (G : NameG w) : Calls Tryz.prog 33 #[.string ⟨#[112, 101, 110, 99, 105, 108]⟩] w fun e w' => e = .returned (.tuple #[.string ⟨#[112, 101, 110, 99, 105, 108]⟩, .int .i64 0]) ∧ Ext w w' := password_plain 112 [101, 110, 99, 105, 108] ⟨by decide, by decide⟩ (by decide) w G
def annC : Array Value := #[.string ⟨#[116]⟩, .string ⟨#[97, 110, 110]⟩, .string ⟨#[]⟩]
theorem who_cells {w : World} {g : Nat} (h : Blk w g 36 #[.string ⟨#[116]⟩, .string ⟨#[97, 110, 110]⟩, .string ⟨#[]⟩]) : w.cell? ⟨g, 0, none⟩ = some (.string ⟨#[116]⟩) ∧ w.cell? ⟨g, 1, none⟩ = some (.string ⟨#[97, 110, 110]⟩) ∧ w.cell? ⟨g, 2, none⟩ = some (.string ⟨#[]⟩) := ⟨h.cell 0, h.cell 1, h.cell 2⟩
/-- A guest's block: his box, who he is, his password, his state, his first, .. -/
def guestC (p : Addr) (st : Int) (f a u n : Value) : Array Value := #[.pointer (some p), .string ⟨#[116]⟩, .string ⟨#[97, 110, 110]⟩, .string ⟨#[]⟩, .string ⟨#[112, 101, 110, 99, 105, 108]⟩, .int .i64 st, f, a, u, n, .slice none 0 0, .slice none 0 0, .string ⟨#[]⟩, .string ⟨#[]⟩, .bool false, .string ⟨#[]⟩, .slice none 0 0, .int .i64 0]
set_option maxRecDepth 100000 in
set_option maxHeartbeats 2000000 in
theorem make_ok (p : Addr) (w : World) (G : NameG w) : Calls Tryz.prog 15 #[.pointer (some p), .agg #[.string ⟨#[116]⟩, .string ⟨#[97, 110, 110]⟩, .string ⟨#[]⟩], .string ⟨#[112, 101, 110, 99, 105, 108]⟩] w fun e w' => ∃ g, e = .returned (.tuple #[.pointer (some ⟨g, 0, none⟩), .int .i64 0]) ∧ w.heap.size ≤ g ∧ Blk w' g 53 (guestC p 0 (.string ⟨#[]⟩) (.string ⟨#[]⟩) (.string ⟨#[]⟩) (.string ⟨#[]⟩)) ∧ Ext w w' := by
  go_enter Tryz.func15, Tryz.ntmps15
  go_wp2_with (first
    | (go_at_call 31; refine (plain_t _).mono ?_; rintro e w1 ⟨rfl, hx1⟩; have hx2 := ((Ext.refl w).alloc _).trans hx1; have G2 := G.ext hx2; have k1 := Blk.ext (Blk.new w 36 _) hx1; obtain ⟨q0, q1, q2⟩ := who_cells k1)
    | (go_at_call 32; refine (ann_ok _ G2).mono ?_; rintro e w3 ⟨rfl, hx3⟩; have G3 := G2.ext hx3; have k3 := k1.ext hx3)
    | (go_at_call 33; refine (pencil_ok _ G3).mono ?_; rintro e w4 ⟨rfl, hx4⟩; have k4 := k3.ext hx4; obtain ⟨q3, q4, q5⟩ := who_cells k4))
  go_ret2
  have hx5 := (hx2.trans hx3).trans hx4
  exact ⟨_, rfl, hx5.size, Blk.new w4 _ _, hx5.alloc _⟩
end Go.Proofs.YtpbgfifojfakhaaGreatDoor
