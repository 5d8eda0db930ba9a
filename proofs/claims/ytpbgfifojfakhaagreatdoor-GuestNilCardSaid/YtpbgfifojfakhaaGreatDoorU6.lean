/- name.Escape at a plain text; scram: extensions, extended, sized at the example. -/
import Derived.Test.YtpbgfifojfakhaaGreatDoorU5
namespace Go.Proofs.YtpbgfifojfakhaaGreatDoor
open Go.RowKit
theorem bld_lt {base b : Nat} {w : World} {l : List UInt8} (h : Bld base w b l) : b < w.heap.size := by obtain ⟨p, v, _, B, _⟩ := h; exact B.lt
theorem Bld.alloc {base b : Nat} {w : World} {l : List UInt8} (h : Bld base w b l) (o : Obj) : Bld base (w.alloc o) b l := by
  obtain ⟨p, v, hp, B, h1, h2, ho⟩ := h
  exact ⟨p, v, hp, B.alloc _, h1, by simp; omega, ho.alloc _⟩
set_option maxRecDepth 100000 in
set_option maxHeartbeats 1000000 in
theorem escape_ann (w : World) : Calls Tryz.prog 50 #[.string ⟨#[97, 110, 110]⟩] w fun e w' => e = .returned (.string ⟨#[97, 110, 110]⟩) ∧ Ext w w' := by
  have h0 := Bld.new w
  have x0 : Ext w (w.alloc (.cells #[.pointer none, .slice none 0 0] 124)) := (Ext.refl w).alloc _
  have k1 := wb_any (w.heap.size + 1) w.heap.size [] 97 w _ h0 (by decide) x0 (Nat.le_refl _)
  have k2 := fun w1 h x => wb_any (w.heap.size + 1) w.heap.size [97] 110 w w1 h (by decide) x (Nat.le_refl _)
  have k3 := fun w1 h x => wb_any (w.heap.size + 1) w.heap.size [97, 110] 110 w w1 h (by decide) x (Nat.le_refl _)
  have k4 := fun w1 h x => str_any (w.heap.size + 1) w.heap.size [97, 110, 110] (by decide) w w1 h x (Nat.le_refl _)
  have K := Lib.hid (show _ ∧ _ ∧ _ ∧ _ from ⟨k1, k2, k3, k4⟩)
  clear k1 k2 k3 k4
  go_enter Tryz.func50, Tryz.ntmps50
  go_wp2
  refine wp_loop_rounds 4 ?_
  rw [rounds_succ]
  go_wp2_with (go_at_call 80; refine K.out.1.mono ?_; rintro e w1 ⟨⟨r1, rfl⟩, h1, x1⟩)
  rw [rounds_succ]
  go_wp2_with (go_at_call 80; refine (K.out.2.1 _ h1 x1).mono ?_; rintro e w2 ⟨⟨r2, rfl⟩, h2, x2⟩)
  rw [rounds_succ]
  go_wp2_with (go_at_call 80; refine (K.out.2.2.1 _ h2 x2).mono ?_; rintro e w3 ⟨⟨r3, rfl⟩, h3, x3⟩)
  rw [rounds_succ]
  go_wp2_with (go_at_call 81; refine (K.out.2.2.2 _ h3 x3).mono ?_; rintro e w4 ⟨rfl, x4⟩)
  go_ret
  exact ⟨rfl, x4⟩
end Go.Proofs.YtpbgfifojfakhaaGreatDoor
