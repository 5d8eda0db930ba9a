/- name: Append at a plain sign. -/
import Derived.Test.YtpbgfifojfakhaaGreatDoorN1
import Derived.WalkLawsBesides
namespace Go.Proofs.YtpbgfifojfakhaaGreatDoor
open Go.RowKit
set_option maxRecDepth 10000 in
theorem clone_any (v : Value) (l : List UInt8) (w : World) (h : By w v l) (hl : l.length ≤ 1099511627776) : Calls Tryz.prog 34 #[v] w fun e w' => ∃ v', e = .returned v' ∧ Own8 w.heap.size w' v' l ∧ Ext w w' := by
  obtain ⟨A, cap, rfl⟩ := h.val
  cases A with
  | none =>
    have h0 : cap = 0 := by obtain ⟨A', cap', e1, e2, e3, e4, e5⟩ := h; cases e1; exact e4 rfl
    have hn : l.length = 0 := by have := h.len; omega
    have hn2 : l = [] := List.eq_nil_of_length_eq_zero hn
    subst h0 hn2
    have he : ∀ w : World, (binOp .eql 22 (.slice none 0 0) (.slice none 0 0)).run Tryz.prog w = .ok (.bool true) w := fun _ => by show _ = _; kernel_rfl
    go_enter Tryz.func34, Tryz.ntmps34
    go_wp2
    go_ret
    exact ⟨_, rfl, Own.nil _ _ _ _, Ext.refl w⟩
  | some a =>
    have he : ∀ w : World, (binOp .eql 22 (.slice (some a) l.length cap) (.slice none 0 0)).run Tryz.prog w = .ok (.bool false) w := fun _ => by show _ = _; kernel_rfl
    go_enter Tryz.func34, Tryz.ntmps34
    go_wp2_with (at_builtin; refine wpList_ap el8 rfl _ _ rfl bv_one ((Ext.refl w).alloc _) w.heap.size rfl (Own.new0 bv 5 _) rfl (h.ext ((Ext.refl w).alloc _)) (by simp; omega) (Nat.le_refl _) (by simp) ?_; intro v1 w1 ho1 hx1 _ _)
    go_ret
    exact ⟨_, rfl, by simpa using ho1, hx1⟩
theorem Own.new1k {α : Type} (enc : α → Value) (e : TypeId) (w : World) (x : α) (k : Nat) (hk : k = w.heap.size) : Own enc e w.heap.size (w.alloc (.cells #[enc x] e)) (.slice (some ⟨k, 0, none⟩) 1 1) [x] := by subst hk; exact Own.new1 enc e w x
theorem or0 : ∀ n, n < 128 → bits BinOp.or IntKind.u8 0 ((n : Nat) : Int) = n := by decide
set_option maxRecDepth 100000 in
set_option maxHeartbeats 1000000 in
theorem append_plain (v : Value) (l : List UInt8) (c : UInt8) (w : World) (hc : c.toNat < 128) (h : By w v l) (hl : l.length < 1000000000) (G : NameG w) : Calls Tryz.prog 128 #[v, .int .i32 c.toNat] w fun e w' => ∃ v', e = .returned v' ∧ Own8 w.heap.size w' v' (l ++ [c]) ∧ Ext w w' := by
  obtain ⟨⟨a0, a1, a2, a3⟩, ⟨b0, b1, b2, b3⟩, ⟨c0, c1, c2, c3⟩, ⟨d0, d1, d2, d3⟩⟩ := G.cells _ rfl
  have i0 := fm0
  have i1 := fm1
  have i2 := fm2
  have i3 := fm3
  unfold fms at i0 i1 i2 i3
  obtain ⟨k4, hk4⟩ : ∃ k4 : Int, k4 = 65536 := ⟨_, rfl⟩
  have q3 : (c.toNat : Int) < k4 := by omega
  rw [← hk4] at i0 i1 i2 i3
  have Hk4 := Lib.hid hk4
  clear hk4
  go_enter Tryz.func128, Tryz.ntmps128
  go_wp2_with (first | (go_at_call 177; refine (sign_any _ _).mono ?_; rintro e w1 ⟨rfl, rfl⟩; rw [show isSign (c.toNat : Int) = true by unfold isSign; simp; omega]) | (go_at_call 34; refine (clone_any _ _ _ h (by omega)).mono ?_; rintro e w1 ⟨v1, rfl, ho1, hx1⟩; obtain ⟨A1, cap1, rfl⟩ := ho1.sl.val; have G1 := G.ext hx1; clear a0 a1 a2 a3 b0 b1 b2 b3 c0 c1 c2 c3 d0 d1 d2 d3; obtain ⟨⟨a0, a1, a2, a3⟩, ⟨b0, b1, b2, b3⟩, ⟨c0, c1, c2, c3⟩, ⟨d0, d1, d2, d3⟩⟩ := G1.cells _ rfl; rw [← Hk4.out] at d3; have z1 := World.block_lt_of_cell? _ _ a0; simp only [] at z1))
  refine wp_loop_rounds 5 ?_
  rw [rounds_succ]
  go_wp2
  rw [rounds_succ]
  go_wp2
  clear a0 a1 a2 a3 b0 b1 b2 b3 c0 c1 c2 c3 d0 d1 d2 d3 i0 i1
  rw [rounds_succ]
  have q2 : (c.toNat : Int) < 2048 := by omega
  go_wp2
  clear i2
  rw [rounds_succ]
  go_wp2
  clear i3
  rw [rounds_succ]
  go_wp2
  have e1 : bits BinOp.or IntKind.u8 0 (c.toNat : Int) = c.toNat := or0 _ hc
  refine wp_loop_rounds 2 ?_
  rw [rounds_succ]
  go_wp2_with ((at_builtin; refine wpList_ap el8 rfl _ _ rfl bv_one (w0 := w) (l2 := [c]) (l := l) (hx1.trans (by repeat' (first | exact Ext.refl _ | refine Ext.alloc ?_ _))) w.heap.size rfl (ho1.ext (by repeat' (first | exact Ext.refl _ | refine Ext.alloc ?_ _))) rfl (Own.new1k bv 5 _ c _ (by simp only [World.size_alloc])).sl (by simp only [List.length_cons, List.length_nil]; omega) (Nat.le_refl _) (by have := hx1.size; simp only [World.size_alloc]; omega) ?_; intro v2 w2 ho2 hx2 _ _))
  rw [rounds_succ]
  go_wp2
  go_ret
  exact ⟨_, rfl, ho2, hx2⟩
end Go.Proofs.YtpbgfifojfakhaaGreatDoor
