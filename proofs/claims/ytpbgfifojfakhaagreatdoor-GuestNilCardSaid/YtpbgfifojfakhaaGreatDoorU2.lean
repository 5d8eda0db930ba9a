/- guest: frame.Pack and send at the example. -/
import Derived.Test.YtpbgfifojfakhaaGreatDoorU1
namespace Go.Proofs.YtpbgfifojfakhaaGreatDoor
open Go.RowKit
theorem Own.new3 {α : Type} (enc : α → Value) (e : TypeId) (w : World) (x y z : α) (k : Nat) (hk : k = w.heap.size) : Own enc e w.heap.size (w.alloc (.cells #[enc x, enc y, enc z] e)) (.slice (some ⟨k, 0, none⟩) 3 3) [x, y, z] := by subst hk; exact Own.new enc e w [x, y, z] (by simp [maxLen])
theorem kind_any (k : Int) (w : World) : Calls Tryz.prog 45 #[.int .u8 k] w fun e w' => e = .returned (.bool (decide (1 ≤ k) && decide (k ≤ 15))) ∧ w = w' := by
  go_enter Tryz.func45, Tryz.ntmps45
  go_wp2
  all_goals go_ret
  all_goals refine ⟨?_, rfl⟩
  all_goals simp_all <;> omega
set_option maxRecDepth 100000 in
set_option maxHeartbeats 1000000 in
theorem pack_ok (k n : UInt8) (hk : 1 ≤ k.toNat) (hk2 : k.toNat ≤ 15) (v : Value) (l : List UInt8) (hn : l.length = n.toNat) (w : World) (h : By w v l) : Calls Tryz.prog 35 #[.agg #[.int .u8 k.toNat, v]] w fun e w' => ∃ v', e = .returned (.tuple #[v', .int .i64 0]) ∧ Own8 w.heap.size w' v' ([k, 0, n] ++ l) ∧ Ext w w' := by
  obtain ⟨A, cap, rfl⟩ := h.val
  rw [hn]
  have hnn := n.toNat_lt
  have hc : Blk (w.alloc (.cells #[.int .u8 k.toNat, .slice A l.length cap] 61)) w.heap.size 61 #[.int .u8 k.toNat, .slice A l.length cap] := Blk.new w _ _
  go_enter Tryz.func35, Tryz.ntmps35
  go_wp2_with (first | (go_at_call 45; refine (kind_any _ _).mono ?_; rintro e w1 ⟨rfl, rfl⟩; rw [show (decide (1 ≤ (k.toNat : Int)) && decide ((k.toNat : Int) ≤ 15)) = true by simp; omega]) | (at_builtin; (simp only [show ((n.toNat : Int) / 256) = 0 from by omega]; refine wpList_ap el8 rfl _ _ rfl bv_one (w0 := w) (l := [k, 0, n]) (l2 := l) (by repeat' (first | exact Ext.refl _ | refine Ext.alloc ?_ _)) (w.heap.size + 1) rfl (by have := Own.new3 bv 5 (w.alloc (.cells #[.int .u8 k.toNat, .slice A n.toNat cap] 61)) k 0 n (w.heap.size + 1) (by simp); rw [World.size_alloc] at this; exact this) rfl (by rw [← hn]; exact h.ext (by repeat' (first | exact Ext.refl _ | refine Ext.alloc ?_ _))) (by simp; omega) (by omega) (by simp only [World.size_alloc]; omega) ?_; intro v2 w2 ho2 hx2 _ _)))
  go_ret2
  exact ⟨_, rfl, ho2.low (by omega), hx2⟩
set_option maxRecDepth 100000 in
set_option maxHeartbeats 1000000 in
theorem send_ok (p : Addr) (g : Nat) (st st' : Int) (f a u nn : Value) (k n : UInt8) (hk : 1 ≤ k.toNat) (hk2 : k.toNat ≤ 15) (l : List UInt8) (hn : l.length = n.toNat) (w0 w : World) (hx : Ext w0 w) (hg : w0.heap.size ≤ g) (B : Blk w g 53 (guestC p st f a u nn)) :
    Calls Tryz.prog 24 #[.pointer (some ⟨g, 0, none⟩), .int .u8 k.toNat, tv l, .int .i64 st'] w fun e w' => ∃ v', e = .returned (.tuple #[v', .int .i64 0]) ∧ Own8 (g + 1) w' v' (k :: 0 :: n :: l) ∧ Ext w0 w' ∧ Blk w' g 53 (guestC p st' f a u nn) := by
  have hnn := n.toNat_lt
  obtain ⟨w1, cap, hc, hb, hx1⟩ := conv_bytes l (by omega) w
  have hlt := B.lt
  have Hn := Lib.hid hn
  clear hn
  unfold tv
  go_enter Tryz.func24, Tryz.ntmps24
  go_wp2_with (go_at_call 35; with_reducible refine (pack_ok k n hk hk2 _ l Hn.out _ hb).mono ?_; rintro e w2 ⟨v2, rfl, ho2, hx2⟩; have hx12 := hx1.trans hx2; have B2 := B.ext hx12; have c5 := B2.cell 5; have f5 := B2.free 5; simp only [guestC] at c5)
  go_ret2
  have hz := hx1.size
  exact ⟨_, rfl, (ho2.low (base' := g + 1) (by omega)).setCell (by simp) _, (hx.trans hx12).setCell hg _, B2.set 5 (.int .i64 st')⟩
/-- What the walk reads of a guest's block. -/
theorem guest_cells {p : Addr} {w : World} {g : Nat} {st : Int} {f a u nn : Value} (B : Blk w g 53 (guestC p st f a u nn)) : w.cell? ⟨g, 1, none⟩ = some (.string ⟨#[116]⟩) ∧ w.cell? ⟨g, 2, none⟩ = some (.string ⟨#[97, 110, 110]⟩) ∧ w.cell? ⟨g, 3, none⟩ = some (.string ⟨#[]⟩) ∧ w.cell? ⟨g, 5, none⟩ = some (.int .i64 st) := ⟨B.cell 1, B.cell 2, B.cell 3, B.cell 5⟩
set_option maxRecDepth 100000 in
set_option maxHeartbeats 1000000 in
theorem in_ok (p : Addr) (g : Nat) (st : Int) (f a u nn : Value) (k : Nat) (w : World) (B : Blk w g 53 (guestC p st f a u nn)) (hk : w.cell? ⟨k, 0, none⟩ = some (.int .i64 st)) :
    Calls Tryz.prog 23 #[.pointer (some ⟨g, 0, none⟩), .slice (some ⟨k, 0, none⟩) 1 1] w fun e w' => e = .returned (.int .i64 0) ∧ w = w' := by
  obtain ⟨c1, c2, c3, c5⟩ := guest_cells B
  go_enter Tryz.func23, Tryz.ntmps23
  go_wp2
  go_rounds 1
  go_ret
  exact ⟨rfl, rfl⟩
set_option maxRecDepth 100000 in
set_option maxHeartbeats 1000000 in
theorem hello_ok (p : Addr) (g : Nat) (f a u nn : Value) (w0 w : World) (hx : Ext w0 w) (hg : w0.heap.size ≤ g) (B : Blk w g 53 (guestC p 0 f a u nn)) :
    Calls Tryz.prog 7 #[.pointer (some ⟨g, 0, none⟩)] w fun e w' => ∃ v', e = .returned (.tuple #[v', .int .i64 0]) ∧ Ext w0 w' ∧ Blk w' g 53 (guestC p 1 f a u nn) := by
  obtain ⟨c1, c2, c3, c5⟩ := guest_cells B
  have hlt := B.lt
  have ki : Calls Tryz.prog 23 #[.pointer (some ⟨g, 0, none⟩), .slice (some ⟨w.heap.size, 0, none⟩) 1 1] (w.alloc (.cells #[.int .i64 0] 3)) fun e w' => e = .returned (.int .i64 0) ∧ w.alloc (.cells #[.int .i64 0] 3) = w' := in_ok p g 0 f a u nn _ _ (B.alloc _) (cell_new_l w _ _).1
  have ks : Calls Tryz.prog 24 #[.pointer (some ⟨g, 0, none⟩), .int .u8 1, .string ⟨#[116]⟩, .int .i64 1] (w.alloc (.cells #[.int .i64 0] 3)) fun e w' => ∃ v', e = .returned (.tuple #[v', .int .i64 0]) ∧ Own8 (g + 1) w' v' [1, 0, 1, 116] ∧ Ext w0 w' ∧ Blk w' g 53 (guestC p 1 f a u nn) :=
    send_ok p g 0 1 f a u nn 1 1 (by decide) (by decide) [116] rfl w0 _ (hx.alloc _) hg (B.alloc _)
  go_enter Tryz.func7, Tryz.ntmps7
  go_wp2_with (first
    | (go_at_call 23; refine ki.mono ?_; rintro e w1 ⟨rfl, rfl⟩)
    | (go_at_call 24; refine ks.mono ?_; rintro e w2 ⟨v2, rfl, ho2, hx2, B2⟩))
  go_ret2
  exact ⟨_, rfl, hx2, B2⟩
end Go.Proofs.YtpbgfifojfakhaaGreatDoor
