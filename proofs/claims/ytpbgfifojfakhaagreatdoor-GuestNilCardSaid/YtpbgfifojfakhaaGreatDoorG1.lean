/- A nil guest: each method; the law whole, behind the example. -/
import Derived.Test.YtpbgfifojfakhaaGreatDoorU9
namespace Go.Proofs.YtpbgfifojfakhaaGreatDoor
open Go.RowKit
theorem take_min {α : Type} (l : List α) (n : Int) : l.take (min (l.length : Int) n).toNat = l.take n.toNat := by
  rcases Int.le_total (l.length : Int) n with h | h
  · rw [Int.min_eq_left h, Int.toNat_natCast, List.take_length, List.take_of_length_le (by omega)]
  · rw [Int.min_eq_right h]
attribute [local go_sem] ext_list size_list in
theorem cutText_tv (l : List UInt8) (n : Int) (w : World) (hs : l.length ≤ 9223372036854775807) (hn : 0 ≤ n) (hn2 : n < 1000000) :
    Calls Tryz.prog 5 #[tv l, .int .i64 n] w fun e w' => e = .returned (tv (l.take n.toNat)) ∧ w = w' := by
  have e := Lib.hid (take_min l n)
  unfold tv
  go_enter Tryz.func5, Tryz.ntmps5
  go_wp2
  go_ret
  exact ⟨by rw [← e.out]; rfl, rfl⟩
set_option maxRecDepth 100000 in
set_option maxHeartbeats 1000000 in
theorem cut_by (v : Value) (l : List UInt8) (n : Int) (w : World) (h : By w v l) (hn : 0 ≤ n) (hn2 : n < 1000000) : Calls Tryz.prog 6 #[v, .int .i64 n] w fun e w' => ∃ v', e = .returned v' ∧ Own8 w.heap.size w' v' (l.take n.toNat) ∧ Ext w w' := by
  obtain ⟨A, cap, rfl⟩ := h.val
  obtain ⟨_, hc, hm⟩ := h.len
  unfold maxLen at hm
  have e := Lib.hid (take_min l n)
  have hk : (min (l.length : Int) n).toNat ≤ l.length := by omega
  have hf := h.front (min (l.length : Int) n).toNat cap hk (by omega) (Nat.le_refl _)
  have hq : (l.take (min (l.length : Int) n).toNat).length ≤ 1000000 := by simp; omega
  have hL := Lib.hid (show _ ∧ _ from ⟨hf, hq⟩)
  clear hf hq h hk
  go_enter Tryz.func6, Tryz.ntmps6
  go_wp2_with (at_builtin; refine wpList_ap el8 rfl _ _ rfl bv_one ((Ext.refl w).alloc _) w.heap.size rfl (Own.new0 bv 5 _) rfl (hL.out.1.ext ((Ext.refl w).alloc _)) (by have := hL.out.2; simp at this ⊢; omega) (Nat.le_refl _) (by simp) ?_; intro v1 w1 ho1 hx1 _ _)
  go_ret
  exact ⟨_, rfl, by rw [← e.out]; simpa using ho1, hx1⟩
theorem in_nil (v : Value) (w : World) : Calls Tryz.prog 23 #[.pointer none, v] w fun e w' => e = .returned (.int .i64 6) ∧ w = w' := by
  go_enter Tryz.func23, Tryz.ntmps23
  go_wp2
  go_ret
  exact ⟨rfl, rfl⟩
/-- Nothing, and that there is none. -/
def NoneIt (w : World) (e : Ending) (w' : World) : Prop := e = .returned (.tuple #[.slice none 0 0, .int .i64 6]) ∧ Ext w w'
theorem hello_nil (w : World) : Calls Tryz.prog 7 #[.pointer none] w (NoneIt w) := by
  go_enter Tryz.func7, Tryz.ntmps7
  go_wp2_with (go_at_call 23; refine (in_nil _ _).mono ?_; rintro e w1 ⟨rfl, rfl⟩)
  go_ret2
  exact ⟨rfl, (Ext.refl w).alloc _⟩
theorem begin_nil (s : Value) (w : World) : Calls Tryz.prog 8 #[.pointer none, s] w (NoneIt w) := by
  go_enter Tryz.func8, Tryz.ntmps8
  go_wp2_with (go_at_call 23; refine (in_nil _ _).mono ?_; rintro e w1 ⟨rfl, rfl⟩)
  go_ret2
  exact ⟨rfl, (Ext.refl w).alloc _⟩
theorem request_nil (s t : Value) (w : World) : Calls Tryz.prog 9 #[.pointer none, s, t] w (NoneIt w) := by
  go_enter Tryz.func9, Tryz.ntmps9
  go_wp2_with (go_at_call 23; refine (in_nil _ _).mono ?_; rintro e w1 ⟨rfl, rfl⟩)
  go_ret2
  exact ⟨rfl, (Ext.refl w).alloc _⟩
theorem show_nil (w : World) : Calls Tryz.prog 10 #[.pointer none] w (NoneIt w) := by
  go_enter Tryz.func10, Tryz.ntmps10
  go_wp2_with (go_at_call 23; refine (in_nil _ _).mono ?_; rintro e w1 ⟨rfl, rfl⟩)
  go_ret2
  exact ⟨rfl, (Ext.refl w).alloc _⟩
theorem open_nil (s : Value) (w : World) : Calls Tryz.prog 11 #[.pointer none, s] w (NoneIt w) := by
  go_enter Tryz.func11, Tryz.ntmps11
  go_wp2_with (go_at_call 23; refine (in_nil _ _).mono ?_; rintro e w1 ⟨rfl, rfl⟩)
  go_ret2
  exact ⟨rfl, (Ext.refl w).alloc _⟩
theorem send_nil (s : Value) (w : World) : Calls Tryz.prog 12 #[.pointer none, s] w (NoneIt w) := by
  go_enter Tryz.func12, Tryz.ntmps12
  go_wp2_with (go_at_call 23; refine (in_nil _ _).mono ?_; rintro e w1 ⟨rfl, rfl⟩)
  go_ret2
  exact ⟨rfl, (Ext.refl w).alloc _⟩
theorem bye_nil (w : World) : Calls Tryz.prog 13 #[.pointer none] w (NoneIt w) := by
  go_enter Tryz.func13, Tryz.ntmps13
  go_wp2_with (go_at_call 23; refine (in_nil _ _).mono ?_; rintro e w1 ⟨rfl, rfl⟩)
  go_ret2
  exact ⟨rfl, (Ext.refl w).alloc _⟩
theorem hear_nil (s : Value) (w : World) : Calls Tryz.prog 14 #[.pointer none, s] w (NoneIt w) := by
  go_enter Tryz.func14, Tryz.ntmps14
  go_wp2
  go_ret2
  exact ⟨rfl, Ext.refl w⟩
theorem make_nil (v s : Value) (w : World) : Calls Tryz.prog 15 #[.pointer none, .agg #[.string ⟨#[116]⟩, .string ⟨#[97, 110, 110]⟩, .string ⟨#[]⟩], s] w fun e w' => e = .returned (.tuple #[.pointer none, .int .i64 6]) ∧ Ext w w' := by
  go_enter Tryz.func15, Tryz.ntmps15
  go_wp2
  go_ret2
  exact ⟨rfl, (Ext.refl w).alloc _⟩
end Go.Proofs.YtpbgfifojfakhaaGreatDoor
