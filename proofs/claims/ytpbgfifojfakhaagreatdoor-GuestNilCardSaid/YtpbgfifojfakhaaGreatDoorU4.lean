/- strings.Builder by our own words. -/
import Derived.Test.YtpbgfifojfakhaaGreatDoorU3
import Derived.Lib.Builder
import Derived.Shelf.Strings.Builder1
namespace Go.Proofs.YtpbgfifojfakhaaGreatDoor
open Go.RowKit
set_option maxRecDepth 100000 in
set_option maxHeartbeats 1000000 in
theorem check_new (b : Nat) (v : Value) (w : World) (B : Blk w b 124 #[.pointer none, v]) : Calls Tryz.prog 129 #[.pointer (some ⟨b, 0, none⟩)] w fun e w' => (∃ r, e = .returned r) ∧ w' = w.setCell ⟨b, 0, none⟩ (.pointer (some ⟨b, 0, none⟩)) := by
  have c0 : w.cell? ⟨b, 0, none⟩ = some (.pointer none) := B.cell 0
  have f0 := B.free 0
  obtain ⟨j, hj, hjs⟩ := Option.map_eq_some_iff.1 (show (Tryz.prog.info? 124).map (·.size) = some 2 by kernel_rfl)
  have hsh : w.shape? b = some (124, 2) := by unfold Blk at B; simp [World.shape?, B]
  have hto := Lib.run_to_unsafe (P := Tryz.prog) w ⟨b, 0, none⟩ Tryz.underlying122 Tryz.underlying243 hj (by rw [hjs]; decide) hsh (Nat.zero_lt_succ 1)
  have hfrom := Lib.run_from_unsafe (P := Tryz.prog) w ⟨b, 0, none⟩ Tryz.underlying243 Tryz.underlying122 hj hsh (by kernel_rfl)
  have hne : (callFunc 178 #[.pointer (some ⟨b, 0, none⟩)]).run Tryz.prog w = .ok (.value (.pointer (some ⟨b, 0, none⟩))) w := by
    rw [run_callFunc_extern Tryz.func178 (by kernel_rfl) (by kernel_rfl) (by kernel_rfl) (e := Extern.AbiNoEscape.same) (by kernel_rfl)]
    rw [Lib.run_noEscape]
    rfl
  go_enter Tryz.func129, Tryz.ntmps129
  go_wp2
  go_end0
  exact ⟨⟨_, rfl⟩, rfl⟩
set_option maxRecDepth 100000 in
set_option maxHeartbeats 1000000 in
theorem check_old (b : Nat) (v : Value) (w : World) (B : Blk w b 124 #[.pointer (some ⟨b, 0, none⟩), v]) : Calls Tryz.prog 129 #[.pointer (some ⟨b, 0, none⟩)] w fun e w' => (∃ r, e = .returned r) ∧ w' = w := by
  have c0 : w.cell? ⟨b, 0, none⟩ = some (.pointer (some ⟨b, 0, none⟩)) := B.cell 0
  have f0 := B.free 0
  obtain ⟨j, hj, hjs⟩ := Option.map_eq_some_iff.1 (show (Tryz.prog.info? 124).map (·.size) = some 2 by kernel_rfl)
  have hq := Lib.run_neq_ptr_same (P := Tryz.prog) w ⟨b, 0, none⟩ Tryz.underlying122 hj
  go_enter Tryz.func129, Tryz.ntmps129
  go_wp2
  go_end0
  exact ⟨⟨_, rfl⟩, rfl⟩
/-- A strings.Builder of the call's own that holds l. -/
def Bld (base : Nat) (w : World) (b : Nat) (l : List UInt8) : Prop := ∃ p v, (p = .pointer none ∨ p = .pointer (some ⟨b, 0, none⟩)) ∧ Blk w b 124 #[p, v] ∧ b < base ∧ base ≤ w.heap.size ∧ Own8 base w v l
theorem Bld.new (w : World) : Bld (w.heap.size + 1) (w.alloc (.cells #[.pointer none, .slice none 0 0] 124)) w.heap.size [] := ⟨_, _, .inl rfl, Blk.new w _ _, by omega, by simp, Own.nil _ _ _ _⟩
theorem check_any (base b : Nat) (l : List UInt8) (w0 w : World) (h : Bld base w b l) (hx : Ext w0 w) (hb : w0.heap.size ≤ b) : Calls Tryz.prog 129 #[.pointer (some ⟨b, 0, none⟩)] w fun e w' => (∃ r, e = .returned r) ∧ ∃ v, Blk w' b 124 #[.pointer (some ⟨b, 0, none⟩), v] ∧ b < base ∧ base ≤ w'.heap.size ∧ Own8 base w' v l ∧ Ext w0 w' := by
  obtain ⟨p, v, (rfl | rfl), B, h1, h2, ho⟩ := h
  · refine (check_new b v w B).mono ?_
    rintro e w' ⟨he, rfl⟩
    exact ⟨he, v, B.set 0 _, h1, by simpa using h2, ho.setCell (by exact h1) _, hx.setCell hb _⟩
  · refine (check_old b v w B).mono ?_
    rintro e w' ⟨he, rfl⟩
    exact ⟨he, v, B, h1, h2, ho, hx⟩
set_option maxRecDepth 100000 in
set_option maxHeartbeats 1000000 in
theorem wb_any (base b : Nat) (l : List UInt8) (c : UInt8) (w0 w : World) (h : Bld base w b l) (hl : l.length < 1000000000) (hx : Ext w0 w) (hb : w0.heap.size ≤ b) : Calls Tryz.prog 80 #[.pointer (some ⟨b, 0, none⟩), .int .u8 c.toNat] w fun e w' => (∃ r, e = .returned r) ∧ Bld base w' b (l ++ [c]) ∧ Ext w0 w' := by
  go_enter Tryz.func80, Tryz.ntmps80
  go_wp2_with (first | (go_at_call 129; refine (check_any base b l w0 w h hx hb).mono ?_; rintro e w1 ⟨⟨r, rfl⟩, v, B1, h1, h2, ho, hx1⟩; obtain ⟨A, cap, rfl⟩ := ho.sl.val; have c1 : w1.cell? ⟨b, 1, none⟩ = some (.slice A l.length cap) := B1.cell 1; have f1 := B1.free 1) | (at_builtin; go_loud (refine wpList_ap el8 rfl _ _ rfl bv_one (w0 := w0) (l := l) (l2 := [c]) (hx1.alloc _) base rfl (ho.alloc _) rfl (Own.new1k bv 5 _ c _ (by simp)).sl (by simp; omega) (by omega) (by simp; omega) ?_; intro v2 w2 ho2 hx2 hg2 _; have B2 := (B1.alloc (.cells #[.int .u8 c.toNat] 5)).grown hg2 (by intro e; have := ho.row b e.symm; omega); obtain ⟨A2, cap2, rfl⟩ := ho2.sl.val; have c2 : w2.cell? ⟨b, 1, none⟩ = some (.slice A l.length cap) := B2.cell 1; have f2 := B2.free 1; have hz2 := hg2.size)))
  go_ret
  simp only [World.size_alloc] at hz2
  have ho3 := ho2.setCell (a := ⟨b, 1, none⟩) h1 (.slice A2 (l.length + 1) cap2)
  rw [List.length_append, List.length_singleton] at ho3
  exact ⟨⟨_, rfl⟩, ⟨_, _, .inr rfl, B2.set 1 _, h1, by simp; omega, ho3⟩, hx2.setCell hb _⟩
end Go.Proofs.YtpbgfifojfakhaaGreatDoor
