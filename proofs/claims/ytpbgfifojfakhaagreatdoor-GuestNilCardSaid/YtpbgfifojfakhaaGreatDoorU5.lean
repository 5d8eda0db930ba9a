/- strings.Builder.String by our own words. -/
import Derived.Test.YtpbgfifojfakhaaGreatDoorU4
import Derived.Lib.UnsafeStr
namespace Go.Proofs.YtpbgfifojfakhaaGreatDoor
open Go.RowKit
set_option maxRecDepth 100000 in
set_option maxHeartbeats 1000000 in
theorem str_any (base b : Nat) (l : List UInt8) (h0 : l ≠ []) (w0 w : World) (h : Bld base w b l) (hx : Ext w0 w) (hb : w0.heap.size ≤ b) : Calls Tryz.prog 81 #[.pointer (some ⟨b, 0, none⟩)] w fun e w' => e = .returned (tv l) ∧ Ext w0 w' := by
  obtain ⟨p, v, _, B, h1, h2, ho⟩ := h
  have hl0 : l.length ≠ 0 := by simpa using h0
  obtain ⟨g, cap, cur, rfl, hbg, hg, hnc, hcm, hcs, htake⟩ : ∃ g cap cur, v = .slice (some ⟨g, 0, none⟩) l.length cap ∧ base ≤ g ∧ w.heap[g]? = some (.cells cur 5 (0, 0)) ∧ l.length ≤ cap ∧ cap ≤ maxLen ∧ cur.size = cap * 1 ∧ cur.toList.take (l.length * 1) = l.map bv := by
    rcases ho.2 with ⟨_, hz⟩ | ⟨g, cap, cur, hv, r⟩
    · exact absurd hz hl0
    · exact ⟨g, cap, cur, hv, r⟩
  have c1 : w.drew.cell? ⟨b, 1, none⟩ = some (.slice (some ⟨g, 0, none⟩) l.length cap) := B.cell 1
  have hSD : (Builtin.unsafeSliceData_ #[22] 177 #[.slice (some ⟨g, 0, none⟩) l.length cap]).run Tryz.prog w.drew = .ok (.pointer (some ⟨g, 0, none⟩)) w.drew := Lib.run_unsafeSliceData_row _ _ _ _ _ _ (by omega)
  have hUS : (Builtin.unsafeString_ #[177, 3] 9 #[.pointer (some ⟨g, 0, none⟩), .int .i64 l.length]).run Tryz.prog w.drew = .ok (.string ⟨l.toArray⟩) (w.drew.freeze ⟨g, 0, none⟩ l.length) := by
    refine Lib.run_unsafeString_row w.drew 177 3 9 5 Tryz.underlying177 (by kernel_rfl) g cur.size (by have hg' : w.drew.heap[g]? = some (.cells cur 5 (0, 0)) := hg; simp [World.shape?, hg']) l h0 (by omega) (by unfold maxLen at hcm; omega) ?_
    intro j x hx
    obtain ⟨hj, rfl⟩ := List.getElem?_eq_some_iff.1 hx
    have := ho.cell j hj
    unfold Addr.add; split
    · rename_i h0; subst h0; exact this
    · simp only [Nat.zero_add]; exact this
  go_enter Tryz.func81, Tryz.ntmps81
  go_wp2
  go_region
  all_goals (go_simp; go_wp2; go_ret; exact ⟨rfl, Lib.below_freeze (Below.drew hx) (p := ⟨g, 0, none⟩) (by simp; omega) _⟩)
end Go.Proofs.YtpbgfifojfakhaaGreatDoor
