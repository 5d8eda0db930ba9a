/- name: Valid, prepared, Prepare, sized at plain texts. -/
import Derived.Test.YtpbgfifojfakhaaGreatDoorN3
namespace Go.Proofs.YtpbgfifojfakhaaGreatDoor
open Go.RowKit
theorem fence_round (ro : Option Nat) : (fence ro).round = ro := rfl
attribute [local go_sem] Oper.semAt_some fence_round
set_option maxRecDepth 100000 in
set_option maxHeartbeats 1000000 in
theorem valid_plain (l : List UInt8) (hl : Plain l) (w : World) (G : NameG w) : Calls Tryz.prog 82 #[tv l] w fun e w' => e = .returned (.bool true) ∧ Ext w w' := by
  refine callsIn_wide.1 (callsIn_of_wp_marks (n := 0) Tryz.func82 rfl trivial (wpIn_wide.2 ?_) rfl); simp only [Tryz.ntmps82, List.size_toArray, List.length_cons, List.length_nil, Nat.reduceAdd, Nat.reduceSub, Array.replicate_succ, Array.replicate_zero, List.push_toArray, List.append_toArray, List.nil_append, List.cons_append]
  go_wp2_with (go_at_call 130; refine (runes_any l _).mono ?_; rintro e w1 ⟨rfl, rfl⟩)
  have hbx : ((w.alloc (.cells #[.bool false] 4)).alloc (.cells #[tv l] 9)).cell? ⟨w.heap.size + 1, 0, none⟩ = some (tv l) := by
    have := (cell_new_l (w.alloc (.cells #[.bool false] 4)) (tv l) 9).1
    rwa [World.size_alloc] at this
  refine wpIn_for rfl (enters_of Tryz.func179 (by kernel_rfl) rfl) (runes_iter l hl (w.heap.size + 1) w _ G (((Ext.refl w).alloc _).alloc _) hbx (fun _ => False) (fun k h => h.elim)) ?_ ?_ ?_
    (fun I _ W => (W.heap[w.heap.size]? = some (.cells #[.bool false] 4) ∧ ¬ I w.heap.size) ∧ (Ext w W ∧ ∀ k, I k → w.heap.size ≤ k)) (fun _ _ _ _ => False) (Stab.and (Stab.blk _ _) (Stab.ext w)) (fun _ => Stab.pure _) ?_ ?_ ?_ ?_
  · rintro x _ W ⟨i, rfl⟩; rfl
  · exact fun x args W W' l r _ _ h => h
  · rintro k rfl; simp
  · exact ⟨⟨(Below.heap_alloc _ _ _ (by simp)).trans (World.alloc_heap_new w _), by omega⟩, ((Ext.refl w).alloc _).alloc _, fun k hk => by omega⟩
  · rintro lp x _ W ⟨i, rfl⟩
    gi_wp2
    refine And.intro trivial ?_
    rintro Is pre post W2 hxs hIs hIt hex hinv
    have Hinv := Lib.hid hinv
    clear hinv hIs hIt hex hxs
    gi_wp2
    exact ⟨Mov.refl _ _, Hinv.out⟩
  · rintro D Is W hD _ ⟨⟨h1, h2⟩, h3, h4⟩ hDc
    obtain ⟨c1, f1⟩ := cell_of_box h1
    simp only [Exit.inBlock]
    go_wp2
    have hDs : (W.setCell ⟨w.heap.size, 0, none⟩ (.bool true)).heap[D]? = some (.deferred (some [])) := (Below.heap_setCell W _ _ D (by simp only [World.size_alloc] at hD; simp; omega)).trans hDc
    have hc3 := World.cell?_setCell_same W ⟨w.heap.size, 0, none⟩ (.bool true) c1
    have hc2 : ((W.setCell ⟨w.heap.size, 0, none⟩ (.bool true)).putObj D (.deferred none)).cell? ⟨w.heap.size, 0, none⟩ = some (.bool true) := by
      rw [← hc3]; exact World.cell?_of_block (World.putObj_heap_other (by simp only [World.size_alloc] at hD; simp; omega))
    refine postM_ret (v := .bool true) hDs rfl ?_ ⟨rfl, ?_⟩
    · simp [results, Tryz.results82, go_sem, hc2]
    · exact (h3.setCell (Nat.le_refl _) _).done (by simp only [World.size_alloc] at hD; omega) _
  · exact fun _ _ _ _ _ _ _ _ _ _ h => h.elim
/-- All bytes are signs that stay as they are. -/
def Print (l : List UInt8) : Prop := l.length < 1000000 ∧ ∀ c ∈ l, 32 ≤ c.toNat ∧ c.toNat < 127
theorem Print.plain {l : List UInt8} (h : Print l) : Plain l := ⟨h.1, fun c hc => by have := h.2 c hc; omega⟩
theorem blanks_no (c : Nat) (h : c < 127) : inSp (c : Int) blanksL = false := by simp [inSp, blanksL]; omega
theorem nothing_no (c : Nat) (h : c < 127) : inSp (c : Int) nothingL = false := by simp [inSp, nothingL]; omega
theorem barred_no (c : Nat) (h : c < 127) (h0 : 32 ≤ c) : inSp (c : Int) barredL = false := by simp [inSp, barredL]; omega
/-- What prepared hands on. -/
def SignE (c : UInt8) (args : Array Value) (_ : World) : Prop := args = #[.int .i32 c.toNat]
theorem prepared_any (l : List UInt8) (w : World) : Calls Tryz.prog 126 #[tv l] w fun e w' => e = .returned (.func (.func 176) #[] #[.pointer (some ⟨w.heap.size, 0, none⟩)]) ∧ w' = w.alloc (.cells #[tv l] 9) := by
  unfold tv
  go_enter Tryz.func126, Tryz.ntmps126
  go_wp2
  go_ret
  exact ⟨rfl, rfl⟩
theorem inR {n : Nat} {P : Program} {f : FuncId} {args : Array Value} {w : World} {R : Ending → World → Prop} (l : Nat) (h : Calls P f args w R) : CallsIn (fence (some l)) n P f args w R := CallsIn.inRound (F := Fence.wide) l (callsIn_wide.2 h)
theorem roundR {n : Nat} {P : Program} {lp : Nat} {fn : FuncId} {tm : Array Value} {asg bd : Code} {w : World} {R : Ending → World → Prop} (l : Nat) (h : RoundIn Fence.wide n P lp fn tm asg bd w R) : RoundIn (fence (some l)) n P lp fn tm asg bd w R := h
theorem within_blanks (c : Nat) (w : World) (h : c < 127) (G : NameG w) : Calls Tryz.prog 127 #[.int .i32 c, .slice (some ⟨4, 0, none⟩) 6 6] w fun e w' => e = .returned (.bool false) ∧ Ext w w' := by
  have := within_any c _ blanksL w G.blanks (by decide)
  rwa [blanks_no c h] at this
theorem within_nothing (c : Nat) (w : World) (h : c < 127) (G : NameG w) : Calls Tryz.prog 127 #[.int .i32 c, .slice (some ⟨5, 0, none⟩) 5 5] w fun e w' => e = .returned (.bool false) ∧ Ext w w' := by
  have := within_any c _ nothingL w G.nothing (by decide)
  rwa [nothing_no c h] at this
theorem within_barred (c : Nat) (w : World) (h : c < 127) (h0 : 32 ≤ c) (G : NameG w) : Calls Tryz.prog 127 #[.int .i32 c, .slice (some ⟨0, 0, none⟩) 9 9] w fun e w' => e = .returned (.bool false) ∧ Ext w w' := by
  have := within_any c _ barredL w G.barred (by decide)
  rwa [barred_no c h h0] at this
theorem stab_more {β : Type} {J : (Nat → Prop) → β → World → Prop} (h : Stab J) (p : Nat → Prop) : Stab (fun I s w => J (fun k => p k ∨ I k) s w) := fun I I' s w w' hs hm hi =>
  h _ _ s w w' hs (hm.weak fun k _ h => .inr h) fun k hk => hk.elim (fun h => .inl (.inl h)) fun h => (hi k h).imp .inr id
theorem stab_cell {β : Type} (a : Addr) (v : Value) : Stab (fun I (_ : β) w => w.cell? a = some v ∧ ¬ I a.block) := fun I I' s w w' ⟨h1, h2⟩ hm hi => by
  have hlt := World.block_lt_of_cell? _ _ h1
  exact ⟨by rw [← h1]; exact World.cell?_of_block (hm.block a.block hlt h2), fun h => (hi _ h).elim h2 (fun h => by omega)⟩
set_option maxRecDepth 100000 in
set_option maxHeartbeats 2000000 in
theorem prepared_iter (l : List UInt8) (hl : Print l) (b : Nat) (w0 W : World) (G : NameG w0) (hW : Ext w0 W) (hb : W.cell? ⟨b, 0, none⟩ = some (tv l)) (C0 : Nat → Prop) (hC : ∀ k, C0 k → w0.heap.size ≤ k ∧ k ≠ b) (hbw : w0.heap.size ≤ b) :
    Iter Tryz.prog 176 #[.pointer (some ⟨b, 0, none⟩)] SignE l C0 (fun k => k = b) W := by
  intro lp J Jx W0 hx hJ hJx hy h0
  have hbW : b < W.heap.size := World.block_lt_of_cell? _ _ hb
  have hb0 : W0.cell? ⟨b, 0, none⟩ = some (tv l) := hx.at_ hb
  have hz := hx.size
  have hb00 : b < W0.heap.size := by omega
  obtain ⟨R, hR⟩ : ∃ R : Ending → World → Prop, R = fun e W' => (∃ v, e = .returned v) ∧ ∃ I', (J I' l W' ∨ ∃ pre x post, l = pre ++ x :: post ∧ Jx I' (pre ++ [x]) W') := ⟨_, rfl⟩
  show Calls _ _ #[.func (.yield lp) #[] #[], .pointer (some ⟨b, 0, none⟩)] _ _
  rw [← hR]
  have HR := Lib.hid hR
  have Hy := Lib.hid hy
  have HJ := Lib.hid hJ
  have HJx := Lib.hid hJx
  have HC := Lib.hid hC
  clear hR hy hJ hJx hC
  refine callsIn_wide.1 (callsIn_of_wp_marks (n := 0) Tryz.func176 rfl trivial (wpIn_wide.2 ?_) rfl); simp only [Tryz.ntmps176, List.size_toArray, List.length_cons, List.length_nil, Nat.reduceAdd, Nat.reduceSub, Array.replicate_succ, Array.replicate_zero, List.push_toArray, List.append_toArray, List.nil_append, List.cons_append]
  go_wp2_with (go_at_call 130; refine (runes_any l _).mono ?_; rintro e w1 ⟨rfl, rfl⟩)
  have hbx : ((W0.alloc (.cells #[.func (.yield lp) #[] #[]] 237)).alloc (.cells #[tv l] 9)).cell? ⟨W0.heap.size + 1, 0, none⟩ = some (tv l) := by
    have := (cell_new_l (W0.alloc (.cells #[.func (.yield lp) #[] #[]] 237)) (tv l) 9).1
    rwa [World.size_alloc] at this
  have hby : ((W0.alloc (.cells #[.func (.yield lp) #[] #[]] 237)).alloc (.cells #[tv l] 9)).cell? ⟨W0.heap.size, 0, none⟩ = some (.func (.yield lp) #[] #[]) :=
    ((Ext.refl _).alloc _).at_ (cell_new_l W0 _ _).1
  refine wpIn_for rfl (enters_of Tryz.func179 (by kernel_rfl) rfl) (runes_iter l hl.plain (W0.heap.size + 1) w0 _ G (((hW.trans hx).alloc _).alloc _) hbx (fun k => (C0 k ∨ W.heap.size ≤ k) ∧ k ≠ b ∧ k ≠ W0.heap.size ∧ k ≠ W0.heap.size + 1) (fun k h => ⟨h.1.elim (fun h => (HC.out k h).1) (fun h => Nat.le_trans hW.size h), h.2.2.2⟩)) ?_ ?_ ?_
    (fun I pre W' => J (fun k => (k = b ∨ k = W0.heap.size ∨ k = W0.heap.size + 1) ∨ I k) pre W' ∧ (W'.cell? ⟨W0.heap.size, 0, none⟩ = some (.func (.yield lp) #[] #[]) ∧ ¬ I W0.heap.size) ∧ (Ext w0 W' ∧ ∀ k, I k → w0.heap.size ≤ k) ∧ W0.heap.size + 2 ≤ W'.heap.size)
    (fun c I pre W' => c = .ret ∧ Jx (fun k => (k = b ∨ k = W0.heap.size ∨ k = W0.heap.size + 1) ∨ I k) pre W')
    (Stab.and (stab_more HJ.out _) (Stab.and (stab_cell _ _) (Stab.and (Stab.ext w0) (Stab.size _)))) (fun c => Stab.and (Stab.pure fun _ => c = .ret) (stab_more HJx.out _)) ?_ ?_ ?_ ?_
  · rintro x _ W ⟨i, rfl⟩; rfl
  · exact fun x args W W' l r _ _ h => h
  · rintro k rfl; simp
  · refine ⟨HJ.out _ _ _ _ _ h0 (Mov.of_ext (((Ext.refl _).alloc _).alloc _)) (by rintro k ((rfl | rfl | rfl) | rfl) <;> first | (exact .inl rfl) | (right; omega)), ⟨hby, by omega⟩, ⟨((hW.trans hx).alloc _).alloc _, fun k hk => by have := hW.size; omega⟩, by simp⟩
  · rintro lp2 x _ W2' ⟨i, rfl⟩
    gi_wp2
    refine And.intro trivial ?_
    rintro Is pre post W2 hxs hIs hIt hex ⟨hJ2, ⟨hc2, hnc2⟩, ⟨hx2, hIs2⟩, hs2⟩
    have hc8 : 32 ≤ x.toNat ∧ x.toNat < 127 := hl.2 x (by rw [hxs]; simp)
    obtain ⟨hc8a, hc8b⟩ := hc8
    have G2 := G.ext hx2
    have HJ2 := Lib.hid hJ2
    have HIs := Lib.hid hIs
    have Hxs := Lib.hid hxs
    have Hnc := Lib.hid hnc2
    have HIs2 := Lib.hid hIs2
    have HIt := Lib.hid hIt
    clear hIt hJ2 hIs hxs hnc2 hIs2 hex hbx hby h0 hb hb0
    have HHl := Lib.hid hl
    clear hl
    gi_wp2_with (first
      | (refine ⟨trivial, rfl, ?_⟩; gi_at_call 127; with_reducible refine (inR lp2 (within_blanks _ _ hc8b G2)).mono ?_; rintro e w3 ⟨rfl, hx3⟩; have G3 := G2.ext hx3)
      | (refine ⟨trivial, rfl, ?_⟩; gi_at_call 127; with_reducible refine (inR lp2 (within_nothing _ _ hc8b G3)).mono ?_; rintro e w4 ⟨rfl, hx4⟩; have hx5 := hx3.trans hx4; have hc5 := hx5.at_ hc2;
         obtain ⟨fn, tm, asg, bd, hyy, hR⟩ := Hy.out (fun k => (k = b ∨ k = W0.heap.size ∨ k = W0.heap.size + 1) ∨ Is k) pre x post #[.int .i32 x.toNat] w4 Hxs.out (by rintro k ((rfl | rfl | rfl) | h) <;> first | (exact .inl rfl) | (right; omega) | (rcases HIs.out k h with rfl | h <;> right <;> simp only [World.size_alloc] at * <;> omega)) (by have := hx5.size; rintro k ((rfl | rfl | rfl) | h) <;> first | omega | (have := HIt.out k h; omega)) rfl (HJ.out _ _ _ _ _ HJ2.out (Mov.of_ext hx5) fun k h => .inl h)))
    refine And.intro (by trivial) ?_
    refine (roundR lp2 hR).mono ?_
    rintro e W3 (⟨rfl, hJ3, hm3⟩ | ⟨rfl, hJx3, hm3⟩)
    · have hy4 : W0.heap.size < w4.heap.size := World.block_lt_of_cell? _ _ hc5
      have hy3 : W3.cell? ⟨W0.heap.size, 0, none⟩ = some (.func (.yield lp) #[] #[]) := by
        rw [← hc5]; exact World.cell?_of_block (hm3.block _ hy4 fun h => h.1 (.inl (.inr (.inl rfl))))
      have hx6 : Ext w0 W3 := (hx2.trans hx5).mov hm3 fun k hk => hk.2.elim (fun h => (HC.out k h).1) (fun h => Nat.le_trans hW.size h)
      have hm6 : Mov (fun k => ¬ Is k ∧ (((C0 k ∨ W.heap.size ≤ k) ∧ k ≠ b ∧ k ≠ W0.heap.size ∧ k ≠ W0.heap.size + 1) ∨ W0.heap.size + 1 + 1 ≤ k)) W2 W3 :=
        (Mov.of_ext hx5).trans (hm3.weak fun k _ hk => ⟨fun h => hk.1 (.inr h), .inl ⟨hk.2, fun h => hk.1 (.inl (.inl h)), fun h => hk.1 (.inl (.inr (.inl h))), fun h => hk.1 (.inl (.inr (.inr h)))⟩⟩)
      have hs3 : W0.heap.size + 2 ≤ W3.heap.size := Nat.le_trans hs2 (Nat.le_trans hx5.size hm3.size)
      have HH := Lib.hid (show _ ∧ _ ∧ _ ∧ _ from ⟨hJ3, hy3, hx6, hm6⟩)
      clear hJ3 hy3 hx6 hm6 hm3 hR hyy
      gi_wp2
      simp only [forPost, World.size_alloc]
      exact ⟨HH.out.2.2.2, HH.out.1, ⟨HH.out.2.1, Hnc.out⟩, ⟨HH.out.2.2.1, HIs2.out⟩, hs3⟩
    · have hm6 : Mov (fun k => ¬ Is k ∧ (((C0 k ∨ W.heap.size ≤ k) ∧ k ≠ b ∧ k ≠ W0.heap.size ∧ k ≠ W0.heap.size + 1) ∨ W0.heap.size + 1 + 1 ≤ k)) W2 W3 :=
        (Mov.of_ext hx5).trans (hm3.weak fun k _ hk => ⟨fun h => hk.1 (.inr h), .inl ⟨hk.2, fun h => hk.1 (.inl (.inl h)), fun h => hk.1 (.inl (.inr (.inl h))), fun h => hk.1 (.inl (.inr (.inr h)))⟩⟩)
      have HH := Lib.hid (show _ ∧ _ from ⟨hJx3, hm6⟩)
      clear hJx3 hm6 hm3 hR hyy
      gi_wp2
      simp only [forPost, World.size_alloc]
      exact ⟨HH.out.2, by trivial, HH.out.1⟩
  · rintro D Is Wd hD hID ⟨h1, _⟩ hDc
    show bodyPostM _ _ _ _ _ .ret _ _
    refine postM_ret hDc rfl (results_none rfl _ _ _) ?_
    rw [HR.out]
    exact ⟨⟨_, rfl⟩, _, .inl (HJ.out _ (fun k => (k = b ∨ k = W0.heap.size ∨ k = W0.heap.size + 1) ∨ Is k) _ _ _ h1 (Mov.putObj (Mov.refl _ _) D _ fun _ => .inr hID) fun k h => .inl h)⟩
  · rintro D Is c pre x post Wd hD hID hxs ⟨rfl, h1⟩ hDc
    go_wp2
    refine postM_ret hDc rfl (results_none rfl _ _ _) ?_
    rw [HR.out]
    exact ⟨⟨_, rfl⟩, _, .inr ⟨pre, x, post, hxs, HJx.out _ (fun k => (k = b ∨ k = W0.heap.size ∨ k = W0.heap.size + 1) ∨ Is k) _ _ _ h1 (Mov.putObj (Mov.refl _ _) D _ fun _ => .inr hID) fun k h => .inl h⟩⟩
end Go.Proofs.YtpbgfifojfakhaaGreatDoor
