/- name: Prepare, sized, Name, Password at plain signs. -/
import Derived.Test.YtpbgfifojfakhaaGreatDoorN4
namespace Go.Proofs.YtpbgfifojfakhaaGreatDoor
open Go.RowKit
attribute [local go_sem] Oper.semAt_some fence_round
theorem and_odd : ∀ n : Nat, n < 127 → bits BinOp.and IntKind.i32 (n : Int) 65534 ≠ 65534 := by decide
set_option maxRecDepth 100000 in
set_option maxHeartbeats 2000000 in
theorem prepare_plain (l : List UInt8) (hl : Print l) (w : World) (G : NameG w) : Calls Tryz.prog 78 #[tv l] w fun e w' => e = .returned (.tuple #[tv l, .int .i64 0]) ∧ Ext w w' := by
  refine callsIn_wide.1 (callsIn_of_wp_marks (n := 0) Tryz.func78 rfl trivial (wpIn_wide.2 ?_) rfl); simp only [Tryz.ntmps78, List.size_toArray, List.length_cons, List.length_nil, Nat.reduceAdd, Nat.reduceSub, Array.replicate_succ, Array.replicate_zero, List.push_toArray, List.append_toArray, List.nil_append, List.cons_append]
  go_wp2_with (first
    | (go_at_call 82; refine (valid_plain l hl.plain _ (G.ext (((Ext.refl w).alloc _).alloc _))).mono ?_; rintro e w3 ⟨rfl, hx3⟩)
    | (go_at_call 126; refine (prepared_any l _).mono ?_; rintro e w4 ⟨rfl, rfl⟩))
  have hx0 : Ext w w3 := (((Ext.refl w).alloc _).alloc _).trans hx3
  have hz3 := hx3.size
  simp only [World.size_alloc] at hz3
  have b1 : Blk w3 w.heap.size 9 #[tv []] := ((Blk.new w 9 #[tv []]).alloc _).ext hx3
  have b2 : Blk w3 (w.heap.size + 1) 27 #[.int .i64 0] := by
    have := Blk.new (w.alloc (.cells #[tv []] 9)) 27 #[.int .i64 0]
    rw [World.size_alloc] at this
    exact this.ext hx3
  have hbx : ((w3.alloc (.cells #[.slice none 0 0] 22)).alloc (.cells #[tv l] 9)).cell? ⟨w3.heap.size + 1, 0, none⟩ = some (tv l) := by
    have := (cell_new_l (w3.alloc (.cells #[.slice none 0 0] 22)) (tv l) 9).1
    rwa [World.size_alloc] at this
  refine wpIn_for rfl (enters_of Tryz.func176 (by kernel_rfl) rfl) (prepared_iter l hl (w3.heap.size + 1) w _ G ((hx0.alloc _).alloc _) hbx (fun k => k = w3.heap.size) (fun k h => by subst h; exact ⟨hx0.size, by omega⟩) (by have := hx0.size; omega)) ?_ ?_ ?_
    (fun I pre W => (W.heap[w.heap.size]? = some (.cells #[tv []] 9) ∧ ¬ I w.heap.size) ∧ (W.heap[w.heap.size + 1]? = some (.cells #[.int .i64 0] 27) ∧ ¬ I (w.heap.size + 1)) ∧
      (∃ v, (W.heap[w3.heap.size]? = some (.cells #[v] 22) ∧ ¬ I w3.heap.size) ∧ (Own8 (w3.heap.size + 1) W v pre ∧ ∀ k, v.ownBlock = some k → ¬ I k)) ∧ (Ext w W ∧ ∀ k, I k → w.heap.size ≤ k))
    (fun _ _ _ _ => False) (Stab.and (Stab.blk _ _) (Stab.and (Stab.blk _ _) (Stab.and (Stab.ex fun v => Stab.and (Stab.blk _ _) (Stab.own bv _ _ (fun _ => v) (fun pre => pre))) (Stab.ext w)))) (fun _ => Stab.pure _) ?_ ?_ ?_ ?_
  · rintro x _ W rfl; rfl
  · exact fun x args W W' l r _ _ h => h
  · rintro k rfl; simp
  · refine ⟨⟨(b1.alloc _).alloc _, by omega⟩, ⟨(b2.alloc _).alloc _, by omega⟩, ⟨_, ⟨(Blk.new w3 22 #[.slice none 0 0]).alloc _, by omega⟩, Own.nil _ _ _ _, by simp [Value.ownBlock]⟩, (hx0.alloc _).alloc _, fun k hk => by have := hx0.size; omega⟩
  · rintro lp x _ Wq rfl
    gi_wp2
    refine And.intro (by trivial) ?_
    rintro Is pre post W2 hxs hIs hIt hex ⟨⟨h1, n1⟩, ⟨h2, n2⟩, ⟨v, ⟨h3, n3⟩, ⟨ho, no⟩⟩, ⟨hx2, hI2⟩⟩
    obtain ⟨hca, hcb⟩ : 32 ≤ x.toNat ∧ x.toNat < 127 := hl.2 x (by rw [hxs]; simp)
    have hpl : pre.length < 1000000 := by have := hl.1; rw [hxs] at this; simp at this; omega
    obtain ⟨c3, f3⟩ := cell_of_box h3
    have hlt3 := World.block_lt_of_cell? _ _ c3
    have G2 := G.ext hx2
    obtain ⟨A, cap, rfl⟩ := ho.sl.val
    have e1 : (bits BinOp.and IntKind.i32 (x.toNat : Int) 65534 == 65534) = false := by simpa using and_odd _ hcb
    have H := Lib.hid (show _ ∧ _ ∧ _ ∧ _ ∧ _ ∧ _ ∧ _ ∧ _ ∧ _ from ⟨h1, n1, h2, n2, h3, n3, hI2, hIs, hIt⟩)
    clear h1 n1 h2 n2 h3 n3 hI2 hIs hIt no hex hxs b1 b2 hbx
    gi_wp2_with (first
      | (refine ⟨trivial, rfl, ?_⟩; gi_at_call 127; with_reducible refine (inR lp (within_barred _ _ hcb hca G2)).mono ?_; rintro e w4 ⟨rfl, hx4⟩; have c4 := hx4.at_ c3; have f4 := (hx4.frozen (p := ⟨w3.heap.size, 0, none⟩) hlt3).trans f3; have o4 := ho.ext hx4; have G4 := G2.ext hx4; have lt4 := Nat.lt_of_lt_of_le hlt3 hx4.size)
      | (refine ⟨trivial, rfl, ?_⟩; gi_at_call 128; with_reducible refine (inR lp (append_plain _ pre x _ (by omega) o4.sl (by omega) G4)).mono ?_; rintro e w5 ⟨v5, rfl, ho5, hx5⟩; obtain ⟨A5, cap5, rfl⟩ := ho5.sl.val; have c5 := hx5.at_ c4; have f5 := (hx5.frozen (p := ⟨w3.heap.size, 0, none⟩) lt4).trans f4))
    obtain ⟨h1, n1, h2, n2, h3, n3, hI2, hIs, hIt⟩ := H.out
    have hx6 := hx4.trans hx5
    have hz6 := hx6.size
    have hz4 := hx4.size
    simp only [List.length_append, List.length_cons, List.length_nil] at *
    have q1 : Blk w5 w.heap.size 9 #[tv []] := Blk.ext h1 hx6
    have q2 : Blk w5 (w.heap.size + 1) 27 #[.int .i64 0] := Blk.ext h2 hx6
    have q3 : Blk w5 w3.heap.size 22 #[_] := Blk.ext h3 hx6
    refine ⟨Mov.setCell (Mov.of_ext hx6) (fun _ => ⟨n3, .inl rfl⟩) _, ⟨q1.far (by simp; omega) _, n1⟩, ⟨q2.far (by simp; omega) _, n2⟩, ⟨_, ⟨q3.set 0 _, n3⟩, (ho5.low (by omega)).setCell (by simp) _, fun k hk h => ?_⟩, (hx2.trans hx6).setCell (by simp; omega) _, hI2⟩
    have e1 := ho5.row k hk
    have e2 := hIt k h
    omega
  · rintro D Is Wd hD hID ⟨⟨h1, n1⟩, ⟨h2, n2⟩, ⟨v, ⟨h3, n3⟩, ⟨ho, no⟩⟩, ⟨hx2, hI2⟩⟩ hDc
    obtain ⟨A, cap, rfl⟩ := ho.sl.val
    obtain ⟨c1, f1⟩ := cell_of_box h1
    obtain ⟨c2, f2⟩ := cell_of_box h2
    obtain ⟨c3, f3⟩ := cell_of_box h3
    have k1 := str8 ho.sl
    simp only [Exit.inBlock]
    go_wp2
    simp only [World.size_alloc] at hD
    have q1 : Blk ((Wd.setCell ⟨w.heap.size, 0, none⟩ (.string ⟨l.toArray⟩)).setCell ⟨w.heap.size + 1, 0, none⟩ (.int .i64 0)) w.heap.size 9 #[.string ⟨l.toArray⟩] := (Blk.set h1 0 (.string ⟨l.toArray⟩)).far (by simp) _
    have q2 : Blk ((Wd.setCell ⟨w.heap.size, 0, none⟩ (.string ⟨l.toArray⟩)).setCell ⟨w.heap.size + 1, 0, none⟩ (.int .i64 0)) (w.heap.size + 1) 27 #[.int .i64 0] := (Blk.far h2 (by simp) _).set 0 (.int .i64 0)
    have qD : ((Wd.setCell ⟨w.heap.size, 0, none⟩ (.string ⟨l.toArray⟩)).setCell ⟨w.heap.size + 1, 0, none⟩ (.int .i64 0)).heap[D]? = some (.deferred (some [])) :=
      (Below.heap_setCell _ _ _ D (by simp; omega)).trans ((Below.heap_setCell _ _ _ D (by simp; omega)).trans hDc)
    obtain ⟨Wf, hWf⟩ : ∃ Wf, Wf = ((Wd.setCell ⟨w.heap.size, 0, none⟩ (.string ⟨l.toArray⟩)).setCell ⟨w.heap.size + 1, 0, none⟩ (.int .i64 0)) := ⟨_, rfl⟩
    rw [← hWf] at q1 q2 qD ⊢
    have r1 : (Wf.putObj D (.deferred none)).cell? ⟨w.heap.size, 0, none⟩ = some (.string ⟨l.toArray⟩) := (World.cell?_of_block (World.putObj_heap_other (by simp; omega))).trans (q1.cell 0)
    have r2 : (Wf.putObj D (.deferred none)).cell? ⟨w.heap.size + 1, 0, none⟩ = some (.int .i64 0) := (World.cell?_of_block (World.putObj_heap_other (by simp; omega))).trans (q2.cell 0)
    refine postM_ret (v := .tuple #[tv l, .int .i64 0]) qD rfl ?_ ⟨rfl, ?_⟩
    · simp [results, Tryz.results78, go_sem, r1, r2, tv]
    · rw [hWf]
      exact ((hx2.setCell (Nat.le_refl _) _).setCell (by simp) _).done (by omega) _
  · exact fun _ _ _ _ _ _ _ _ _ _ h => h.elim
attribute [local go_sem] ext_list size_list get_list in
theorem sized_plain (c : UInt8) (l : List UInt8) (most : Int) (hl : Print (c :: l)) (hm : ((c :: l).length : Int) ≤ most) (w : World) (G : NameG w) : Calls Tryz.prog 49 #[tv (c :: l), .int .i64 most] w fun e w' => e = .returned (.tuple #[tv (c :: l), .int .i64 0]) ∧ Ext w w' := by
  have kp := fun w G => prepare_plain (c :: l) hl w G
  have hz := hl.1
  unfold tv at kp ⊢
  go_enter Tryz.func49, Tryz.ntmps49
  have hm2 : (l.length : Int) + 1 ≤ most := by simpa using hm
  go_wp2_with (go_at_call 78; refine (kp _ G).mono ?_; rintro e w1 ⟨rfl, hx1⟩)
  all_goals first
    | (exfalso; omega)
    | (go_ret2; exact ⟨rfl, hx1⟩)
theorem name_plain (c : UInt8) (l : List UInt8) (hl : Print (c :: l)) (hm : (c :: l).length ≤ 32) (w : World) (G : NameG w) : Calls Tryz.prog 32 #[tv (c :: l)] w fun e w' => e = .returned (.tuple #[tv (c :: l), .int .i64 0]) ∧ Ext w w' := by
  have kp := fun w G => sized_plain c l 32 hl (by omega) w G
  unfold tv at kp ⊢
  go_enter Tryz.func32, Tryz.ntmps32
  go_wp2_with (go_at_call 49; refine (kp _ G).mono ?_; rintro e w1 ⟨rfl, hx1⟩)
  go_ret2
  exact ⟨rfl, hx1⟩
theorem password_plain (c : UInt8) (l : List UInt8) (hl : Print (c :: l)) (hm : (c :: l).length ≤ 64) (w : World) (G : NameG w) : Calls Tryz.prog 33 #[tv (c :: l)] w fun e w' => e = .returned (.tuple #[tv (c :: l), .int .i64 0]) ∧ Ext w w' := by
  have kp := fun w G => sized_plain c l 64 hl (by omega) w G
  unfold tv at kp ⊢
  go_enter Tryz.func33, Tryz.ntmps33
  go_wp2_with (go_at_call 49; refine (kp _ G).mono ?_; rintro e w1 ⟨rfl, hx1⟩)
  go_ret2
  exact ⟨rfl, hx1⟩
/-- '[]byte(s)'. -/
theorem conv_bytes (l : List UInt8) (hl : l.length ≤ 1099511627776) (w : World) : ∃ w' cap, (convert 9 22 (.string ⟨l.toArray⟩)).run Tryz.prog w = .ok (.slice (some ⟨w.heap.size, 0, none⟩) l.length cap) w' ∧ By w' (.slice (some ⟨w.heap.size, 0, none⟩) l.length cap) l ∧ Ext w w' := by
  have hs : (⟨l.toArray⟩ : ByteArray).size = l.length := size_list l
  have hm : l.length ≤ maxLen := by unfold maxLen; omega
  refine ⟨Lib.bytesWorld w 5 ⟨l.toArray⟩, grownCap w l.length 0 5, ?_, ?_, ?_⟩
  · have := Lib.run_convert_string_bytes w 9 22 5 ⟨l.toArray⟩ Tryz.underlying9 Tryz.underlying22 Tryz.underlying5
    rwa [hs] at this
  · refine ⟨_, _, rfl, grownCap_ge _ _ _ _, grownCap_le_maxLen _ _ _ _ hm, fun h => (by cases h), fun ad ha => ?_⟩
    cases ha
    refine ⟨_, 0, rfl, by rw [Lib.bytesWorld_size]; omega, fun i hi => ?_⟩
    rw [Nat.zero_add, Lib.bytesWorld_cell _ _ _ _ (by rw [hs]; exact hi)]
    simp [bv, hi]
  · exact ⟨rfl, rfl, rfl, by rw [Lib.bytesWorld_size]; omega, fun j hj => Lib.bytesWorld_at_old w _ _ j hj⟩
set_option maxRecDepth 100000 in
set_option maxHeartbeats 1000000 in
theorem plain_t (w : World) : Calls Tryz.prog 31 #[tv [116]] w fun e w' => e = .returned (.bool true) ∧ Ext w w' := by
  obtain ⟨w1, cap, hk, hb, hx⟩ := conv_bytes [116] (by simp) w
  obtain ⟨b, off, e, hlt, hc⟩ := hb.get (by simp)
  cases e
  have c0 : w1.cell? ⟨w.heap.size, 0, none⟩ = some (.int .u8 116) := hc 0 (by simp)
  have hk2 : (convert 9 22 (.string ⟨#[116]⟩)).run Tryz.prog w = .ok (.slice (some ⟨w.heap.size, 0, none⟩) 1 cap) w1 := hk
  clear hk hc
  unfold tv
  go_enter Tryz.func31, Tryz.ntmps31
  go_wp2
  go_rounds 2
  go_ret
  exact ⟨rfl, hx⟩
end Go.Proofs.YtpbgfifojfakhaaGreatDoor
