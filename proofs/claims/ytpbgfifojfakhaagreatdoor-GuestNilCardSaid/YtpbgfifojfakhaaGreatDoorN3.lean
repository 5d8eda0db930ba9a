/- name: Runes over plain signs; Valid. -/
import Derived.Test.YtpbgfifojfakhaaGreatDoorN2
import Derived.Test.YtpbgfifojfakhaaGreatDoorW2
namespace Go.Proofs.YtpbgfifojfakhaaGreatDoor
open Go.RowKit

theorem cell_of_box {W : World} {B : Nat} {v : Value} {t : TypeId} (h : W.heap[B]? = some (.cells #[v] t (0, 0))) : W.cell? ⟨B, 0, none⟩ = some v ∧ W.frozen? ⟨B, 0, none⟩ = false := by
  constructor <;> simp [World.cell?, World.frozen?, h]
theorem cell_new_l (W : World) (v : Value) (t : TypeId) : (W.alloc (.cells #[v] t)).cell? ⟨W.heap.size, 0, none⟩ = some v ∧ (W.alloc (.cells #[v] t)).frozen? ⟨W.heap.size, 0, none⟩ = false :=
  cell_of_box (World.alloc_heap_new W _)
/-- All bytes are signs by themselves. -/
def Plain (l : List UInt8) : Prop := l.length < 1000000 ∧ ∀ c ∈ l, c.toNat < 128
theorem Plain.drop {l : List UInt8} (h : Plain l) (j : Nat) : Plain (l.drop j) := ⟨by have := h.1; rw [List.length_drop]; omega, fun c hc => h.2 c (List.mem_of_mem_drop hc)⟩
/-- What Runes hands on. -/
def RuneE (c : UInt8) (args : Array Value) (_ : World) : Prop := ∃ i : Int, args = #[.int .i64 i, .int .i32 c.toNat]
theorem runes_any (l : List UInt8) (w : World) : Calls Tryz.prog 130 #[tv l] w fun e w' => e = .returned (.func (.func 179) #[] #[.pointer (some ⟨w.heap.size, 0, none⟩)]) ∧ w' = w.alloc (.cells #[tv l] 9) := by
  unfold tv
  go_enter Tryz.func130, Tryz.ntmps130
  go_wp2
  go_ret
  exact ⟨rfl, rfl⟩
set_option maxRecDepth 100000 in
set_option maxHeartbeats 1000000 in
attribute [local go_sem] ext_list size_list get_list in
theorem runes_iter (l : List UInt8) (hl : Plain l) (b : Nat) (w0 W : World) (G : NameG w0) (hW : Ext w0 W) (hb : W.cell? ⟨b, 0, none⟩ = some (tv l)) (C0 : Nat → Prop) (hC : ∀ k, C0 k → w0.heap.size ≤ k ∧ k ≠ b) :
    Iter Tryz.prog 179 #[.pointer (some ⟨b, 0, none⟩)] RuneE l C0 (fun k => k = b) W := by
  intro lp J Jx W0 hx hJ hJx hy h0
  have hbW : b < W.heap.size := World.block_lt_of_cell? _ _ hb
  have hxz := hx.size
  have hb0 : W0.cell? ⟨b, 0, none⟩ = some (tv l) := hx.at_ hb
  obtain ⟨R, hR⟩ : ∃ R : Ending → World → Prop, R = fun e W' => (∃ v, e = .returned v) ∧ ∃ I', (J I' l W' ∨ ∃ pre x post, l = pre ++ x :: post ∧ Jx I' (pre ++ [x]) W') := ⟨_, rfl⟩
  show Calls _ _ #[.func (.yield lp) #[] #[], .pointer (some ⟨b, 0, none⟩)] _ _
  rw [← hR]
  have HR := Lib.hid hR
  clear hR
  have Hy := Lib.hid hy
  clear hy
  go_enter Tryz.func179, Tryz.ntmps179
  go_wp2
  go_loopw [3] (fun at_ wr => ∃ (j : Nat) (I : Nat → Prop), j ≤ l.length ∧ at_ = .int .i64 j ∧ I b ∧ (∀ k, I k → k = b ∨ W0.heap.size ≤ k) ∧ (∀ k, I k → k < wr.heap.size) ∧ J I (l.take j) wr ∧ wr.cell? ⟨b, 0, none⟩ = some (tv l) ∧ Ext w0 wr ∧ W0.heap.size ≤ wr.heap.size) (fun at_ _ => l.length - (intOf at_).toNat)
  case atStart => exact ⟨0, fun k => k = b, Nat.zero_le _, rfl, rfl, fun k hk => .inl hk, fun k hk => by subst hk; omega, by simpa using h0, hb0, hW.trans hx, Nat.le_refl _⟩
  case round =>
    obtain ⟨j, I, hj, rfl, hIb, hI, hIt, hJs, hbr, hxr, hsz⟩ := hrel
    by_cases hlt : j < l.length
    · obtain ⟨c, hc⟩ : ∃ c, c = l[j] := ⟨_, rfl⟩
      have hd : l.drop j = c :: l.drop (j + 1) := by rw [hc]; exact List.drop_eq_getElem_cons hlt
      have hc8 : c.toNat < 128 := by rw [hc]; exact hl.2 _ (List.getElem_mem hlt)
      have hp := (hl.drop (j + 1)).1
      unfold tv at hbr
      have hz := hl.1
      have K := fun w G => decode_plain c (l.drop (j + 1)) w hc8 (by omega) G
      rw [← hd] at K
      unfold tv at K
      have Hd := Lib.hid hd
      have Hc := Lib.hid hc
      have HI := Lib.hid hI
      have HIt := Lib.hid hIt
      clear hd hc hI hIt
      have HJ := Lib.hid hJ
      clear hJ
      refine (wpIn_wide (n := 1)).1 ?_
      gi_wp2_with (refine ⟨trivial, ?_⟩; gi_at_call 180; refine (callsIn_wide.2 (K _ (G.ext hxr))).mono ?_; rintro e w1 ⟨rfl, hx1⟩; have hbr1 := hx1.at_ hbr; obtain ⟨fn, tm, asg, bd, hyy, hR⟩ := Hy.out I (l.take j) c (l.drop (j + 1)) #[.int .i64 j, .int .i32 c.toNat] w1 (by rw [← Hd.out, List.take_append_drop]) HI.out (fun k hk => Nat.lt_of_lt_of_le (HIt.out k hk) hx1.size) ⟨_, rfl⟩ (HJ.out _ _ _ _ _ hJs (Mov.of_ext hx1) fun k h => .inl h))
      refine hR.mono ?_
      rintro e W3 (⟨rfl, hJ3, hm3⟩ | ⟨rfl, hJx3, _⟩)
      · have hb1 : b < w1.heap.size := World.block_lt_of_cell? _ _ hbr1
        have hb3 : W3.cell? ⟨b, 0, none⟩ = some (.string ⟨l.toArray⟩) := by
          rw [← hbr1]; exact World.cell?_of_block (hm3.block b hb1 fun h => h.1 hIb)
        have hx3 : Ext w0 W3 := (hxr.trans hx1).mov hm3 fun k hk => hk.2.elim (fun h => (hC k h).1) (fun h => Nat.le_trans hW.size h)
        have hz3 : W0.heap.size ≤ W3.heap.size := Nat.le_trans hsz (Nat.le_trans hx1.size hm3.size)
        have hJ4 : J I (l.take (j + 1)) W3 := by rw [List.take_succ_eq_append_getElem hlt, ← Hc.out]; exact hJ3
        have HIu := Lib.hid (fun k hk => Nat.lt_of_lt_of_le (HIt.out k hk) (Nat.le_trans hx1.size hm3.size) : ∀ k, I k → k < W3.heap.size)
        clear hJ3 hm3 hyy hR
        have Hx3 := Lib.hid hx3
        clear hx3
        gi_wp2
        go_roundw
        case rel => exact ⟨j + 1, I, by omega, by go_num, hIb, HI.out, HIu.out, hJ4, hb3, Hx3.out, hz3⟩
        case measure => simp only [intOf]; omega
      · gi_wp2
        refine bodyPost_ret (results_none rfl _ _ _) rfl ?_
        rw [HR.out]
        exact ⟨⟨_, rfl⟩, I, .inr ⟨l.take j, c, l.drop (j + 1), by rw [← Hd.out, List.take_append_drop], hJx3⟩⟩
    · obtain rfl : j = l.length := by omega
      rw [List.take_length] at hJs
      have HJs := Lib.hid hJs
      have HI := Lib.hid hI
      clear hJs hI hIt
      unfold tv at hbr
      go_wp2
      go_end0
      rw [HR.out]
      exact ⟨⟨_, rfl⟩, I, .inl HJs.out⟩
end Go.Proofs.YtpbgfifojfakhaaGreatDoor
