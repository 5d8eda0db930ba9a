/- name: within, sign, decode and Append at plain signs. -/
import Derived.Test.YtpbgfifojfakhaaGreatDoorP0
import Derived.Test.YtpbgfifojfakhaaGreatDoorW3
import Derived.Deep.RegionWith
import Derived.Scope
namespace Go.Proofs.YtpbgfifojfakhaaGreatDoor
open Go.RowKit
/-- Spans of signs as they lie. -/
def Spans (w : World) (g : Nat) (L : List (Int × Int)) : Prop := ∀ i, (h : i < L.length) → w.cell? ⟨g, i * 2, none⟩ = some (.int .i32 L[i].1) ∧ w.cell? ⟨g, i * 2 + 1, none⟩ = some (.int .i32 L[i].2)
theorem Spans.ext {w w' : World} {g : Nat} {L : List (Int × Int)} (h : Spans w g L) (x : Ext w w') : Spans w' g L := fun i hi => ⟨x.at_ (h i hi).1, x.at_ (h i hi).2⟩
def inSp (r : Int) (L : List (Int × Int)) : Bool := L.any fun s => decide (s.1 ≤ r) && decide (r ≤ s.2)
theorem inSp_take (r : Int) (L : List (Int × Int)) (i : Nat) (h : i < L.length) : inSp r (L.take (i + 1)) = (inSp r (L.take i) || (decide (L[i].1 ≤ r) && decide (r ≤ L[i].2))) := by
  unfold inSp
  rw [List.take_succ_eq_append_getElem h, List.any_append]; simp
theorem inSp_of {r : Int} {L : List (Int × Int)} {i : Nat} (h : inSp r (L.take i) = true) : inSp r L = true := by
  unfold inSp at *
  rw [List.any_eq_true] at *
  obtain ⟨x, hx, h⟩ := h
  exact ⟨x, List.mem_of_mem_take hx, h⟩
theorem within_any (r : Int) (g : Nat) (L : List (Int × Int)) (w : World) (h : Spans w g L) (hL : L.length ≤ 100) : Calls Tryz.prog 127 #[.int .i32 r, .slice (some ⟨g, 0, none⟩) L.length L.length] w fun e w' => e = .returned (.bool (inSp r L)) ∧ Ext w w' := by
  go_enter Tryz.func127, Tryz.ntmps127
  go_wp2
  go_loopw [9] (fun i wr => ∃ j : Nat, j ≤ L.length ∧ i = .int .i64 j ∧ inSp r (L.take j) = false ∧ Ext w wr) (fun i _ => L.length - (intOf i).toNat)
  case atStart => exact ⟨0, Nat.zero_le _, rfl, by simp [inSp], Ext.refl w⟩
  case round =>
    obtain ⟨j, hj, rfl, hin, hx⟩ := hrel
    by_cases hlt : j < L.length
    · obtain ⟨c1, c2⟩ := h.ext hx j hlt
      obtain ⟨a, ha⟩ : ∃ a, a = L[j].1 := ⟨_, rfl⟩
      obtain ⟨b, hb⟩ : ∃ b, b = L[j].2 := ⟨_, rfl⟩
      rw [← ha] at c1
      rw [← hb] at c2
      have hs := inSp_take r L j hlt
      rw [← ha, ← hb, hin] at hs
      have Hs := Lib.hid hs
      clear hs ha hb
      go_wp2
      · go_ret
        exact ⟨by rw [inSp_of (by rw [Hs.out]; simp; omega)]; rfl, hx.alloc _⟩
      all_goals exact ⟨⟨j + 1, by omega, by go_num, by rw [Hs.out]; simp; omega, hx.alloc _⟩, by simp only [intOf]; omega⟩
    · obtain rfl : j = L.length := by omega
      rw [List.take_length] at hin
      go_wp2
      go_ret
      exact ⟨by rw [hin]; rfl, hx⟩
def isSign (r : Int) : Bool := decide (0 ≤ r) && decide (r ≤ 1114111) && (decide (r < 55296) || decide (57343 < r))
theorem sign_any (r : Int) (w : World) : Calls Tryz.prog 177 #[.int .i32 r] w fun e w' => e = .returned (.bool (isSign r)) ∧ w = w' := by
  unfold isSign
  go_enter Tryz.func177, Tryz.ntmps177
  go_wp2
  all_goals go_ret
  all_goals refine ⟨?_, rfl⟩
  all_goals simp_all <;> omega
/-- The tables of package name, as they lie. -/
def formsL : List Value := [.int .i64 1, .int .u8 128, .int .u8 0, .int .i32 0, .int .i64 2, .int .u8 224, .int .u8 192, .int .i32 128, .int .i64 3, .int .u8 240, .int .u8 224, .int .i32 2048, .int .i64 4, .int .u8 248, .int .u8 240, .int .i32 65536]
def blanksL : List (Int × Int) := [(0xa0, 0xa0), (0x1680, 0x1680), (0x2000, 0x200a), (0x202f, 0x202f), (0x205f, 0x205f), (0x3000, 0x3000)]
def nothingL : List (Int × Int) := [(0xad, 0xad), (0x200b, 0x200d), (0x2060, 0x2060), (0xfe00, 0xfe0f), (0xfeff, 0xfeff)]
def barredL : List (Int × Int) := [(0, 0x1f), (0x7f, 0x9f), (0x2028, 0x2029), (0x202a, 0x202e), (0x2066, 0x2069), (0xe000, 0xf8ff), (0xf0000, 0x10ffff), (0xfff9, 0xfffd), (0xfdd0, 0xfdef)]
structure NameG (w : World) : Prop where
  forms : ∀ i, (h : i < formsL.length) → w.cell? ⟨6, i, none⟩ = some formsL[i]
  blanks : Spans w 4 blanksL
  nothing : Spans w 5 nothingL
  barred : Spans w 0 barredL
theorem NameG.ext {w w' : World} (h : NameG w) (x : Ext w w') : NameG w' := ⟨fun i hi => x.at_ (h.forms i hi), h.blanks.ext x, h.nothing.ext x, h.barred.ext x⟩
theorem NameG.cells {w : World} (h : NameG w) : ∀ b, b = 6 → (w.cell? ⟨b, 0, none⟩ = some (.int .i64 1) ∧ w.cell? ⟨b, 1, none⟩ = some (.int .u8 128) ∧ w.cell? ⟨b, 2, none⟩ = some (.int .u8 0) ∧ w.cell? ⟨b, 3, none⟩ = some (.int .i32 0)) ∧
    (w.cell? ⟨b, 4, none⟩ = some (.int .i64 2) ∧ w.cell? ⟨b, 5, none⟩ = some (.int .u8 224) ∧ w.cell? ⟨b, 6, none⟩ = some (.int .u8 192) ∧ w.cell? ⟨b, 7, none⟩ = some (.int .i32 128)) ∧
    (w.cell? ⟨b, 8, none⟩ = some (.int .i64 3) ∧ w.cell? ⟨b, 9, none⟩ = some (.int .u8 240) ∧ w.cell? ⟨b, 10, none⟩ = some (.int .u8 224) ∧ w.cell? ⟨b, 11, none⟩ = some (.int .i32 2048)) ∧
    (w.cell? ⟨b, 12, none⟩ = some (.int .i64 4) ∧ w.cell? ⟨b, 13, none⟩ = some (.int .u8 248) ∧ w.cell? ⟨b, 14, none⟩ = some (.int .u8 240) ∧ w.cell? ⟨b, 15, none⟩ = some (.int .i32 65536)) := by
  rintro b rfl
  have f := h.forms
  exact ⟨⟨f 0 (by decide), f 1 (by decide), f 2 (by decide), f 3 (by decide)⟩, ⟨f 4 (by decide), f 5 (by decide), f 6 (by decide), f 7 (by decide)⟩, ⟨f 8 (by decide), f 9 (by decide), f 10 (by decide), f 11 (by decide)⟩, ⟨f 12 (by decide), f 13 (by decide), f 14 (by decide), f 15 (by decide)⟩⟩
theorem and128 : ∀ n, n < 128 → bits BinOp.and IntKind.u8 ((n : Nat) : Int) 128 = 0 := by decide
theorem andn128 : ∀ n, n < 128 → bits BinOp.andNot IntKind.u8 ((n : Nat) : Int) 128 = n := by decide
def fms : Array Value := #[.int .i64 1, .int .u8 128, .int .u8 0, .int .i32 0, .int .i64 2, .int .u8 224, .int .u8 192, .int .i32 128, .int .i64 3, .int .u8 240, .int .u8 224, .int .i32 2048, .int .i64 4, .int .u8 248, .int .u8 240, .int .i32 65536]
theorem fm0 (w : World) : (Instr.index 242 (.agg fms) (.int .i64 0)).run Tryz.prog w = .ok (.agg #[.int .i64 1, .int .u8 128, .int .u8 0, .int .i32 0]) w := by show _ = _; kernel_rfl
theorem fm1 (w : World) : (Instr.index 242 (.agg fms) (.int .i64 1)).run Tryz.prog w = .ok (.agg #[.int .i64 2, .int .u8 224, .int .u8 192, .int .i32 128]) w := by show _ = _; kernel_rfl
theorem fm2 (w : World) : (Instr.index 242 (.agg fms) (.int .i64 2)).run Tryz.prog w = .ok (.agg #[.int .i64 3, .int .u8 240, .int .u8 224, .int .i32 2048]) w := by show _ = _; kernel_rfl
theorem fm3 (w : World) : (Instr.index 242 (.agg fms) (.int .i64 3)).run Tryz.prog w = .ok (.agg #[.int .i64 4, .int .u8 248, .int .u8 240, .int .i32 65536]) w := by show _ = _; kernel_rfl
set_option maxRecDepth 100000 in
set_option maxHeartbeats 1000000 in
attribute [local go_sem] ext_list size_list get_list in
/-- One byte that is a sign by itself. -/
theorem decode_plain (c : UInt8) (l : List UInt8) (w : World) (hc : c.toNat < 128) (hl : l.length < 1000000000) (G : NameG w) : Calls Tryz.prog 180 #[tv (c :: l)] w fun e w' => e = .returned (.tuple #[.int .i32 c.toNat, .int .i64 1]) ∧ Ext w w' := by
  obtain ⟨⟨a0, a1, a2, a3⟩, ⟨b0, b1, b2, b3⟩, ⟨c0, c1, c2, c3⟩, ⟨d0, d1, d2, d3⟩⟩ := G.cells _ rfl
  have i0 := fm0
  unfold fms at i0
  unfold tv
  go_enter Tryz.func180, Tryz.ntmps180
  go_wp2
  refine wp_scope_straight ?_
  go_wp2
  refine wp_label ?_
  go_simp
  go_wp2
  refine wp_loop_rounds 1 ?_
  rw [rounds_succ]
  go_wp2_with fail
  clear b0 b1 b2 b3 c0 c1 c2 c3 d0 d1 d2 d3 i0
  have h1 : bits BinOp.and IntKind.u8 (c.toNat : Int) 128 = 0 := and128 _ hc
  have h2 : bits BinOp.andNot IntKind.u8 (c.toNat : Int) 128 = c.toNat := andn128 _ hc
  go_quiet (fail)
  go_simp
  go_wp2
  go_quiet (fail)
  go_simp
  go_wp2
  go_rounds 1
  go_quiet (fail)
  go_simp
  go_wp2
  simp only [Exit.noGoto]
  go_ret2
  exact ⟨rfl, ((Ext.refl w).alloc _).drewN _⟩
end Go.Proofs.YtpbgfifojfakhaaGreatDoor
