/- Layer 26's row: a nil guest. What the listed variables hold gives the tables of package name; the frame of the row. -/
import Derived.Test.YtpbgfifojfakhaaGreatDoorRows
import Derived.Test.YtpbgfifojfakhaaGreatDoorL0
import Derived.Test.YtpbgfifojfakhaaGreatDoorG2
import Derived.ShutString
import Derived.ChangeOld
import Derived.Below
import Derived.PinnedBridge
namespace Go.Proofs.YtpbgfifojfakhaaGreatDoor
open Go.ChangeShapes Go.WideShapes Go.ChangeAt Go.RowKit
open Go.ChangeMaps (open_string shut_string)
/-- Spans out of what is listed. -/
theorem spans_of {W : World} {l : List (String × DataW Unit)} (h : laidMet Tryz.prog l W) (j : Nat) {n : String} {g m t : Nat} (L : List (Int × Int)) (hj : l[j]? = some (n, .agg (L.map fun s => .agg [.lit (.int .i32 s.1), .lit (.int .i32 s.2)])))
    (hg : Tryz.prog.globalNamed n = some g) (ht : (Tryz.prog.globals[g]?).map (·.type) = some t) (hu : Tryz.prog.underlying t = some (.array m 174)) : Spans W g L := by
  obtain ⟨ps, hv, _⟩ := h
  obtain ⟨g', t', cs, fuel, p, h1, h2, h3, h4⟩ := LaidVars.get hv j hj
  obtain rfl := Option.some.inj (hg.symm.trans h1)
  obtain rfl := Option.some.inj (ht.symm.trans h2)
  intro i hi
  have hr := trod_rows (m := 2) hu Tryz.underlying174 (by kernel_rfl) (by rfl) (by
    intro j f hf
    rcases j with _ | _ | j
    · simp at hf; subst hf; exact ⟨rfl, by kernel_rfl, _, Tryz.underlying21⟩
    · simp at hf; subst hf; exact ⟨rfl, by kernel_rfl, _, Tryz.underlying21⟩
    · simp at hf) h4 i
  have a := hr 0 (k := .i32) (z := L[i].1) (by simp [hi]; rfl) rfl
  have b := hr 1 (k := .i32) (z := L[i].2) (by simp [hi]; rfl) rfl
  refine ⟨?_, ?_⟩
  · rw [World.var?_cell h1 h3, ← Array.getElem?_toList]; exact a
  · rw [World.var?_cell h1 h3, ← Array.getElem?_toList]; exact b
def formsZ : List (Int × Int × Int × Int) := [(1, 128, 0, 0), (2, 224, 192, 128), (3, 240, 224, 2048), (4, 248, 240, 65536)]
theorem forms_of {W : World} {l : List (String × DataW Unit)} (h : laidMet Tryz.prog l W) (j : Nat) (hj : l[j]? = some ("ostiary/name.forms", .agg (formsZ.map fun s => .agg [.lit (.int .i64 s.1), .lit (.int .u8 s.2.1), .lit (.int .u8 s.2.2.1), .lit (.int .i32 s.2.2.2)]))) : ∀ i, (h : i < formsL.length) → W.cell? ⟨6, i, none⟩ = some formsL[i] := by
  obtain ⟨ps, hv, _⟩ := h
  obtain ⟨g', t', cs, fuel, p, h1, h2, h3, h4⟩ := LaidVars.get hv j hj
  obtain rfl := Option.some.inj ((show Tryz.prog.globalNamed "ostiary/name.forms" = some 6 by kernel_rfl).symm.trans h1)
  obtain rfl := Option.some.inj ((show (Tryz.prog.globals[6]?).map (·.type) = some 242 by kernel_rfl).symm.trans h2)
  intro i hi
  have hr := trod_rows (m := 4) Tryz.underlying242 Tryz.underlying241 (by kernel_rfl) (by rfl) (by
    intro j f hf
    rcases j with _ | _ | _ | _ | j
    · simp at hf; subst hf; exact ⟨rfl, by kernel_rfl, _, Tryz.underlying3⟩
    · simp at hf; subst hf; exact ⟨rfl, by kernel_rfl, _, Tryz.underlying5⟩
    · simp at hf; subst hf; exact ⟨rfl, by kernel_rfl, _, Tryz.underlying5⟩
    · simp at hf; subst hf; exact ⟨rfl, by kernel_rfl, _, Tryz.underlying21⟩
    · simp at hf) h4
  rw [World.var?_cell h1 h3, ← Array.getElem?_toList]
  have hi' : i < 16 := hi
  rcases (by omega : i = 0 ∨ i = 1 ∨ i = 2 ∨ i = 3 ∨ i = 4 ∨ i = 5 ∨ i = 6 ∨ i = 7 ∨ i = 8 ∨ i = 9 ∨ i = 10 ∨ i = 11 ∨ i = 12 ∨ i = 13 ∨ i = 14 ∨ i = 15) with rfl | rfl | rfl | rfl | rfl | rfl | rfl | rfl | rfl | rfl | rfl | rfl | rfl | rfl | rfl | rfl
  · exact hr 0 0 rfl rfl
  · exact hr 0 1 rfl rfl
  · exact hr 0 2 rfl rfl
  · exact hr 0 3 rfl rfl
  · exact hr 1 0 rfl rfl
  · exact hr 1 1 rfl rfl
  · exact hr 1 2 rfl rfl
  · exact hr 1 3 rfl rfl
  · exact hr 2 0 rfl rfl
  · exact hr 2 1 rfl rfl
  · exact hr 2 2 rfl rfl
  · exact hr 2 3 rfl rfl
  · exact hr 3 0 rfl rfl
  · exact hr 3 1 rfl rfl
  · exact hr 3 2 rfl rfl
  · exact hr 3 3 rfl rfl
theorem nameG_of {W : World} (h : laidMetH Tryz.prog Rows.guestNilRow.laid W) : NameG W := by
  rw [MakeChecks.laidMetH_plain _ _ _ (by kernel_rfl)] at h
  exact ⟨forms_of h 11 rfl,
    spans_of h 8 blanksL rfl (by kernel_rfl) (by kernel_rfl) Tryz.underlying238,
    spans_of h 9 nothingL rfl (by kernel_rfl) (by kernel_rfl) Tryz.underlying239,
    spans_of h 10 barredL rfl (by kernel_rfl) (by kernel_rfl) Tryz.underlying175⟩
end Go.Proofs.YtpbgfifojfakhaaGreatDoor
