/- The program's types that our words need. -/
import Derived.Test.YtpbgfifojfakhaaGreatDoorProg
import Derived.Test.YtpbgfifojfakhaaGreatDoorW0
namespace Go.Proofs.YtpbgfifojfakhaaGreatDoor
open Go.RowKit
theorem el8 : El Tryz.prog 22 5 (.int .u8 0) 1 := ⟨Tryz.underlying22, by kernel_rfl, rfl, by decide⟩
abbrev Own8 (base : Nat) (w : World) (v : Value) (l : List UInt8) : Prop := Own bv 5 base w v l
theorem str8 {w : World} {v : Value} {l : List UInt8} (h : By w v l) : (convert 22 9 v).run Tryz.prog w = .ok (.string ⟨l.toArray⟩) w := conv_str Tryz.underlying22 Tryz.underlying5 Tryz.underlying9 h
/-- A table that lies in a variable. -/
def Tab {α : Type} (enc : α → Value) (w : World) (g : Nat) (l : List α) : Prop := ∀ i, (h : i < l.length) → w.cell? ⟨g, i, none⟩ = some (enc l[i])
theorem Tab.ext {α : Type} {enc : α → Value} {w w' : World} {g : Nat} {l : List α} (h : Tab enc w g l) (x : Ext w w') : Tab enc w' g l := fun i hi => x.at_ (h i hi)
end Go.Proofs.YtpbgfifojfakhaaGreatDoor
