/- What listed package-level variables hold: arrays of structs of integers, cell by cell. -/
import Derived.Test.YtpbgfifojfakhaaGreatDoorN1
import Derived.ProofKit
import Derived.LaidMore
import Derived.OpenShut
import Derived.Stop.Joined
import Derived.FnData
namespace Go.Proofs.YtpbgfifojfakhaaGreatDoor
open Go.RowKit Go.ChangeShapes Go.WideShapes Go.ChangeAt
theorem LaidVars.get {P : Program} {w : World} {l : List (String × DataW Unit)} {ps : List MemPlace} (h : DataW.LaidVars P w l ps) (j : Nat) {n : String} {d : DataW Unit} (hj : l[j]? = some (n, d)) :
    ∃ g t cs fuel p, P.globalNamed n = some g ∧ (P.globals[g]?).map (·.type) = some t ∧ w.var? P n = some cs ∧ DataW.trod (fun _ => ()) P w 0 (fun _ => true) false fuel t cs.toList = some (d, p) := by
  induction l generalizing ps j with
  | nil => simp at hj
  | cons x l ih =>
    obtain ⟨n', d'⟩ := x
    obtain ⟨g, t, cs, fuel, p, q, h1, h2, h3, h4, h5, _⟩ := h
    cases j with
    | zero => simp only [List.getElem?_cons_zero, Option.some.injEq, Prod.mk.injEq] at hj; obtain ⟨rfl, rfl⟩ := hj; exact ⟨g, t, cs, fuel, p, h1, h2, h3, h4⟩
    | succ j => exact ih h5 j (by simpa using hj)
section
variable {P : Program} {w : World} {base : Nat} {spare : Nat → Bool} {held : Bool} {enc : TypeId × Value → Unit} {fuel : Nat}
theorem take_one {α : Type} {l : List α} {k : Nat} {x : α} (h : (l.drop k).take 1 = [x]) : l[k]? = some x := by
  rw [← List.head?_drop]
  cases hd : l.drop k with
  | nil => rw [hd] at h; simp at h
  | cons a r => rw [hd] at h; simpa using h
/-- An array of structs of m integers. -/
theorem trod_rows {t e n m : Nat} {fs : Array Field} {cs : List Value} {ds : List (DataW Unit)} {p : List MemPlace} (ht : P.underlying t = some (.array n e)) (hs : P.underlying e = some (.struct fs)) (hc : P.cellsOf e = m) (hm : fs.size = m)
    (hf : ∀ (j : Nat) (f : Field), fs[j]? = some f → f.offset = j ∧ P.cellsOf f.type = 1 ∧ ∃ k, P.underlying f.type = some (.int k)) (h : DataW.trod enc P w base spare held fuel t cs = some (.agg ds, p)) (i j : Nat) {xs : List (DataW Unit)} {k : IntKind} {z : Int}
    (hi : ds[i]? = some (.agg xs)) (hj : xs[j]? = some (.lit (.int k z))) : cs[i * m + j]? = some (.int k z) := by
  obtain ⟨ys, f1, _, hx, _, hn, hel⟩ := DataW.trod_array ht h
  simp only [Prod.mk.injEq, DataW.agg.injEq] at hx
  obtain ⟨rfl, _⟩ := hx
  obtain ⟨y, hy, hy1⟩ := Option.map_eq_some_iff.1 (List.getElem?_map .. ▸ hi)
  have hin : i < n := by rw [← hn]; exact (List.getElem?_eq_some_iff.1 hy).1
  have h2 := hel i hin
  rw [hy, hc] at h2
  obtain ⟨zs, f2, _, hz, _, hzn, hfl⟩ := DataW.trod_struct hs h2
  subst hz
  simp only [DataW.agg.injEq] at hy1
  subst hy1
  obtain ⟨q, hq, hq1⟩ := Option.map_eq_some_iff.1 (List.getElem?_map .. ▸ hj)
  have hjn : j < fs.size := by rw [← hzn]; exact (List.getElem?_eq_some_iff.1 hq).1
  obtain ⟨e1, e2, k', e3⟩ := hf j fs[j] (by simp [hjn])
  have h3 := hfl j fs[j] (by simp [hjn])
  rw [hq, e1, e2] at h3
  obtain ⟨z', h4, h5, _⟩ := DataW.trod_int e3 h3
  subst h5
  simp only [DataW.lit.injEq, Lit.int.injEq] at hq1
  obtain ⟨rfl, rfl⟩ := hq1
  have h6 := take_one h4
  rw [List.getElem?_take] at h6
  split at h6
  · rwa [List.getElem?_drop] at h6
  · cases h6
end
end Go.Proofs.YtpbgfifojfakhaaGreatDoor
