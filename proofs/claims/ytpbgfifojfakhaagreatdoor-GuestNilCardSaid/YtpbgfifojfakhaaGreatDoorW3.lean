/- More words: strings as lists. -/
import Derived.Test.YtpbgfifojfakhaaGreatDoorW0
namespace Go.Proofs.YtpbgfifojfakhaaGreatDoor
open Go.RowKit
/-- How many a slice has. -/
def lenOf : Value → Nat | .slice _ n _ => n | _ => 0
/-- A text. -/
def tv (l : List UInt8) : Value := .string ⟨l.toArray⟩
theorem ext_list (l : List UInt8) (a b : Nat) : (⟨l.toArray⟩ : ByteArray).extract a b = ⟨((l.take b).drop a).toArray⟩ := by
  apply ByteArray.ext
  rw [ByteArray.data_extract]
  apply Array.ext'
  simp [List.drop_take]
theorem size_list (l : List UInt8) : (⟨l.toArray⟩ : ByteArray).size = l.length := by rw [← ByteArray.size_data]; simp
theorem get_list (l : List UInt8) (i : Nat) (h : i < (⟨l.toArray⟩ : ByteArray).size) : (⟨l.toArray⟩ : ByteArray)[i]'h = l[i]'(by rwa [size_list] at h) := rfl
theorem str_list (s : ByteArray) : s = ⟨s.data.toList.toArray⟩ := by cases s; simp
theorem flatMap_take_succ {α β : Type} (f : α → List β) (l : List α) (i : Nat) (h : i < l.length) : (l.take (i + 1)).flatMap f = (l.take i).flatMap f ++ f l[i] := by
  rw [List.take_succ_eq_append_getElem h, List.flatMap_append]; simp
/-- 's[k:]'. -/
theorem Sl.cut {α : Type} {enc : α → Value} {w : World} {A : Option Addr} {n c : Nat} {l : List α} (h : Sl enc w (.slice A n c) l) (k : Nat) (hk : k ≤ n) : Sl enc w (.slice (if c = k then A else A.map fun x => x.add k) (n - k) (c - k)) (l.drop k) := by
  obtain ⟨h1, h2, h3⟩ := h.len
  by_cases e : c = k
  · have := h.front 0 0 (by omega) (by omega) (by omega)
    rw [if_pos e, show n - k = 0 by omega, show c - k = 0 by omega, List.drop_of_length_le (by omega)]
    simpa using this
  · have := h.sub k (n - k) (c - k) (by omega) (by omega) (by omega)
    rw [if_neg e]
    rwa [List.take_of_length_le (by simp; omega)] at this
end Go.Proofs.YtpbgfifojfakhaaGreatDoor
