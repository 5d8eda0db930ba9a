/- Bytes that came in, as a list. -/
import Derived.Test.YtpbgfifojfakhaaGreatDoorL0
namespace Go.Proofs.YtpbgfifojfakhaaGreatDoor
open Go.RowKit Go.ChangeShapes Go.WideShapes Go.ChangeAt
set_option maxRecDepth 100000 in
theorem open_bytes {H : Type} {enc : TypeId × Value → H} {W : World} {base : Nat} {v : Value} {d : DataW H} {p : List MemPlace} (hval : Value.okWide Tryz.prog W .any base 22 v)
    (h : DataW.Trod enc Tryz.prog W 0 (fun _ => true) true 22 v d p) : ∃ l, By W v l := by
  obtain ⟨a, len, cap, rfl⟩ := okWide_slice Tryz.underlying22 hval
  obtain ⟨fuel, hf⟩ := h
  rcases open_ints Tryz.underlying22 Tryz.underlying5 (by kernel_rfl) hf with ⟨hcs, _⟩ | ⟨x, l, c, zs, hcs, _, hl, hm, hz, _, hcell, hwz⟩
  · simp [Value.cells] at hcs
    obtain ⟨rfl, rfl, rfl⟩ := hcs
    exact ⟨[], Sl.nil _ _⟩
  · simp [Value.cells] at hcs
    obtain ⟨rfl, rfl, rfl⟩ := hcs
    simp only [if_true] at hz
    simp only [Value.okWide, Tryz.underlying22, Cell.okWide, Cell.ok] at hval
    obtain ⟨_, _, _, hspot, row, cells, hshape, _⟩ := hval
    obtain ⟨b, off, spot⟩ := x
    simp only [] at hspot
    subst hspot
    have hb : b < W.heap.size := by
      unfold World.shape? at hshape
      by_cases hlt : b < W.heap.size
      · exact hlt
      · rw [Array.getElem?_eq_none (by simpa using hlt)] at hshape; cases hshape
    refine ⟨(zs.take len).map fun z => UInt8.ofNat z.toNat, some ⟨b, off, none⟩, cap, by simp; omega, by simp; omega, hm, fun h => (by cases h), fun ad ha => ?_⟩
    cases ha
    refine ⟨b, off, rfl, hb, fun i hi => ?_⟩
    simp at hi
    have hc := hcell i (by omega)
    have hw := hwz (zs.getD i 0) (by rw [List.getD_eq_getElem?_getD, List.getElem?_eq_getElem (by omega)]; exact List.getElem_mem _)
    have e : (⟨b, off, none⟩ : Addr).add i = ⟨b, off + i, none⟩ := by unfold Addr.add; split <;> simp_all
    rw [e] at hc
    rw [hc]
    have hz2 : zs.getD i 0 = zs[i]'(by omega) := by rw [List.getD_eq_getElem?_getD, List.getElem?_eq_getElem (by omega)]; rfl
    rw [hz2] at hw ⊢
    have h0 : 0 ≤ zs[i]'(by omega) ∧ zs[i]'(by omega) < 256 := by
      have hw2 : (decide ((0 : Int) ≤ zs[i]'(by omega)) && decide (zs[i]'(by omega) ≤ (255 : Int))) = true := hw
      simp only [Bool.and_eq_true, decide_eq_true_eq] at hw2
      omega
    simp only [bv, List.getElem_map, List.getElem_take]
    congr 2
    rw [UInt8.toNat_ofNat']
    omega
end Go.Proofs.YtpbgfifojfakhaaGreatDoor
