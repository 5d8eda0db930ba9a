/- Words of our own: byte slices, slices of one-cell elements, worlds that only grow. No program in sight. -/
import Derived.WalkKit
import Derived.Handy
import Derived.Maps.AppendAt
import Derived.Lib.BufferRead
import Derived.Lib.ConvBytes
import Derived.Lib.Hide
import Derived.Deep.AppendLies
import Derived.Deep.Draws
import Derived.Deep.QuietTactic
import Derived.BigQuiet
namespace Go.Proofs.YtpbgfifojfakhaaGreatDoor
open Go.RowKit

/-- w' is w with more behind it: what was there is as it was. -/
def Ext (w w' : World) : Prop := Below w.heap.size w w'
theorem Ext.refl (w : World) : Ext w w := Below.refl _ _
theorem Ext.trans {a b c : World} (h : Ext a b) (k : Ext b c) : Ext a c := Below.trans h (Below.mono k (Below.size h))
theorem Ext.size {a b : World} (h : Ext a b) : a.heap.size ≤ b.heap.size := Below.size h
theorem Ext.alloc {a b : World} (h : Ext a b) (o : Obj) : Ext a (b.alloc o) := Below.alloc h h.size o
theorem Ext.drew {a b : World} (h : Ext a b) : Ext a b.drew := Below.drew h
theorem Ext.drewN {a b : World} (h : Ext a b) (n : Nat) : Ext a (b.drewN n) := ⟨h.os, h.tape, h.output, h.size, h.block⟩
theorem Ext.setCell {a b : World} (h : Ext a b) {p : Addr} (hp : a.heap.size ≤ p.block) (u : Value) : Ext a (b.setCell p u) := Below.setCell h hp u
theorem Ext.grown {a b c : World} {row : Option Nat} (h : Ext a b) (hg : b.grownBy c row) (hr : ∀ k, row = some k → a.heap.size ≤ k) : Ext a c := Below.grown h hg h.size hr
theorem Ext.cell {a b : World} (h : Ext a b) {p : Addr} (hp : p.block < a.heap.size) : b.cell? p = a.cell? p := Below.cell h hp
theorem Ext.frozen {a b : World} (h : Ext a b) {p : Addr} (hp : p.block < a.heap.size) : b.frozen? p = a.frozen? p := Below.frozen h hp
theorem Ext.at_ {a b : World} (h : Ext a b) {p : Addr} {v : Value} (hc : a.cell? p = some v) : b.cell? p = some v := (h.cell (World.block_lt_of_cell? a p hc)).trans hc

/-- A slice of one-cell elements, each laid as 'enc' says, that reads as the list l. -/
def Sl {α : Type} (enc : α → Value) (w : World) (v : Value) (l : List α) : Prop :=
  ∃ A cap, v = .slice A l.length cap ∧ l.length ≤ cap ∧ cap ≤ maxLen ∧ (A = none → cap = 0) ∧
    ∀ ad, A = some ad → ∃ b off, ad = ⟨b, off, none⟩ ∧ b < w.heap.size ∧ ∀ i, (h : i < l.length) → w.cell? ⟨b, off + i, none⟩ = some (enc l[i])
theorem Sl.ext {α : Type} {enc : α → Value} {w w' : World} {v : Value} {l : List α} (h : Sl enc w v l) (e : Ext w w') : Sl enc w' v l := by
  obtain ⟨A, cap, h1, h2, h3, h4, h5⟩ := h
  refine ⟨A, cap, h1, h2, h3, h4, fun ad ha => ?_⟩
  obtain ⟨b, off, e1, e2, e3⟩ := h5 ad ha
  exact ⟨b, off, e1, Nat.lt_of_lt_of_le e2 e.size, fun i hi => (e.cell (p := ⟨b, off + i, none⟩) e2).trans (e3 i hi)⟩
theorem Sl.nil {α : Type} (enc : α → Value) (w : World) : Sl enc w (.slice none 0 0) [] := ⟨none, 0, rfl, Nat.le_refl _, by simp [maxLen], fun _ => rfl, fun _ h => by cases h⟩
theorem Sl.len_le {α : Type} {enc : α → Value} {w : World} {v : Value} {l : List α} (h : Sl enc w v l) : l.length ≤ maxLen := by
  obtain ⟨A, cap, _, h2, h3, _⟩ := h; exact Nat.le_trans h2 h3
/-- What the call owns reads so. -/
theorem Sl.own {α : Type} {enc : α → Value} {w : World} {v : Value} {l : List α} {base n : Nat} {e : TypeId} {xs : List Value} (h : w.ownsRow base e 1 v n xs) (hn : n = l.length) (hx : xs = l.map enc) : Sl enc w v l := by
  subst hn hx
  rcases h.2 with ⟨rfl, h0⟩ | ⟨g, cap, cur, rfl, hb, hg, h1, h2, h3, h4⟩
  · exact ⟨none, 0, by rw [h0], by omega, by simp [maxLen], fun _ => rfl, fun _ h => by cases h⟩
  · refine ⟨_, cap, rfl, h1, h2, fun h => by (cases h), fun ad ha => ?_⟩
    cases ha
    have hlt := (Array.getElem?_eq_some_iff.1 hg).1
    refine ⟨g, 0, rfl, hlt, fun i hi => ?_⟩
    have := h.cells (g := g) rfl i (enc l[i]) (by simp [hi])
    simpa [Addr.add] using (by rw [← this]; unfold Addr.add; split <;> simp_all)
theorem Sl.sub {α : Type} {enc : α → Value} {w : World} {A : Option Addr} {n c : Nat} {l : List α} (h : Sl enc w (.slice A n c) l) (k m c' : Nat) (hk : k + m ≤ l.length) (hc : m ≤ c') (hc' : c' ≤ c) : Sl enc w (.slice (A.map fun x => x.add k) m c') ((l.drop k).take m) := by
  obtain ⟨A', cap, h1, h2, h3, h4, h5⟩ := h
  cases h1
  have hl : ((l.drop k).take m).length = m := by simp; omega
  refine ⟨_, c', by rw [hl], by omega, by omega, fun he => ?_, fun ad ha => ?_⟩
  · have : A = none := by cases A <;> simp_all
    have := h4 this
    omega
  · obtain ⟨ad0, rfl, rfl⟩ := Option.map_eq_some_iff.1 ha
    obtain ⟨b, off, rfl, e2, e3⟩ := h5 _ rfl
    refine ⟨b, off + k, by unfold Addr.add; split <;> simp_all, e2, fun i hi => ?_⟩
    rw [hl] at hi
    have := e3 (k + i) (by omega)
    rw [← Nat.add_assoc] at this
    simpa using this
theorem Sl.front {α : Type} {enc : α → Value} {w : World} {A : Option Addr} {n c : Nat} {l : List α} (h : Sl enc w (.slice A n c) l) (m c' : Nat) (hk : m ≤ l.length) (hc : m ≤ c') (hc' : c' ≤ c) : Sl enc w (.slice A m c') (l.take m) := by
  have := h.sub 0 m c' (by omega) hc hc'
  have e : (A.map fun x : Addr => x.add 0) = A := by cases A <;> simp [Addr.add]
  rw [e] at this
  simpa using this
theorem Sl.len {α : Type} {enc : α → Value} {w : World} {A : Option Addr} {n c : Nat} {l : List α} (h : Sl enc w (.slice A n c) l) : n = l.length ∧ n ≤ c ∧ c ≤ maxLen := by
  obtain ⟨A', cap, h1, h2, h3, h4, h5⟩ := h
  cases h1
  exact ⟨rfl, h2, h3⟩
theorem Sl.val {α : Type} {enc : α → Value} {w : World} {v : Value} {l : List α} (h : Sl enc w v l) : ∃ A c, v = .slice A l.length c := by
  obtain ⟨A', cap, h1, _⟩ := h
  exact ⟨_, _, h1⟩
/-- The cell of an element, where there is one. -/
theorem Sl.get {α : Type} {enc : α → Value} {w : World} {A : Option Addr} {n c : Nat} {l : List α} (h : Sl enc w (.slice A n c) l) (hn : 0 < l.length) : ∃ b off, A = some ⟨b, off, none⟩ ∧ b < w.heap.size ∧ ∀ i, (hi : i < l.length) → w.cell? ⟨b, off + i, none⟩ = some (enc l[i]) := by
  obtain ⟨A', cap, h1, h2, h3, h4, h5⟩ := h
  cases h1
  cases A with
  | none => have := h4 rfl; omega
  | some ad => obtain ⟨b, off, rfl, e⟩ := h5 _ rfl; exact ⟨b, off, rfl, e⟩
def bv (b : UInt8) : Value := .int .u8 (b.toNat : Int)
/-- A slice of bytes. -/
abbrev By (w : World) (v : Value) (l : List UInt8) : Prop := Sl bv w v l
theorem map_get {α β : Type} (f : α → β) (l : List α) (i : Nat) (h : i < l.length) : (l.map f)[i]? = some (f l[i]) := by simp [h]

/-- A slice that is the call's own, from block 'base' on: its bytes may be written on. -/
def Own {α : Type} (enc : α → Value) (e : TypeId) (base : Nat) (w : World) (v : Value) (l : List α) : Prop := w.ownsRow base e 1 v l.length (l.map enc)
section
variable {α : Type} {enc : α → Value} {e : TypeId} {base : Nat} {w w' : World} {v : Value} {l : List α}
theorem Own.nil (enc : α → Value) (e : TypeId) (base : Nat) (w : World) : Own enc e base w (.slice none 0 0) [] := World.ownsRow_nil w base e 1
theorem Own.sl (h : Own enc e base w v l) : Sl enc w v l := Sl.own h rfl rfl
theorem Own.low {base' : Nat} (h : Own enc e base w v l) (hb : base' ≤ base) : Own enc e base' w v l := by
  refine ⟨h.1, ?_⟩
  rcases h.2 with h2 | ⟨g, cap, cur, a1, a2, a3⟩
  · exact .inl h2
  · exact .inr ⟨g, cap, cur, a1, Nat.le_trans hb a2, a3⟩
theorem Own.kept {row : Option Nat} (h : Own enc e base w v l) (hg : w.grownBy w' row) (hne : v.ownBlock = none ∨ v.ownBlock ≠ row) : Own enc e base w' v l := World.ownsRow.kept h hg hne
theorem Own.alloc (h : Own enc e base w v l) (o : Obj) : Own enc e base (w.alloc o) v l := World.ownsRow.alloc h o
theorem Own.drew (h : Own enc e base w v l) : Own enc e base w.drew v l := h
theorem Own.drewN (h : Own enc e base w v l) (n : Nat) : Own enc e base (w.drewN n) v l := h
theorem Own.setCell (h : Own enc e base w v l) {a : Addr} (ha : a.block < base) (u : Value) : Own enc e base (w.setCell a u) v l := ownsRow_setCell_below h ha u
theorem Own.row (h : Own enc e base w v l) : ∀ k, v.ownBlock = some k → base ≤ k := fun k hk => (World.ownsRow.lt h k hk).1
theorem Own.ext (h : Own enc e base w v l) (x : Ext w w') : Own enc e base w' v l := by
  refine ⟨h.1, ?_⟩
  rcases h.2 with h2 | ⟨g, cap, cur, a1, a2, a3, a4⟩
  · exact .inl h2
  · exact .inr ⟨g, cap, cur, a1, a2, (Below.block x g (Array.getElem?_eq_some_iff.1 a3).1).trans a3, a4⟩
theorem Own.new (enc : α → Value) (e : TypeId) (w : World) (l : List α) (hl : l.length ≤ maxLen) : Own enc e w.heap.size (w.alloc (.cells (l.map enc).toArray e)) (.slice (some ⟨w.heap.size, 0, none⟩) l.length l.length) l :=
  ⟨by simp, .inr ⟨w.heap.size, l.length, (l.map enc).toArray, rfl, Nat.le_refl _, heap_alloc_new w _, Nat.le_refl _, hl, by simp, by simp [List.take_of_length_le]⟩⟩
theorem Own.new0 (enc : α → Value) (e : TypeId) (w : World) : Own enc e w.heap.size (w.alloc (.cells #[] e)) (.slice (some ⟨w.heap.size, 0, none⟩) 0 0) [] := Own.new enc e w [] (Nat.zero_le _)
theorem Own.new1 (enc : α → Value) (e : TypeId) (w : World) (x : α) : Own enc e w.heap.size (w.alloc (.cells #[enc x] e)) (.slice (some ⟨w.heap.size, 0, none⟩) 1 1) [x] := Own.new enc e w [x] (by simp [maxLen])
end
section
variable {α : Type} {enc : α → Value} {e : TypeId} {base g n cap : Nat} {w w' : World} {l : List α}
theorem Own.len (h : Own enc e base w (.slice (some ⟨g, 0, none⟩) n cap) l) : n = l.length := by
  rcases h.2 with ⟨h1, _⟩ | ⟨g', cap', cur, h1, _⟩
  · cases h1
  · cases h1; rfl
theorem Own.cell (h : Own enc e base w (.slice (some ⟨g, 0, none⟩) n cap) l) (j : Nat) (hj : j < l.length) : w.cell? ⟨g, j, none⟩ = some (enc l[j]) := by
  have hn := h.len
  subst hn
  rw [World.ownsRow.cellAt h j (by omega)]
  simp [hj]
theorem Own.free (h : Own enc e base w (.slice (some ⟨g, 0, none⟩) n cap) l) (j : Nat) : w.frozen? ⟨g, j, none⟩ = false := by
  have hn := h.len
  subst hn
  exact World.ownsRow.frozenAt h j
theorem Own.lt (h : Own enc e base w (.slice (some ⟨g, 0, none⟩) n cap) l) : base ≤ g ∧ g < w.heap.size := World.ownsRow.lt h g rfl
theorem Own.set (h : Own enc e base w (.slice (some ⟨g, 0, none⟩) n cap) l) (j : Nat) (x : α) : Own enc e base (w.setCell ⟨g, j, none⟩ (enc x)) (.slice (some ⟨g, 0, none⟩) n cap) (l.set j x) := by
  have hn := h.len
  subst hn
  have := (World.ownsRow.stored h j (enc x)).1
  unfold Own
  rw [List.length_set, List.map_set]
  exact this
end
/-- Block g is just these cells, of type t. -/
def Blk (w : World) (g : Nat) (t : TypeId) (cs : Array Value) : Prop := w.heap[g]? = some (.cells cs t (0, 0))
section
variable {w w' : World} {g : Nat} {t : TypeId} {cs : Array Value}
theorem Blk.lt (h : Blk w g t cs) : g < w.heap.size := (Array.getElem?_eq_some_iff.1 h).1
theorem Blk.cell (h : Blk w g t cs) (i : Nat) : w.cell? ⟨g, i, none⟩ = cs[i]? := cell_of_row w g i cs t (0, 0) h
theorem Blk.free (h : Blk w g t cs) (i : Nat) : w.frozen? ⟨g, i, none⟩ = false := by unfold Blk at h; simp [World.frozen?, h]
theorem Blk.new (w : World) (t : TypeId) (cs : Array Value) : Blk (w.alloc (.cells cs t)) w.heap.size t cs := heap_alloc_new w _
theorem Blk.drew (h : Blk w g t cs) : Blk w.drew g t cs := h
theorem Blk.drewN (h : Blk w g t cs) (n : Nat) : Blk (w.drewN n) g t cs := h
theorem Blk.alloc (h : Blk w g t cs) (o : Obj) : Blk (w.alloc o) g t cs := (Below.heap_alloc w o g h.lt).trans h
theorem Blk.set (h : Blk w g t cs) (i : Nat) (u : Value) : Blk (w.setCell ⟨g, i, none⟩ u) g t (cs.setIfInBounds i u) := by
  unfold Blk at h ⊢; simp [World.setCell, Array.getElem?_modify, h]
theorem Blk.far (h : Blk w g t cs) {p : Addr} (hp : g ≠ p.block) (u : Value) : Blk (w.setCell p u) g t cs := (Below.heap_setCell w p u g hp).trans h
theorem Blk.ext (h : Blk w g t cs) (x : Ext w w') : Blk w' g t cs := (Below.block x g h.lt).trans h
theorem Blk.grown {row : Option Nat} (h : Blk w g t cs) (hb : w.grownBy w' row) (hg : some g ≠ row) : Blk w' g t cs := (hb.block g h.lt hg).trans h
end
/-- An array of elements, each of one cell. -/
def Arr {α : Type} (enc : α → Value) (t : TypeId) (w : World) (g : Nat) (l : List α) : Prop := Blk w g t (l.map enc).toArray
section
variable {α : Type} {enc : α → Value} {t : TypeId} {w w' : World} {g : Nat} {l : List α}
theorem Arr.cell (h : Arr enc t w g l) (i : Nat) (hi : i < l.length) : w.cell? ⟨g, i, none⟩ = some (enc l[i]) := by rw [Blk.cell h i]; simp [hi]
theorem Arr.free (h : Arr enc t w g l) (i : Nat) : w.frozen? ⟨g, i, none⟩ = false := Blk.free h i
theorem Arr.set (h : Arr enc t w g l) (i : Nat) (x : α) : Arr enc t (w.setCell ⟨g, i, none⟩ (enc x)) g (l.set i x) := by
  have := Blk.set h i (enc x)
  unfold Arr; simpa [List.map_set] using this
end
theorem Arr.put {α : Type} {enc : α → Value} {t : TypeId} {w : World} {g : Nat} {l : List α} (h : Arr enc t w g l) (i : Nat) (x : α) {u : Value} (hu : u = enc x) {l' : List α} (hl : l.set i x = l') : Arr enc t (w.setCell ⟨g, i, none⟩ u) g l' := by
  subst hu hl; exact h.set i x
theorem fill_set {α : Type} (l : List α) (n i : Nat) (x z : α) (hi : l.length = i) (h : i < n) : (l ++ List.replicate (n - i) z).set i x = (l ++ [x]) ++ List.replicate (n - (i + 1)) z := by
  subst hi
  rw [List.set_append_right _ _ (Nat.le_refl _), Nat.sub_self, show n - l.length = (n - (l.length + 1)) + 1 by omega, List.replicate_succ, List.set_cons_zero]
  simp
/-- A slice type t of one-cell elements e. -/
structure El (P : Program) (t e : TypeId) (z : Value) (bytes : Nat) : Prop where
  ht : P.underlying t = some (.slice e)
  hi : (P.info? e).map (fun i => (i.zero, i.size, i.bytes)) = some (some z, 1, bytes)
  hz : z.cells = #[z]
  hb : 1 ≤ bytes
section
variable {α : Type} {P : Program} {t e : TypeId} {z : Value} {bytes : Nat} (E : El P t e z bytes) {w : World}
include E
theorem run_app {enc : α → Value} (h1 : ∀ y, (enc y).oneCell' = true) {ty : TypeId} {base : Nat} {v : Value} {l : List α} (hown : Own enc e base w v l) {vx : Value} {l2 : List α} (hr : Sl enc w vx l2)
    (hlen : (l.length + l2.length) * bytes ≤ 140737488355328) (hbase : base ≤ w.heap.size) :
    ∃ v' w', (Builtin.append_ #[t, t] ty #[v, vx]).run P w = .ok v' w' ∧ Own enc e base w' v' (l ++ l2) ∧ w.grownBy w' v.ownBlock ∧ (v'.ownBlock = v.ownBlock ∨ v'.ownBlock = some w.heap.size) := by
  obtain ⟨i, hi, hz, hsz, hby⟩ := info_parts E.hi
  have hn : l.length + l2.length ≤ maxLen := by
    have hb := E.hb
    have : (l.length + l2.length) * 1 ≤ (l.length + l2.length) * bytes := Nat.mul_le_mul_left _ hb
    unfold maxLen; omega
  obtain ⟨A, cap, rfl, hc1, hc2, hc3, hc4⟩ := hr
  have hm : ∀ u ∈ l2.map enc, u.oneCell' = true := by intro u hu; obtain ⟨y, _, rfl⟩ := List.mem_map.1 hu; exact h1 y
  have key : ∃ v' w', (Builtin.append_ #[t, t] ty #[v, .slice A l2.length cap]).run P w = .ok v' w' ∧ w'.ownsRow base e 1 v' (l.length + l2.length) (l.map enc ++ l2.map enc) ∧ w.grownBy w' v.ownBlock ∧ (v'.ownBlock = v.ownBlock ∨ v'.ownBlock = some w.heap.size) := by
    cases A with
    | none =>
      have h0 : l2 = [] := List.eq_nil_of_length_eq_zero (by have := hc3 rfl; omega)
      subst h0
      refine ⟨v, w, ?_, by simpa [Own] using hown, World.grownBy.refl w _, .inl rfl⟩
      have hown' : w.ownsRow base e 1 v l.length (l.map enc) := hown
      rcases hown'.2 with ⟨rfl, hl0⟩ | ⟨g, cap', cur, rfl, _, _, hnc, _⟩
      · simp [Builtin.append_, run_underlying E.ht, sizeOf, typeInfo, hi, Builtin.lenOf, Builtin.firstCells]
      · simp [Builtin.append_, run_underlying E.ht, sizeOf, typeInfo, hi, Builtin.lenOf, Builtin.firstCells, hnc, storeCells]
    | some ad =>
      obtain ⟨b, off, rfl, hb, hcell⟩ := hc4 ad rfl
      obtain ⟨v', w', r1, r2, r3, _, r5⟩ := run_append_own_at (P := P) w base t ty e i z 1 bytes E.ht hi hz hsz hby (by rw [E.hz]; rfl) (by decide) v l.length (l.map enc) hown ⟨b, off, none⟩ l2.length cap (l2.map enc) (by simp)
        (fun j u hj => by
          obtain ⟨hj', rfl⟩ := List.getElem?_eq_some_iff.1 hj
          simp only [List.length_map] at hj'
          rw [List.getElem_map]
          have := hcell j hj'
          unfold Addr.add; split
          · rename_i h0; subst h0; simpa using this
          · exact this) hm hn hlen hbase
      exact ⟨v', w', r1, r2, r3, r5⟩
  obtain ⟨v', w', r1, r2, r3, r4⟩ := key
  exact ⟨v', w', r1, by simpa [Own] using r2, r3, r4⟩
theorem wpList_app {ops : Array Oper} {rest : List Oper} {o : Oper} {a : Act} {Q : Exit → Act → World → Prop} (hgd : o.guard = none) (s x : Operand) (ho : o.op = .call { callee := .builtin .append, args := #[s, x], argTypes := #[t, t] })
    {enc : α → Value} (h1 : ∀ y, (enc y).oneCell' = true) (base : Nat) {v : Value} {l : List α} (hs : a.eval s = v) (hown : Own enc e base w v l) {vx : Value} {l2 : List α} (hx : a.eval x = vx) (hr : Sl enc w vx l2)
    (hlen : (l.length + l2.length) * bytes ≤ 140737488355328) (hbase : base ≤ w.heap.size)
    (h : ∀ v' w', Own enc e base w' v' (l ++ l2) → w.grownBy w' v.ownBlock → (v'.ownBlock = v.ownBlock ∨ v'.ownBlock = some w.heap.size) → wpList P ops Q rest (a.put o.dst v') w') : wpList P ops Q (o :: rest) a w := by
  refine wpList_plain hgd fun K hK => ?_
  obtain ⟨v', w', hr, h2, h3, h4⟩ := run_app E h1 (ty := o.type) hown hr hlen hbase
  unfold Oper.wp execOp
  simp only [ho, resolve, invoke, builtin, Sem.run_bind, Sem.run_pure, Result.andThen_ok, List.map_toArray, List.map_cons, List.map_nil, hs, hx, hr]
  exact hK _ _ (h v' w' h2 h3 h4)
/-- 'append', told by what the call has made so far. -/
theorem wpList_ap {ops : Array Oper} {rest : List Oper} {o : Oper} {a : Act} {Q : Exit → Act → World → Prop} (hgd : o.guard = none) (s x : Operand) (ho : o.op = .call { callee := .builtin .append, args := #[s, x], argTypes := #[t, t] })
    {enc : α → Value} (h1 : ∀ y, (enc y).oneCell' = true) {w0 : World} (hx0 : Ext w0 w) (base : Nat) {v : Value} {l : List α} (hs : a.eval s = v) (hown : Own enc e base w v l) {vx : Value} {l2 : List α} (hx : a.eval x = vx) (hr : Sl enc w vx l2)
    (hlen : (l.length + l2.length) * bytes ≤ 140737488355328) (hb0 : w0.heap.size ≤ base) (hbase : base ≤ w.heap.size)
    (h : ∀ v' w', Own enc e base w' v' (l ++ l2) → Ext w0 w' → w.grownBy w' v.ownBlock → (v'.ownBlock = v.ownBlock ∨ v'.ownBlock = some w.heap.size) → wpList P ops Q rest (a.put o.dst v') w') : wpList P ops Q (o :: rest) a w :=
  wpList_app E hgd s x ho h1 base hs hown hx hr hlen hbase fun v' w' h2 h3 h4 => h v' w' h2 (hx0.grown h3 fun k hk => Nat.le_trans hb0 (hown.row k hk)) h3 h4
theorem wpList_mk {ops : Array Oper} {rest : List Oper} {o : Oper} {a : Act} {Q : Exit → Act → World → Prop} (hgd : o.guard = none) (l c : Operand) (hop : o.op = Op.makeSlice t l c)
    {enc : α → Value} {x0 : α} (hx0 : enc x0 = z) (base : Nat) (kl kc : IntKind) (L C : Int) (hl : a.eval l = .int kl L) (hc : a.eval c = .int kc C) (hL : 0 ≤ L) (hC : C = L) (hb : L * bytes ≤ 140737488355328) (hbase : base ≤ w.heap.size)
    (h : ∀ w', Own enc e base w' (.slice (some ⟨w.heap.size, 0, none⟩) L.toNat L.toNat) (List.replicate L.toNat x0) → w.grownBy w' none → wpList P ops Q rest (a.put o.dst (.slice (some ⟨w.heap.size, 0, none⟩) L.toNat L.toNat)) w') : wpList P ops Q (o :: rest) a w := by
  obtain ⟨i, hi, hz, hsz, hby⟩ := info_parts E.hi
  obtain ⟨n, rfl⟩ := Int.eq_ofNat_of_zero_le hL
  have hn : n * bytes ≤ 140737488355328 := by omega
  have hn1 : n ≤ 140737488355328 := by
    have hb := E.hb
    have : n * 1 ≤ n * bytes := Nat.mul_le_mul_left _ hb
    omega
  refine wpList_make_full w hgd l c t hop base e i z 1 E.ht hi hz hsz kl kc _ _ n hl hc rfl hC (by rw [hby, Nat.mul_comm]; omega) (by unfold maxLen; omega) hbase fun w' ho hg => ?_
  refine h w' ?_ hg
  have e1 : (madeCells z.cells (n * 1)).toList = (List.replicate n x0).map enc := by
    rw [E.hz, Nat.mul_one, toList_madeCells_one, List.map_replicate, hx0]
  simp only [Int.toNat_natCast]
  unfold Own
  rw [← e1, List.length_replicate]
  exact ho
end
/-- 'string(b)'. -/
theorem conv_str {P : Program} {w : World} {src dst e : TypeId} (hs : P.underlying src = some (.slice e)) (he : P.underlying e = some (.int .u8)) (hd : P.underlying dst = some .string) {v : Value} {l : List UInt8} (h : By w v l) : (convert src dst v).run P w = .ok (.string ⟨l.toArray⟩) w := by
  obtain ⟨A, cap, rfl, h2, h3, h4, h5⟩ := h
  cases A with
  | none =>
    have : l = [] := List.eq_nil_of_length_eq_zero (by have := h4 rfl; omega)
    subst this
    exact Lib.run_convert_nil_bytes w src dst e cap hs he hd
  | some ad =>
    obtain ⟨b, off, rfl, e2, e3⟩ := h5 _ rfl
    refine run_convert_bytes_back w src dst e _ cap l hs he hd fun j hj => ?_
    have := e3 j hj
    unfold Addr.add; split
    · rename_i h0; subst h0; simpa [bv] using this
    · exact this
theorem quietS {P : Program} {f : FuncId} {args : Array Value} {w : World} {n : Nat} {v : Value} (h : Calls P f args (w.drewN n) fun e w' => e = .returned v ∧ w.drewN n = w') : Calls P f args (w.drewN n) fun e w'' => e = .returned v ∧ ∃ m, w'' = w.drewN m :=
  h.mono fun _ _ ⟨he, hm⟩ => ⟨he, n, hm.symm⟩
theorem quietT {P : Program} {f : FuncId} {args : Array Value} {w : World} {m n : Nat} {v : Value} (h : Calls P f args (w.drewN (m + n)) fun e w' => e = .returned v ∧ w.drewN (m + n) = w') : Calls P f args (w.drewN (m + n)) fun e w'' => e = .returned v ∧ ∃ k, w'' = w.drewN (m + k) :=
  h.mono fun _ _ ⟨he, hm⟩ => ⟨he, n, hm.symm⟩
theorem bv_one (b : UInt8) : (bv b).oneCell' = true := rfl
/-- An append that is joined to what the call has made so far. -/
theorem Ext.app {w0 w w' : World} {v : Value} (x : Ext w0 w) (hg : w.grownBy w' v.ownBlock) (hr : ∀ k, v.ownBlock = some k → w0.heap.size ≤ k) : Ext w0 w' := x.grown hg hr
end Go.Proofs.YtpbgfifojfakhaaGreatDoor
