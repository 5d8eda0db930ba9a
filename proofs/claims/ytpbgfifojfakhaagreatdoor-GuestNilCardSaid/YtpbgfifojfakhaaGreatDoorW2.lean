/- A range over a function: what an iterator promises, what a loop over it owes. No program in sight. -/
import Derived.Test.YtpbgfifojfakhaaGreatDoorW0
import Derived.RangeFuncNested
import Derived.RangeFuncBound
import Derived.RangeFuncCalls
import Derived.RangeFuncLeaves
import Derived.Shelf.Abstract
import Derived.Shelf.RegionOpen
import Derived.OwnWalkIn
import Derived.TacticsInMore
import Derived.LoopNIn
import Derived.LoopIn
namespace Go.Proofs.YtpbgfifojfakhaaGreatDoor
open Go.RowKit

/-- What is no longer as it was lies in I, or is new. -/
structure Mov (I : Nat → Prop) (w w' : World) : Prop where
  os : w'.os = w.os
  tape : w'.tape = w.tape
  output : w'.output = w.output
  size : w.heap.size ≤ w'.heap.size
  block : ∀ k, k < w.heap.size → ¬ I k → w'.heap[k]? = w.heap[k]?
theorem Mov.refl (I : Nat → Prop) (w : World) : Mov I w w := ⟨rfl, rfl, rfl, Nat.le_refl _, fun _ _ _ => rfl⟩
theorem Mov.trans {I : Nat → Prop} {a b c : World} (h : Mov I a b) (k : Mov I b c) : Mov I a c :=
  ⟨k.os.trans h.os, k.tape.trans h.tape, k.output.trans h.output, Nat.le_trans h.size k.size, fun i hi hn => (k.block i (Nat.lt_of_lt_of_le hi h.size) hn).trans (h.block i hi hn)⟩
theorem Mov.weak {I I' : Nat → Prop} {a b : World} (h : Mov I a b) (hi : ∀ k, k < a.heap.size → I k → I' k) : Mov I' a b := ⟨h.os, h.tape, h.output, h.size, fun k hk hn => h.block k hk fun hi' => hn (hi k hk hi')⟩
theorem Mov.of_ext {I : Nat → Prop} {a b : World} (h : Ext a b) : Mov I a b := ⟨h.os, h.tape, h.output, h.size, fun k hk _ => Below.block h k hk⟩
theorem Mov.ext {I : Nat → Prop} {a b c : World} (h : Mov I a b) (x : Ext b c) : Mov I a c := h.trans (.of_ext x)
theorem Mov.alloc {I : Nat → Prop} {a b : World} (h : Mov I a b) (o : Obj) : Mov I a (b.alloc o) := h.ext ((Ext.refl b).alloc o)
theorem Mov.drew {I : Nat → Prop} {a b : World} (h : Mov I a b) : Mov I a b.drew := h.ext ((Ext.refl b).drew)
theorem Mov.drewN {I : Nat → Prop} {a b : World} (h : Mov I a b) (n : Nat) : Mov I a (b.drewN n) := h.ext ((Ext.refl b).drewN n)
theorem Mov.setCell {I : Nat → Prop} {a b : World} (h : Mov I a b) {p : Addr} (hp : p.block < a.heap.size → I p.block) (u : Value) : Mov I a (b.setCell p u) :=
  ⟨h.os, h.tape, h.output, by simpa using h.size, fun k hk hn => (Below.heap_setCell b p u k (fun e => hn (by subst e; exact hp hk))).trans (h.block k hk hn)⟩
theorem Mov.grown {I : Nat → Prop} {a b c : World} {row : Option Nat} (h : Mov I a b) (hg : b.grownBy c row) (hr : ∀ k, row = some k → k < a.heap.size → I k) : Mov I a c :=
  ⟨hg.os.trans h.os, hg.tape.trans h.tape, hg.output.trans h.output, Nat.le_trans h.size hg.size, fun k hk hn => (hg.block k (Nat.lt_of_lt_of_le hk h.size) (fun e => hn (hr k e.symm hk))).trans (h.block k hk hn)⟩
theorem Mov.putObj {I : Nat → Prop} {a b : World} (h : Mov I a b) (l : Nat) (o : Obj) (hl : l < a.heap.size → I l) : Mov I a (b.putObj l o) :=
  ⟨h.os, h.tape, h.output, by simpa using h.size, fun k hk hn => (World.putObj_heap_other (fun e => hn (by subst e; exact hl hk))).trans (h.block k hk hn)⟩
theorem Ext.mov {w a b : World} {I : Nat → Prop} (x : Ext w a) (h : Mov I a b) (hi : ∀ k, I k → w.heap.size ≤ k) : Ext w b :=
  ⟨h.os.trans (Below.os x), h.tape.trans (Below.tape x), h.output.trans (Below.output x), Nat.le_trans x.size h.size,
    fun k hk => (h.block k (Nat.lt_of_lt_of_le hk x.size) (fun e => by have := hi k e; omega)).trans (Below.block x k hk)⟩
/-- What is said of s abides changes of the blocks I, and new ones; I may come to hold new blocks. -/
def Stab {β : Type} (J : (Nat → Prop) → β → World → Prop) : Prop := ∀ I I' s w w', J I s w → Mov I w w' → (∀ k, I' k → I k ∨ w.heap.size ≤ k) → J I' s w'
theorem Stab.and {β : Type} {J K : (Nat → Prop) → β → World → Prop} (h : Stab J) (k : Stab K) : Stab (fun I s w => J I s w ∧ K I s w) := fun I I' s w w' hs hm hi => ⟨h I I' s w w' hs.1 hm hi, k I I' s w w' hs.2 hm hi⟩
theorem Stab.pure {β : Type} (p : β → Prop) : Stab (fun _ s _ => p s) := fun _ _ _ _ _ h _ _ => h
/-- A block that isn't theirs is as it was. -/
theorem Stab.blk {β : Type} (b : Nat) (o : β → Obj) : Stab (fun I s w => w.heap[b]? = some (o s) ∧ ¬ I b) := fun I I' s w w' ⟨h1, h2⟩ hm hi => by
  have hlt := (Array.getElem?_eq_some_iff.1 h1).1
  exact ⟨(hm.block b hlt h2).trans h1, fun h => (hi b h).elim h2 (fun h => by omega)⟩
theorem Stab.ext {β : Type} (w0 : World) : Stab (fun I (_ : β) w => Ext w0 w ∧ ∀ k, I k → w0.heap.size ≤ k) := fun I I' s w w' ⟨h1, h2⟩ hm hi =>
  ⟨h1.mov hm h2, fun k hk => (hi k hk).elim (h2 k) (fun h => Nat.le_trans h1.size h)⟩
/-- What is the call's own, and not theirs. -/
theorem Stab.size {β : Type} (n : Nat) : Stab (fun _ (_ : β) w => n ≤ w.heap.size) := fun _ _ _ _ _ h hm _ => Nat.le_trans h hm.size
theorem Stab.ex {β γ : Type} {J : γ → (Nat → Prop) → β → World → Prop} (h : ∀ v, Stab (J v)) : Stab (fun I s w => ∃ v, J v I s w) := fun I I' s w w' ⟨v, hs⟩ hm hi => ⟨v, h v I I' s w w' hs hm hi⟩
theorem Stab.own {α β : Type} (enc : α → Value) (e : TypeId) (base : Nat) (v : β → Value) (l : β → List α) : Stab (fun I s w => Own enc e base w (v s) (l s) ∧ ∀ k, (v s).ownBlock = some k → ¬ I k) := fun I I' s w w' ⟨h1, h2⟩ hm hi => by
  have hr := World.ownsRow.lt h1
  refine ⟨⟨h1.1, ?_⟩, fun k hk h => (hi k h).elim (h2 k hk) (fun h => by have := (hr k hk).2; omega)⟩
  rcases h1.2 with hn | ⟨g, cap, cur, hv, hb, hg, rest⟩
  · exact .inl hn
  · have hg' : (v s).ownBlock = some g := by rw [hv]; rfl
    exact .inr ⟨g, cap, cur, hv, hb, (hm.block g (hr g hg').2 (h2 g hg')).trans hg, rest⟩

/-- The iterator g over lb brings xs, one by one, whatever the loop does that touches but its own blocks C0 and what is new and not the iterator's (I). -/
def Iter {α : Type} (P : Program) (g : Nat) (lb : Array Value) (E : α → Array Value → World → Prop) (xs : List α) (C0 I0 : Nat → Prop) (W : World) : Prop :=
  ∀ (l : Nat) (J Jx : (Nat → Prop) → List α → World → Prop) (W0 : World), Ext W W0 → Stab J → Stab Jx →
    (∀ I pre x post args W1, xs = pre ++ x :: post → (∀ k, I k → I0 k ∨ W0.heap.size ≤ k) → (∀ k, I k → k < W1.heap.size) → E x args W1 → J I pre W1 → YieldAt Fence.wide 0 P l args W1 fun e W2 =>
      (e = .returned (.bool true) ∧ J I (pre ++ [x]) W2 ∧ Mov (fun k => ¬ I k ∧ (C0 k ∨ W.heap.size ≤ k)) W1 W2) ∨ (e = .returned (.bool false) ∧ Jx I (pre ++ [x]) W2 ∧ Mov (fun k => ¬ I k ∧ (C0 k ∨ W.heap.size ≤ k)) W1 W2)) →
    J I0 [] W0 → Calls P g (#[.func (.yield l) #[] #[]] ++ lb) W0 fun e W' => (∃ v, e = .returned v) ∧ ∃ I', (J I' xs W' ∨ ∃ pre x post, xs = pre ++ x :: post ∧ Jx I' (pre ++ [x]) W')

/-- What is said of an element abides a change of a loop's own record. -/
def Keeps {α : Type} (E : α → Array Value → World → Prop) : Prop := ∀ x args W W' l r, W.heap[l]? = some (.loop r) → Mov (fun k => k = l) W W' → E x args W → E x args W'
theorem Keeps.pure {α : Type} (p : α → Array Value → Prop) : Keeps (fun x args _ => p x args) := fun _ _ _ _ _ _ _ _ h => h
theorem Sl.putLoop {α : Type} {enc : α → Value} {w w' : World} {v : Value} {xs : List α} {l : Nat} {r : Loop} (h : Sl enc w v xs) (hl : w.heap[l]? = some (.loop r)) (hm : Mov (fun k => k = l) w w') : Sl enc w' v xs := by
  obtain ⟨A, cap, h1, h2, h3, h4, h5⟩ := h
  refine ⟨A, cap, h1, h2, h3, h4, fun ad ha => ?_⟩
  obtain ⟨b, off, e1, e2, e3⟩ := h5 ad ha
  refine ⟨b, off, e1, Nat.lt_of_lt_of_le e2 hm.size, fun i hi => ?_⟩
  have hc := e3 i hi
  rw [← hc]
  refine World.cell?_of_block (hm.block b e2 fun e => ?_)
  subst e
  simp [World.cell?, hl] at hc
theorem Keeps.by_ : Keeps (fun (x : List UInt8) args W => ∃ v, args = #[v] ∧ By W v x) := fun x args W W' l r hl hm ⟨v, h1, h2⟩ => ⟨v, h1, h2.putLoop hl hm⟩
def fence (ro : Option Nat) : Fence := { Fence.wide with round := ro }
/-- How the body of a round may be left. -/
def forPost {α : Type} (C : Nat → Prop) (I : (Nat → Prop) → List α → World → Prop) (Ix : Code → (Nat → Prop) → List α → World → Prop) (Is : Nat → Prop) (xs : List α) (W : World) : Exit → Act → World → Prop
  | .normal, _, W' => Mov (fun k => ¬ Is k ∧ C k) W W' ∧ I Is xs W'
  | .ret, _, W' => Mov (fun k => ¬ Is k ∧ C k) W W' ∧ Ix .ret Is xs W'
  | .exit id, _, W' => Mov (fun k => ¬ Is k ∧ C k) W W' ∧ Ix (.exit id) Is xs W'
  | .goto t, _, W' => Mov (fun k => ¬ Is k ∧ C k) W W' ∧ Ix (.goto t) Is xs W'
  | .panic _, _, _ => False
  | .outgrown, _, _ => False
section
variable {α : Type} {P : Program}
theorem wpIn_for {g : Operand} {ps : Array Tmp} {assign body : Code} {Q : Exit → Act → World → Prop} {a : Act} {w : World} {gf : Nat} {lb : Array Value}
    (hg : a.eval g = .func (.func gf) #[] lb) (eg : ∀ args w, (callFunc gf args).run P w = .ok (.enter gf args) w) {E : α → Array Value → World → Prop} {xs : List α} {C0 I0 : Nat → Prop} (hit : Iter P gf lb E xs C0 I0 w)
    (hps : ∀ x args W, E x args W → args.size = ps.size) (hE : Keeps E) (hI0 : ∀ k, I0 k → k < w.heap.size)
    (I : (Nat → Prop) → List α → World → Prop) (Ix : Code → (Nat → Prop) → List α → World → Prop) (hI : Stab I) (hIx : ∀ c, Stab (Ix c)) (h0 : I I0 [] w)
    (hround : ∀ (l : Nat) (x : α) (args : Array Value) (W : World), E x args W → assign.wpIn (fence (some l)) 0 P (Exit.then (fun a1 W1 => W = W1 ∧ ∀ (Is : Nat → Prop) (pre post : List α) (W2 : World), xs = pre ++ x :: post → (∀ k, Is k → I0 k ∨ w.heap.size ≤ k) → (∀ k, Is k → k < W2.heap.size) → E x args W2 → I Is pre W2 →
      body.wpIn (fence (some l)) 0 P (forPost (fun k => C0 k ∨ w.heap.size ≤ k) I Ix Is (pre ++ [x]) W2) a1 W2) (fun _ _ _ => False)) { tmps := (ps.zip args).foldl (fun t (p, v) => t.setIfInBounds p v) a.tmps, defers := [] } W)
    (hdone : ∀ (D : Nat) (Is : Nat → Prop) (W : World), w.heap.size ≤ D → Is D → I Is xs W → W.heap[D]? = some (.deferred (some [])) → Q .normal { a with defers := { target := .collected D, args := #[] } :: a.defers } W)
    (hstop : ∀ (D : Nat) (Is : Nat → Prop) (c : Code) (pre : List α) (x : α) (post : List α) (W : World), w.heap.size ≤ D → Is D → xs = pre ++ x :: post → Ix c Is (pre ++ [x]) W → W.heap[D]? = some (.deferred (some [])) → c.wp P Q { a with defers := { target := .collected D, args := #[] } :: a.defers } W) :
    (Code.rangeFunc g ps assign body).wp P Q a w := by
  refine (wpIn_wide (n := 0)).1 (wpIn_rangeFunc ?_)
  intro fn hfn
  obtain ⟨rec, hrec⟩ : ∃ rec : LoopState → Option Code → Loop, rec = fun st pe => { state := st, pending := pe, fn, tmps := a.tmps, params := ps, assign, body, defers := w.heap.size } := ⟨_, rfl⟩
  obtain ⟨W1, hW1⟩ : ∃ W1, (w.alloc (.deferred (some []))).alloc (.loop (rec .ready none)) = W1 := ⟨_, rfl⟩
  have hL1 : W1.heap[w.heap.size + 1]? = some (.loop (rec .ready none)) := by
    rw [← hW1]; have := World.alloc_heap_new (w.alloc (.deferred (some []))) (.loop (rec .ready none)); rwa [World.size_alloc] at this
  have hK1 : W1.heap[w.heap.size]? = some (.deferred (some [])) := by
    rw [← hW1]; exact (Below.heap_alloc _ _ _ (by simp)).trans (World.alloc_heap_new w _)
  have hx1 : Ext w W1 := by rw [← hW1]; exact ((Ext.refl w).alloc _).alloc _
  obtain ⟨l, hl⟩ : ∃ l, l = w.heap.size + 1 := ⟨_, rfl⟩
  obtain ⟨D, hD⟩ : ∃ D, D = w.heap.size := ⟨_, rfl⟩
  rw [← hl] at hL1
  rw [← hD] at hK1
  refine ⟨w.heap.size + 1, [{ target := .collected w.heap.size, args := #[] }], W1, { target := .fn (.func gf) lb, args := #[.func (.yield (w.heap.size + 1)) #[] #[]] }, W1, gf,
    #[.func (.yield (w.heap.size + 1)) #[] #[]] ++ lb, W1, ?_, ?_, ?_, ?_, ?_, ?_⟩
  · rw [← hW1, hrec]; exact run_enterLoop_outer _ _ _ _ _
  · simp only [resolve, hg]
    simp [go_sem]
  · intro f' hf'; trivial
  · simp [invoke, go_sem, eg]
  · intro h; simp [Fence.wide] at h
  · rw [← hl, ← hD]
    have hDl : D ≠ l := by omega
    -- what is told of the loop's own two blocks beside the caller's word
    have hbook : ∀ {β : Type} {K : (Nat → Prop) → β → World → Prop} (pe : LoopState) (jp : Option Code), Stab K → Stab (fun Is s W => K (fun k => Is k ∨ k = l ∨ k = D) s W ∧ (W.heap[l]? = some (.loop (rec pe jp)) ∧ ¬ Is l) ∧ (W.heap[D]? = some (.deferred (some [])) ∧ ¬ Is D)) := by
      intro β K pe jp hK
      refine Stab.and (fun I I' s w w' hs hm hi => hK _ _ s w w' hs (hm.weak fun k _ h => .inl h) ?_) (Stab.and (Stab.blk l fun _ => _) (Stab.blk D fun _ => _))
      rintro k (h | h)
      · exact (hi k h).imp .inl id
      · exact .inl (.inr h)
    refine (callsIn_wide.2 (hit l (fun Is pre W => I (fun k => Is k ∨ k = l ∨ k = D) pre W ∧ (W.heap[l]? = some (.loop (rec .ready none)) ∧ ¬ Is l) ∧ (W.heap[D]? = some (.deferred (some [])) ∧ ¬ Is D))
      (fun Is pre W => ∃ c, Ix c (fun k => Is k ∨ k = l ∨ k = D) pre W ∧ (W.heap[l]? = some (.loop (rec .done (some c))) ∧ ¬ Is l) ∧ (W.heap[D]? = some (.deferred (some [])) ∧ ¬ Is D))
      W1 hx1 (hbook .ready none hI) (fun Is I' s A B ⟨c, hs⟩ hm hi => ⟨c, hbook .done (some c) (hIx c) Is I' s A B hs hm hi⟩) ?_
      ⟨hI I0 _ [] w W1 h0 (.of_ext hx1) (fun k hk => hk.imp id (fun h => by rcases h with rfl | rfl <;> omega)), ⟨hL1, fun h => by have := hI0 _ h; omega⟩, ⟨hK1, fun h => by have := hI0 _ h; omega⟩⟩)).mono ?_
    · rintro Is pre x post args W hxs hIs hIt hex ⟨hi, ⟨hl1, hnl⟩, ⟨hk1, hnk⟩⟩
      have hlt : l < W.heap.size := (Array.getElem?_eq_some_iff.1 hl1).1
      have hltD : D < W.heap.size := (Array.getElem?_eq_some_iff.1 hk1).1
      have hy := run_yield (P := P) (args := args) hl1 (by rw [hrec]; exact hps x args W hex)
      rw [hrec] at hy
      refine ⟨fn, _, assign, body, hy, roundIn_of_wpIn hfn (wpIn_mono (hround l x args W hex) ?_)⟩
      rintro e a1 W1 hh
      cases e <;> try exact hh.elim
      obtain ⟨rfl, hb⟩ := hh
      refine ⟨_, run_beginRound hl1 (by rw [hrec]), ?_⟩
      clear hy
      have hl2 : (W.putObj l (.loop { rec .ready none with state := .busy })).heap[l]? = some (.loop { rec .ready none with state := .busy }) := World.putObj_heap_same hlt
      have hk2 : (W.putObj l (.loop { rec .ready none with state := .busy })).heap[D]? = some (.deferred (some [])) := (World.putObj_heap_other hDl).trans hk1
      have hi2 : I (fun k => Is k ∨ k = l ∨ k = D) pre (W.putObj l (.loop { rec .ready none with state := .busy })) :=
        hI _ _ pre W _ hi ((Mov.refl _ W).putObj l _ fun _ => .inr (.inl rfl)) fun k hk => .inl hk
      refine wpIn_mono (hb (fun k => Is k ∨ k = l ∨ k = D) pre post _ hxs ?_ (by rintro k (h | rfl | rfl) <;> simp <;> first | exact hIt k h | omega) (hE x args W _ l _ hl1 ((Mov.refl _ W).putObj l _ fun _ => rfl) hex) hi2) ?_
      · rintro k (h | rfl | rfl)
        · exact (hIs k h).imp id (fun h => Nat.le_trans hx1.size h)
        · right; omega
        · right; omega
      have fin : ∀ (jump : Option Code) (W3 : World), Mov (fun k => ¬ (Is k ∨ k = l ∨ k = D) ∧ (C0 k ∨ w.heap.size ≤ k)) (W.putObj l (.loop { rec .ready none with state := .busy })) W3 →
          (Instr.endRound l jump).run P W3 = .ok (.bool jump.isNone) (W3.putObj l (.loop (rec (if jump.isNone then .ready else .done) jump))) ∧
          (W3.putObj l (.loop (rec (if jump.isNone then .ready else .done) jump))).heap[l]? = some (.loop (rec (if jump.isNone then .ready else .done) jump)) ∧
          (W3.putObj l (.loop (rec (if jump.isNone then .ready else .done) jump))).heap[D]? = some (.deferred (some [])) ∧
          Mov (fun k => k = l) W3 (W3.putObj l (.loop (rec (if jump.isNone then .ready else .done) jump))) ∧
          Mov (fun k => ¬ Is k ∧ (C0 k ∨ w.heap.size ≤ k)) W (W3.putObj l (.loop (rec (if jump.isNone then .ready else .done) jump))) := fun jump W3 hm => by
        have hl3 := (hm.block l (by simpa using hlt) (fun h => h.1 (.inr (.inl rfl)))).trans hl2
        have hk3 := (hm.block D (by simpa using hltD) (fun h => h.1 (.inr (.inr rfl)))).trans hk2
        have := run_endRound (P := P) jump hl3
        rw [hrec] at this ⊢
        refine ⟨this, World.putObj_heap_same (Array.getElem?_eq_some_iff.1 hl3).1, (World.putObj_heap_other hDl).trans hk3, (Mov.refl _ W3).putObj l _ fun _ => rfl, ?_⟩
        refine Mov.putObj (Mov.trans ((Mov.refl _ W).putObj l _ fun _ => ⟨hnl, .inr (by omega)⟩) (hm.weak fun k _ h => ⟨fun h' => h.1 (.inl h'), h.2⟩)) l _ fun _ => ⟨hnl, .inr (by omega)⟩
      have upd : ∀ {K : (Nat → Prop) → List α → World → Prop} {W3 W4 : World}, Stab K → Mov (fun k => k = l) W3 W4 → K (fun k => Is k ∨ k = l ∨ k = D) (pre ++ [x]) W3 → K (fun k => Is k ∨ k = l ∨ k = D) (pre ++ [x]) W4 :=
        fun hK hm h => hK _ _ _ _ _ h (hm.weak fun k _ h => .inr (.inl h)) fun k hk => .inl hk
      rintro e a3 W3 hp
      cases e with
      | normal =>
        obtain ⟨hm3, hi3⟩ := hp
        obtain ⟨hr, hl4, hk4, hmw, hm4⟩ := fin none W3 hm3
        exact ⟨_, _, hr, .inl ⟨rfl, ⟨upd hI hmw hi3, ⟨hl4, hnl⟩, ⟨hk4, hnk⟩⟩, hm4⟩⟩
      | ret =>
        obtain ⟨hm3, hi3⟩ := hp
        obtain ⟨hr, hl4, hk4, hmw, hm4⟩ := fin (some .ret) W3 hm3
        exact ⟨_, _, hr, .inr ⟨rfl, ⟨.ret, upd (hIx _) hmw hi3, ⟨hl4, hnl⟩, ⟨hk4, hnk⟩⟩, hm4⟩⟩
      | exit id =>
        obtain ⟨hm3, hi3⟩ := hp
        obtain ⟨hr, hl4, hk4, hmw, hm4⟩ := fin (some (.exit id)) W3 hm3
        exact ⟨_, _, hr, .inr ⟨rfl, ⟨.exit id, upd (hIx _) hmw hi3, ⟨hl4, hnl⟩, ⟨hk4, hnk⟩⟩, hm4⟩⟩
      | goto t =>
        obtain ⟨hm3, hi3⟩ := hp
        obtain ⟨hr, hl4, hk4, hmw, hm4⟩ := fin (some (.goto t)) W3 hm3
        exact ⟨_, _, hr, .inr ⟨rfl, ⟨.goto t, upd (hIx _) hmw hi3, ⟨hl4, hnl⟩, ⟨hk4, hnk⟩⟩, hm4⟩⟩
      | panic ch => exact hp.elim
      | outgrown => exact hp.elim
    · have upd : ∀ {K : (Nat → Prop) → List α → World → Prop} {Is : Nat → Prop} {ys : List α} {W3 : World} (o : Obj), Stab K → K (fun k => Is k ∨ k = l ∨ k = D) ys W3 → K (fun k => Is k ∨ k = l ∨ k = D) ys (W3.putObj l o) :=
        fun o hK h => hK _ _ _ _ _ h ((Mov.refl _ _).putObj l o fun _ => .inr (.inl rfl)) fun k hk => .inl hk
      rintro e W2 ⟨⟨v, rfl⟩, Is, (⟨hi, ⟨hl2, _⟩, ⟨hk2, _⟩⟩ | ⟨pre, x, post, hxs, c, hi, ⟨hl2, _⟩, ⟨hk2, _⟩⟩)⟩
      · exact ⟨none, _, by have := run_endLoop (P := P) hl2 (by rw [hrec]; simp); rw [hrec] at this; exact this, hdone D _ _ (by omega) (.inr (.inr rfl)) (upd _ hI hi) ((World.putObj_heap_other hDl).trans hk2)⟩
      · exact ⟨some c, _, by have := run_endLoop (P := P) hl2 (by rw [hrec]; simp); rw [hrec] at this; exact this, wpIn_wide.2 (hstop D _ c pre x post _ (by omega) (.inr (.inr rfl)) hxs (upd _ (hIx c) hi) ((World.putObj_heap_other hDl).trans hk2))⟩
theorem postM_ret {fn : Func} {R : Ending → World → Prop} {a : Act} {w : World} {D : Nat} {v : Value} (hD : w.heap[D]? = some (.deferred (some []))) (hd : a.defers = [{ target := .collected D, args := #[] }])
    (hr : (results fn a.tmps).run P (w.putObj D (.deferred none)) = .ok v (w.putObj D (.deferred none))) (hR : R (.returned v) (w.putObj D (.deferred none))) : bodyPostM Fence.wide 0 P fn R .ret a w := by
  show LeavesInM Fence.wide 0 P fn a.tmps R a.defers .returning w
  rw [hd]
  exact ⟨by simp, .inl ⟨D, _, rfl, run_takeDeferred hD, by exact ⟨_, hr, hR⟩⟩⟩
theorem postM_ret0 {fn : Func} {R : Ending → World → Prop} {a : Act} {w : World} {v : Value} (hd : a.defers = []) (hr : (results fn a.tmps).run P w = .ok v w) (hR : R (.returned v) w) : bodyPostM Fence.wide 0 P fn R .ret a w := by
  show LeavesInM Fence.wide 0 P fn a.tmps R a.defers .returning w
  rw [hd]
  exact ⟨_, hr, hR⟩
end
theorem Mov.done {w : World} {D : Nat} (o : Obj) : Mov (fun k => k = D) w (w.putObj D o) := (Mov.refl _ w).putObj D o fun _ => rfl
theorem Ext.done {w0 w : World} {D : Nat} (h : Ext w0 w) (hD : w0.heap.size ≤ D) (o : Obj) : Ext w0 (w.putObj D o) := h.mov (Mov.done o) fun k e => by omega
theorem Own.done {α : Type} {enc : α → Value} {e : TypeId} {base : Nat} {w : World} {v : Value} {l : List α} (h : Own enc e base w v l) {D : Nat} {c : Option (List Deferred)} (hD : w.heap[D]? = some (.deferred c)) (o : Obj) : Own enc e base (w.putObj D o) v l := by
  refine ⟨h.1, ?_⟩
  rcases h.2 with hn | ⟨g, cap, cur, hv, hb, hg, rest⟩
  · exact .inl hn
  · exact .inr ⟨g, cap, cur, hv, hb, (World.putObj_heap_other (fun e => by subst e; rw [hD] at hg; cases hg)).trans hg, rest⟩
end Go.Proofs.YtpbgfifojfakhaaGreatDoor
