/- What a call may turn: 'Touch S w w'': of the blocks that were there only those of S may have turned. And the law of a range over a function, by footprints. Conditions: none; no program in it. Opening flat arguments and tables, and closing a law's row: general lemmas, no program in them. Conditions: none. What lies in memory, by footprints: general lemmas; no program in them. Conditions: none. Two facts of the program that many texts use. Conditions: none. -/
import Derived.RangeFuncNested
import Derived.RangeFuncBound
import Derived.RangeFuncCalls
import Derived.RangeFuncLeaves
import Derived.WalkKit
import Derived.WalkSmall
import Derived.Deep.QuietTactic
import Derived.Lib.Hide
import Derived.ProofKit
import Derived.LaidMore
import Derived.OpenShut
import Derived.Carry
import Derived.WalkSpells
import Derived.WalkLawsBesides
import Derived.Test.YtnobempbcdkoaaaGreatDoorProg
namespace Go.Proofs.YtnobempbcdkoaaaGreatDoor
open Go.RowKit

structure Touch (S : Nat → Prop) (w w' : World) : Prop where
  os : w'.os = w.os
  tape : w'.tape = w.tape
  output : w'.output = w.output
  size : w.heap.size ≤ w'.heap.size
  block : ∀ k, k < w.heap.size → ¬ S k → w'.heap[k]? = w.heap[k]?

theorem heap_alloc_if (w : World) (o : Obj) (k : Nat) : (w.alloc o).heap[k]? = if k = w.heap.size then some o else w.heap[k]? := by
  show (w.heap.push o)[k]? = _
  rw [Array.getElem?_push]

theorem alloc2_0 (w : World) (a b : Obj) : ((w.alloc a).alloc b).heap[w.heap.size]? = some a := (Below.heap_alloc _ _ _ (by simp)).trans (World.alloc_heap_new w _)
theorem alloc2_1 (w : World) (a b : Obj) : ((w.alloc a).alloc b).heap[w.heap.size + 1]? = some b := by have := World.alloc_heap_new (w.alloc a) b; rwa [World.size_alloc] at this
theorem one_cell {w : World} {b : Nat} {v : Value} {t : TypeId} {fr : Nat × Nat} (h : w.heap[b]? = some (Obj.cells #[v] t fr)) : w.cell? ⟨b, 0, none⟩ = some v := by simp [World.cell?, h]
theorem one_free {w : World} {b : Nat} {v : Value} {t : TypeId} (h : w.heap[b]? = some (Obj.cells #[v] t)) : w.frozen? ⟨b, 0, none⟩ = false := by simp [World.frozen?, h]
theorem set_one {w : World} {b : Nat} {v : Value} {t : TypeId} {fr : Nat × Nat} (u : Value) (h : w.heap[b]? = some (Obj.cells #[v] t fr)) : (w.setCell ⟨b, 0, none⟩ u).heap[b]? = some (Obj.cells #[u] t fr) := by
  obtain ⟨hlt, h'⟩ := Array.getElem?_eq_some_iff.1 h
  show (w.heap.modify b _)[b]? = _
  rw [Array.getElem?_eq_getElem (by rw [Array.size_modify]; exact hlt), Array.getElem_modify_self, h']
  simp
theorem set_cells {w : World} {b : Nat} {cs : Array Value} {t : TypeId} {fr : Nat × Nat} (o : Nat) (u : Value) (h : w.heap[b]? = some (Obj.cells cs t fr)) : (w.setCell ⟨b, o, none⟩ u).heap[b]? = some (Obj.cells (cs.setIfInBounds o u) t fr) := by
  obtain ⟨hlt, h'⟩ := Array.getElem?_eq_some_iff.1 h
  show (w.heap.modify b _)[b]? = _
  rw [Array.getElem?_eq_getElem (by rw [Array.size_modify]; exact hlt), Array.getElem_modify_self, h']
  simp
theorem set_other {w : World} {b k : Nat} {o : Nat} (u : Value) (h : k ≠ b) : (w.setCell ⟨b, o, none⟩ u).heap[k]? = w.heap[k]? := Below.heap_setCell w ⟨b, o, none⟩ u k h

def nob : Nat → Prop := fun _ => False

theorem Touch.refl (S : Nat → Prop) (w : World) : Touch S w w := ⟨rfl, rfl, rfl, Nat.le_refl _, fun _ _ _ => rfl⟩
theorem Touch.trans {S : Nat → Prop} {a b c : World} (h : Touch S a b) (k : Touch S b c) : Touch S a c :=
  ⟨k.os.trans h.os, k.tape.trans h.tape, k.output.trans h.output, Nat.le_trans h.size k.size, fun i hi hs => (k.block i (Nat.lt_of_lt_of_le hi h.size) hs).trans (h.block i hi hs)⟩
/-- The second step may turn more, if what it turns lies in S or is new. -/
theorem Touch.step {S S' : Nat → Prop} {a b c : World} (h : Touch S a b) (k : Touch S' b c) (hs : ∀ i, S' i → S i ∨ a.heap.size ≤ i) : Touch S a c :=
  ⟨k.os.trans h.os, k.tape.trans h.tape, k.output.trans h.output, Nat.le_trans h.size k.size, fun i hi hn => (k.block i (Nat.lt_of_lt_of_le hi h.size) (fun h' => by
    rcases hs i h' with x | x
    · exact hn x
    · omega)).trans (h.block i hi hn)⟩
theorem Touch.mono {S S' : Nat → Prop} {a b : World} (h : Touch S a b) (hs : ∀ i, i < a.heap.size → S i → S' i) : Touch S' a b :=
  ⟨h.os, h.tape, h.output, h.size, fun k hk hn => h.block k hk (fun x => hn (hs k hk x))⟩
theorem Touch.alloc {S : Nat → Prop} {a w : World} (h : Touch S a w) (o : Obj) : Touch S a (w.alloc o) :=
  h.trans ⟨rfl, rfl, rfl, by simp, fun k hk _ => Below.heap_alloc _ _ _ hk⟩
theorem Touch.drew {S : Nat → Prop} {a w : World} (h : Touch S a w) : Touch S a w.drew := ⟨h.os, h.tape, h.output, h.size, h.block⟩
theorem Touch.drewN {S : Nat → Prop} {a w : World} (h : Touch S a w) (n : Nat) : Touch S a (w.drewN n) := ⟨h.os, h.tape, h.output, h.size, h.block⟩
theorem Touch.setCell {S : Nat → Prop} {a w : World} (h : Touch S a w) {p : Addr} (hp : S p.block ∨ a.heap.size ≤ p.block) (u : Value) : Touch S a (w.setCell p u) :=
  ⟨h.os, h.tape, h.output, by simpa [World.setCell] using h.size, fun k hk hn => by
    refine (Below.heap_setCell _ _ _ _ (fun e => ?_)).trans (h.block k hk hn)
    subst e
    rcases hp with hp | hp
    · exact hn hp
    · omega⟩
theorem Touch.putObj {S : Nat → Prop} {a w : World} (h : Touch S a w) {l : Nat} (hp : S l ∨ a.heap.size ≤ l) (o : Obj) : Touch S a (w.putObj l o) :=
  ⟨h.os, h.tape, h.output, by simpa [World.putObj] using h.size, fun k hk hn => by
    refine (World.putObj_heap_other (fun e => ?_)).trans (h.block k hk hn)
    subst e
    rcases hp with hp | hp
    · exact hn hp
    · omega⟩
theorem Touch.of_below {S : Nat → Prop} {w w' : World} (h : Below w.heap.size w w') : Touch S w w' := ⟨h.os, h.tape, h.output, h.size, fun k hk _ => h.block k hk⟩
theorem Touch.below {w w' : World} (h : Touch nob w w') : Below w.heap.size w w' := ⟨h.os, h.tape, h.output, h.size, fun k hk => h.block k hk (fun x => x)⟩
theorem Touch.cell {S : Nat → Prop} {w w' : World} (h : Touch S w w') {b o : Nat} (hb : b < w.heap.size) (hs : ¬ S b) : w'.cell? ⟨b, o, none⟩ = w.cell? ⟨b, o, none⟩ :=
  World.cell?_of_block (w := w) (a := ⟨b, o, none⟩) (h.block b hb hs)
theorem Touch.frozen {S : Nat → Prop} {w w' : World} (h : Touch S w w') {b o : Nat} (hb : b < w.heap.size) (hs : ¬ S b) : w'.frozen? ⟨b, o, none⟩ = w.frozen? ⟨b, o, none⟩ :=
  World.frozen?_of_block (w := w) (a := ⟨b, o, none⟩) (h.block b hb hs)
theorem Touch.grown {S : Nat → Prop} {a w w' : World} {row : Option Nat} (h : Touch S a w) (hg : w.grownBy w' row) (hr : ∀ k, row = some k → S k ∨ a.heap.size ≤ k) : Touch S a w' :=
  ⟨hg.os.trans h.os, hg.tape.trans h.tape, hg.output.trans h.output, Nat.le_trans h.size hg.size, fun k hk hn => (hg.block k (Nat.lt_of_lt_of_le hk h.size) (fun e => by
    rcases hr k e.symm with x | x
    · exact hn x
    · omega)).trans (h.block k hk hn)⟩

theorem bcell {W w1 : World} (hb : Below W.heap.size W w1) : (∀ b o, b < W.heap.size → w1.cell? ⟨b, o, none⟩ = W.cell? ⟨b, o, none⟩) ∧ (∀ b o, b < W.heap.size → w1.frozen? ⟨b, o, none⟩ = W.frozen? ⟨b, o, none⟩) :=
  ⟨fun b o h => hb.cell (p := ⟨b, o, none⟩) h, fun b o h => hb.frozen (p := ⟨b, o, none⟩) h⟩

/-- Blocks of cells are kept. -/
structure CellsKept (w w' : World) : Prop where
  size : w.heap.size ≤ w'.heap.size
  block : ∀ (k : Nat) (c : Array Value) (t : TypeId) (fr : Nat × Nat), w.heap[k]? = some (Obj.cells c t fr) → w'.heap[k]? = some (Obj.cells c t fr)
theorem CellsKept.refl (w : World) : CellsKept w w := ⟨Nat.le_refl _, fun _ _ _ _ h => h⟩
theorem CellsKept.trans {a b c : World} (h : CellsKept a b) (k : CellsKept b c) : CellsKept a c := ⟨Nat.le_trans h.size k.size, fun i x t fr e => k.block i x t fr (h.block i x t fr e)⟩
theorem CellsKept.of_touch {w w' : World} (h : Touch nob w w') : CellsKept w w' :=
  ⟨h.size, fun k _ _ _ e => (h.block k (Array.getElem?_eq_some_iff.1 e).1 (fun x => x)).trans e⟩
theorem CellsKept.putObj {w : World} {l : Nat} {o : Obj} (o' : Obj) (hl : w.heap[l]? = some o) (ho : o.isCells = false) : CellsKept w (w.putObj l o') :=
  ⟨by simp [World.putObj], fun k c t fr e => by
    by_cases h : k = l
    · subst h; rw [hl] at e; cases e; simp [Obj.isCells] at ho
    · exact (World.putObj_heap_other h).trans e⟩

/-- How a round's body may be left. -/
def rfPost {α : Type} (Kp : World → World → Prop) (I : List α → (Nat → Prop) → World → Prop) (Ix : Code → List α → (Nat → Prop) → World → Prop) (xs : List α) (O : Nat → Prop) (W : World) : Exit → Act → World → Prop
  | .normal, _, W' => ∃ O', Touch O W W' ∧ (∀ b, O' b → O b ∨ (W.heap.size ≤ b ∧ b < W'.heap.size)) ∧ Kp W W' ∧ I xs O' W'
  | .ret, _, W' => ∃ O', Touch O W W' ∧ (∀ b, O' b → O b ∨ (W.heap.size ≤ b ∧ b < W'.heap.size)) ∧ Ix .ret xs O' W'
  | .exit id, _, W' => ∃ O', Touch O W W' ∧ (∀ b, O' b → O b ∨ (W.heap.size ≤ b ∧ b < W'.heap.size)) ∧ Ix (.exit id) xs O' W'
  | .goto t, _, W' => ∃ O', Touch O W W' ∧ (∀ b, O' b → O b ∨ (W.heap.size ≤ b ∧ b < W'.heap.size)) ∧ Ix (.goto t) xs O' W'
  | .panic _, _, _ => False
  | .outgrown, _, _ => False

/-- An iterator's contract: it hands over xs, one by one, till a round says no more. Ab: what its own steps may turn; Kp: what a round that goes on keeps for it; Pr: blocks of its own that were there. -/
def Iter {α : Type} (P : Program) (g : Nat) (lb : Array Value) (encs : α → Array Value) (Ab : Nat → (Nat → Prop) → World → World → Prop) (Kp : World → World → Prop) (xs : List α) (Pr : Nat → Prop) (w : World) : Prop :=
  ∀ (l : Nat) (J Jx : List α → (Nat → Prop) → World → Prop) (W : World) (O : Nat → Prop), Touch nob w W →
    (∀ pre O A B, J pre O A → Ab W.heap.size O A B → J pre O B) → (∀ pre O A B, Jx pre O A → Ab W.heap.size O A B → Jx pre O B) →
    (∀ pre x W1 O, J pre O W1 → pre ++ [x] <+: xs → YieldAt Fence.wide 0 P l (encs x) W1 fun e W' =>
      ∃ O', Touch O W1 W' ∧ (∀ b, O' b → O b ∨ (W1.heap.size ≤ b ∧ b < W'.heap.size)) ∧ ((e = .returned (.bool true) ∧ J (pre ++ [x]) O' W' ∧ Kp W1 W') ∨ (e = .returned (.bool false) ∧ Jx (pre ++ [x]) O' W'))) →
    J [] O W → (∀ b, Pr b → ¬ O b) → (∀ b, O b → b < W.heap.size) →
    CallsIn Fence.wide 0 P g (#[.func (.yield l) #[] #[]] ++ lb) W fun e W' => (∃ v, e = .returned v) ∧ ∃ O', (J xs O' W' ∨ ∃ pre, pre <+: xs ∧ Jx pre O' W')

/-- What an iterator that turns nothing of others may turn. -/
def AbD (base : Nat) (O : Nat → Prop) (A B : World) : Prop := Touch (fun b => base ≤ b ∧ ¬ O b) A B

variable {P : Program}

/-- What is kept where blocks below n stay. -/
def Kept (n : Nat) (A B : World) : Prop := CellsKept A B ∧ Touch (fun b => n ≤ b) A B
/-- The law of a range over a function, outside every round. -/
theorem rf_lawG {α : Type} {g : Operand} {ps : Array Tmp} {assign body : Code} {Q : Exit → Act → World → Prop} {a : Act} {w : World} {gf : Nat} {lb : Array Value} (hg : a.eval g = .func (.func gf) #[] lb)
    (eg : ∀ args w, (callFunc gf args).run P w = .ok (.enter gf args) w) {encs : α → Array Value} {Ab : Nat → (Nat → Prop) → World → World → Prop} {Kp : World → World → Prop} {xs : List α} {Pr : Nat → Prop}
    (hit : Iter P gf lb encs Ab Kp xs Pr w) (hps : ∀ x, (encs x).size = ps.size)
    (hAbT : ∀ n O A B, w.heap.size ≤ n → AbD n O A B → Ab n O A B) (hAbM : ∀ m n O O' A B, (∀ b, O' b → O b) → m ≤ n → Ab n O A B → Ab m O' A B)
    (hAbO : ∀ n O (A B : World) (k : Nat) (o : Obj), w.heap.size ≤ k → Ab n O A B → O k → A.heap[k]? = some o → o.isCells = false → B.heap[k]? = some o)
    (hKp : ∀ A A' B B', Kept w.heap.size A A' → Kp A' B → Kept w.heap.size B B' → Kp A B')
    (I : List α → (Nat → Prop) → World → Prop) (Ix : Code → List α → (Nat → Prop) → World → Prop) {O₀ : Nat → Prop} (hPr : ∀ b, Pr b → b < w.heap.size ∧ ¬ O₀ b) (hO₀ : ∀ b, O₀ b → b < w.heap.size)
    (hI : ∀ pre O A B, I pre O A → Ab w.heap.size O A B → I pre O B) (hIx : ∀ c pre O A B, Ix c pre O A → Ab w.heap.size O A B → Ix c pre O B) (h0 : I [] O₀ w)
    (Ax : α → Act → World → Prop) (hAx : ∀ x a' A B, Ax x a' A → CellsKept A B → Ax x a' B)
    (hassign : ∀ (l : Nat) (pre : List α) (x : α) (O : Nat → Prop) (W : World) (K : Act → World → Prop), I pre O W → (∀ a' W', Touch nob W W' → Ax x a' W' → K a' W') →
      assign.wpIn (Fence.wide.inRound l) 0 P (Exit.then K (fun _ _ _ => False)) { tmps := (ps.zip (encs x)).foldl (fun t (p, v) => t.setIfInBounds p v) a.tmps, defers := [] } W)
    (hbody : ∀ (l : Nat) (pre : List α) (x : α) (a' : Act) (O : Nat → Prop) (W : World), I pre O W → Ax x a' W → pre ++ [x] <+: xs → body.wpIn (Fence.wide.inRound l) 0 P (rfPost Kp I Ix (pre ++ [x]) O W) a' W)
    (hdone : ∀ (D : Nat) (O : Nat → Prop) (W : World), w.heap.size ≤ D → ¬ O D → I xs O W → W.heap[D]? = some (.deferred (some [])) → Q .normal { a with defers := { target := .collected D, args := #[] } :: a.defers } W)
    (hstop : ∀ (D : Nat) (c : Code) (pre : List α) (O : Nat → Prop) (W : World), w.heap.size ≤ D → ¬ O D → pre <+: xs → Ix c pre O W → W.heap[D]? = some (.deferred (some [])) → c.wpIn Fence.wide 0 P Q { a with defers := { target := .collected D, args := #[] } :: a.defers } W) :
    (Code.rangeFunc g ps assign body).wpIn Fence.wide 0 P Q a w := by
  refine wpIn_rangeFunc ?_
  intro fn hfn
  obtain ⟨rec, hrec⟩ : ∃ rec : LoopState → Option Code → Loop, rec = fun st pe => { state := st, pending := pe, fn, tmps := a.tmps, params := ps, assign, body, defers := w.heap.size } := ⟨_, rfl⟩
  obtain ⟨W1, hW1⟩ : ∃ W1, (w.alloc (.deferred (some []))).alloc (.loop (rec .ready none)) = W1 := ⟨_, rfl⟩
  have hL1 : W1.heap[w.heap.size + 1]? = some (.loop (rec .ready none)) := by
    rw [← hW1]; have := World.alloc_heap_new (w.alloc (.deferred (some []))) (.loop (rec .ready none)); rwa [World.size_alloc] at this
  have hK1 : W1.heap[w.heap.size]? = some (.deferred (some [])) := by
    rw [← hW1]; exact (Below.heap_alloc _ _ _ (by simp)).trans (World.alloc_heap_new w _)
  have ht1 : ∀ S, Touch S w W1 := fun S => by rw [← hW1]; exact ((Touch.refl S w).alloc _).alloc _
  have hs1 : W1.heap.size = w.heap.size + 2 := by rw [← hW1]; simp
  have hI1 : I [] O₀ W1 := hI _ _ _ _ h0 (hAbT _ _ _ _ (Nat.le_refl _) (ht1 _))
  -- the book-keeping: the record l, the deferred block D
  have abide : ∀ {Z : List α → (Nat → Prop) → World → Prop} (r : Loop), (∀ pre O A B, Z pre O A → Ab w.heap.size O A B → Z pre O B) → ∀ pre O A B,
      (∃ O1, Z pre O1 A ∧ (∀ b, O b ↔ (O1 b ∨ b = w.heap.size ∨ b = w.heap.size + 1)) ∧ ¬ O1 w.heap.size ∧ ¬ O1 (w.heap.size + 1) ∧ A.heap[w.heap.size + 1]? = some (.loop r) ∧ A.heap[w.heap.size]? = some (.deferred (some []))) →
      Ab W1.heap.size O A B →
      (∃ O1, Z pre O1 B ∧ (∀ b, O b ↔ (O1 b ∨ b = w.heap.size ∨ b = w.heap.size + 1)) ∧ ¬ O1 w.heap.size ∧ ¬ O1 (w.heap.size + 1) ∧ B.heap[w.heap.size + 1]? = some (.loop r) ∧ B.heap[w.heap.size]? = some (.deferred (some []))) := by
    rintro Z r hZ pre O A B ⟨O1, hz, hO, n1, n2, hl, hk⟩ hab
    refine ⟨O1, hZ _ _ _ _ hz (hAbM _ _ _ _ _ _ (fun b hb => (hO b).2 (.inl hb)) (by omega) hab), hO, n1, n2, hAbO _ _ _ _ _ _ (by omega) hab ((hO _).2 (.inr (.inr rfl))) hl rfl, hAbO _ _ _ _ _ _ (by omega) hab ((hO _).2 (.inr (.inl rfl))) hk rfl⟩
  refine ⟨w.heap.size + 1, [{ target := .collected w.heap.size, args := #[] }], W1, { target := .fn (.func gf) lb, args := #[.func (.yield (w.heap.size + 1)) #[] #[]] }, W1, gf,
    #[.func (.yield (w.heap.size + 1)) #[] #[]] ++ lb, W1, ?_, ?_, ?_, ?_, fun h => by simp [Fence.wide] at h, ?_⟩
  · rw [← hW1, hrec]; exact run_enterLoop_outer _ _ _ _ _
  · simp only [resolve, hg]
    simp [go_sem]
  · intro f' hf'; trivial
  · simp [invoke, go_sem, eg]
  · refine (hit (w.heap.size + 1)
      (fun pre O W => ∃ O1, I pre O1 W ∧ (∀ b, O b ↔ (O1 b ∨ b = w.heap.size ∨ b = w.heap.size + 1)) ∧ ¬ O1 w.heap.size ∧ ¬ O1 (w.heap.size + 1) ∧ W.heap[w.heap.size + 1]? = some (.loop (rec .ready none)) ∧ W.heap[w.heap.size]? = some (.deferred (some [])))
      (fun pre O W => ∃ c, ∃ O1, Ix c pre O1 W ∧ (∀ b, O b ↔ (O1 b ∨ b = w.heap.size ∨ b = w.heap.size + 1)) ∧ ¬ O1 w.heap.size ∧ ¬ O1 (w.heap.size + 1) ∧ W.heap[w.heap.size + 1]? = some (.loop (rec .done (some c))) ∧ W.heap[w.heap.size]? = some (.deferred (some [])))
      W1 (fun b => O₀ b ∨ b = w.heap.size ∨ b = w.heap.size + 1) (ht1 nob) (abide _ hI) (fun pre O A B => by rintro ⟨c, h⟩ hab; exact ⟨c, abide _ (hIx c) pre O A B h hab⟩)
      ?_ ⟨O₀, hI1, fun b => Iff.rfl, fun h => by have := hO₀ _ h; omega, fun h => by have := hO₀ _ h; omega, hL1, hK1⟩ (fun b hb h => by
        obtain ⟨h1, h2⟩ := hPr b hb
        rcases h with h | h | h
        · exact h2 h
        · omega
        · omega) (fun b h => by
        rcases h with h | h | h
        · have := hO₀ b h; omega
        · omega
        · omega)).mono ?_
    · -- one round
      rintro pre x W O ⟨O1, hi, hO, n1, n2, hl, hk⟩ hpre
      have hlt : w.heap.size + 1 < W.heap.size := (Array.getElem?_eq_some_iff.1 hl).1
      have hy := run_yield (P := P) (args := encs x) hl (by rw [hrec]; exact hps x)
      rw [hrec] at hy
      refine ⟨fn, _, assign, body, hy, roundIn_of_wpIn hfn (hassign _ pre x O1 W _ hi ?_)⟩
      clear hy
      intro a' Wa hta hax
      have hla : Wa.heap[w.heap.size + 1]? = some (.loop (rec .ready none)) := (hta.block _ hlt (fun x => x)).trans hl
      have hka : Wa.heap[w.heap.size]? = some (.deferred (some [])) := (hta.block _ (by omega) (fun x => x)).trans hk
      have hlta : w.heap.size + 1 < Wa.heap.size := (Array.getElem?_eq_some_iff.1 hla).1
      have hia : I pre O1 Wa := hI _ _ _ _ hi (hAbT _ _ _ _ (Nat.le_refl _) (hta.mono (fun i _ hi => hi.elim)))
      refine ⟨_, run_beginRound hla (by rw [hrec]), ?_⟩
      obtain ⟨Wb, hWb⟩ : ∃ Wb, Wa.putObj (w.heap.size + 1) (.loop { rec .ready none with state := .busy }) = Wb := ⟨_, rfl⟩
      rw [hWb]
      have hl2 : Wb.heap[w.heap.size + 1]? = some (.loop { rec .ready none with state := .busy }) := by rw [← hWb]; exact World.putObj_heap_same hlta
      have hk2 : Wb.heap[w.heap.size]? = some (.deferred (some [])) := by rw [← hWb]; exact (World.putObj_heap_other (by omega)).trans hka
      have hsb : Wb.heap.size = Wa.heap.size := by rw [← hWb]; simp [World.putObj]
      have htb : Touch (fun b => b = w.heap.size + 1) Wa Wb := by rw [← hWb]; exact Touch.putObj (S := fun b => b = w.heap.size + 1) (Touch.refl _ _) (.inl rfl) _
      have hib : I pre O1 Wb := hI _ _ _ _ hia (hAbT _ _ _ _ (Nat.le_refl _) (htb.mono (fun i _ e => ⟨by omega, by rw [e]; exact n2⟩)))
      have htwb : Touch (fun b => w.heap.size ≤ b) W Wb := (hta.mono (fun i _ h => h.elim)).trans (htb.mono (fun i _ e => by omega))
      have hckb : CellsKept W Wb := (CellsKept.of_touch hta).trans (by rw [← hWb]; exact CellsKept.putObj _ hla rfl)
      refine wpIn_mono (hbody _ pre x a' O1 Wb hib (hAx _ _ _ _ hax (by rw [← hWb]; exact CellsKept.putObj _ hla rfl)) hpre) ?_
      have fin : ∀ (jump : Option Code) (W3 : World) (O' : Nat → Prop), Touch O1 Wb W3 → (∀ b, O' b → O1 b ∨ (Wb.heap.size ≤ b ∧ b < W3.heap.size)) →
          ∃ W4, (Instr.endRound (w.heap.size + 1) jump).run P W3 = .ok (.bool jump.isNone) W4 ∧ CellsKept W3 W4 ∧ Touch (fun b => w.heap.size ≤ b) W3 W4 ∧
          W4.heap[w.heap.size + 1]? = some (.loop (rec (if jump.isNone then .ready else .done) jump)) ∧ W4.heap[w.heap.size]? = some (.deferred (some [])) ∧
          ¬ O' w.heap.size ∧ ¬ O' (w.heap.size + 1) ∧ Touch O W W4 ∧ AbD w.heap.size O' W3 W4 ∧ W3.heap.size ≤ W4.heap.size := by
        intro jump W3 O' ht3 hsub
        have hl3 := (ht3.block _ (by omega) n2).trans hl2
        have hk3 := (ht3.block _ (by omega) n1).trans hk2
        have hr := run_endRound (P := P) jump hl3
        have hlt3 := (Array.getElem?_eq_some_iff.1 hl3).1
        have m1 : ¬ O' w.heap.size := fun h => by
          rcases hsub _ h with h | h
          · exact n1 h
          · omega
        have m2 : ¬ O' (w.heap.size + 1) := fun h => by
          rcases hsub _ h with h | h
          · exact n2 h
          · omega
        refine ⟨_, hr, CellsKept.putObj _ hl3 rfl, (Touch.refl _ _).putObj (.inl (by omega)) _, ?_, (World.putObj_heap_other (by omega)).trans hk3, m1, m2, ?_, ?_, by simp [World.putObj]⟩
        · have := World.putObj_heap_same (o := Obj.loop { ({ rec .ready none with state := .busy } : Loop) with state := if jump.isNone then .ready else .done, pending := jump }) hlt3
          rw [this, hrec]
        · have a1 : Touch O W Wa := hta.mono (fun i _ h => h.elim)
          have a2 : Touch O W Wb := a1.step htb (fun i e => .inl ((hO i).2 (.inr (.inr e))))
          have a3 : Touch O W W3 := a2.step ht3 (fun i e => .inl ((hO i).2 (.inl e)))
          exact a3.putObj (.inl ((hO _).2 (.inr (.inr rfl)))) _
        · exact (Touch.refl _ _).putObj (.inl ⟨by omega, m2⟩) _
      have book : ∀ {O' : Nat → Prop} {W3 W4 : World}, (∀ b, O' b → O1 b ∨ (Wb.heap.size ≤ b ∧ b < W3.heap.size)) → W3.heap.size ≤ W4.heap.size → ∀ b, (O' b ∨ b = w.heap.size ∨ b = w.heap.size + 1) → O b ∨ (W.heap.size ≤ b ∧ b < W4.heap.size) := by
        intro O' W3 W4 hsub h34 b hb
        rcases hb with hb | hb
        · rcases hsub b hb with h | h
          · exact .inl ((hO b).2 (.inl h))
          · right; have := hta.size; omega
        · exact .inl ((hO b).2 (.inr hb))
      rintro e a3 W3 hp
      cases e with
      | normal =>
        obtain ⟨O', ht3, hsub, hkp, hi3⟩ := hp
        obtain ⟨W4, hr, hck, htk, hl4, hk4, m1, m2, ht4, hab, h34⟩ := fin none W3 O' ht3 hsub
        exact ⟨_, _, hr, fun b => O' b ∨ b = w.heap.size ∨ b = w.heap.size + 1, ht4, book hsub h34, .inl ⟨rfl, ⟨O', hI _ _ _ _ hi3 (hAbT _ _ _ _ (Nat.le_refl _) hab), fun b => Iff.rfl, m1, m2, hl4, hk4⟩, hKp _ _ _ _ ⟨hckb, htwb⟩ hkp ⟨hck, htk⟩⟩⟩
      | ret =>
        obtain ⟨O', ht3, hsub, hi3⟩ := hp
        obtain ⟨W4, hr, hck, htk, hl4, hk4, m1, m2, ht4, hab, h34⟩ := fin (some .ret) W3 O' ht3 hsub
        exact ⟨_, _, hr, fun b => O' b ∨ b = w.heap.size ∨ b = w.heap.size + 1, ht4, book hsub h34, .inr ⟨rfl, .ret, O', hIx _ _ _ _ _ hi3 (hAbT _ _ _ _ (Nat.le_refl _) hab), fun b => Iff.rfl, m1, m2, hl4, hk4⟩⟩
      | exit id =>
        obtain ⟨O', ht3, hsub, hi3⟩ := hp
        obtain ⟨W4, hr, hck, htk, hl4, hk4, m1, m2, ht4, hab, h34⟩ := fin (some (.exit id)) W3 O' ht3 hsub
        exact ⟨_, _, hr, fun b => O' b ∨ b = w.heap.size ∨ b = w.heap.size + 1, ht4, book hsub h34, .inr ⟨rfl, .exit id, O', hIx _ _ _ _ _ hi3 (hAbT _ _ _ _ (Nat.le_refl _) hab), fun b => Iff.rfl, m1, m2, hl4, hk4⟩⟩
      | goto t =>
        obtain ⟨O', ht3, hsub, hi3⟩ := hp
        obtain ⟨W4, hr, hck, htk, hl4, hk4, m1, m2, ht4, hab, h34⟩ := fin (some (.goto t)) W3 O' ht3 hsub
        exact ⟨_, _, hr, fun b => O' b ∨ b = w.heap.size ∨ b = w.heap.size + 1, ht4, book hsub h34, .inr ⟨rfl, .goto t, O', hIx _ _ _ _ _ hi3 (hAbT _ _ _ _ (Nat.le_refl _) hab), fun b => Iff.rfl, m1, m2, hl4, hk4⟩⟩
      | panic ch => exact hp.elim
      | outgrown => exact hp.elim
    · -- behind the iterator
      rintro e W2 ⟨⟨v, rfl⟩, O2, (⟨O1, hi, hO, n1, n2, hl, hk⟩ | ⟨pre, hpre, c, O1, hi, hO, n1, n2, hl, hk⟩)⟩
      · refine ⟨none, _, by have := run_endLoop (P := P) hl (by rw [hrec]; simp); rw [hrec] at this; exact this, hdone _ O1 _ (Nat.le_refl _) n1 (hI _ _ _ _ hi (hAbT _ _ _ _ (Nat.le_refl _) ((Touch.refl _ _).putObj (.inl ⟨by omega, n2⟩) _))) ((World.putObj_heap_other (by omega)).trans hk)⟩
      · refine ⟨some c, _, by have := run_endLoop (P := P) hl (by rw [hrec]; simp); rw [hrec] at this; exact this, hstop _ c pre O1 _ (Nat.le_refl _) n1 hpre (hIx _ _ _ _ _ hi (hAbT _ _ _ _ (Nat.le_refl _) ((Touch.refl _ _).putObj (.inl ⟨by omega, n2⟩) _))) ((World.putObj_heap_other (by omega)).trans hk)⟩

/-- The law of a range over a function, outside every round. -/
theorem rf_law {α : Type} {g : Operand} {ps : Array Tmp} {assign body : Code} {Q : Exit → Act → World → Prop} {a : Act} {w : World} {gf : Nat} {lb : Array Value} (hg : a.eval g = .func (.func gf) #[] lb)
    (eg : ∀ args w, (callFunc gf args).run P w = .ok (.enter gf args) w) {encs : α → Array Value} {Ab : Nat → (Nat → Prop) → World → World → Prop} {Kp : World → World → Prop} {xs : List α} {Pr : Nat → Prop}
    (hit : Iter P gf lb encs Ab Kp xs Pr w) (hps : ∀ x, (encs x).size = ps.size)
    (hAbT : ∀ n O A B, AbD n O A B → Ab n O A B) (hAbM : ∀ m n O O' A B, (∀ b, O' b → O b) → m ≤ n → Ab n O A B → Ab m O' A B)
    (hAbO : ∀ n O (A B : World) (k : Nat) (o : Obj), Ab n O A B → O k → A.heap[k]? = some o → o.isCells = false → B.heap[k]? = some o)
    (hKp : ∀ A A' B B', CellsKept A A' → Kp A' B → CellsKept B B' → Kp A B')
    (I : List α → (Nat → Prop) → World → Prop) (Ix : Code → List α → (Nat → Prop) → World → Prop) {O₀ : Nat → Prop} (hPr : ∀ b, Pr b → b < w.heap.size ∧ ¬ O₀ b) (hO₀ : ∀ b, O₀ b → b < w.heap.size)
    (hI : ∀ pre O A B, I pre O A → Ab w.heap.size O A B → I pre O B) (hIx : ∀ c pre O A B, Ix c pre O A → Ab w.heap.size O A B → Ix c pre O B) (h0 : I [] O₀ w)
    (Ax : α → Act → World → Prop) (hAx : ∀ x a' A B, Ax x a' A → CellsKept A B → Ax x a' B)
    (hassign : ∀ (l : Nat) (pre : List α) (x : α) (O : Nat → Prop) (W : World) (K : Act → World → Prop), I pre O W → (∀ a' W', Touch nob W W' → Ax x a' W' → K a' W') →
      assign.wpIn (Fence.wide.inRound l) 0 P (Exit.then K (fun _ _ _ => False)) { tmps := (ps.zip (encs x)).foldl (fun t (p, v) => t.setIfInBounds p v) a.tmps, defers := [] } W)
    (hbody : ∀ (l : Nat) (pre : List α) (x : α) (a' : Act) (O : Nat → Prop) (W : World), I pre O W → Ax x a' W → pre ++ [x] <+: xs → body.wpIn (Fence.wide.inRound l) 0 P (rfPost Kp I Ix (pre ++ [x]) O W) a' W)
    (hdone : ∀ (D : Nat) (O : Nat → Prop) (W : World), w.heap.size ≤ D → ¬ O D → I xs O W → W.heap[D]? = some (.deferred (some [])) → Q .normal { a with defers := { target := .collected D, args := #[] } :: a.defers } W)
    (hstop : ∀ (D : Nat) (c : Code) (pre : List α) (O : Nat → Prop) (W : World), w.heap.size ≤ D → ¬ O D → pre <+: xs → Ix c pre O W → W.heap[D]? = some (.deferred (some [])) → c.wpIn Fence.wide 0 P Q { a with defers := { target := .collected D, args := #[] } :: a.defers } W) :
    (Code.rangeFunc g ps assign body).wpIn Fence.wide 0 P Q a w :=
  rf_lawG hg eg hit hps (fun n O A B _ => hAbT n O A B) hAbM (fun n O A B k o _ => hAbO n O A B k o) (fun A A' B B' h1 h2 h3 => hKp A A' B B' h1.1 h2 h3.1) I Ix hPr hO₀ hI hIx h0 Ax hAx hassign hbody hdone hstop
/-- The law, where the assignment lays no block. -/
theorem rf_law1 {α : Type} {g : Operand} {ps : Array Tmp} {assign body : Code} {Q : Exit → Act → World → Prop} {a : Act} {w : World} {gf : Nat} {lb : Array Value} (a₁ : α → Act) (hg : a.eval g = .func (.func gf) #[] lb)
    (eg : ∀ args w, (callFunc gf args).run P w = .ok (.enter gf args) w) {encs : α → Array Value} {Ab : Nat → (Nat → Prop) → World → World → Prop} {Kp : World → World → Prop} {xs : List α} {Pr : Nat → Prop}
    (hit : Iter P gf lb encs Ab Kp xs Pr w) (hps : ∀ x, (encs x).size = ps.size)
    (hAbT : ∀ n O A B, AbD n O A B → Ab n O A B) (hAbM : ∀ m n O O' A B, (∀ b, O' b → O b) → m ≤ n → Ab n O A B → Ab m O' A B)
    (hAbO : ∀ n O (A B : World) (k : Nat) (o : Obj), Ab n O A B → O k → A.heap[k]? = some o → o.isCells = false → B.heap[k]? = some o)
    (hKp : ∀ A A' B B', CellsKept A A' → Kp A' B → CellsKept B B' → Kp A B')
    (I : List α → (Nat → Prop) → World → Prop) (Ix : Code → List α → (Nat → Prop) → World → Prop) {O₀ : Nat → Prop} (hPr : ∀ b, Pr b → b < w.heap.size ∧ ¬ O₀ b) (hO₀ : ∀ b, O₀ b → b < w.heap.size)
    (hI : ∀ pre O A B, I pre O A → Ab w.heap.size O A B → I pre O B) (hIx : ∀ c pre O A B, Ix c pre O A → Ab w.heap.size O A B → Ix c pre O B) (h0 : I [] O₀ w)
    (hassign : ∀ (l : Nat) (x : α) (W : World) (K : Act → World → Prop), K (a₁ x) W →
      assign.wpIn (Fence.wide.inRound l) 0 P (Exit.then K (fun _ _ _ => False)) { tmps := (ps.zip (encs x)).foldl (fun t (p, v) => t.setIfInBounds p v) a.tmps, defers := [] } W)
    (hbody : ∀ (l : Nat) (pre : List α) (x : α) (O : Nat → Prop) (W : World), I pre O W → pre ++ [x] <+: xs → body.wpIn (Fence.wide.inRound l) 0 P (rfPost Kp I Ix (pre ++ [x]) O W) (a₁ x) W)
    (hdone : ∀ (D : Nat) (O : Nat → Prop) (W : World), w.heap.size ≤ D → ¬ O D → I xs O W → W.heap[D]? = some (.deferred (some [])) → Q .normal { a with defers := { target := .collected D, args := #[] } :: a.defers } W)
    (hstop : ∀ (D : Nat) (c : Code) (pre : List α) (O : Nat → Prop) (W : World), w.heap.size ≤ D → ¬ O D → pre <+: xs → Ix c pre O W → W.heap[D]? = some (.deferred (some [])) → c.wpIn Fence.wide 0 P Q { a with defers := { target := .collected D, args := #[] } :: a.defers } W) :
    (Code.rangeFunc g ps assign body).wpIn Fence.wide 0 P Q a w :=
  rf_law hg eg hit hps hAbT hAbM hAbO hKp I Ix hPr hO₀ hI hIx h0 (fun x a' _ => a' = a₁ x) (fun _ _ _ _ h _ => h)
    (fun l _ x _ W K _ hK => hassign l x W K (hK _ _ (Touch.refl _ _) rfl)) (fun l pre x a' O W hi e hp => by subst e; exact hbody l pre x O W hi hp) hdone hstop
/-- The same, where the assignment lays no block. -/
theorem rf_law1G {α : Type} {g : Operand} {ps : Array Tmp} {assign body : Code} {Q : Exit → Act → World → Prop} {a : Act} {w : World} {gf : Nat} {lb : Array Value} (a₁ : α → Act) (hg : a.eval g = .func (.func gf) #[] lb)
    (eg : ∀ args w, (callFunc gf args).run P w = .ok (.enter gf args) w) {encs : α → Array Value} {Ab : Nat → (Nat → Prop) → World → World → Prop} {Kp : World → World → Prop} {xs : List α} {Pr : Nat → Prop}
    (hit : Iter P gf lb encs Ab Kp xs Pr w) (hps : ∀ x, (encs x).size = ps.size)
    (hAbT : ∀ n O A B, w.heap.size ≤ n → AbD n O A B → Ab n O A B) (hAbM : ∀ m n O O' A B, (∀ b, O' b → O b) → m ≤ n → Ab n O A B → Ab m O' A B)
    (hAbO : ∀ n O (A B : World) (k : Nat) (o : Obj), w.heap.size ≤ k → Ab n O A B → O k → A.heap[k]? = some o → o.isCells = false → B.heap[k]? = some o)
    (hKp : ∀ A A' B B', Kept w.heap.size A A' → Kp A' B → Kept w.heap.size B B' → Kp A B')
    (I : List α → (Nat → Prop) → World → Prop) (Ix : Code → List α → (Nat → Prop) → World → Prop) {O₀ : Nat → Prop} (hPr : ∀ b, Pr b → b < w.heap.size ∧ ¬ O₀ b) (hO₀ : ∀ b, O₀ b → b < w.heap.size)
    (hI : ∀ pre O A B, I pre O A → Ab w.heap.size O A B → I pre O B) (hIx : ∀ c pre O A B, Ix c pre O A → Ab w.heap.size O A B → Ix c pre O B) (h0 : I [] O₀ w)
    (hassign : ∀ (l : Nat) (x : α) (W : World) (K : Act → World → Prop), K (a₁ x) W →
      assign.wpIn (Fence.wide.inRound l) 0 P (Exit.then K (fun _ _ _ => False)) { tmps := (ps.zip (encs x)).foldl (fun t (p, v) => t.setIfInBounds p v) a.tmps, defers := [] } W)
    (hbody : ∀ (l : Nat) (pre : List α) (x : α) (O : Nat → Prop) (W : World), I pre O W → pre ++ [x] <+: xs → body.wpIn (Fence.wide.inRound l) 0 P (rfPost Kp I Ix (pre ++ [x]) O W) (a₁ x) W)
    (hdone : ∀ (D : Nat) (O : Nat → Prop) (W : World), w.heap.size ≤ D → ¬ O D → I xs O W → W.heap[D]? = some (.deferred (some [])) → Q .normal { a with defers := { target := .collected D, args := #[] } :: a.defers } W)
    (hstop : ∀ (D : Nat) (c : Code) (pre : List α) (O : Nat → Prop) (W : World), w.heap.size ≤ D → ¬ O D → pre <+: xs → Ix c pre O W → W.heap[D]? = some (.deferred (some [])) → c.wpIn Fence.wide 0 P Q { a with defers := { target := .collected D, args := #[] } :: a.defers } W) :
    (Code.rangeFunc g ps assign body).wpIn Fence.wide 0 P Q a w :=
  rf_lawG hg eg hit hps hAbT hAbM hAbO hKp I Ix hPr hO₀ hI hIx h0 (fun x a' _ => a' = a₁ x) (fun _ _ _ _ h _ => h)
    (fun l _ x _ W K _ hK => hassign l x W K (hK _ _ (Touch.refl _ _) rfl)) (fun l pre x a' O W hi e hp => by subst e; exact hbody l pre x O W hi hp) hdone hstop
end Go.Proofs.YtnobempbcdkoaaaGreatDoor
namespace Go.Proofs.YtnobempbcdkoaaaGreatDoor
open Go.ChangeShapes Go.WideShapes Go.ChangeAt Go.RowKit

/-- A flat type's cells: an integer of a kind, or a bool. -/
abbrev FK := Option IntKind

def Fit : FK → Value → Prop
  | some k, v => ∃ n, v = .int k n ∧ (Lit.int k n).wf = true
  | none, v => ∃ b, v = .bool b

def fieldsFlat (P : Program) (g : TypeId → Option (List FK)) : List Field → Nat → Option (List FK)
  | [], _ => some []
  | f :: fs, off =>
    match decide (f.offset = off), g f.type with
    | true, some l => match decide (l.length = P.cellsOf f.type), fieldsFlat P g fs (off + l.length) with
      | true, some r => some (l ++ r)
      | _, _ => none
    | _, _ => none

/-- The cells of a flat type, in order. -/
def flatOf (P : Program) : Nat → TypeId → Option (List FK)
  | 0, _ => none
  | n + 1, t =>
    match P.underlying t with
    | some (.int k) => some [some k]
    | some .bool => some [none]
    | some (.struct fs) => match fieldsFlat P (flatOf P n) fs.toList 0 with
      | some l => if l.length = P.cellsOf t then some l else none
      | none => none
    | some (.array k e) => match flatOf P n e with
      | some l => if l.length = P.cellsOf e ∧ k * l.length = P.cellsOf t then some (List.replicate k l).flatten else none
      | none => none
    | _ => none

/-- The cells that a flat datum is read from. -/
def cellsD {H : Type} : Nat → DataW H → List Value
  | 0, _ => []
  | _ + 1, .lit (.int k n) => [.int k n]
  | _ + 1, .lit (.bool b) => [.bool b]
  | n + 1, .agg ds => ds.flatMap (cellsD n)
  | _ + 1, _ => []

section
variable {H : Type} {enc : TypeId × Value → H} {P : Program} {w : World} {base : Nat} {spare : Nat → Bool} {held : Bool}

inductive Fits : List FK → List Value → Prop where
  | nil : Fits [] []
  | cons {k : FK} {v : Value} {ks : List FK} {vs : List Value} : Fit k v → Fits ks vs → Fits (k :: ks) (v :: vs)

theorem Fits.length {ks : List FK} {vs : List Value} (h : Fits ks vs) : vs.length = ks.length := by
  induction h with
  | nil => rfl
  | cons _ _ ih => simp [ih]

theorem Fits.append {ks ls : List FK} {vs us : List Value} (h : Fits ks vs) (g : Fits ls us) : Fits (ks ++ ls) (vs ++ us) := by
  induction h with
  | nil => exact g
  | cons a _ ih => exact .cons a ih

theorem fields_open {g : TypeId → Option (List FK)} {fuel n : Nat}
    (hg : ∀ t l cs d p, g t = some l → DataW.trod enc P w base spare held fuel t cs = some (d, p) → cs = cellsD n d ∧ Fits l cs ∧ p = []) :
    ∀ (fs : List Field) (off : Nat) (l : List FK) (cs : List Value) (xs : List (DataW H × List MemPlace)), fieldsFlat P g fs off = some l → xs.length = fs.length → cs.length = off + l.length →
      (∀ (i : Nat) (f : Field), fs[i]? = some f → DataW.trod enc P w base spare held fuel f.type ((cs.drop f.offset).take (P.cellsOf f.type)) = xs[i]?) →
      cs.drop off = (xs.map (·.1)).flatMap (cellsD n) ∧ Fits l (cs.drop off) ∧ xs.flatMap (·.2) = []
  | [], off, l, cs, xs, hf, hx, hc, _ => by
    simp only [fieldsFlat, Option.some.injEq] at hf
    subst hf
    have : xs = [] := by cases xs <;> simp_all
    subst this
    have : cs.drop off = [] := by rw [List.drop_eq_nil_iff]; simp at hc; omega
    rw [this]
    exact ⟨rfl, .nil, rfl⟩
  | f :: fs, off, l, cs, xs, hf, hx, hc, h => by
    simp only [fieldsFlat] at hf
    split at hf
    · rename_i l1 h1 h2
      split at hf
      · rename_i r h3 h4
        simp only [Option.some.injEq] at hf
        subst hf
        simp only [decide_eq_true_eq] at h1 h3
        cases xs with
        | nil => simp at hx
        | cons x xs =>
          obtain ⟨d, p⟩ := x
          have e0 := h 0 f rfl
          simp only [List.getElem?_cons_zero] at e0
          obtain ⟨a1, a2, a3⟩ := hg _ _ _ _ _ h2 e0
          have e1 : (cs.drop f.offset).take (P.cellsOf f.type) = (cs.drop off).take l1.length := by rw [h1, h3]
          rw [e1] at a1 a2
          have ih := fields_open hg fs (off + l1.length) r cs xs h4 (by simpa using hx) (by simp at hc; omega) (fun i f' hi => by
            have := h (i + 1) f' (by simpa using hi)
            simpa using this)
          obtain ⟨b1, b2, b3⟩ := ih
          have e2 : cs.drop off = (cs.drop off).take l1.length ++ cs.drop (off + l1.length) := by
            rw [← List.drop_drop, List.take_append_drop]
          refine ⟨?_, ?_, ?_⟩
          · rw [e2, b1, a1]; simp
          · rw [e2]; exact a2.append b2
          · simp [a3, b3]
      · cases hf
    · cases hf

theorem array_open {g : List FK} {e : TypeId} {fuel n : Nat} (hgl : g.length = P.cellsOf e)
    (hg : ∀ cs d p, DataW.trod enc P w base spare held fuel e cs = some (d, p) → cs = cellsD n d ∧ Fits g cs ∧ p = []) :
    ∀ (k off : Nat) (cs : List Value) (xs : List (DataW H × List MemPlace)), xs.length = k → cs.length = (off + k) * P.cellsOf e →
      (∀ (i : Nat), i < k → DataW.trod enc P w base spare held fuel e ((cs.drop ((off + i) * P.cellsOf e)).take (P.cellsOf e)) = xs[i]?) →
      cs.drop (off * P.cellsOf e) = (xs.map (·.1)).flatMap (cellsD n) ∧ Fits (List.replicate k g).flatten (cs.drop (off * P.cellsOf e)) ∧ xs.flatMap (·.2) = []
  | 0, off, cs, xs, hx, hc, _ => by
    have : xs = [] := by cases xs <;> simp_all
    subst this
    have : cs.drop (off * P.cellsOf e) = [] := by rw [List.drop_eq_nil_iff]; simp at hc; omega
    rw [this]
    exact ⟨rfl, .nil, rfl⟩
  | k + 1, off, cs, xs, hx, hc, h => by
    cases xs with
    | nil => simp at hx
    | cons x xs =>
      obtain ⟨d, p⟩ := x
      have e0 := h 0 (by omega)
      simp only [List.getElem?_cons_zero, Nat.add_zero] at e0
      obtain ⟨a1, a2, a3⟩ := hg _ _ _ e0
      obtain ⟨b1, b2, b3⟩ := array_open hgl hg k (off + 1) cs xs (by simpa using hx) (by rw [hc]; congr 1; omega) (fun i hi => by
        have := h (i + 1) (by omega)
        rw [show off + 1 + i = off + (i + 1) by omega]
        simpa using this)
      have e2 : cs.drop (off * P.cellsOf e) = (cs.drop (off * P.cellsOf e)).take (P.cellsOf e) ++ cs.drop ((off + 1) * P.cellsOf e) := by
        rw [Nat.add_mul, Nat.one_mul, ← List.drop_drop, List.take_append_drop]
      refine ⟨?_, ?_, ?_⟩
      · rw [e2, b1, a1]; simp
      · rw [e2, List.replicate_succ, List.flatten_cons]; exact a2.append b2
      · simp [a3, b3]

/-- A flat type's reading, opened: the cells are the datum's, each of its kind. -/
theorem flat_open : ∀ (n fuel : Nat) (t : TypeId) (l : List FK) (cs : List Value) (d : DataW H) (p : List MemPlace), flatOf P n t = some l → DataW.trod enc P w base spare held fuel t cs = some (d, p) →
    cs = cellsD n d ∧ Fits l cs ∧ p = []
  | 0, _, _, _, _, _, _, hf, _ => by simp [flatOf] at hf
  | n + 1, fuel, t, l, cs, d, p, hf, h => by
    simp only [flatOf] at hf
    split at hf
    · rename_i k hu
      simp only [Option.some.injEq] at hf
      subst hf
      obtain ⟨z, rfl, hx, hz⟩ := DataW.trod_int hu h
      simp only [Prod.mk.injEq] at hx
      obtain ⟨rfl, rfl⟩ := hx
      exact ⟨rfl, .cons ⟨z, rfl, hz⟩ .nil, rfl⟩
    · rename_i hu
      simp only [Option.some.injEq] at hf
      subst hf
      obtain ⟨z, rfl, hx⟩ := DataW.trod_bool hu h
      simp only [Prod.mk.injEq] at hx
      obtain ⟨rfl, rfl⟩ := hx
      exact ⟨rfl, .cons ⟨z, rfl⟩ .nil, rfl⟩
    · rename_i fs hu
      split at hf
      · rename_i l' hl
        split at hf
        · rename_i hlen
          simp only [Option.some.injEq] at hf
          subst hf
          obtain ⟨xs, m, rfl, hx, hc, hxl, hall⟩ := DataW.trod_struct hu h
          simp only [Prod.mk.injEq] at hx
          obtain ⟨rfl, rfl⟩ := hx
          have := fields_open (n := n) (fun t l cs d p a b => flat_open n m t l cs d p a b) fs.toList 0 l' cs xs hl (by simpa using hxl) (by omega) (fun i f hi => hall i f (by simpa using hi))
          simpa [cellsD] using this
        · cases hf
      · cases hf
    · rename_i k e hu
      split at hf
      · rename_i l' hl
        split at hf
        · rename_i hlen
          simp only [Option.some.injEq] at hf
          subst hf
          obtain ⟨xs, m, rfl, hx, hc, hxl, hall⟩ := DataW.trod_array hu h
          simp only [Prod.mk.injEq] at hx
          obtain ⟨rfl, rfl⟩ := hx
          have := array_open (n := n) hlen.1 (fun cs d p b => flat_open n m e l' cs d p hl b) k 0 cs xs hxl (by rw [hc, ← hlen.2, hlen.1]; simp) (fun i hi => by simpa using hall i hi)
          simpa [cellsD] using this
        · cases hf
      · cases hf
    · cases hf

theorem fits_int {k : IntKind} {ks : List FK} {vs : List Value} (h : Fits (some k :: ks) vs) : ∃ n us, vs = .int k n :: us ∧ (Lit.int k n).wf = true ∧ Fits ks us := by
  cases h with
  | cons a b => obtain ⟨n, rfl, hn⟩ := a; exact ⟨n, _, rfl, hn, b⟩
theorem fits_bool {ks : List FK} {vs : List Value} (h : Fits (none :: ks) vs) : ∃ n us, vs = .bool n :: us ∧ Fits ks us := by
  cases h with
  | cons a b => obtain ⟨n, rfl⟩ := a; exact ⟨n, _, rfl, b⟩
theorem fits_nil {vs : List Value} (h : Fits [] vs) : vs = [] := by cases h; rfl

theorem okWide_array {n : Nat} {e t : TypeId} {r : Reach} {b0 : Nat} {v : Value} (ht : P.underlying t = some (.array n e)) (h : Value.okWide P w r b0 t v) : ∃ cs, v = .agg cs ∧ cs.size = P.cellsOf t := by
  simp only [Value.okWide, ht] at h
  obtain ⟨cs, h1, h2, _⟩ := h
  exact ⟨cs, h1, h2⟩

/-- A struct or an array by value, of flat cells. -/
theorem open_struct {fs : Array Field} {t : TypeId} {l : List FK} {r : Reach} {b0 n : Nat} {v : Value} {d : DataW H} {p : List MemPlace} (ht : P.underlying t = some (.struct fs)) (hf : flatOf P n t = some l)
    (hv : Value.okWide P w r b0 t v) (h : DataW.Trod enc P w base spare held t v d p) : ∃ cs, v = .agg cs.toArray ∧ Fits l cs ∧ p = [] := by
  obtain ⟨cs, rfl, _⟩ := okWide_struct ht hv
  obtain ⟨fuel, hx⟩ := h
  obtain ⟨_, h2, h3⟩ := flat_open _ _ _ _ _ _ _ hf hx
  exact ⟨cs.toList, by simp, by simpa [Value.cells] using h2, h3⟩
theorem open_array {k : Nat} {e t : TypeId} {l : List FK} {r : Reach} {b0 n : Nat} {v : Value} {d : DataW H} {p : List MemPlace} (ht : P.underlying t = some (.array k e)) (hf : flatOf P n t = some l)
    (hv : Value.okWide P w r b0 t v) (h : DataW.Trod enc P w base spare held t v d p) : ∃ cs, v = .agg cs.toArray ∧ Fits l cs ∧ p = [] := by
  obtain ⟨cs, rfl, _⟩ := okWide_array ht hv
  obtain ⟨fuel, hx⟩ := h
  obtain ⟨_, h2, h3⟩ := flat_open _ _ _ _ _ _ _ hf hx
  exact ⟨cs.toList, by simp, by simpa [Value.cells] using h2, h3⟩

theorem cell_add_add {w : World} {a : Addr} {x j : Nat} {v : Value} (h : w.cell? ((a.add x).add j) = some v) : w.cell? ⟨a.block, a.off + (x + j), none⟩ = some v := by
  have hsp := World.cell?_spot h
  rw [← h]
  obtain ⟨b, o, s⟩ := a
  by_cases hx : x = 0 <;> by_cases hj : j = 0 <;> simp_all [Addr.add, Nat.add_assoc]

/-- A value that is a slice whose elements are flat: 'rows' are the elements' cells. -/
def IsSlice (w : World) (v : Value) (l : List FK) (rows : List (List Value)) : Prop :=
  (v = .slice none 0 0 ∧ rows = []) ∨
  ∃ (a : Addr) (cap : Nat), v = .slice (some a) rows.length cap ∧ rows.length ≤ cap ∧ cap ≤ maxLen ∧ (rows ≠ [] → l ≠ [] → a.spot = none) ∧
    ∀ i r, rows[i]? = some r → Fits l r ∧ ∀ j, j < l.length → w.cell? ⟨a.block, a.off + (i * l.length + j), none⟩ = r[j]?

theorem open_slice_flat {t e : TypeId} {l : List FK} {r : Reach} {b0 n : Nat} {v : Value} {d : DataW H} {p : List MemPlace} (ht : P.underlying t = some (.slice e)) (hf : flatOf P n e = some l) (hl : l.length = P.cellsOf e)
    (hv : Value.okWide P w r b0 t v) (h : DataW.Trod enc P w base spare held t v d p) : ∃ rows, IsSlice w v l rows ∧ ((d = .nil ∧ rows = []) ∨ ∃ es sp, d = .slice es sp ∧ es.length = rows.length) := by
  obtain ⟨a0, len, cap, rfl⟩ := okWide_slice ht hv
  obtain ⟨fuel, hx⟩ := h
  rcases DataW.trod_slice ht hx with ⟨h0, h1⟩ | ⟨a, len', cap', elems, rest, m, _, hcs, hxx, hb, hlc, hcm, hel, hall, _, _⟩
  · simp [Value.cells] at h0
    obtain ⟨rfl, rfl, rfl⟩ := h0
    simp only [Prod.mk.injEq] at h1
    exact ⟨[], .inl ⟨rfl, rfl⟩, .inl ⟨h1.1, rfl⟩⟩
  · simp [Value.cells] at hcs
    obtain ⟨rfl, rfl, rfl⟩ := hcs
    have hrow : ∀ i, i < len → ∃ cs, w.cells? base (a.add (i * P.cellsOf e)) (P.cellsOf e) = some cs ∧ Fits l cs := by
      intro i hi
      have := hall i hi
      rw [List.getElem?_eq_getElem (by omega)] at this
      obtain ⟨cs, h1, h2⟩ := Option.bind_eq_some_iff.1 this
      obtain ⟨_, h3, _⟩ := flat_open _ _ _ _ _ _ _ hf h2
      exact ⟨cs, h1, h3⟩
    have hrow' : ∃ R : Nat → List Value, ∀ i, i < len → w.cells? base (a.add (i * P.cellsOf e)) (P.cellsOf e) = some (R i) ∧ Fits l (R i) :=
      ⟨fun i => if hi : i < len then Classical.choose (hrow i hi) else [], fun i hi => by simp only [hi, dif_pos]; exact Classical.choose_spec (hrow i hi)⟩
    obtain ⟨R, hR⟩ := hrow'
    refine ⟨(List.range len).map R, .inr ⟨a, cap, by simp, by simpa using hlc, hcm, ?_, ?_⟩, .inr ⟨elems.map (·.1), rest.map (·.1), ?_, by simp [hel]⟩⟩
    · intro hne hl0
      have hpos : 0 < len := by
        rcases Nat.eq_zero_or_pos len with h0 | h0
        · subst h0; simp at hne
        · exact h0
      have hlp : 0 < l.length := List.length_pos_iff.2 hl0
      obtain ⟨_, h2, h3⟩ := World.cells?_some (hR 0 hpos).1
      have h4 := h3 0 (by omega)
      rw [List.getElem?_eq_getElem (by omega)] at h4
      simpa [Addr.add] using World.cell?_spot h4
    · intro i r hi
      obtain ⟨hlt, rfl⟩ := List.getElem?_eq_some_iff.1 hi
      simp only [List.length_map, List.length_range] at hlt
      simp only [List.getElem_map, List.getElem_range]
      refine ⟨(hR i hlt).2, fun j hj => ?_⟩
      obtain ⟨_, h2, h3⟩ := World.cells?_some (hR i hlt).1
      have h4 := h3 j (by omega)
      rw [List.getElem?_eq_getElem (by omega)] at h4 ⊢
      rw [hl]
      exact cell_add_add h4
    · simp only [Prod.mk.injEq] at hxx; exact hxx.1

theorem trodAll_below {P : Program} (hl : laidOutB P = true) {W W' : World} (hb : Below W.heap.size W W') : ∀ {ts : List TypeId} {vs : List Value} {ds : List (DataW H)} {ps : List MemPlace},
    (∀ t ∈ ts, P.readableRec t = true ∧ t < P.types.size) → DataW.TrodAll enc P W 0 (fun _ => true) true ts vs ds ps → (∀ x ∈ ps, x.block < W.heap.size) →
    DataW.TrodAll enc P W' 0 (fun b => decide (b < W.heap.size)) true ts vs ds ps
  | [], _, _, _, _, h, _ => by
    obtain ⟨rfl, rfl, rfl⟩ := trodAll_nil h
    rfl
  | t :: ts, _, _, _, hr, h, hlt => by
    obtain ⟨v, vs1, d, ds1, a, b, rfl, rfl, rfl, h1, h2⟩ := trodAll_cons h
    exact ⟨a, b, Below.trod hl (hr t (by simp)).1 (hr t (by simp)).2 h1 hb (fun x hx => hlt x (by simp [hx])), trodAll_below hl hb (fun t' ht => hr t' (by simp [ht])) h2 (fun x hx => hlt x (by simp [hx])), rfl⟩

/-- A law's end: true is returned, and nothing that was there has turned. -/
theorem law_post {fn : Func} {s : ChangeSpec} {W W' : World} {args : Array Value} {ds : List (DataW H)} {before : List MemPlace} {tb : TypeId} (hl : laidOutB P = true) (hv : s.vars = [])
    (hfn : s.fn H (ds ++ []) = { results := [.lit (.bool true)], args := ds, vars := [] }) (hrt : fn.resultTypes = #[tb]) (htb : P.underlying tb = some .bool)
    (hr : ∀ t ∈ fn.params.toList, P.readableRec t = true ∧ t < P.types.size)
    (hW : DataW.Whole enc P fn.params.toList s.vars false W args.toList ds [] before) (hb : Below W.heap.size W W') :
    s.post enc P fn false true false false W args (.bool true) W' := by
  have hW' := hW
  obtain ⟨p, q, hA, hV, rfl, hfz, hnd⟩ := hW
  rw [hv] at hV
  obtain ⟨_, rfl⟩ := trodVars_none hV
  have hlt : ∀ x ∈ p, x.block < W.heap.size := fun x hx => hW'.lt x (by simp [hx])
  refine ⟨ds, [], p ++ [], [], p, [], hW', ?_, ?_, ?_, hb.frame _, fun h => by cases h⟩
  · rw [hfn, hrt]
    exact trodAll_mk1 (shut_bool htb _)
  · rw [hfn]
    exact trodAll_below hl hb hr hA hlt
  · rw [hfn, hv]
    rfl

/-- A listed table, opened: the variable's cells are the datum's. -/
theorem laid_cells {P : Program} {W : World} {name : String} {D : DataW Unit} {rest : List (String × DataW Unit)} {g n : Nat} {t : TypeId} {l : List FK}
    (hg : P.globalNamed name = some g) (hty : (P.globals[g]?).map (·.type) = some t) (hf : flatOf P n t = some l)
    (h : laidMet P ((name, D) :: rest) W) : ∀ i, W.cell? ⟨g, i, none⟩ = (cellsD n D)[i]? := by
  obtain ⟨ps, ⟨g', t', cs, fuel, p, q, hg', ht', hvar, hd, _, _⟩, _⟩ := h
  obtain rfl := Option.some.inj (hg.symm.trans hg')
  obtain rfl := Option.some.inj (hty.symm.trans ht')
  obtain ⟨h1, _, _⟩ := flat_open _ _ _ _ _ _ _ hf hd
  intro i
  rw [World.var?_cell hg hvar i, ← h1]
  simp
theorem laid_tail {P : Program} {x : String × DataW Unit} {r : List (String × DataW Unit)} {w : World} (h : laidMet P (x :: r) w) : laidMet P r w := by
  obtain ⟨ps, hv, hnd, hrows⟩ := h
  obtain ⟨n, d⟩ := x
  obtain ⟨g, t, cs, fuel, p, q, _, _, _, _, hq, rfl⟩ := hv
  exact ⟨q, hq, List.Nodup.sublist (List.sublist_append_right _ _) hnd, fun b off hm => hrows b off (List.mem_append_right _ hm)⟩
end
end Go.Proofs.YtnobempbcdkoaaaGreatDoor
namespace Go.Proofs.YtnobempbcdkoaaaGreatDoor
open Go.RowKit

theorem ret_i {k : IntKind} {a b : Int} (h : a = b) : Ending.returned (.int k a) = .returned (.int k b) := by rw [h]
theorem ret_b {a b : Bool} (h : a = b) : Ending.returned (.bool a) = .returned (.bool b) := by rw [h]
theorem blk_lt {w : World} {b : Nat} {o : Obj} (h : w.heap[b]? = some o) : b < w.heap.size := (Array.getElem?_eq_some_iff.1 h).1

/-- What is owned behind: what was owned ahead, or is new. -/
def Sub (w : World) (F' F : Nat → Prop) : Prop := ∀ b, F' b → F b ∨ w.heap.size ≤ b

/-- A row of cells, of one cell an element, of which the first ones are told. -/
def RowAt (w : World) (q : Nat) (e : TypeId) (cap : Nat) (xs : List Value) : Prop :=
  ∃ cur : Array Value, w.heap[q]? = some (.cells cur e) ∧ cur.size = cap ∧ xs.length ≤ cap ∧ cur.toList.take xs.length = xs
theorem RowAt.lt {w : World} {q : Nat} {e : TypeId} {cap : Nat} {xs : List Value} (h : RowAt w q e cap xs) : q < w.heap.size := by obtain ⟨_, h, _⟩ := h; exact blk_lt h
theorem RowAt.touch {S : Nat → Prop} {w w' : World} {q : Nat} {e : TypeId} {cap : Nat} {xs : List Value} (h : RowAt w q e cap xs) (ht : Touch S w w') (hs : ¬ S q) : RowAt w' q e cap xs := by
  obtain ⟨cur, h1, h2⟩ := h
  exact ⟨cur, (ht.block q (blk_lt h1) hs).trans h1, h2⟩
theorem RowAt.cell {w : World} {q : Nat} {e : TypeId} {cap : Nat} {xs : List Value} (h : RowAt w q e cap xs) {j : Nat} (hj : j < xs.length) : w.cell? ⟨q, j, none⟩ = some xs[j] := by
  obtain ⟨cur, h1, h2, h3, h4⟩ := h
  have h5 : cur.toList[j]? = some xs[j] := by
    have h6 : (cur.toList.take xs.length)[j]? = some xs[j] := by rw [h4]; exact List.getElem?_eq_getElem hj
    rwa [List.getElem?_take, if_pos hj] at h6
  simpa [World.cell?, h1] using h5
theorem RowAt.free {w : World} {q : Nat} {e : TypeId} {cap : Nat} {xs : List Value} (h : RowAt w q e cap xs) (j : Nat) : w.frozen? ⟨q, j, none⟩ = false := by
  obtain ⟨cur, h1, h2, h3, h4⟩ := h
  simp [World.frozen?, h1]
theorem RowAt.set {w : World} {q : Nat} {e : TypeId} {cap : Nat} {xs : List Value} (h : RowAt w q e cap xs) (j : Nat) (u : Value) : RowAt (w.setCell ⟨q, j, none⟩ u) q e cap (xs.set j u) := by
  obtain ⟨cur, h1, h2, h3, h4⟩ := h
  refine ⟨cur.setIfInBounds j u, set_cells j u h1, by simpa using h2, by simpa using h3, ?_⟩
  rw [Array.toList_setIfInBounds, List.length_set, List.take_set, h4]
theorem RowAt.other {w : World} {q k : Nat} {e : TypeId} {cap : Nat} {xs : List Value} (h : RowAt w q e cap xs) (hk : q ≠ k) (o : Nat) (u : Value) : RowAt (w.setCell ⟨k, o, none⟩ u) q e cap xs := by
  obtain ⟨cur, h1, h2⟩ := h
  exact ⟨cur, (set_other u hk).trans h1, h2⟩
/-- What the laws on make and append tell. -/
theorem RowAt.of_owns {w : World} {base q n cap : Nat} {e : TypeId} {xs : List Value} (h : w.ownsRow base e 1 (.slice (some ⟨q, 0, none⟩) n cap) n xs) : RowAt w q e cap xs ∧ xs.length = n ∧ cap ≤ maxLen := by
  obtain ⟨h1, h2⟩ := h
  rcases h2 with ⟨h2, _⟩ | ⟨g, cap', cur, hv, hg, hh, hn, hc, hs, ht⟩
  · cases h2
  · cases hv
    have hl : xs.length = n := by omega
    exact ⟨⟨cur, hh, by omega, by omega, by rw [hl]; simpa using ht⟩, hl, hc⟩
theorem RowAt.of_owns_some {w : World} {base n : Nat} {v : Value} {e : TypeId} {xs : List Value} (h : w.ownsRow base e 1 v n xs) (hn : 0 < n) : ∃ g cap, v = .slice (some ⟨g, 0, none⟩) n cap ∧ base ≤ g ∧ RowAt w g e cap xs ∧ xs.length = n ∧ cap ≤ maxLen := by
  have h' := h
  obtain ⟨h1, h2⟩ := h'
  rcases h2 with ⟨_, h2⟩ | ⟨g, cap', cur, rfl, hg, hh, hn', hc, hs, ht⟩
  · omega
  · exact ⟨g, cap', rfl, hg, RowAt.of_owns h⟩
theorem RowAt.owns {w : World} {q n cap : Nat} {e : TypeId} {xs : List Value} (h : RowAt w q e cap xs) (hl : xs.length = n) (hc : cap ≤ maxLen) : w.ownsRow 0 e 1 (.slice (some ⟨q, 0, none⟩) n cap) n xs := by
  obtain ⟨cur, h1, h2, h3, h4⟩ := h
  exact ⟨by omega, .inr ⟨q, cap, cur, rfl, Nat.zero_le _, h1, by omega, hc, by omega, by subst hl; simpa using h4⟩⟩
theorem RowAt.int' {w : World} {q : Nat} {e : TypeId} {cap n : Nat} {k : IntKind} {xs : List Int} {y : Int} (h : RowAt w q e cap ((xs ++ [y]).map (.int k))) {j : Nat} (_ : (xs ++ [y]).length = n + 1) (hj : xs.length = j) : w.cell? ⟨q, j, none⟩ = some (.int k y) := by
  rw [h.cell (j := j) (by simp; omega)]
  subst hj
  simp
theorem box1 {w : World} {b : Nat} {v0 : Value} {t : TypeId} (h : w.heap[b]? = some (.cells #[v0] t)) : w.cell? ⟨b, 0, none⟩ = some v0 ∧ w.frozen? ⟨b, 0, none⟩ = false := by
  simp [World.cell?, World.frozen?, h]
theorem box2 {w : World} {b : Nat} {v0 v1 : Value} {t : TypeId} (h : w.heap[b]? = some (.cells #[v0, v1] t)) :
    w.cell? ⟨b, 0, none⟩ = some v0 ∧ w.cell? ⟨b, 1, none⟩ = some v1 ∧ w.frozen? ⟨b, 0, none⟩ = false ∧ w.frozen? ⟨b, 1, none⟩ = false := by
  simp [World.cell?, World.frozen?, h]
theorem box3 {w : World} {b : Nat} {v0 v1 v2 : Value} {t : TypeId} (h : w.heap[b]? = some (.cells #[v0, v1, v2] t)) :
    w.cell? ⟨b, 0, none⟩ = some v0 ∧ w.cell? ⟨b, 1, none⟩ = some v1 ∧ w.cell? ⟨b, 2, none⟩ = some v2 ∧ w.frozen? ⟨b, 0, none⟩ = false ∧ w.frozen? ⟨b, 1, none⟩ = false ∧ w.frozen? ⟨b, 2, none⟩ = false := by
  simp [World.cell?, World.frozen?, h]
theorem blk_touch {S : Nat → Prop} {w w' : World} {b : Nat} {o : Obj} (h : w.heap[b]? = some o) (ht : Touch S w w') (hs : ¬ S b) : w'.heap[b]? = some o := (ht.block b (blk_lt h) hs).trans h
theorem blk_set {w : World} {b : Nat} {cs : Array Value} {t : TypeId} {fr : Nat × Nat} (h : w.heap[b]? = some (.cells cs t fr)) {o : Nat} {u : Value} {cs' : Array Value} (e : cs.setIfInBounds o u = cs') : (w.setCell ⟨b, o, none⟩ u).heap[b]? = some (.cells cs' t fr) := by rw [← e]; exact set_cells o u h
theorem wrap64_in {n : Int} (h : -9223372036854775808 ≤ n) (h' : n ≤ 9223372036854775807) : wrap64 n = n := by
  unfold wrap64; omega

/-- A slice of ints that came in: what it holds. -/
def IntsIn (w : World) (v : Value) (xs : List Int) : Prop :=
  ∃ ao cap, v = .slice ao xs.length cap ∧ (xs = [] ∨ ∃ b o, ao = some ⟨b, o, none⟩ ∧ xs.length ≤ cap ∧ ∀ j, j < xs.length → w.cell? ⟨b, o + j, none⟩ = some (.int .i64 (xs.getD j 0)))
theorem cell_lt {w : World} {b o : Nat} {v : Value} (h : w.cell? ⟨b, o, none⟩ = some v) : b < w.heap.size := by
  unfold World.cell? at h
  split at h
  · rename_i hb; exact blk_lt hb
  · cases h
theorem IntsIn.touch {S : Nat → Prop} {w w' : World} {v : Value} {xs : List Int} (h : IntsIn w v xs) (ht : Touch S w w') (hs : ∀ b, v.ownBlock = some b → ¬ S b) : IntsIn w' v xs := by
  obtain ⟨ao, cap, rfl, h⟩ := h
  refine ⟨ao, cap, rfl, ?_⟩
  rcases h with h | ⟨b, o, rfl, hc, h⟩
  · exact .inl h
  · refine .inr ⟨b, o, rfl, hc, fun j hj => ?_⟩
    have h1 := h j hj
    exact (ht.cell (cell_lt h1) (hs b rfl)).trans h1
/-- A slice of flat rows that came in. -/
def RowsIn (w : World) (v : Value) (l : List FK) (n : Nat) : Prop :=
  ∃ ao cap, v = .slice ao n cap ∧ (n = 0 ∨ ∃ b o, ao = some ⟨b, o, none⟩ ∧ n ≤ cap ∧ cap ≤ maxLen ∧ ∀ k, k < n → ∃ r, Fits l r ∧ ∀ j, j < l.length → w.cell? ⟨b, o + (k * l.length + j), none⟩ = r[j]?)
theorem rows_of_slice {w : World} {v : Value} {l : List FK} {rows : List (List Value)} (h : IsSlice w v l rows) (hl : l ≠ []) : ∃ n, RowsIn w v l n ∧ n = rows.length := by
  refine ⟨rows.length, ?_, rfl⟩
  rcases h with ⟨rfl, rfl⟩ | ⟨a, cap, rfl, hc, hm, hs, h⟩
  · exact ⟨none, 0, rfl, .inl rfl⟩
  · refine ⟨some a, cap, rfl, ?_⟩
    by_cases hr : rows = []
    · left; rw [hr]; rfl
    · refine .inr ⟨a.block, a.off, ?_, hc, hm, fun k hk => ⟨rows[k], h k _ (List.getElem?_eq_getElem hk)⟩⟩
      have := hs hr hl
      cases a; simp_all

def intOfRow : List Value → Int
  | [.int _ n] => n
  | _ => 0
theorem ints_of_slice {w : World} {v : Value} {rows : List (List Value)} (h : IsSlice w v [some .i64] rows) : ∃ xs : List Int, IntsIn w v xs ∧ xs.length = rows.length ∧ ∀ j, j < xs.length → (Lit.int .i64 (xs.getD j 0)).wf = true := by
  refine ⟨rows.map intOfRow, ?_, by simp, ?_⟩
  · rcases h with ⟨rfl, rfl⟩ | ⟨a, cap, rfl, hc, _, hs, h⟩
    · exact ⟨none, 0, rfl, .inl rfl⟩
    · refine ⟨some a, cap, by simp, ?_⟩
      cases rows with
      | nil => exact .inl rfl
      | cons r0 rs =>
        refine .inr ⟨a.block, a.off, ?_, by simpa using hc, fun j hj => ?_⟩
        · have := hs (by simp) (by simp)
          cases a; simp_all
        · simp only [List.length_map] at hj
          obtain ⟨h1, h2⟩ := h j _ (List.getElem?_eq_getElem hj)
          obtain ⟨n, us, e, hn, hf⟩ := fits_int h1
          have hu := fits_nil hf
          subst hu
          have h3 := h2 0 (by simp)
          rw [e] at h3
          simp only [List.length_cons, List.length_nil, Nat.zero_add, Nat.mul_one, Nat.add_zero] at h3
          rw [h3, List.getD_eq_getElem?_getD, List.getElem?_map, List.getElem?_eq_getElem hj, e]
          rfl
  · intro j hj
    simp only [List.length_map] at hj
    rcases h with ⟨rfl, rfl⟩ | ⟨a, cap, rfl, hc, _, hs, h⟩
    · simp at hj
    · obtain ⟨h1, h2⟩ := h j _ (List.getElem?_eq_getElem hj)
      obtain ⟨n, us, e, hn, hf⟩ := fits_int h1
      have hu := fits_nil hf
      subst hu
      rw [List.getD_eq_getElem?_getD, List.getElem?_map, List.getElem?_eq_getElem hj, e]
      exact hn
theorem IntsIn.old {w w' : World} {v : Value} {xs : List Int} (h : IntsIn w v xs) (ht : Touch nob w w') : IntsIn w' v xs := h.touch ht (fun _ _ x => x)
end Go.Proofs.YtnobempbcdkoaaaGreatDoor
namespace Go.Proofs.YtnobempbcdkoaaaGreatDoor
open Go.RowKit

theorem hmkf : ∀ (fn : Fn) (first cap : Array Value) (w : World), (Instr.makeFunc fn first cap).run Tryz.prog w = .ok (.func fn first cap) w := fun _ _ _ _ => rfl
theorem info_u64 : (Tryz.prog.info? 112).map (fun i => (i.zero, i.size, i.bytes)) = some (some (.int .u64 0), 1, 8) := by kernel_rfl
end Go.Proofs.YtnobempbcdkoaaaGreatDoor
