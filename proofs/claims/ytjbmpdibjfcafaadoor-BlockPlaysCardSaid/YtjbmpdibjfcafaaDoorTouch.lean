/- What a call may turn: 'Touch S w w'': of the blocks that were there only those of S may have turned. And the law of a range over a function, by footprints. Conditions: none; no program in it. -/
import Derived.RangeFuncNested
import Derived.RangeFuncBound
import Derived.RangeFuncCalls
import Derived.RangeFuncLeaves
import Derived.WalkKit
import Derived.WalkSmall
import Derived.Deep.QuietTactic
import Derived.Lib.Hide
namespace Go.Proofs.YtjbmpdibjfcafaaDoor
open Go.RowKit

structure Touch (S : Nat → Prop) (w w' : World) : Prop where
  os : w'.os = w.os
  tape : w'.tape = w.tape
  output : w'.output = w.output
  size : w.heap.size ≤ w'.heap.size
  block : ∀ k, k < w.heap.size → ¬ S k → w'.heap[k]? = w.heap[k]?

theorem heap_alloc_if (w : World) (o : Obj) (k : Nat) : (w.alloc o).heap[k]? = if k = w.heap.size then some o else w.heap[k]? := by
  show (w.heap.push o)[k]? = _
  rw [Array.getElem?_push]

theorem alloc2_0 (w : World) (a b : Obj) : ((w.alloc a).alloc b).heap[w.heap.size]? = some a := (Below.heap_alloc _ _ _ (by simp)).trans (World.alloc_heap_new w _)
theorem alloc2_1 (w : World) (a b : Obj) : ((w.alloc a).alloc b).heap[w.heap.size + 1]? = some b := by have := World.alloc_heap_new (w.alloc a) b; rwa [World.size_alloc] at this
theorem one_cell {w : World} {b : Nat} {v : Value} {t : TypeId} {fr : Nat × Nat} (h : w.heap[b]? = some (Obj.cells #[v] t fr)) : w.cell? ⟨b, 0, none⟩ = some v := by simp [World.cell?, h]
theorem one_free {w : World} {b : Nat} {v : Value} {t : TypeId} (h : w.heap[b]? = some (Obj.cells #[v] t)) : w.frozen? ⟨b, 0, none⟩ = false := by simp [World.frozen?, h]
theorem set_one {w : World} {b : Nat} {v : Value} {t : TypeId} {fr : Nat × Nat} (u : Value) (h : w.heap[b]? = some (Obj.cells #[v] t fr)) : (w.setCell ⟨b, 0, none⟩ u).heap[b]? = some (Obj.cells #[u] t fr) := by
  obtain ⟨hlt, h'⟩ := Array.getElem?_eq_some_iff.1 h
  show (w.heap.modify b _)[b]? = _
  rw [Array.getElem?_eq_getElem (by rw [Array.size_modify]; exact hlt), Array.getElem_modify_self, h']
  simp
theorem set_cells {w : World} {b : Nat} {cs : Array Value} {t : TypeId} {fr : Nat × Nat} (o : Nat) (u : Value) (h : w.heap[b]? = some (Obj.cells cs t fr)) : (w.setCell ⟨b, o, none⟩ u).heap[b]? = some (Obj.cells (cs.setIfInBounds o u) t fr) := by
  obtain ⟨hlt, h'⟩ := Array.getElem?_eq_some_iff.1 h
  show (w.heap.modify b _)[b]? = _
  rw [Array.getElem?_eq_getElem (by rw [Array.size_modify]; exact hlt), Array.getElem_modify_self, h']
  simp
theorem set_other {w : World} {b k : Nat} {o : Nat} (u : Value) (h : k ≠ b) : (w.setCell ⟨b, o, none⟩ u).heap[k]? = w.heap[k]? := Below.heap_setCell w ⟨b, o, none⟩ u k h

def nob : Nat → Prop := fun _ => False

theorem Touch.refl (S : Nat → Prop) (w : World) : Touch S w w := ⟨rfl, rfl, rfl, Nat.le_refl _, fun _ _ _ => rfl⟩
theorem Touch.trans {S : Nat → Prop} {a b c : World} (h : Touch S a b) (k : Touch S b c) : Touch S a c :=
  ⟨k.os.trans h.os, k.tape.trans h.tape, k.output.trans h.output, Nat.le_trans h.size k.size, fun i hi hs => (k.block i (Nat.lt_of_lt_of_le hi h.size) hs).trans (h.block i hi hs)⟩
/-- The second step may turn more, if what it turns lies in S or is new. -/
theorem Touch.step {S S' : Nat → Prop} {a b c : World} (h : Touch S a b) (k : Touch S' b c) (hs : ∀ i, S' i → S i ∨ a.heap.size ≤ i) : Touch S a c :=
  ⟨k.os.trans h.os, k.tape.trans h.tape, k.output.trans h.output, Nat.le_trans h.size k.size, fun i hi hn => (k.block i (Nat.lt_of_lt_of_le hi h.size) (fun h' => by
    rcases hs i h' with x | x
    · exact hn x
    · omega)).trans (h.block i hi hn)⟩
theorem Touch.mono {S S' : Nat → Prop} {a b : World} (h : Touch S a b) (hs : ∀ i, i < a.heap.size → S i → S' i) : Touch S' a b :=
  ⟨h.os, h.tape, h.output, h.size, fun k hk hn => h.block k hk (fun x => hn (hs k hk x))⟩
theorem Touch.alloc {S : Nat → Prop} {a w : World} (h : Touch S a w) (o : Obj) : Touch S a (w.alloc o) :=
  h.trans ⟨rfl, rfl, rfl, by simp, fun k hk _ => Below.heap_alloc _ _ _ hk⟩
theorem Touch.drew {S : Nat → Prop} {a w : World} (h : Touch S a w) : Touch S a w.drew := ⟨h.os, h.tape, h.output, h.size, h.block⟩
theorem Touch.drewN {S : Nat → Prop} {a w : World} (h : Touch S a w) (n : Nat) : Touch S a (w.drewN n) := ⟨h.os, h.tape, h.output, h.size, h.block⟩
theorem Touch.setCell {S : Nat → Prop} {a w : World} (h : Touch S a w) {p : Addr} (hp : S p.block ∨ a.heap.size ≤ p.block) (u : Value) : Touch S a (w.setCell p u) :=
  ⟨h.os, h.tape, h.output, by simpa [World.setCell] using h.size, fun k hk hn => by
    refine (Below.heap_setCell _ _ _ _ (fun e => ?_)).trans (h.block k hk hn)
    subst e
    rcases hp with hp | hp
    · exact hn hp
    · omega⟩
theorem Touch.putObj {S : Nat → Prop} {a w : World} (h : Touch S a w) {l : Nat} (hp : S l ∨ a.heap.size ≤ l) (o : Obj) : Touch S a (w.putObj l o) :=
  ⟨h.os, h.tape, h.output, by simpa [World.putObj] using h.size, fun k hk hn => by
    refine (World.putObj_heap_other (fun e => ?_)).trans (h.block k hk hn)
    subst e
    rcases hp with hp | hp
    · exact hn hp
    · omega⟩
theorem Touch.of_below {S : Nat → Prop} {w w' : World} (h : Below w.heap.size w w') : Touch S w w' := ⟨h.os, h.tape, h.output, h.size, fun k hk _ => h.block k hk⟩
theorem Touch.below {w w' : World} (h : Touch nob w w') : Below w.heap.size w w' := ⟨h.os, h.tape, h.output, h.size, fun k hk => h.block k hk (fun x => x)⟩
theorem Touch.cell {S : Nat → Prop} {w w' : World} (h : Touch S w w') {b o : Nat} (hb : b < w.heap.size) (hs : ¬ S b) : w'.cell? ⟨b, o, none⟩ = w.cell? ⟨b, o, none⟩ :=
  World.cell?_of_block (w := w) (a := ⟨b, o, none⟩) (h.block b hb hs)
theorem Touch.frozen {S : Nat → Prop} {w w' : World} (h : Touch S w w') {b o : Nat} (hb : b < w.heap.size) (hs : ¬ S b) : w'.frozen? ⟨b, o, none⟩ = w.frozen? ⟨b, o, none⟩ :=
  World.frozen?_of_block (w := w) (a := ⟨b, o, none⟩) (h.block b hb hs)
theorem Touch.grown {S : Nat → Prop} {a w w' : World} {row : Option Nat} (h : Touch S a w) (hg : w.grownBy w' row) (hr : ∀ k, row = some k → S k ∨ a.heap.size ≤ k) : Touch S a w' :=
  ⟨hg.os.trans h.os, hg.tape.trans h.tape, hg.output.trans h.output, Nat.le_trans h.size hg.size, fun k hk hn => (hg.block k (Nat.lt_of_lt_of_le hk h.size) (fun e => by
    rcases hr k e.symm with x | x
    · exact hn x
    · omega)).trans (h.block k hk hn)⟩

theorem bcell {W w1 : World} (hb : Below W.heap.size W w1) : (∀ b o, b < W.heap.size → w1.cell? ⟨b, o, none⟩ = W.cell? ⟨b, o, none⟩) ∧ (∀ b o, b < W.heap.size → w1.frozen? ⟨b, o, none⟩ = W.frozen? ⟨b, o, none⟩) :=
  ⟨fun b o h => hb.cell (p := ⟨b, o, none⟩) h, fun b o h => hb.frozen (p := ⟨b, o, none⟩) h⟩

/-- Blocks of cells are kept. -/
structure CellsKept (w w' : World) : Prop where
  size : w.heap.size ≤ w'.heap.size
  block : ∀ (k : Nat) (c : Array Value) (t : TypeId) (fr : Nat × Nat), w.heap[k]? = some (Obj.cells c t fr) → w'.heap[k]? = some (Obj.cells c t fr)
theorem CellsKept.refl (w : World) : CellsKept w w := ⟨Nat.le_refl _, fun _ _ _ _ h => h⟩
theorem CellsKept.trans {a b c : World} (h : CellsKept a b) (k : CellsKept b c) : CellsKept a c := ⟨Nat.le_trans h.size k.size, fun i x t fr e => k.block i x t fr (h.block i x t fr e)⟩
theorem CellsKept.of_touch {w w' : World} (h : Touch nob w w') : CellsKept w w' :=
  ⟨h.size, fun k _ _ _ e => (h.block k (Array.getElem?_eq_some_iff.1 e).1 (fun x => x)).trans e⟩
theorem CellsKept.putObj {w : World} {l : Nat} {o : Obj} (o' : Obj) (hl : w.heap[l]? = some o) (ho : o.isCells = false) : CellsKept w (w.putObj l o') :=
  ⟨by simp [World.putObj], fun k c t fr e => by
    by_cases h : k = l
    · subst h; rw [hl] at e; cases e; simp [Obj.isCells] at ho
    · exact (World.putObj_heap_other h).trans e⟩

/-- How a round's body may be left. -/
def rfPost {α : Type} (Kp : World → World → Prop) (I : List α → (Nat → Prop) → World → Prop) (Ix : Code → List α → (Nat → Prop) → World → Prop) (xs : List α) (O : Nat → Prop) (W : World) : Exit → Act → World → Prop
  | .normal, _, W' => ∃ O', Touch O W W' ∧ (∀ b, O' b → O b ∨ (W.heap.size ≤ b ∧ b < W'.heap.size)) ∧ Kp W W' ∧ I xs O' W'
  | .ret, _, W' => ∃ O', Touch O W W' ∧ (∀ b, O' b → O b ∨ (W.heap.size ≤ b ∧ b < W'.heap.size)) ∧ Ix .ret xs O' W'
  | .exit id, _, W' => ∃ O', Touch O W W' ∧ (∀ b, O' b → O b ∨ (W.heap.size ≤ b ∧ b < W'.heap.size)) ∧ Ix (.exit id) xs O' W'
  | .goto t, _, W' => ∃ O', Touch O W W' ∧ (∀ b, O' b → O b ∨ (W.heap.size ≤ b ∧ b < W'.heap.size)) ∧ Ix (.goto t) xs O' W'
  | .panic _, _, _ => False
  | .outgrown, _, _ => False

/-- An iterator's contract: it hands over xs, one by one, till a round says no more. Ab: what its own steps may turn; Kp: what a round that goes on keeps for it; Pr: blocks of its own that were there. -/
def Iter {α : Type} (P : Program) (g : Nat) (lb : Array Value) (encs : α → Array Value) (Ab : Nat → (Nat → Prop) → World → World → Prop) (Kp : World → World → Prop) (xs : List α) (Pr : Nat → Prop) (w : World) : Prop :=
  ∀ (l : Nat) (J Jx : List α → (Nat → Prop) → World → Prop) (W : World) (O : Nat → Prop), Touch nob w W →
    (∀ pre O A B, J pre O A → Ab W.heap.size O A B → J pre O B) → (∀ pre O A B, Jx pre O A → Ab W.heap.size O A B → Jx pre O B) →
    (∀ pre x W1 O, J pre O W1 → pre ++ [x] <+: xs → YieldAt Fence.wide 0 P l (encs x) W1 fun e W' =>
      ∃ O', Touch O W1 W' ∧ (∀ b, O' b → O b ∨ (W1.heap.size ≤ b ∧ b < W'.heap.size)) ∧ ((e = .returned (.bool true) ∧ J (pre ++ [x]) O' W' ∧ Kp W1 W') ∨ (e = .returned (.bool false) ∧ Jx (pre ++ [x]) O' W'))) →
    J [] O W → (∀ b, Pr b → ¬ O b) → (∀ b, O b → b < W.heap.size) →
    CallsIn Fence.wide 0 P g (#[.func (.yield l) #[] #[]] ++ lb) W fun e W' => (∃ v, e = .returned v) ∧ ∃ O', (J xs O' W' ∨ ∃ pre, pre <+: xs ∧ Jx pre O' W')

/-- What an iterator that turns nothing of others may turn. -/
def AbD (base : Nat) (O : Nat → Prop) (A B : World) : Prop := Touch (fun b => base ≤ b ∧ ¬ O b) A B

variable {P : Program}

/-- The law of a range over a function, outside every round. -/
theorem rf_law {α : Type} {g : Operand} {ps : Array Tmp} {assign body : Code} {Q : Exit → Act → World → Prop} {a : Act} {w : World} {gf : Nat} {lb : Array Value} (hg : a.eval g = .func (.func gf) #[] lb)
    (eg : ∀ args w, (callFunc gf args).run P w = .ok (.enter gf args) w) {encs : α → Array Value} {Ab : Nat → (Nat → Prop) → World → World → Prop} {Kp : World → World → Prop} {xs : List α} {Pr : Nat → Prop}
    (hit : Iter P gf lb encs Ab Kp xs Pr w) (hps : ∀ x, (encs x).size = ps.size)
    (hAbT : ∀ n O A B, AbD n O A B → Ab n O A B) (hAbM : ∀ m n O O' A B, (∀ b, O' b → O b) → m ≤ n → Ab n O A B → Ab m O' A B)
    (hAbO : ∀ n O (A B : World) (k : Nat) (o : Obj), Ab n O A B → O k → A.heap[k]? = some o → o.isCells = false → B.heap[k]? = some o)
    (hKp : ∀ A A' B B', CellsKept A A' → Kp A' B → CellsKept B B' → Kp A B')
    (I : List α → (Nat → Prop) → World → Prop) (Ix : Code → List α → (Nat → Prop) → World → Prop) {O₀ : Nat → Prop} (hPr : ∀ b, Pr b → b < w.heap.size ∧ ¬ O₀ b) (hO₀ : ∀ b, O₀ b → b < w.heap.size)
    (hI : ∀ pre O A B, I pre O A → Ab w.heap.size O A B → I pre O B) (hIx : ∀ c pre O A B, Ix c pre O A → Ab w.heap.size O A B → Ix c pre O B) (h0 : I [] O₀ w)
    (Ax : α → Act → World → Prop) (hAx : ∀ x a' A B, Ax x a' A → CellsKept A B → Ax x a' B)
    (hassign : ∀ (l : Nat) (pre : List α) (x : α) (O : Nat → Prop) (W : World) (K : Act → World → Prop), I pre O W → (∀ a' W', Touch nob W W' → Ax x a' W' → K a' W') →
      assign.wpIn (Fence.wide.inRound l) 0 P (Exit.then K (fun _ _ _ => False)) { tmps := (ps.zip (encs x)).foldl (fun t (p, v) => t.setIfInBounds p v) a.tmps, defers := [] } W)
    (hbody : ∀ (l : Nat) (pre : List α) (x : α) (a' : Act) (O : Nat → Prop) (W : World), I pre O W → Ax x a' W → pre ++ [x] <+: xs → body.wpIn (Fence.wide.inRound l) 0 P (rfPost Kp I Ix (pre ++ [x]) O W) a' W)
    (hdone : ∀ (D : Nat) (O : Nat → Prop) (W : World), w.heap.size ≤ D → ¬ O D → I xs O W → W.heap[D]? = some (.deferred (some [])) → Q .normal { a with defers := { target := .collected D, args := #[] } :: a.defers } W)
    (hstop : ∀ (D : Nat) (c : Code) (pre : List α) (O : Nat → Prop) (W : World), w.heap.size ≤ D → ¬ O D → pre <+: xs → Ix c pre O W → W.heap[D]? = some (.deferred (some [])) → c.wpIn Fence.wide 0 P Q { a with defers := { target := .collected D, args := #[] } :: a.defers } W) :
    (Code.rangeFunc g ps assign body).wpIn Fence.wide 0 P Q a w := by
  refine wpIn_rangeFunc ?_
  intro fn hfn
  obtain ⟨rec, hrec⟩ : ∃ rec : LoopState → Option Code → Loop, rec = fun st pe => { state := st, pending := pe, fn, tmps := a.tmps, params := ps, assign, body, defers := w.heap.size } := ⟨_, rfl⟩
  obtain ⟨W1, hW1⟩ : ∃ W1, (w.alloc (.deferred (some []))).alloc (.loop (rec .ready none)) = W1 := ⟨_, rfl⟩
  have hL1 : W1.heap[w.heap.size + 1]? = some (.loop (rec .ready none)) := by
    rw [← hW1]; have := World.alloc_heap_new (w.alloc (.deferred (some []))) (.loop (rec .ready none)); rwa [World.size_alloc] at this
  have hK1 : W1.heap[w.heap.size]? = some (.deferred (some [])) := by
    rw [← hW1]; exact (Below.heap_alloc _ _ _ (by simp)).trans (World.alloc_heap_new w _)
  have ht1 : ∀ S, Touch S w W1 := fun S => by rw [← hW1]; exact ((Touch.refl S w).alloc _).alloc _
  have hs1 : W1.heap.size = w.heap.size + 2 := by rw [← hW1]; simp
  have hI1 : I [] O₀ W1 := hI _ _ _ _ h0 (hAbT _ _ _ _ (ht1 _))
  -- the book-keeping: the record l, the deferred block D
  have abide : ∀ {Z : List α → (Nat → Prop) → World → Prop} (r : Loop), (∀ pre O A B, Z pre O A → Ab w.heap.size O A B → Z pre O B) → ∀ pre O A B,
      (∃ O1, Z pre O1 A ∧ (∀ b, O b ↔ (O1 b ∨ b = w.heap.size ∨ b = w.heap.size + 1)) ∧ ¬ O1 w.heap.size ∧ ¬ O1 (w.heap.size + 1) ∧ A.heap[w.heap.size + 1]? = some (.loop r) ∧ A.heap[w.heap.size]? = some (.deferred (some []))) →
      Ab W1.heap.size O A B →
      (∃ O1, Z pre O1 B ∧ (∀ b, O b ↔ (O1 b ∨ b = w.heap.size ∨ b = w.heap.size + 1)) ∧ ¬ O1 w.heap.size ∧ ¬ O1 (w.heap.size + 1) ∧ B.heap[w.heap.size + 1]? = some (.loop r) ∧ B.heap[w.heap.size]? = some (.deferred (some []))) := by
    rintro Z r hZ pre O A B ⟨O1, hz, hO, n1, n2, hl, hk⟩ hab
    refine ⟨O1, hZ _ _ _ _ hz (hAbM _ _ _ _ _ _ (fun b hb => (hO b).2 (.inl hb)) (by omega) hab), hO, n1, n2, hAbO _ _ _ _ _ _ hab ((hO _).2 (.inr (.inr rfl))) hl rfl, hAbO _ _ _ _ _ _ hab ((hO _).2 (.inr (.inl rfl))) hk rfl⟩
  refine ⟨w.heap.size + 1, [{ target := .collected w.heap.size, args := #[] }], W1, { target := .fn (.func gf) lb, args := #[.func (.yield (w.heap.size + 1)) #[] #[]] }, W1, gf,
    #[.func (.yield (w.heap.size + 1)) #[] #[]] ++ lb, W1, ?_, ?_, ?_, ?_, fun h => by simp [Fence.wide] at h, ?_⟩
  · rw [← hW1, hrec]; exact run_enterLoop_outer _ _ _ _ _
  · simp only [resolve, hg]
    simp [go_sem]
  · intro f' hf'; trivial
  · simp [invoke, go_sem, eg]
  · refine (hit (w.heap.size + 1)
      (fun pre O W => ∃ O1, I pre O1 W ∧ (∀ b, O b ↔ (O1 b ∨ b = w.heap.size ∨ b = w.heap.size + 1)) ∧ ¬ O1 w.heap.size ∧ ¬ O1 (w.heap.size + 1) ∧ W.heap[w.heap.size + 1]? = some (.loop (rec .ready none)) ∧ W.heap[w.heap.size]? = some (.deferred (some [])))
      (fun pre O W => ∃ c, ∃ O1, Ix c pre O1 W ∧ (∀ b, O b ↔ (O1 b ∨ b = w.heap.size ∨ b = w.heap.size + 1)) ∧ ¬ O1 w.heap.size ∧ ¬ O1 (w.heap.size + 1) ∧ W.heap[w.heap.size + 1]? = some (.loop (rec .done (some c))) ∧ W.heap[w.heap.size]? = some (.deferred (some [])))
      W1 (fun b => O₀ b ∨ b = w.heap.size ∨ b = w.heap.size + 1) (ht1 nob) (abide _ hI) (fun pre O A B => by rintro ⟨c, h⟩ hab; exact ⟨c, abide _ (hIx c) pre O A B h hab⟩)
      ?_ ⟨O₀, hI1, fun b => Iff.rfl, fun h => by have := hO₀ _ h; omega, fun h => by have := hO₀ _ h; omega, hL1, hK1⟩ (fun b hb h => by
        obtain ⟨h1, h2⟩ := hPr b hb
        rcases h with h | h | h
        · exact h2 h
        · omega
        · omega) (fun b h => by
        rcases h with h | h | h
        · have := hO₀ b h; omega
        · omega
        · omega)).mono ?_
    · -- one round
      rintro pre x W O ⟨O1, hi, hO, n1, n2, hl, hk⟩ hpre
      have hlt : w.heap.size + 1 < W.heap.size := (Array.getElem?_eq_some_iff.1 hl).1
      have hy := run_yield (P := P) (args := encs x) hl (by rw [hrec]; exact hps x)
      rw [hrec] at hy
      refine ⟨fn, _, assign, body, hy, roundIn_of_wpIn hfn (hassign _ pre x O1 W _ hi ?_)⟩
      clear hy
      intro a' Wa hta hax
      have hla : Wa.heap[w.heap.size + 1]? = some (.loop (rec .ready none)) := (hta.block _ hlt (fun x => x)).trans hl
      have hka : Wa.heap[w.heap.size]? = some (.deferred (some [])) := (hta.block _ (by omega) (fun x => x)).trans hk
      have hlta : w.heap.size + 1 < Wa.heap.size := (Array.getElem?_eq_some_iff.1 hla).1
      have hia : I pre O1 Wa := hI _ _ _ _ hi (hAbT _ _ _ _ (hta.mono (fun i _ hi => hi.elim)))
      refine ⟨_, run_beginRound hla (by rw [hrec]), ?_⟩
      obtain ⟨Wb, hWb⟩ : ∃ Wb, Wa.putObj (w.heap.size + 1) (.loop { rec .ready none with state := .busy }) = Wb := ⟨_, rfl⟩
      rw [hWb]
      have hl2 : Wb.heap[w.heap.size + 1]? = some (.loop { rec .ready none with state := .busy }) := by rw [← hWb]; exact World.putObj_heap_same hlta
      have hk2 : Wb.heap[w.heap.size]? = some (.deferred (some [])) := by rw [← hWb]; exact (World.putObj_heap_other (by omega)).trans hka
      have hsb : Wb.heap.size = Wa.heap.size := by rw [← hWb]; simp [World.putObj]
      have htb : Touch (fun b => b = w.heap.size + 1) Wa Wb := by rw [← hWb]; exact Touch.putObj (S := fun b => b = w.heap.size + 1) (Touch.refl _ _) (.inl rfl) _
      have hib : I pre O1 Wb := hI _ _ _ _ hia (hAbT _ _ _ _ (htb.mono (fun i _ e => ⟨by omega, by rw [e]; exact n2⟩)))
      have hckb : CellsKept W Wb := (CellsKept.of_touch hta).trans (by rw [← hWb]; exact CellsKept.putObj _ hla rfl)
      refine wpIn_mono (hbody _ pre x a' O1 Wb hib (hAx _ _ _ _ hax (by rw [← hWb]; exact CellsKept.putObj _ hla rfl)) hpre) ?_
      have fin : ∀ (jump : Option Code) (W3 : World) (O' : Nat → Prop), Touch O1 Wb W3 → (∀ b, O' b → O1 b ∨ (Wb.heap.size ≤ b ∧ b < W3.heap.size)) →
          ∃ W4, (Instr.endRound (w.heap.size + 1) jump).run P W3 = .ok (.bool jump.isNone) W4 ∧ CellsKept W3 W4 ∧
          W4.heap[w.heap.size + 1]? = some (.loop (rec (if jump.isNone then .ready else .done) jump)) ∧ W4.heap[w.heap.size]? = some (.deferred (some [])) ∧
          ¬ O' w.heap.size ∧ ¬ O' (w.heap.size + 1) ∧ Touch O W W4 ∧ AbD w.heap.size O' W3 W4 ∧ W3.heap.size ≤ W4.heap.size := by
        intro jump W3 O' ht3 hsub
        have hl3 := (ht3.block _ (by omega) n2).trans hl2
        have hk3 := (ht3.block _ (by omega) n1).trans hk2
        have hr := run_endRound (P := P) jump hl3
        have hlt3 := (Array.getElem?_eq_some_iff.1 hl3).1
        have m1 : ¬ O' w.heap.size := fun h => by
          rcases hsub _ h with h | h
          · exact n1 h
          · omega
        have m2 : ¬ O' (w.heap.size + 1) := fun h => by
          rcases hsub _ h with h | h
          · exact n2 h
          · omega
        refine ⟨_, hr, CellsKept.putObj _ hl3 rfl, ?_, (World.putObj_heap_other (by omega)).trans hk3, m1, m2, ?_, ?_, by simp [World.putObj]⟩
        · have := World.putObj_heap_same (o := Obj.loop { ({ rec .ready none with state := .busy } : Loop) with state := if jump.isNone then .ready else .done, pending := jump }) hlt3
          rw [this, hrec]
        · have a1 : Touch O W Wa := hta.mono (fun i _ h => h.elim)
          have a2 : Touch O W Wb := a1.step htb (fun i e => .inl ((hO i).2 (.inr (.inr e))))
          have a3 : Touch O W W3 := a2.step ht3 (fun i e => .inl ((hO i).2 (.inl e)))
          exact a3.putObj (.inl ((hO _).2 (.inr (.inr rfl)))) _
        · exact (Touch.refl _ _).putObj (.inl ⟨by omega, m2⟩) _
      have book : ∀ {O' : Nat → Prop} {W3 W4 : World}, (∀ b, O' b → O1 b ∨ (Wb.heap.size ≤ b ∧ b < W3.heap.size)) → W3.heap.size ≤ W4.heap.size → ∀ b, (O' b ∨ b = w.heap.size ∨ b = w.heap.size + 1) → O b ∨ (W.heap.size ≤ b ∧ b < W4.heap.size) := by
        intro O' W3 W4 hsub h34 b hb
        rcases hb with hb | hb
        · rcases hsub b hb with h | h
          · exact .inl ((hO b).2 (.inl h))
          · right; have := hta.size; omega
        · exact .inl ((hO b).2 (.inr hb))
      rintro e a3 W3 hp
      cases e with
      | normal =>
        obtain ⟨O', ht3, hsub, hkp, hi3⟩ := hp
        obtain ⟨W4, hr, hck, hl4, hk4, m1, m2, ht4, hab, h34⟩ := fin none W3 O' ht3 hsub
        exact ⟨_, _, hr, fun b => O' b ∨ b = w.heap.size ∨ b = w.heap.size + 1, ht4, book hsub h34, .inl ⟨rfl, ⟨O', hI _ _ _ _ hi3 (hAbT _ _ _ _ hab), fun b => Iff.rfl, m1, m2, hl4, hk4⟩, hKp _ _ _ _ hckb hkp hck⟩⟩
      | ret =>
        obtain ⟨O', ht3, hsub, hi3⟩ := hp
        obtain ⟨W4, hr, hck, hl4, hk4, m1, m2, ht4, hab, h34⟩ := fin (some .ret) W3 O' ht3 hsub
        exact ⟨_, _, hr, fun b => O' b ∨ b = w.heap.size ∨ b = w.heap.size + 1, ht4, book hsub h34, .inr ⟨rfl, .ret, O', hIx _ _ _ _ _ hi3 (hAbT _ _ _ _ hab), fun b => Iff.rfl, m1, m2, hl4, hk4⟩⟩
      | exit id =>
        obtain ⟨O', ht3, hsub, hi3⟩ := hp
        obtain ⟨W4, hr, hck, hl4, hk4, m1, m2, ht4, hab, h34⟩ := fin (some (.exit id)) W3 O' ht3 hsub
        exact ⟨_, _, hr, fun b => O' b ∨ b = w.heap.size ∨ b = w.heap.size + 1, ht4, book hsub h34, .inr ⟨rfl, .exit id, O', hIx _ _ _ _ _ hi3 (hAbT _ _ _ _ hab), fun b => Iff.rfl, m1, m2, hl4, hk4⟩⟩
      | goto t =>
        obtain ⟨O', ht3, hsub, hi3⟩ := hp
        obtain ⟨W4, hr, hck, hl4, hk4, m1, m2, ht4, hab, h34⟩ := fin (some (.goto t)) W3 O' ht3 hsub
        exact ⟨_, _, hr, fun b => O' b ∨ b = w.heap.size ∨ b = w.heap.size + 1, ht4, book hsub h34, .inr ⟨rfl, .goto t, O', hIx _ _ _ _ _ hi3 (hAbT _ _ _ _ hab), fun b => Iff.rfl, m1, m2, hl4, hk4⟩⟩
      | panic ch => exact hp.elim
      | outgrown => exact hp.elim
    · -- behind the iterator
      rintro e W2 ⟨⟨v, rfl⟩, O2, (⟨O1, hi, hO, n1, n2, hl, hk⟩ | ⟨pre, hpre, c, O1, hi, hO, n1, n2, hl, hk⟩)⟩
      · refine ⟨none, _, by have := run_endLoop (P := P) hl (by rw [hrec]; simp); rw [hrec] at this; exact this, hdone _ O1 _ (Nat.le_refl _) n1 (hI _ _ _ _ hi (hAbT _ _ _ _ ((Touch.refl _ _).putObj (.inl ⟨by omega, n2⟩) _))) ((World.putObj_heap_other (by omega)).trans hk)⟩
      · refine ⟨some c, _, by have := run_endLoop (P := P) hl (by rw [hrec]; simp); rw [hrec] at this; exact this, hstop _ c pre O1 _ (Nat.le_refl _) n1 hpre (hIx _ _ _ _ _ hi (hAbT _ _ _ _ ((Touch.refl _ _).putObj (.inl ⟨by omega, n2⟩) _))) ((World.putObj_heap_other (by omega)).trans hk)⟩

/-- The law, where the assignment lays no block. -/
theorem rf_law1 {α : Type} {g : Operand} {ps : Array Tmp} {assign body : Code} {Q : Exit → Act → World → Prop} {a : Act} {w : World} {gf : Nat} {lb : Array Value} (a₁ : α → Act) (hg : a.eval g = .func (.func gf) #[] lb)
    (eg : ∀ args w, (callFunc gf args).run P w = .ok (.enter gf args) w) {encs : α → Array Value} {Ab : Nat → (Nat → Prop) → World → World → Prop} {Kp : World → World → Prop} {xs : List α} {Pr : Nat → Prop}
    (hit : Iter P gf lb encs Ab Kp xs Pr w) (hps : ∀ x, (encs x).size = ps.size)
    (hAbT : ∀ n O A B, AbD n O A B → Ab n O A B) (hAbM : ∀ m n O O' A B, (∀ b, O' b → O b) → m ≤ n → Ab n O A B → Ab m O' A B)
    (hAbO : ∀ n O (A B : World) (k : Nat) (o : Obj), Ab n O A B → O k → A.heap[k]? = some o → o.isCells = false → B.heap[k]? = some o)
    (hKp : ∀ A A' B B', CellsKept A A' → Kp A' B → CellsKept B B' → Kp A B')
    (I : List α → (Nat → Prop) → World → Prop) (Ix : Code → List α → (Nat → Prop) → World → Prop) {O₀ : Nat → Prop} (hPr : ∀ b, Pr b → b < w.heap.size ∧ ¬ O₀ b) (hO₀ : ∀ b, O₀ b → b < w.heap.size)
    (hI : ∀ pre O A B, I pre O A → Ab w.heap.size O A B → I pre O B) (hIx : ∀ c pre O A B, Ix c pre O A → Ab w.heap.size O A B → Ix c pre O B) (h0 : I [] O₀ w)
    (hassign : ∀ (l : Nat) (x : α) (W : World) (K : Act → World → Prop), K (a₁ x) W →
      assign.wpIn (Fence.wide.inRound l) 0 P (Exit.then K (fun _ _ _ => False)) { tmps := (ps.zip (encs x)).foldl (fun t (p, v) => t.setIfInBounds p v) a.tmps, defers := [] } W)
    (hbody : ∀ (l : Nat) (pre : List α) (x : α) (O : Nat → Prop) (W : World), I pre O W → pre ++ [x] <+: xs → body.wpIn (Fence.wide.inRound l) 0 P (rfPost Kp I Ix (pre ++ [x]) O W) (a₁ x) W)
    (hdone : ∀ (D : Nat) (O : Nat → Prop) (W : World), w.heap.size ≤ D → ¬ O D → I xs O W → W.heap[D]? = some (.deferred (some [])) → Q .normal { a with defers := { target := .collected D, args := #[] } :: a.defers } W)
    (hstop : ∀ (D : Nat) (c : Code) (pre : List α) (O : Nat → Prop) (W : World), w.heap.size ≤ D → ¬ O D → pre <+: xs → Ix c pre O W → W.heap[D]? = some (.deferred (some [])) → c.wpIn Fence.wide 0 P Q { a with defers := { target := .collected D, args := #[] } :: a.defers } W) :
    (Code.rangeFunc g ps assign body).wpIn Fence.wide 0 P Q a w :=
  rf_law hg eg hit hps hAbT hAbM hAbO hKp I Ix hPr hO₀ hI hIx h0 (fun x a' _ => a' = a₁ x) (fun _ _ _ _ h _ => h)
    (fun l _ x _ W K _ hK => hassign l x W K (hK _ _ (Touch.refl _ _) rfl)) (fun l pre x a' O W hi e hp => by subst e; exact hbody l pre x O W hi hp) hdone hstop
end Go.Proofs.YtjbmpdibjfcafaaDoor
