/- A range over a function that fills a row: general lemmas. Conditions: none. -/
import Derived.Test.YtflhjbmoncbomaaGreatDoorProg
import Derived.Test.YtflhjbmoncbomaaGreatDoorRep
import Derived.Test.YtflhjbmoncbomaaGreatDoorRound
import Derived.Shelf.Abstract
import Derived.Shelf.RegionOpen
import Derived.OwnWalkIn
import Derived.TacticsInMore
import Derived.LoopNIn
import Derived.LoopIn
import Derived.WalkLawsBesides
import Derived.Maps.OwnIn
namespace Go.Proofs.YtflhjbmoncbomaaGreatDoor
open Go.RowKit Go.Shelf

theorem abd_touch {S : Nat → Prop} {w A B : World} {n : Nat} {O : Nat → Prop} (h : Touch S w A) (hab : AbD n O A B) (hn : w.heap.size ≤ n) : Touch S w B := h.step hab (fun _ hi => .inr (Nat.le_trans hn hi.1))
theorem abd_block {A B : World} {n k : Nat} {O : Nat → Prop} (hab : AbD n O A B) (hk : k < n) (hA : k < A.heap.size) : B.heap[k]? = A.heap[k]? := hab.block k hA (fun h => by omega)
theorem abd_boxed {A B : World} {n k : Nat} {O : Nat → Prop} {o : Obj} (hab : AbD n O A B) (hk : k < n) (hA : A.heap[k]? = some o) : B.heap[k]? = some o := (abd_block hab hk (Array.getElem?_eq_some_iff.1 hA).1).trans hA
theorem abD_T : ∀ n O A B, AbD n O A B → AbD n O A B := fun _ _ _ _ h => h
theorem abD_M : ∀ (m n : Nat) (O O' : Nat → Prop) (A B : World), (∀ b, O' b → O b) → m ≤ n → AbD n O A B → AbD m O' A B :=
  fun _ _ _ _ _ _ h hm hab => Touch.mono hab (fun _ _ hi => ⟨Nat.le_trans hm hi.1, fun x => hi.2 (h _ x)⟩)
theorem abD_O : ∀ (n : Nat) (O : Nat → Prop) (A B : World) (k : Nat) (o : Obj), AbD n O A B → O k → A.heap[k]? = some o → o.isCells = false → B.heap[k]? = some o :=
  fun _ _ _ _ _ _ hab hO hk _ => (hab.block _ (Array.getElem?_eq_some_iff.1 hk).1 (fun x => x.2 hO)).trans hk

theorem info_int2 : (Tryz.prog.info? 3).map (fun i => (i.zero, i.size, i.bytes)) = some (some (.int .i64 0), 1, 8) := by kernel_rfl
theorem own_shape {w : World} {base n : Nat} {e : TypeId} {v : Value} {zs : List Value} (h : w.ownsRow base e 1 v n zs) : ∃ ao cap, v = .slice ao n cap := by
  rcases h.2 with ⟨rfl, rfl⟩ | ⟨g, cap, cur, rfl, _⟩
  · exact ⟨_, _, rfl⟩
  · exact ⟨_, _, rfl⟩
theorem owns_at {w w' : World} {base n : Nat} {e : TypeId} {v : Value} {zs : List Value} (h : w.ownsRow base e 1 v n zs) (hk : ∀ b, v.ownBlock = some b → b < w.heap.size → w'.heap[b]? = w.heap[b]?) : w'.ownsRow base e 1 v n zs := by
  obtain ⟨h1, h2⟩ := h
  refine ⟨h1, ?_⟩
  rcases h2 with h2 | ⟨g, cap, cur, rfl, hg, hh, r⟩
  · exact .inl h2
  · exact .inr ⟨g, cap, cur, rfl, hg, (hk g rfl (blk_lt hh)).trans hh, r⟩
theorem ints_of_own {w : World} {base n : Nat} {v : Value} {xs : List Nat} (h : w.ownsRow base 3 1 v n (xs.map fun (x : Nat) => Value.int .i64 (x : Int))) : IntsIn w v (xs.map fun (x : Nat) => (x : Int)) := by
  have hn := h.1
  rcases h.2 with ⟨rfl, rfl⟩ | ⟨g, cap, cur, rfl, hg, hh, hc, hc2, hs, ht⟩
  · have : xs = [] := by simpa using hn
    subst this
    exact ⟨none, 0, rfl, .inl rfl⟩
  · have hl : xs.length = n := by simpa using hn
    refine ⟨some ⟨g, 0, none⟩, cap, by simp [hl], .inr ⟨g, 0, rfl, by simpa [hl] using hc, fun j hj => ?_⟩⟩
    simp only [List.length_map] at hj
    have h5 : cur.toList[j]? = some (Value.int .i64 ((xs.getD j 0 : Nat) : Int)) := by
      have h6 : (cur.toList.take n)[j]? = some (Value.int .i64 ((xs.getD j 0 : Nat) : Int)) := by
        rw [show cur.toList.take n = xs.map fun (x : Nat) => Value.int .i64 (x : Int) by simpa using ht, List.getElem?_map, List.getElem?_eq_getElem hj, List.getD_eq_getElem?_getD, List.getElem?_eq_getElem hj]
        rfl
      rwa [List.getElem?_take, if_pos (by omega)] at h6
    have h7 : (xs.map fun (x : Nat) => (x : Int)).getD j 0 = ((xs.getD j 0 : Nat) : Int) := by
      simp [List.getD_eq_getElem?_getD, hj]
    rw [h7]
    simpa [World.cell?, hh] using h5
/-- The row that a range over a function fills: box at b1, base B. -/
def LiRow (B b1 : Nat) (l : List Nat) (v : Value) (A : World) : Prop :=
  A.heap[b1]? = some (Obj.cells #[v] 46) ∧ A.ownsRow B 3 1 v l.length (l.map fun (x : Nat) => Value.int .i64 (x : Int))
theorem grown_box {A A' : World} {row : Option Nat} {b : Nat} {o : Obj} (hg : A.grownBy A' row) (h : A.heap[b]? = some o) (hr : row ≠ some b) : A'.heap[b]? = some o := (hg.block b (blk_lt h) (fun e => hr e.symm)).trans h
theorem LiRow.keep {B b1 : Nat} {l : List Nat} {v : Value} {A A' : World} (h : LiRow B b1 l v A) (hk : ∀ k, k < A.heap.size → (k = b1 ∨ v.ownBlock = some k) → A'.heap[k]? = A.heap[k]?) : LiRow B b1 l v A' :=
  ⟨(hk _ (blk_lt h.1) (.inl rfl)).trans h.1, owns_at h.2 (fun b hb hl => hk b hl (.inr hb))⟩
end Go.Proofs.YtflhjbmoncbomaaGreatDoor
