/- Tables of blocks: what All tells, listed. Conditions: the tables of limits and of sizes read as laid. -/
import Derived.Test.YtflhjbmoncbomaaGreatDoorBlkAll
import Derived.WalkLawsBesides
import Derived.Maps.OwnIn
namespace Go.Proofs.YtflhjbmoncbomaaGreatDoor
open Go.RowKit Go.Shelf
attribute [local go_sem] Oper.semAt_some

def LzRow (B b1 : Nat) (l : List Int) (v : Value) (A : World) : Prop :=
  A.heap[b1]? = some (Obj.cells #[v] 46) ∧ A.ownsRow B 3 1 v l.length (l.map (.int .i64))
theorem LzRow.keep {B b1 : Nat} {l : List Int} {v : Value} {A A' : World} (h : LzRow B b1 l v A) (hk : ∀ k, k < A.heap.size → (k = b1 ∨ v.ownBlock = some k) → A'.heap[k]? = A.heap[k]?) : LzRow B b1 l v A' :=
  ⟨(hk _ (blk_lt h.1) (.inl rfl)).trans h.1, owns_at h.2 (fun b hb hl => hk b hl (.inr hb))⟩
/-- Between two rounds. -/
def LzI (W : World) (n0 n1 : Nat) (most : Int) (pre : List Int) (O : Nat → Prop) (A : World) : Prop :=
  Touch (fun k => k = n1) W A ∧ A.heap[n0]? = some (Obj.cells #[.int .i64 most] 3) ∧ (0 ≤ most → (pre.length : Int) ≤ most) ∧ ∃ v, LzRow W.heap.size (n1) pre v A ∧ ∀ j, O j ↔ (j = n1 ∨ v.ownBlock = some j)
def LzX (W : World) (n1 : Nat) (ys : List Int) (most : Int) (c : Code) (_ : List Int) (O : Nat → Prop) (A : World) : Prop :=
  c = Code.exit 0 ∧ Touch (fun k => k = n1) W A ∧ ∃ v, LzRow W.heap.size (n1) (ys.take most.toNat) v A ∧ ∀ j, O j ↔ (j = n1 ∨ v.ownBlock = some j)
variable {w : World} {p q cap n : Nat} {c : Cf} {ks : List Int}
end Go.Proofs.YtflhjbmoncbomaaGreatDoor
