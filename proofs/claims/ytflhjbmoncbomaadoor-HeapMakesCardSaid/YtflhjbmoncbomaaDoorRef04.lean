/- The document's answers for addresses, walked. Conditions: none. -/
import Derived.Test.YtflhjbmoncbomaaDoorFind
import Derived.Deep.Cut
namespace Go.Proofs.YtflhjbmoncbomaaDoor
open Go.RowKit Go.Sort

theorem pl_box {W : World} {b : Nat} {t : TypeId} {x y z : Int} (h : W.heap[b]? = some (Obj.cells #[.int .i64 x, .int .i64 y, .int .i64 z] t)) {w' : World} (ht : Touch nob W w') :
    w'.cell? ⟨b, 0, none⟩ = some (.int .i64 x) ∧ w'.cell? ⟨b, 1, none⟩ = some (.int .i64 y) ∧ w'.cell? ⟨b, 2, none⟩ = some (.int .i64 z) := by
  have hb := (Array.getElem?_eq_some_iff.1 h).1
  have e := (ht.block b hb (fun x => x)).trans h
  simp [World.cell?, e]
theorem same_regrown {f : FuncId} {args : Array Value} {v : Value} {W : World} (h : ∀ w, Calls Tryd.prog f args w fun e w' => e = .returned v ∧ w = w') (d : Nat) (os : Array Obj) :
    Calls Tryd.prog f args (grow (redrawn W d) os) fun e w'' => e = .returned v ∧ ∃ p : Regrown, w'' = grow (redrawn W p.d) p.os :=
  (h _).mono fun _ _ h => ⟨h.1, ⟨⟨d, os⟩, h.2.symm⟩⟩

end Go.Proofs.YtflhjbmoncbomaaDoor
