/- How long a slice that comes in may be: by the bytes that it takes. Conditions: none; no program in it. -/
import Derived.Test.YtjbmpdibjfcafaaDoorRep
namespace Go.Proofs.YtjbmpdibjfcafaaDoor
open Go.RowKit

theorem weights_mem {H : Type} {P : Program} : ∀ {ts : List TypeId} {ds : List (DataW H)} {j : Nat} {t : TypeId} {d : DataW H}, ts[j]? = some t → ds[j]? = some d → ∀ x ∈ d.weights P t, x ∈ DataW.weightsEach P ts ds
  | [], _, _, _, _, h, _ => by simp at h
  | _ :: _, [], _, _, _, _, h => by simp at h
  | t' :: ts, d' :: ds, 0, t, d, h1, h2 => fun x hx => by
    simp only [List.getElem?_cons_zero, Option.some.injEq] at h1 h2
    subst h1 h2
    unfold DataW.weightsEach
    exact List.mem_append_left _ hx
  | t' :: ts, d' :: ds, j + 1, t, d, h1, h2 => fun x hx => by
    unfold DataW.weightsEach
    exact List.mem_append_right _ (weights_mem (by simpa using h1) (by simpa using h2) x hx)
theorem reach_rows {H : Type} {P : Program} {ts : List TypeId} {ds : List (DataW H)} (h : (DataW.weightsEach P ts ds).all (· ≤ reachBytes) = true) (j : Nat) {t e : TypeId} {d : DataW H} {rows : List (List Value)} (ht : ts[j]? = some t) (hd : ds[j]? = some d) (hu : P.underlying t = some (.slice e)) (b : Nat) (hb : P.bytesOf e = b)
    (hl : (d = .nil ∧ rows = []) ∨ ∃ es sp, d = .slice es sp ∧ es.length = rows.length) : rows.length * b ≤ reachBytes := by
  rcases hl with ⟨_, rfl⟩ | ⟨es, sp, rfl, hl⟩
  · simp
  · have h1 := weights_mem (P := P) ht hd ((es.length + sp.length) * P.bytesOf e) (by unfold DataW.weights; simp [hu])
    have h2 := List.all_eq_true.1 h _ h1
    rw [hb, hl] at h2
    have h3 : (rows.length + sp.length) * b ≤ reachBytes := of_decide_eq_true h2
    exact Nat.le_trans (Nat.mul_le_mul_right b (Nat.le_add_right _ _)) h3
end Go.Proofs.YtjbmpdibjfcafaaDoor
