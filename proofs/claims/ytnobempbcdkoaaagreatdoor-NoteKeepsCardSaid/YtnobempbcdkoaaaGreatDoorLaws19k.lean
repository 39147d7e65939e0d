/- What noting keeps, in plain words; a buffer's all in a row of its own. Conditions: none beyond what each says. -/
import Derived.Test.YtnobempbcdkoaaaGreatDoorNor
namespace Go.Proofs.YtnobempbcdkoaaaGreatDoor
open Go.RowKit

variable {w w' : World} {A : HA} {c : Cf} {S : HS} {room v : Int} {bs xs : List Int} {up : Bool} {p : Nat} {r : List Value} {t : TypeId} {u : Value}
/-- Painted, or logged, or handed over. -/
def Known (q : HS × List Int × List Int × Bool) (y : Int) : Prop := q.1.colV y = 1 ∨ y ∈ q.2.1 ∨ y ∈ q.2.2.1
theorem pour_inv (hb : ∀ z, z ∈ bs → S.obj z = true) : (∀ z, (pourR S 1 bs xs up).1.obj z = S.obj z) ∧ ∀ y, S.obj y = true → Known (S, bs, xs, up) y → Known (pourR S 1 bs xs up) y := by
  unfold pourR
  by_cases h0 : bs = []
  · rw [if_pos h0]
    subst h0
    exact ⟨fun _ => rfl, fun y _ h => h⟩
  · rw [if_neg h0]
    by_cases h1 : xs = []
    · rw [if_pos h1]
      subst h1
      exact ⟨fun _ => rfl, fun y _ h => h.elim .inl (fun h => h.elim (fun h => .inr (.inr h)) (fun h => by cases h))⟩
    · rw [if_neg h1]
      refine ⟨fun z => paint_obj bs S, fun y hy h => ?_⟩
      have hc := paint_colV (y := y) (col := 1) (.inr rfl) bs S hb hy
      rcases h with h | h | h
      · refine .inl (hc.trans ?_)
        split
        · rfl
        · exact h
      · exact .inl (hc.trans (if_pos h))
      · exact .inr (.inr h)
theorem note_inv (hv : S.obj v = true) (hv0 : v ≠ 0) (hb : ∀ z, z ∈ bs → S.obj z = true) :
    (∀ z, (noteR S v 1 room bs xs up).1.obj z = S.obj z) ∧ (∀ z, z ∈ (noteR S v 1 room bs xs up).2.1 → S.obj z = true) ∧ Known (noteR S v 1 room bs xs up) v ∧ ∀ y, S.obj y = true → Known (S, bs, xs, up) y → Known (noteR S v 1 room bs xs up) y := by
  unfold noteR
  by_cases h1 : v = 0 ∨ S.colE v ≠ 0 ∨ S.colV v = 1
  · rw [if_pos h1]
    refine ⟨fun _ => rfl, hb, ?_, fun _ _ h => h⟩
    rcases h1 with h | h | h
    · exact absurd h hv0
    · exact absurd (by unfold HS.colE; rw [if_pos hv]) h
    · exact .inl h
  · rw [if_neg h1]
    by_cases h2 : (bs.length : Int) < room
    · rw [if_pos h2]
      refine ⟨fun _ => rfl, fun z hz => ?_, .inr (.inl (List.mem_append_right _ (List.mem_singleton.2 rfl))), fun y _ h => h.elim .inl (fun h => .inr (h.imp_left (List.mem_append_left _)))⟩
      rcases List.mem_append.1 hz with h | h
      · exact hb z h
      · rw [List.mem_singleton.1 h]
        exact hv
    · rw [if_neg h2]
      obtain ⟨p1, p2⟩ := pour_inv (xs := xs) (up := up) hb
      refine ⟨p1, fun z hz => ?_, .inr (.inl (List.mem_singleton.2 rfl)), fun y hy h => ?_⟩
      · rw [List.mem_singleton.1 hz]
        exact hv
      · rcases p2 y hy h with h | h | h
        · exact .inl h
        · rw [pourR_nil] at h
          cases h
        · exact .inr (.inr h)
theorem noteK_le : noteK S v 1 room bs xs ≤ bs.length + 4 := by
  unfold noteK pourK
  split
  · omega
  · split
    · omega
    · split
      · omega
      · split
        · omega
        · split <;> omega
theorem row_all3 {xs : List Int} (h : RwAt w p t r u xs) :
    Calls Tryz.prog 65 #[.pointer (some ⟨p, 0, none⟩)] w fun e w' => ∃ v', e = .returned v' ∧ Touch nob w w' ∧ Ow w' w.heap.size v' xs := by
  obtain ⟨c0, f0⟩ := h.cell
  have H := Lib.hid h
  clear h
  go_enter Tryz.func65, Tryz.ntmps65
  go_wp2_with (go_at_call 98; refine (clone_ints _ xs _ (sl_ints H.out.row) (by have := H.out.len; omega)).mono ?_; rintro e w1 ⟨v', rfl, h1, h2⟩)
  go_ret
  exact ⟨v', rfl, h1, h2⟩
theorem buf_All3 (h : BufAt w p room u xs) :
    Calls Tryz.prog 30 #[.pointer (some ⟨p, 0, none⟩)] w fun e w' => ∃ v', e = .returned v' ∧ Touch nob w w' ∧ Ow w' w.heap.size v' xs := by
  go_enter Tryz.func30, Tryz.ntmps30
  go_wp2_with (go_at_call 65; fail)
  refine (row_all3 h).mono ?_
  rintro e w1 ⟨v', rfl, hT, hS⟩
  go_wp2
  go_ret
  exact ⟨v', rfl, hT, hS⟩
/-- A row of one's own grows beside a noter. -/
theorem NtI.row {W : World} {H : Nat → List Nat} {n q f : Nat} {Z Z' : Nat → Prop} (h : NtI Z W A c H n p q f room S bs xs up w) (ht : Touch Z w w') (hZ : ∀ b, Z b → ¬ NoT A p q f b ∧ b ≠ n ∧ W.heap.size ≤ b) (hz' : ∀ b, Z' b → (Z b ∨ w.heap.size ≤ b) ∧ b < w'.heap.size) : NtI Z' W A c H n p q f room S bs xs up w' := by
  obtain ⟨u, h1, h2⟩ := h.buf
  obtain ⟨y, h3, h4⟩ := h.box
  refine ⟨h.hp.touch (h.hp.at'.base.step ht (fun b hb => .inr (hZ b hb).2.2)) ht (fun b hb e => (hZ b e).1 (.inl hb)), ⟨u, h1.touchT ht (fun e => (hZ p e).1 (.inr (.inl rfl))) (fun b hb => (h2 b hb).2), fun b hb => ⟨(h2 b hb).1, fun z => (hz' b z).1.elim (h2 b hb).2 (fun hge => ?_)⟩⟩, ⟨y, h3.touchT ht (fun e => (hZ q e).1 (.inr (.inr (.inl rfl)))) (fun b hb => (h4 b hb).2), fun b hb => ⟨(h4 b hb).1, fun z => (hz' b z).1.elim (h4 b hb).2 (fun hge => ?_)⟩⟩, blk_touch h.fl ht (fun e => (hZ f e).1 (.inr (.inr (.inr rfl)))), blk_touch h.nt ht (fun e => (hZ n e).2.1 rfl), h.no, h.ln, fun b hb => (hz' b hb).2⟩
  · exact Nat.lt_irrefl _ (Nat.lt_of_lt_of_le (h1.row.lt b hb) hge)
  · exact Nat.lt_irrefl _ (Nat.lt_of_lt_of_le (h3.row.lt b hb) hge)
end Go.Proofs.YtnobempbcdkoaaaGreatDoor
