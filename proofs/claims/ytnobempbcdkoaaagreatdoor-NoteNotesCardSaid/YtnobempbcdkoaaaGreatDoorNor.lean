/- The notes' laws: what painting a list does, in plain words; a step that is the last one. Conditions: none beyond what each says. -/
import Derived.Test.YtnobempbcdkoaaaGreatDoorNob
import Derived.Test.YtnobempbcdkoaaaGreatDoorNop
namespace Go.Proofs.YtnobempbcdkoaaaGreatDoor
open Go.RowKit

variable {W w w' : World} {A : HA} {c : Cf} {S : HS} {H : Nat → List Nat} {n p q f : Nat} {room v col x y : Int} {bs xs F : List Int} {up fr : Bool} {tv : Value} {I Q : World → Prop} {Z : Nat → Prop}
theorem pai_obj : (S.paiS x col).obj y = S.obj y := by unfold HS.paiS; split <;> rfl
theorem obj_may (h : S.obj x = true) : mayB (S.s.ws.length + 1) x = true := by
  unfold HS.obj hasB at h
  exact (Bool.and_eq_true_iff.1 h).1
theorem pai_colV (hx : S.obj x = true) (hy : S.obj y = true) (hc : col = 0 ∨ col = 1) : (S.paiS x col).colV y = if y = x then col else S.colV y := by
  have hb : S.paiB x col = true := by
    unfold HS.paiB
    rw [hx]
    rcases hc with rfl | rfl <;> rfl
  have mx := obj_may hx
  have my := obj_may hy
  have e : (S.paiS x col).colB y = if y = x then decide (col = 1) else S.colB y := by
    unfold HS.paiS
    rw [if_pos hb]
    show hasB (putM S.K (S.s.ws.length + 1) x (decide (col = 1))) (S.s.ws.length + 1) y = _
    unfold HS.colB hasB putM
    rw [my]
    by_cases hxy : y = x
    · subst hxy
      rw [if_pos ⟨mx, rfl⟩, if_pos rfl]
      rfl
    · have : ¬ (mayB (S.s.ws.length + 1) x = true ∧ y.toNat = x.toNat) := fun h => by
        unfold mayB at mx my
        simp only [Bool.and_eq_true, decide_eq_true_eq] at mx my
        have := h.2
        omega
      rw [if_neg this, if_neg hxy]
  unfold HS.colV
  rw [pai_obj, hy, e]
  by_cases hxy : y = x
  · rw [if_pos hxy, if_pos hxy]
    rcases hc with rfl | rfl <;> rfl
  · rw [if_neg hxy, if_neg hxy]
theorem pai_V (hx : S.obj x = true) (hc : col = 0 ∨ col = 1) : S.paiV x col = decide (S.colV x ≠ col) := by
  have hb : S.paiB x col = true := by
    unfold HS.paiB
    rw [hx]
    rcases hc with rfl | rfl <;> rfl
  have mx := obj_may hx
  unfold HS.paiV putB
  rw [hb, mx]
  unfold HS.colV HS.colB hasB
  rw [hx, mx]
  cases S.K x.toNat <;> rcases hc with rfl | rfl <;> rfl
theorem paint_obj : ∀ (l : List Int) (S : HS), (paintL S col l).obj y = S.obj y
  | [], _ => rfl
  | x :: r, S => (paint_obj r (S.paiS x col)).trans pai_obj
theorem paint_colV (hc : col = 0 ∨ col = 1) : ∀ (l : List Int) (S : HS), (∀ x, x ∈ l → S.obj x = true) → S.obj y = true → (paintL S col l).colV y = if y ∈ l then col else S.colV y
  | [], _ => fun _ _ => by simp [paintL]
  | x :: r, S => fun h hy => by
    show (paintL (S.paiS x col) col r).colV y = _
    rw [paint_colV hc r (S.paiS x col) (fun z hz => pai_obj.trans (h z (List.mem_cons_of_mem _ hz))) (pai_obj.trans hy), pai_colV (h x List.mem_cons_self) hy hc]
    by_cases h1 : y ∈ r
    · rw [if_pos h1, if_pos (List.mem_cons_of_mem _ h1)]
    · rw [if_neg h1]
      by_cases h2 : y = x
      · rw [if_pos h2, if_pos (by rw [h2]; exact List.mem_cons_self)]
      · rw [if_neg h2, if_neg (fun h => (List.mem_cons.1 h).elim h2 h1)]
theorem fresh_iff (hc : col = 0 ∨ col = 1) : ∀ (l : List Int) (S : HS), (∀ x, x ∈ l → S.obj x = true) → (freshL S col l = true ↔ ∃ z, z ∈ l ∧ S.colV z ≠ col)
  | [], _ => fun _ => by simp [freshL]
  | x :: r, S => fun h => by
    have hx := h x List.mem_cons_self
    have hr : ∀ z, z ∈ r → S.obj z = true := fun z hz => h z (List.mem_cons_of_mem _ hz)
    unfold freshL
    rw [Bool.or_eq_true, fresh_iff hc r (S.paiS x col) (fun z hz => pai_obj.trans (hr z hz)), pai_V hx hc, decide_eq_true_eq]
    constructor
    · rintro (h1 | ⟨z, hz, h2⟩)
      · exact ⟨x, List.mem_cons_self, h1⟩
      · rw [pai_colV hx (hr z hz) hc] at h2
        by_cases hzx : z = x
        · rw [if_pos hzx] at h2
          exact absurd rfl h2
        · rw [if_neg hzx] at h2
          exact ⟨z, List.mem_cons_of_mem _ hz, h2⟩
    · rintro ⟨z, hz, h2⟩
      by_cases hzx : z = x
      · exact .inl (hzx ▸ h2)
      · refine .inr ⟨z, (List.mem_cons.1 hz).resolve_left hzx, ?_⟩
        rw [pai_colV hx (hr z ((List.mem_cons.1 hz).resolve_left hzx)) hc, if_neg hzx]
        exact h2
/-- What a pour leaves, by what is to be painted anew. -/
theorem pour_plain (hc : col = 0 ∨ col = 1) (hb : ∀ z, z ∈ bs → S.obj z = true) {k : Nat} (hp : PwR S.colV col bs xs.length F k) :
    pourK S col bs xs = k ∧ (pourR S col bs xs up).2.2.2 = (up || decide (F ≠ [])) ∧ (pourR S col bs xs up).2.2.1 = (if xs = [] then bs else xs) ∧ (∀ z, (pourR S col bs xs up).1.obj z = S.obj z) ∧ ∀ z, S.obj z = true → (pourR S col bs xs up).1.colV z = if z ∈ F then col else S.colV z := by
  unfold pourK pourR
  rcases hp with ⟨rfl, rfl, rfl⟩ | ⟨h0, h1, rfl, rfl⟩ | ⟨h0, h1, rfl, h3⟩
  · refine ⟨by simp, by simp, ?_, fun _ => by simp, fun z _ => by simp⟩
    by_cases hx : xs = [] <;> simp [hx]
  · have hx : xs = [] := List.length_eq_zero_iff.1 h1
    subst hx
    exact ⟨by simp [h0], by simp [h0], by simp [h0], fun _ => by simp [h0], fun z _ => by simp [h0]⟩
  · have hx : xs ≠ [] := fun e => h1 (by rw [e]; rfl)
    have hF : freshL S col bs = decide (F ≠ []) := by
      rw [Bool.eq_iff_iff, fresh_iff hc bs S hb, decide_eq_true_eq]
      constructor
      · rintro ⟨z, hz, h2⟩ e
        have := (h3 z).2 ⟨hz, h2⟩
        rw [e] at this
        cases this
      · intro hne
        obtain ⟨z, hz⟩ := List.exists_mem_of_ne_nil F hne
        exact ⟨z, ((h3 z).1 hz).1, ((h3 z).1 hz).2⟩
    rw [if_neg h0, if_neg hx, if_neg h0, if_neg hx, if_neg hx, hF]
    refine ⟨?_, rfl, rfl, fun z => paint_obj bs S, fun z hz => ?_⟩
    · by_cases hf : F = []
      · rw [if_pos hf, if_neg (by simp [hf])]
      · rw [if_neg hf, if_pos (by simp [hf])]
    · rw [paint_colV hc bs S hb hz]
      by_cases h1 : z ∈ bs
      · rw [if_pos h1]
        by_cases h2 : S.colV z = col
        · rw [if_neg (fun h => ((h3 z).1 h).2 h2), h2]
        · rw [if_pos ((h3 z).2 ⟨h1, h2⟩)]
      · rw [if_neg h1, if_neg (fun h => h1 ((h3 z).1 h).1)]
theorem NtI.heap (h : NtI Z W A c H n p q f room S bs xs up w) (ht : Touch (HT A) w w') {S' : HS} (hp : HpI W w' A c S' H) : NtI Z W A c H n p q f room S' bs xs up w' := by
  obtain ⟨u, h1, h2⟩ := h.buf
  obtain ⟨y, h3, h4⟩ := h.box
  exact ⟨hp, ⟨u, h1.touchT ht (h.no p (.inr (.inl rfl))).1 (fun b hb => (h2 b hb).1), h2⟩, ⟨y, h3.touchT ht (h.no q (.inr (.inr (.inl rfl)))).1 (fun b hb => (h4 b hb).1), h4⟩, blk_touch h.fl ht (h.no f (.inr (.inr (.inr rfl)))).1, blk_touch h.nt ht (h.no n (.inl rfl)).1, h.no, h.ln, fun b hb => Nat.lt_of_lt_of_le (h.zl b hb) ht.size⟩
/-- All that is in a buffer, in a row of its own. -/
theorem buf_All2 {p : Nat} {v : Value} (h : BufAt w p room v xs) :
    Calls Tryz.prog 30 #[.pointer (some ⟨p, 0, none⟩)] w fun e w' => ∃ v', e = .returned v' ∧ Touch nob w w' ∧ SlAt w' v' xs ∧ SubB w v' (.slice none 0 0) := by
  go_enter Tryz.func30, Tryz.ntmps30
  go_wp2_with (go_at_call 65; fail)
  refine (row_all h).mono ?_
  rintro e w1 ⟨v', rfl, hT, hS, hB⟩
  go_wp2
  go_ret
  exact ⟨v', rfl, hT, hS, hB⟩
theorem does_once {b : Nat} (hb : BxF w b .nilFunc) (hI : I w) (hQ : Q w) : Does Tryz.prog I Q 1 (.func (.func 71) #[] #[pt b]) w := by
  refine ⟨hI, _, _, rfl, enters_of Tryz.func71 (by kernel_rfl) rfl, (once1_nil b hb).mono ?_⟩
  rintro e w1 ⟨rfl, rfl⟩
  exact ⟨_, rfl, rfl, hI, hQ⟩
/-- Of a step's own: it stays. -/
theorem nt_keep {b : Nat} (h : NtI Z W A c H n p q f room S bs xs up w) (hb : w.heap.size ≤ b) : ¬ NoT A p q f b := by
  obtain ⟨u, h1, -⟩ := h.buf
  obtain ⟨y, h3, -⟩ := h.box
  have l1 := blk_lt h1.box
  have l2 := blk_lt h3.box
  have l3 := blk_lt h.fl
  rintro (e | e | e | e)
  · exact h.lt hb e
  · omega
  · omega
  · omega
end Go.Proofs.YtnobempbcdkoaaaGreatDoor
