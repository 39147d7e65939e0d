/- Noting, as steps that are done one behind the other. Conditions: none beyond what each says. -/
import Derived.Test.YtnobempbcdkoaaaGreatDoorNos
namespace Go.Proofs.YtnobempbcdkoaaaGreatDoor
open Go.RowKit

variable {W w w' : World} {A : HA} {c : Cf} {S : HS} {H : Nat → List Nat} {n p q f b0 b1 b2 b3 b4 m : Nat} {room v col : Int} {bs xs : List Int} {up fr : Bool} {tv : Value} {I Q : World → Prop} {Z : Nat → Prop}
/-- What a noter's steps may turn. -/
def NoT (A : HA) (p q f : Nat) : Nat → Prop := fun k => HT A k ∨ k = p ∨ k = q ∨ k = f
/-- A noter, its heap, buffer, box and flag. -/
structure NtI (Z : Nat → Prop) (W : World) (A : HA) (c : Cf) (H : Nat → List Nat) (n p q f : Nat) (room : Int) (S : HS) (bs xs : List Int) (up : Bool) (w : World) : Prop where
  hp : HpI W w A c S H
  buf : ∃ u, BufAt w p room u bs ∧ ∀ b, u.ownBlock = some b → b ∉ A.all ∧ ¬ Z b
  box : ∃ y, BoxAt w q y xs ∧ ∀ b, y.ownBlock = some b → b ∉ A.all ∧ ¬ Z b
  fl : w.heap[f]? = some (Obj.cells #[.bool up] 121)
  nt : NtB w n A.h p q f
  no : ∀ b, (b = n ∨ b = p ∨ b = q ∨ b = f) → b ∉ A.all ∧ W.heap.size ≤ b
  ln : bs.length ≤ room ∧ room ≤ 256 ∧ 1 ≤ room
  zl : ∀ b, Z b → b < w.heap.size
theorem NtI.lt (h : NtI Z W A c H n p q f room S bs xs up w) {b : Nat} (hb : w.heap.size ≤ b) : b ∉ A.all := fun hm => Nat.lt_irrefl _ (Nat.lt_of_lt_of_le (h.hp.at'.lt b hm) hb)
theorem NtI.lt2 (h : NtI Z W A c H n p q f room S bs xs up w) {b : Nat} (hb : w.heap.size ≤ b) : b ∉ A.all ∧ ¬ Z b := ⟨h.lt hb, fun hz => Nat.lt_irrefl _ (Nat.lt_of_lt_of_le (h.zl b hz) hb)⟩
theorem NtI.old (h : NtI Z W A c H n p q f room S bs xs up w) (ht : Touch nob w w') : NtI Z W A c H n p q f room S bs xs up w' := by
  obtain ⟨u, h1, h2⟩ := h.buf
  obtain ⟨y, h3, h4⟩ := h.box
  exact ⟨h.hp.old ht, ⟨u, h1.old ht, h2⟩, ⟨y, h3.old ht, h4⟩, blk_touch h.fl ht (fun x => x), blk_touch h.nt ht (fun x => x), h.no, h.ln, fun b hb => Nat.lt_of_lt_of_le (h.zl b hb) ht.size⟩
theorem nt_p (h : NtI Z W A c H n p q f room S bs xs up w) : n ≠ p ∧ n ≠ q ∧ n ≠ f ∧ p ≠ q ∧ p ≠ f ∧ q ≠ f := by
  obtain ⟨u, h1, -⟩ := h.buf
  obtain ⟨y, h3, -⟩ := h.box
  refine ⟨fun e => ?_, fun e => ?_, fun e => ?_, buf_ne h1 h3, fun e => ?_, fun e => ?_⟩
  · have := h.nt.symm.trans (e ▸ h1.box); simp at this
  · have := h.nt.symm.trans (e ▸ h3.box); simp at this
  · have := h.nt.symm.trans (e ▸ h.fl); simp at this
  · have := h1.box.symm.trans (e ▸ h.fl); simp at this
  · have := h3.box.symm.trans (e ▸ h.fl); simp at this
/-- The buffer is laid anew. -/
theorem NtI.buf' {u' : Value} {bs' : List Int} (h : NtI Z W A c H n p q f room S bs xs up w) (ht : Touch (fun b => b = p) w w') (hb : BufAt w' p room u' bs') (hu : ∀ b, u'.ownBlock = some b → b ∉ A.all ∧ ¬ Z b) (hl : bs'.length ≤ room) : NtI Z W A c H n p q f room S bs' xs up w' := by
  obtain ⟨k1, k2, k3, k4, k5, k6⟩ := nt_p h
  obtain ⟨u, h1, h2⟩ := h.buf
  obtain ⟨y, h3, h4⟩ := h.box
  exact ⟨h.hp.touch (h.hp.at'.base.step ht (fun b hb => .inr ((show b = p from hb) ▸ (h.no p (.inr (.inl rfl))).2))) ht (fun b hb e => (h.no p (.inr (.inl rfl))).1 ((show b = p from e) ▸ hb)), ⟨u', hb, hu⟩, ⟨y, ⟨blk_touch h3.box ht (fun e => k4 e.symm), h3.row.touch ht (fun b hb e => h3.row.ne h1.box h1.ty b hb e), h3.ty, h3.len⟩, h4⟩, blk_touch h.fl ht (fun e => k5 e.symm), blk_touch h.nt ht k1, h.no, ⟨hl, h.ln.2⟩, fun b hb => Nat.lt_of_lt_of_le (h.zl b hb) ht.size⟩
/-- A box of a step's own: it stays. -/
theorem keep1 {b : Nat} {x : Value} {t : TypeId} (h : NtI Z W A c H n p q f room S bs xs up w) (hb : w.heap[b]? = some (Obj.cells #[x] t)) (hA : b ∉ A.all) (ht : t ≠ 128 ∧ t ≠ 130 ∧ t ≠ 121) : ¬ NoT A p q f b := by
  obtain ⟨u, h1, -⟩ := h.buf
  obtain ⟨y, h3, -⟩ := h.box
  rintro (e | e | e | e)
  · exact hA e
  · exact one_ne hb h1.box (.inr ht.1) e
  · exact one_ne hb h3.box (.inr ht.2.1) e
  · exact one_ne hb h.fl (.inr ht.2.2) e
def paintL (S : HS) (col : Int) (l : List Int) : HS := l.foldl (fun S x => S.paiS x col) S
def freshL (S : HS) (col : Int) : List Int → Bool
  | [] => false
  | x :: r => S.paiV x col || freshL (S.paiS x col) col r
theorem paiS_len (x : Int) : (S.paiS x col).s = S.s := by unfold HS.paiS; split <;> rfl
/-- Painting goes on till the buffer is empty; then the flag is raised, if something was painted. -/
theorem does_paint (ht : SV tv) : ∀ (bs : List Int) (S : HS) (fr : Bool) (w : World) (b0 b1 b2 b3 : Nat), bs ≠ [] → NtI Z W A c H n p q f room S bs xs up w → BxN w b0 n → BxI w b1 col → BxB w b2 fr → BxS w b3 tv → (∀ b, (b = b0 ∨ b = b1 ∨ b = b2 ∨ b = b3) → b ∉ A.all) →
    (∀ w', Touch (NoT A p q f) w w' → (∃ up, w'.heap[f]? = some (Obj.cells #[.bool up] 121)) → I w') →
    (∀ w', Touch (NoT A p q f) w w' → NtI Z W A c H n p q f room (paintL S col bs) [] xs (up || fr || freshL S col bs) w' → Does Tryz.prog I Q m tv w') →
    Does Tryz.prog I Q (m + (bs.length + if (fr || freshL S col bs) = true then 1 else 0)) (.func (.func 111) #[] #[pt b0, pt b1, pt b2, pt b3]) w
  | [], _, _, _, _, _, _, _, h => absurd rfl h
  | x :: r, S, fr, w, b0, b1, b2, b3, _ => fun hN k0 k1 k2 k3 hA hI hthen => by
    obtain ⟨u, hb, hu⟩ := hN.buf
    obtain ⟨y, hx, hy⟩ := hN.box
    rw [show m + ((x :: r).length + if (fr || freshL S col (x :: r)) = true then 1 else 0) = (m + (r.length + if (fr || freshL S col (x :: r)) = true then 1 else 0)) + 1 by simp; omega]
    refine ⟨hI w (Touch.refl _ _) ⟨_, hN.fl⟩, _, _, rfl, enters_of Tryz.func111 (by kernel_rfl) rfl, ?_⟩
    refine (note_paint1 hN.hp k0 k1 k2 k3 ht hN.nt hb ?_ (hN.no p (.inr (.inl rfl))).2).mono ?_
    · rintro b (e | e | e | e | e | e | e)
      · exact hA b (.inl e)
      · exact hA b (.inr (.inl e))
      · exact hA b (.inr (.inr (.inl e)))
      · exact hA b (.inr (.inr (.inr e)))
      · exact (hN.no b (.inl e)).1
      · exact (hN.no b (.inr (.inl e))).1
      · exact (hu b e).1
    · rintro e w1 ⟨t1, h1, ⟨u1, hb1, hs1⟩, hcase⟩
      obtain ⟨j1, j2, j3, j4, j5, j6⟩ := nt_p hN
      have tN : Touch (NoT A p q f) w w1 := t1.mono fun b _ e => e.elim (fun x => Or.inl x) (fun x => Or.inr (.inl x))
      have nP : ∀ b, b ∉ A.all → b ≠ p → ¬ PnT A p b := fun b h1 h2 x => x.elim h1 h2
      have hN1 : NtI Z W A c H n p q f room (S.paiS x col) r xs up w1 := by
        refine ⟨h1, ⟨u1, hb1, fun b hb => (hs1 b hb).elim (hu b) hN.lt2⟩, ⟨y, hx.touchT t1 (nP _ (hN.no q (.inr (.inr (.inl rfl)))).1 (fun e => j4 e.symm)) (fun b hk => nP b (hy b hk).1 (hx.row.ne hb.box hb.ty b hk)), hy⟩, ?_, ?_, hN.no, ?_, fun b hb => Nat.lt_of_lt_of_le (hN.zl b hb) t1.size⟩
        · exact blk_touch hN.fl t1 (nP _ (hN.no f (.inr (.inr (.inr rfl)))).1 (fun e => j5 e.symm))
        · exact blk_touch hN.nt t1 (nP _ (hN.no n (.inl rfl)).1 j1)
        · have := hN.ln
          simp only [List.length_cons] at this
          omega
      have hI1 : ∀ w', Touch (NoT A p q f) w1 w' → (∃ up, w'.heap[f]? = some (Obj.cells #[.bool up] 121)) → I w' := fun w' h => hI w' (tN.trans h)
      have hpl : paintL S col (x :: r) = paintL (S.paiS x col) col r := rfl
      have hfl : freshL S col (x :: r) = (S.paiV x col || freshL (S.paiS x col) col r) := rfl
      rcases hcase with ⟨hr, b, rfl, hb, z0, z1, z2, z3⟩ | ⟨hr, hf, rfl⟩ | ⟨hr, hf, rfl⟩
      · refine ⟨_, rfl, ?_⟩
        have hbA : ∀ k, w.heap.size ≤ k → k ∉ A.all := fun k hk => hN.lt hk
        have e : (fr || freshL S col (x :: r)) = ((fr || S.paiV x col) || freshL (S.paiS x col) col r) := by rw [hfl, Bool.or_assoc]
        rw [e]
        refine does_paint ht r (S.paiS x col) (fr || S.paiV x col) w1 b (b + 1) (b + 1 + 1) (b + 1 + 1 + 1) hr hN1 z0 z1 z2 z3 ?_ hI1 ?_
        · rintro k (e | e | e | e) <;> exact hbA k (by omega)
        · intro w' h hN'
          refine hthen w' (tN.trans h) ?_
          rw [hpl]
          have e2 : (up || fr || freshL S col (x :: r)) = (up || (fr || S.paiV x col) || freshL (S.paiS x col) col r) := by rw [hfl]; simp [Bool.or_assoc]
          rw [e2]
          exact hN'
      · subst hr
        refine ⟨_, rfl, ?_⟩
        have e : (fr || freshL S col [x]) = true := by rw [hfl]; unfold freshL; rw [Bool.or_false]; exact hf
        rw [e, if_pos rfl]
        refine ⟨hI1 w1 (Touch.refl _ _) ⟨_, hN1.fl⟩, _, _, rfl, enters_of Tryz.func113 (by kernel_rfl) rfl, ?_⟩
        have z0 := blk_touch k0 tN (keep1 hN k0 (hA b0 (.inl rfl)) (by decide))
        have z3 := blk_touch k3 tN (keep1 hN k3 (hA b3 (.inr (.inr (.inr rfl)))) (by decide))
        refine (note_raise z0 z3 hN1.nt hN1.fl).mono ?_
        rintro e w2 ⟨rfl, t2, h2⟩
        refine ⟨tv, rfl, ?_⟩
        have t2N : Touch (NoT A p q f) w1 w2 := t2.mono fun b _ e => Or.inr (.inr (.inr e))
        refine hthen w2 (tN.trans t2N) ?_
        rw [hpl, Bool.or_assoc, hfl]
        have ef : (up || (fr || (S.paiV x col || freshL (S.paiS x col) col []))) = true := by
          unfold freshL
          rw [Bool.or_false, hf, Bool.or_true]
        rw [ef]
        obtain ⟨u2, hb2, hu2⟩ := hN1.buf
        obtain ⟨y2, hx2, hy2⟩ := hN1.box
        have nF : ∀ b, b ∉ A.all → b ≠ f → ¬ b = f := fun b _ h => h
        exact ⟨hN1.hp.touch (hN1.hp.at'.base.step t2 (fun b hb => .inr ((show b = f from hb) ▸ (hN.no f (.inr (.inr (.inr rfl)))).2))) t2 (fun b hb e => (hN.no f (.inr (.inr (.inr rfl)))).1 ((show b = f from e) ▸ hb)), ⟨u2, hb2.touchT t2 j5 (fun b hk => hb2.row.ne hN1.fl (by decide) b hk), hu2⟩, ⟨y2, hx2.touchT t2 j6 (fun b hk => hx2.row.ne hN1.fl (by decide) b hk), hy2⟩, h2, blk_touch hN1.nt t2 j3, hN.no, hN1.ln, fun b hb => Nat.lt_of_lt_of_le (hN1.zl b hb) t2.size⟩
      · subst hr
        refine ⟨_, rfl, ?_⟩
        have e : (fr || freshL S col [x]) = false := by rw [hfl]; unfold freshL; rw [Bool.or_false]; exact hf
        rw [e, if_neg (by simp)]
        refine hthen w1 tN ?_
        rw [hpl, Bool.or_assoc, e, Bool.or_false]
        exact hN1
/-- What a pour leaves, in how many steps. -/
def pourR (S : HS) (col : Int) (bs xs : List Int) (up : Bool) : HS × List Int × List Int × Bool := if bs = [] then (S, [], xs, up) else if xs = [] then (S, [], bs, up) else (paintL S col bs, [], xs, up || freshL S col bs)
def pourK (S : HS) (col : Int) (bs xs : List Int) : Nat := if bs = [] then 0 else if xs = [] then 1 else bs.length + (if freshL S col bs = true then 1 else 0) + 1
abbrev NtR (Z : Nat → Prop) (W : World) (A : HA) (c : Cf) (H : Nat → List Nat) (n p q f : Nat) (room : Int) (r : HS × List Int × List Int × Bool) (w : World) : Prop := NtI Z W A c H n p q f room r.1 r.2.1 r.2.2.1 r.2.2.2 w
theorem does_pour1 (ht : SV tv) (hbs : bs ≠ []) (hN : NtI Z W A c H n p q f room S bs xs up w) (k0 : BxN w b0 n) (k1 : BxS w b1 tv) (k2 : BxI w b2 col) 
    (hI : ∀ w', Touch (NoT A p q f) w w' → (∃ up, w'.heap[f]? = some (Obj.cells #[.bool up] 121)) → I w')
    (hthen : ∀ w', Touch (NoT A p q f) w w' → NtR Z W A c H n p q f room (pourR S col bs xs up) w' → Does Tryz.prog I Q m tv w') :
    Does Tryz.prog I Q (m + pourK S col bs xs) (.func (.func 72) #[] #[pt b0, pt b1, pt b2]) w := by
  obtain ⟨u, hb, hu⟩ := hN.buf
  obtain ⟨y, hx, hy⟩ := hN.box
  obtain ⟨j1, j2, j3, j4, j5, j6⟩ := nt_p hN
  have enter := enters_of (P := Tryz.prog) Tryz.func72 (by kernel_rfl) rfl
  unfold pourK
  rw [if_neg hbs]
  by_cases hx0 : xs = []
  · rw [if_pos hx0]
    refine ⟨hI w (Touch.refl _ _) ⟨_, hN.fl⟩, _, _, rfl, enter, ?_⟩
    refine (note_pour1 k0 k1 k2 ht hN.nt hb hx).mono ?_
    rintro e w1 (⟨-, rfl, t1, u', h1, h2, h3⟩ | ⟨h, _⟩)
    · refine ⟨tv, rfl, ?_⟩
      have tN : Touch (NoT A p q f) w w1 := t1.mono fun b _ e => e.elim (fun x => Or.inr (.inl x)) (fun x => Or.inr (.inr (.inl x)))
      refine hthen w1 tN ?_
      unfold pourR
      rw [if_neg hbs, if_pos hx0]
      have nP : ∀ b, b ∉ A.all ∨ True → b ≠ p → b ≠ q → ¬ (b = p ∨ b = q) := fun b _ h1 h2 x => x.elim h1 h2
      refine ⟨hN.hp.touch (hN.hp.at'.base.step t1 (fun b hb => .inr (hb.elim (fun e => e ▸ (hN.no p (.inr (.inl rfl))).2) (fun e => e ▸ (hN.no q (.inr (.inr (.inl rfl)))).2)))) t1 (fun b hb e => e.elim (fun e => (hN.no p (.inr (.inl rfl))).1 (e ▸ hb)) (fun e => (hN.no q (.inr (.inr (.inl rfl)))).1 (e ▸ hb))), ⟨_, h1, fun b hb => (by cases hb)⟩, ⟨u', h2, fun b hb => (h3 b hb).elim (fun h => (by cases h)) hN.lt2⟩, ?_, ?_, hN.no, ?_, fun b hb => Nat.lt_of_lt_of_le (hN.zl b hb) t1.size⟩
      · exact blk_touch hN.fl t1 (nP _ (.inr trivial) (fun e => j5 e.symm) (fun e => j6 e.symm))
      · exact blk_touch hN.nt t1 (nP _ (.inr trivial) j1 j2)
      · have := hN.ln
        simp only [List.length_nil]
        omega
    · exact absurd hx0 h
  · rw [if_neg hx0, ← Nat.add_assoc]
    refine ⟨hI w (Touch.refl _ _) ⟨_, hN.fl⟩, _, _, rfl, enter, ?_⟩
    refine (note_pour1 k0 k1 k2 ht hN.nt hb hx).mono ?_
    rintro e w1 (⟨h, _⟩ | ⟨-, t1, b, rfl, hb1, z0, z1, z2, z3⟩)
    · exact absurd h hx0
    · refine ⟨_, rfl, ?_⟩
      have tN : Touch (NoT A p q f) w w1 := t1.mono fun b _ e => e.elim
      have hg := does_paint (m := m) (I := I) (Q := Q) ht bs S false w1 b (b + 1) (b + 1 + 1) (b + 1 + 1 + 1) hbs (hN.old t1) z0 z1 z2 z3 (by rintro k (e | e | e | e) <;> exact hN.lt (by omega)) (fun w' h => hI w' (tN.trans h)) (fun w' h hN' => by
        refine hthen w' (tN.trans h) ?_
        unfold pourR
        rw [if_neg hbs, if_neg hx0]
        rw [Bool.or_false] at hN'
        exact hN')
      rw [Bool.false_or] at hg
      exact hg
theorem does_pour (ht : SV tv) (hN : NtI Z W A c H n p q f room S bs xs up w) 
    (hI : ∀ w', Touch (NoT A p q f) w w' → (∃ up, w'.heap[f]? = some (Obj.cells #[.bool up] 121)) → I w')
    (hthen : ∀ w', Touch (NoT A p q f) w w' → NtR Z W A c H n p q f room (pourR S col bs xs up) w' → Does Tryz.prog I Q m tv w') :
    Calls Tryz.prog 43 #[pt n, .int .i64 col, tv] w fun e w' => ∃ sv, e = .returned sv ∧ Touch nob w w' ∧ Does Tryz.prog I Q (m + pourK S col bs xs) sv w' := by
  obtain ⟨u, hb, hu⟩ := hN.buf
  refine (note_Pour col tv ht hN.nt hb).mono ?_
  rintro e w1 ⟨t1, h⟩
  have tN : Touch (NoT A p q f) w w1 := t1.mono fun b _ e => e.elim
  rcases h with ⟨hx, rfl⟩ | ⟨hx, b, rfl, hb1, z0, z1, z2⟩
  · refine ⟨tv, rfl, t1, ?_⟩
    unfold pourK
    rw [if_pos hx]
    refine hthen w1 tN ?_
    unfold pourR
    rw [if_pos hx]
    have := hN.old t1
    rw [hx] at this
    exact this
  · exact ⟨_, rfl, t1, does_pour1 ht hx (hN.old t1) z0 z2 z1 (fun w' h => hI w' (tN.trans h)) (fun w' h hN' => hthen w' (tN.trans h) hN')⟩
/-- What a note leaves, in how many steps. -/
def noteR (S : HS) (v col room : Int) (bs xs : List Int) (up : Bool) : HS × List Int × List Int × Bool :=
  if v = 0 ∨ S.colE v ≠ 0 ∨ S.colV v = col then (S, bs, xs, up) else if (bs.length : Int) < room then (S, bs ++ [v], xs, up) else ((pourR S col bs xs up).1, [v], (pourR S col bs xs up).2.2)
def noteK (S : HS) (v col room : Int) (bs xs : List Int) : Nat :=
  if v = 0 then 0 else if S.colE v ≠ 0 ∨ S.colV v = col ∨ (bs.length : Int) < room then 1 else 2 + pourK S col bs xs
theorem pourR_nil : (pourR S col bs xs up).2.1 = [] := by unfold pourR; split <;> (try rfl); split <;> rfl
theorem does_note (ht : SV tv) (hN : NtI Z W A c H n p q f room S bs xs up w)
    (hI : ∀ w', Touch (NoT A p q f) w w' → (∃ up, w'.heap[f]? = some (Obj.cells #[.bool up] 121)) → I w')
    (hthen : ∀ w', Touch (NoT A p q f) w w' → NtR Z W A c H n p q f room (noteR S v col room bs xs up) w' → Does Tryz.prog I Q m tv w') :
    Calls Tryz.prog 32 #[pt n, .int .i64 v, .int .i64 col, tv] w fun e w' => ∃ sv, e = .returned sv ∧ Touch nob w w' ∧ Does Tryz.prog I Q (m + noteK S v col room bs xs) sv w' := by
  by_cases hv : v = 0
  · subst hv
    refine (note_Note_zero n col tv ht w).mono ?_
    rintro e w1 ⟨rfl, t1⟩
    refine ⟨tv, rfl, t1, ?_⟩
    unfold noteK
    rw [if_pos rfl]
    refine hthen w1 (t1.mono fun b _ e => e.elim) ?_
    unfold noteR
    rw [if_pos (.inl rfl)]
    exact hN.old t1
  · refine (note_Note n v col tv ht (by simpa using hv) w).mono ?_
    rintro e w1 ⟨b, rfl, t1, hb, k0, k1, k2, k3, k4⟩
    refine ⟨_, rfl, t1, ?_⟩
    have tN : Touch (NoT A p q f) w w1 := t1.mono fun b _ e => e.elim
    have hN1 := hN.old t1
    obtain ⟨u, hbu, hu⟩ := hN1.buf
    have hbA : ∀ k, b ≤ k → k ∉ A.all := fun k hk => hN.lt (Nat.le_trans hb hk)
    have hI1 : ∀ w', Touch (NoT A p q f) w1 w' → (∃ up, w'.heap[f]? = some (Obj.cells #[.bool up] 121)) → I w' := fun w' h => hI w' (tN.trans h)
    -- the step that adds
    have hadd : ∀ (w2 : World) (r : HS × List Int × List Int × Bool), Touch (NoT A p q f) w1 w2 → NtR Z W A c H n p q f room r w2 → (r.2.1.length : Int) < room → (∀ w', Touch (NoT A p q f) w1 w' → NtR Z W A c H n p q f room (r.1, r.2.1 ++ [v], r.2.2) w' → Does Tryz.prog I Q m tv w') →
        Does Tryz.prog I Q (m + 1) (.func (.func 66) #[] #[pt b, pt (b + 1), pt (b + 1 + 1 + 1)]) w2 := by
      rintro w2 ⟨S2, bs2, xs2, up2⟩ t2 hN2 hl2 hth
      have hN2 : NtI Z W A c H n p q f room S2 bs2 xs2 up2 w2 := hN2
      have hl2 : (bs2.length : Int) < room := hl2
      obtain ⟨u2, hb2, hu2⟩ := hN2.buf
      have z0 := blk_touch k0 t2 (keep1 hN1 k0 (hbA _ (Nat.le_refl _)) (by decide))
      have z1 := blk_touch k1 t2 (keep1 hN1 k1 (hbA _ (by omega)) (by decide))
      have z3 := blk_touch k3 t2 (keep1 hN1 k3 (hbA _ (by omega)) (by decide))
      refine ⟨hI1 w2 t2 ⟨_, hN2.fl⟩, _, _, rfl, enters_of Tryz.func66 (by kernel_rfl) rfl, ?_⟩
      have hln := hN2.ln
      refine (note_add z0 z1 z3 hN2.nt hb2 (by simp; omega) (by omega)).mono ?_
      rintro e w3 ⟨rfl, t3, u3, hb3, hs3⟩
      refine ⟨tv, rfl, hth w3 (t2.trans (t3.mono fun b _ e => Or.inr (.inl e))) ?_⟩
      exact hN2.buf' t3 hb3 (fun b hb => (hs3 b hb).elim (hu2 b) hN2.lt2) (by rw [List.length_append, List.length_singleton]; omega)
    have enter := enters_of (P := Tryz.prog) Tryz.func67 (by kernel_rfl) rfl
    have hstep := note_two hN1.hp k0 k1 k2 k3 k4 hN1.nt hbu hN1.ln
    by_cases hc : S.colE v ≠ 0 ∨ S.colV v = col
    · unfold noteK
      rw [if_neg hv, if_pos (hc.imp_right .inl)]
      refine ⟨hI1 w1 (Touch.refl _ _) ⟨_, hN1.fl⟩, _, _, rfl, enter, ?_⟩
      refine hstep.mono ?_
      rintro e w2 (⟨-, rfl, t2⟩ | ⟨⟨h1, h2⟩, _⟩ | ⟨⟨h1, h2⟩, _⟩)
      · refine ⟨tv, rfl, hthen w2 (tN.trans (t2.mono fun b _ e => e.elim)) ?_⟩
        unfold noteR
        rw [if_pos (.inr hc)]
        exact hN1.old t2
      · exact (hc.elim (fun h => h h1) h2).elim
      · exact (hc.elim (fun h => h h1) h2).elim
    · have hc0 : ¬ (v = 0 ∨ S.colE v ≠ 0 ∨ S.colV v = col) := fun h => h.elim hv hc
      by_cases hl : (bs.length : Int) < room
      · unfold noteK
        rw [if_neg hv, if_pos (.inr (.inr hl))]
        refine ⟨hI1 w1 (Touch.refl _ _) ⟨_, hN1.fl⟩, _, _, rfl, enter, ?_⟩
        refine hstep.mono ?_
        rintro e w2 (⟨h, _⟩ | ⟨-, -, rfl, t2, u2, hb2, hs2⟩ | ⟨-, h, _⟩)
        · exact absurd h hc
        · refine ⟨tv, rfl, hthen w2 (tN.trans (t2.mono fun b _ e => Or.inr (.inl e))) ?_⟩
          unfold noteR
          rw [if_neg hc0, if_pos hl]
          exact hN1.buf' t2 hb2 (fun b hb => (hs2 b hb).elim (hu b) hN1.lt2) (by rw [List.length_append, List.length_singleton]; omega)
        · omega
      · have hbs : bs ≠ [] := fun e => by
          rw [e, List.length_nil] at hl
          have := hN.ln
          omega
        unfold noteK
        rw [if_neg hv, if_neg (fun h => h.elim (fun h => hc (.inl h)) (fun h => h.elim (fun h => hc (.inr h)) hl))]
        rw [show m + (2 + pourK S col bs xs) = (m + 1 + pourK S col bs xs) + 1 by omega]
        refine ⟨hI1 w1 (Touch.refl _ _) ⟨_, hN1.fl⟩, _, _, rfl, enter, ?_⟩
        refine hstep.mono ?_
        rintro e w2 (⟨h, _⟩ | ⟨-, h, _⟩ | ⟨-, -, t2, b', rfl, hb', z0, z1, z2⟩)
        · exact absurd h hc
        · exact absurd h hl
        · have t2N : Touch (NoT A p q f) w1 w2 := t2.mono fun b _ e => e.elim
          refine ⟨_, rfl, does_pour1 (.inr ⟨_, _, rfl⟩) hbs (hN1.old t2) z0 z2 z1 (fun w' h => hI1 w' (t2N.trans h)) (fun w' h hN' => ?_)⟩
          refine hadd w' _ (t2N.trans h) hN' (by rw [pourR_nil, List.length_nil]; have := hN.ln; omega) (fun w'' h'' hN'' => hthen w'' (tN.trans h'') ?_)
          unfold noteR
          rw [if_neg hc0, if_neg hl]
          rw [pourR_nil, List.nil_append] at hN''
          exact hN''
end Go.Proofs.YtnobempbcdkoaaaGreatDoor
