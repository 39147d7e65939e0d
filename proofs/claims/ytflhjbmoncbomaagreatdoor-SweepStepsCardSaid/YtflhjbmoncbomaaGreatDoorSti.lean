/- A block is swept slot by slot, while objects are made: plain laws. Conditions: none. -/
import Derived.Test.YtflhjbmoncbomaaGreatDoorSwt
namespace Go.Proofs.YtflhjbmoncbomaaGreatDoor
open Go.RowKit

variable {W w w' wr w1 w2 : World} {O T : Nat → Prop} {m qx n q B i : Nat} {c : Cf} {A : HA} {S S' : HS} {H H' : Nat → List Nat} {b col f a : Int} {p : HS × (Nat → List Nat)} {L br : List Int} {vf vb v4 : Value}
theorem ow_heap0 {v : Value} {xs : List Int} (h : Ow w B v xs) (ht : Touch (HT A) w w') (hA : ∀ b ∈ A.all, b < B) : Ow w' B v xs :=
  h.touch ht (fun g hg hm => by
    have h1 := hA g hm
    have h2 := h.new g hg
    omega)
theorem obj_nat {j : Nat} (hj : j < S.s.ws.length) : S.obj (j + 1) = S.B (j + 1) := by
  unfold HS.obj
  exact hasB_nat hj
/-- What making an object leaves. -/
theorem mak_gone {nn : Nat} (hi : HInv c S H) (hn : (nn : Int) = c.c0) (hc : col = 0 ∨ col = 1) :
    (∀ x, (makS S H c nn f col).gone col x = S.gone col x) ∧ (∀ x, S.obj x = true → (makS S H c nn f col).obj x = true ∧ (makS S H c nn f col).colV x = S.colV x) ∧ (makE S H nn f col = 0 → (makS S H c nn f col).obj (makV S H c nn f col) = true ∧ (makS S H c nn f col).colV (makV S H c nn f col) = col) ∧ (makS S H c nn f col).s.ws.length = S.s.ws.length := by
  by_cases hE : makE S H nn f col = 0
  · obtain ⟨j, k, hv, hk, _, _, g⟩ := mak_facts hi hn hE
    rw [hv]
    generalize makS S H c nn f col = S' at g
    have hl := g.ev.len
    have hB : S.B (j + 1) = false := g.new
    have hBB := g.B
    have hKK := g.K
    have hnn : ∀ y : Nat, (y : Int) = (j : Int) + 1 → y = j + 1 := fun y h => by omega
    have kobj : ∀ x, x ≠ (j : Int) + 1 → S'.obj x = S.obj x := fun x hx => by
      unfold HS.obj hasB
      rw [hl]
      cases hm : mayB (S.s.ws.length + 1) x
      · rfl
      · obtain ⟨y, rfl, _⟩ := may_nat hm
        rw [Int.toNat_natCast, hBB]
        simp only [if_neg (show ¬ y = j + 1 from fun e => hx (by omega))]
    have kcol : ∀ x, x ≠ (j : Int) + 1 → S'.colV x = S.colV x := fun x hx => by
      have : S'.colB x = S.colB x := by
        unfold HS.colB hasB
        rw [hl]
        cases hm : mayB (S.s.ws.length + 1) x
        · rfl
        · obtain ⟨y, rfl, _⟩ := may_nat hm
          rw [Int.toNat_natCast, hKK]
          simp only [if_neg (show ¬ y = j + 1 from fun e => hx (by omega))]
      unfold HS.colV
      rw [kobj x hx, this]
    have hj : j < S.s.ws.length := by
      have := own_bd g.own
      have := hi.len
      omega
    have hj' : j < S'.s.ws.length := by omega
    have o1 : S'.obj ((j : Int) + 1) = true := by
      rw [obj_nat hj', hBB]
      exact if_pos rfl
    have o0 : S.obj ((j : Int) + 1) = false := by rw [obj_nat hj]; exact hB
    have c1 : S'.colV ((j : Int) + 1) = col := by
      rw [colV_bit o1]
      have : S'.colB ((j : Int) + 1) = decide (col = 1) := by
        unfold HS.colB
        rw [hasB_nat hj', hKK]
        exact if_pos rfl
      rw [this]
      rcases hc with rfl | rfl <;> rfl
    refine ⟨fun x => ?_, fun x hx => ?_, fun _ => ⟨o1, c1⟩, hl⟩
    · by_cases e : x = (j : Int) + 1
      · subst e
        unfold HS.gone
        rw [o1, o0, c1]
        simp
      · unfold HS.gone
        rw [kobj x e, kcol x e]
    · have e : x ≠ (j : Int) + 1 := fun e => by rw [e, o0] at hx; cases hx
      exact ⟨by rw [kobj x e]; exact hx, kcol x e⟩
  · have hS : makS S H c nn f col = S := by unfold makS; rw [if_neg hE]
    rw [hS]
    exact ⟨fun _ => rfl, fun x hx => ⟨hx, rfl⟩, fun h => absurd h hE, rfl⟩
/-- Between two slots' turns. -/
structure StI (W wr : World) (A : HA) (c : Cf) (n : Nat) (p : HS × (Nat → List Nat)) (O : Nat → Prop) (m qx q : Nat) (b col : Int) (L : List Int) (B i : Nat) (vf vb : Value) (br : List Int) (S : HS) (H : Nat → List Nat) : Prop where
  hp : HpI W wr A c S H
  rv : Rv wr O m qx c n p.1 p.2
  gn : ∀ x ∈ L.drop i, S.gone col x = p.1.gone col x
  cu : ∃ v, Cu wr A q v (L.drop i) b col ∧ ∀ g, v.ownBlock = some g → B ≤ g ∧ vf.ownBlock ≠ some g ∧ vb.ownBlock ≠ some g
  of' : Ow wr B vf ((L.take i).filter fun x => p.1.gone col x)
  ob : Ow wr B vb br
  bo : ∀ x ∈ br, S.obj x = true ∧ S.colV x = col
  nf : vf.ownBlock ≠ some q
  nb : vb.ownBlock ≠ some q
  nfb : ∀ g, vf.ownBlock = some g → vb.ownBlock ≠ some g
  len : S.s.ws.length ≤ 4096
  hA : ∀ g ∈ A.all, g < B
  hO : ∀ g, O g → g < B
  hq : B ≤ q
  hW : W.heap.size ≤ B
theorem StI.old (h : StI W wr A c n p O m qx q b col L B i vf vb br S H) (ht : Touch nob wr w') : StI W w' A c n p O m qx q b col L B i vf vb br S H :=
  ⟨h.hp.old ht, h.rv.old ht, h.gn, (by obtain ⟨v, h1, h2⟩ := h.cu; exact ⟨v, h1.old ht, h2⟩), h.of'.touch ht (fun _ _ x => x), h.ob.touch ht (fun _ _ x => x), h.bo, h.nf, h.nb, h.nfb, h.len, h.hA, h.hO, h.hq, h.hW⟩
/-- Behind a call of the heap. -/
theorem StI.heap (h : StI W wr A c n p O m qx q b col L B i vf vb br S H) (ap : ∀ g ∈ A.all, ¬ O g) (ht : Touch (HT A) wr w') (hp : HpI W w' A c S' H') (gn : ∀ x, S'.gone col x = S.gone col x) (bo : ∀ x, S.obj x = true → S'.obj x = true ∧ S'.colV x = S.colV x) (hl : S'.s.ws.length = S.s.ws.length) : StI W w' A c n p O m qx q b col L B i vf vb br S' H' :=
  ⟨hp, h.rv.touch ht (fun g hO hA => ap g hA hO), fun x hx => (gn x).trans (h.gn x hx), (by obtain ⟨v, h1, h2⟩ := h.cu; exact ⟨v, h1.heap ht, h2⟩), ow_heap0 h.of' ht h.hA, ow_heap0 h.ob ht h.hA, fun x hx => ⟨(bo x (h.bo x hx).1).1, (bo x (h.bo x hx).1).2.trans (h.bo x hx).2⟩, h.nf, h.nb, h.nfb, by rw [hl]; exact h.len, h.hA, h.hO, h.hq, h.hW⟩
/-- What is born is told. -/
theorem StI.born {o : Obj} (h : StI W wr A c n p O m qx q b col L B i vf vb br S H) (ha : S.obj a = true ∧ S.colV a = col) (hown : w'.ownsRow B 3 1 v4 (br.length + 1) (br.map (.int .i64) ++ [.int .i64 a])) (hgrow : (wr.alloc o).grownBy w' vb.ownBlock) (hat : v4.ownBlock = vb.ownBlock ∨ v4.ownBlock = some (wr.alloc o).heap.size) : StI W w' A c n p O m qx q b col L B i vf v4 (br ++ [a]) S H := by
  have T4 : Touch (fun k => vb.ownBlock = some k) wr w' := Touch.grown ((Touch.refl _ _).alloc _) hgrow (fun k e => .inl e)
  have fresh : ∀ k, vb.ownBlock = some k → B ≤ k := fun k hk => (World.ownsRow.lt h.ob k hk).1
  obtain ⟨v, h1, h2⟩ := h.cu
  have hsz : wr.heap.size ≤ (wr.alloc o).heap.size := by rw [World.size_alloc]; omega
  have v4n : ∀ g, g < wr.heap.size → vb.ownBlock ≠ some g → v4.ownBlock ≠ some g := fun g hg hn e => by
    rcases hat with x | x
    · exact hn (x.symm.trans e)
    · rw [x] at e
      cases e
      omega
  refine ⟨h.hp.touch (h.hp.at'.base.step T4 (fun k hk => .inr (Nat.le_trans h.hW (fresh k hk)))) T4 (fun g hg e => ?_), h.rv.touch T4 (fun g hO e => ?_), h.gn, ⟨v, h1.touch T4 (fun e => h.nb e) (fun g hg e => (h2 g hg).2.2 e), fun g hg => ⟨(h2 g hg).1, (h2 g hg).2.1, v4n g (h1.nv g hg).2.2 (h2 g hg).2.2⟩⟩, h.of'.touch T4 (fun g hg e => h.nfb g hg e), ?_, fun x hx => ?_, h.nf, v4n q (blk_lt h1.box) h.nb, fun g hg => v4n g (World.ownsRow.lt h.of' g hg).2 (h.nfb g hg), h.len, h.hA, h.hO, h.hq, h.hW⟩
  · have := h.hA g hg
    have := fresh g e
    omega
  · have := h.hO g hO
    have := fresh g e
    omega
  · unfold Ow
    rw [List.length_append, List.map_append]
    exact hown
  · rcases List.mem_append.1 hx with hx | hx
    · exact h.bo x hx
    · rw [List.mem_singleton] at hx
      subst hx
      exact ha
/-- A slot's turn: nothing is told, or a slot that is freed. -/
theorem StI.stepW (h : StI W wr A c n p O m qx q b col L B i vf vb br S H) (ap : ∀ g ∈ A.all, ¬ O g) (hn : L.Nodup) (ha : L.drop i = a :: L.drop (i + 1)) {v : Value} (hv : ∀ g, v.ownBlock = some g → B ≤ g ∧ vf.ownBlock ≠ some g ∧ vb.ownBlock ≠ some g) (st : StR W wr A c S H q v (L.drop (i + 1)) b col a w') :
    (p.1.gone col a = S.gone col a) ∧ HpI W w' A c (if S.gone col a = true then S.freS c a else S) (if S.gone col a = true then freH S c H a else H) ∧ Rv w' O m qx c n p.1 p.2 ∧ (∀ x ∈ L.drop (i + 1), (if S.gone col a = true then S.freS c a else S).gone col x = p.1.gone col x) ∧ (∃ v, Cu w' A q v (L.drop (i + 1)) b col ∧ ∀ g, v.ownBlock = some g → B ≤ g ∧ vf.ownBlock ≠ some g ∧ vb.ownBlock ≠ some g) ∧ Ow w' B vf ((L.take i).filter fun x => p.1.gone col x) ∧ Ow w' B vb br ∧ (∀ x ∈ br, (if S.gone col a = true then S.freS c a else S).obj x = true ∧ (if S.gone col a = true then S.freS c a else S).colV x = col) ∧ (if S.gone col a = true then S.freS c a else S).s.ws.length ≤ 4096 := by
  have hga : S.gone col a = p.1.gone col a := h.gn a (by rw [ha]; exact List.mem_cons_self ..)
  have hna : a ∉ L.drop (i + 1) := by
    have := (List.drop_sublist i L).nodup hn
    rw [ha] at this
    exact (List.nodup_cons.1 this).1
  have hT : ∀ g, HT A g ∨ g = q → B ≤ g → g = q := fun g hg hB => hg.elim (fun x => absurd (h.hA g x) (by omega)) id
  refine ⟨hga.symm, st.hp, h.rv.touch st.t (fun g hO hx => ?_), ?_, ?_, h.of'.touch st.t (fun g hg hx => ?_), h.ob.touch st.t (fun g hg hx => ?_), ?_, ?_⟩
  · rcases hx with hx | hx
    · exact ap g hx hO
    · have := h.hO g hO
      have := h.hq
      omega
  · intro x hx
    have hne : x ≠ a := fun e => hna (e ▸ hx)
    have h1 := h.gn x (by rw [ha]; exact List.mem_cons_of_mem _ hx)
    cases hg : S.gone col a
    · simp only [Bool.false_eq_true, if_false]
      exact h1
    · simp only [if_true]
      obtain ⟨_, f⟩ := h.hp.inv.free (gone_obj hg)
      rw [← h1]
      unfold HS.gone
      rw [f.obj x, if_neg hne, f.col x hne]
  · obtain ⟨v', h1, h2⟩ := st.cu
    exact ⟨v', h1, fun g hg => hv g (h2 g hg)⟩
  · have := hT g hx (World.ownsRow.lt h.of' g hg).1
    exact h.nf (this ▸ hg)
  · have := hT g hx (World.ownsRow.lt h.ob g hg).1
    exact h.nb (this ▸ hg)
  · intro x hx
    obtain ⟨b1, b2⟩ := h.bo x hx
    cases hg : S.gone col a
    · simp only [Bool.false_eq_true, if_false]
      exact ⟨b1, b2⟩
    · simp only [if_true]
      have hne : x ≠ a := fun e => by
        subst e
        unfold HS.gone at hg
        rw [b2] at hg
        simp at hg
      obtain ⟨_, f⟩ := h.hp.inv.free (gone_obj hg)
      exact ⟨by rw [f.obj x, if_neg hne]; exact b1, by rw [f.col x hne]; exact b2⟩
  · cases hg : S.gone col a
    · simp only [Bool.false_eq_true, if_false]
      exact h.len
    · simp only [if_true]
      obtain ⟨_, f⟩ := h.hp.inv.free (gone_obj hg)
      rw [f.len]
      exact h.len
theorem take_filter {g : Int → Bool} (ha : L.drop i = a :: L.drop (i + 1)) : (L.take (i + 1)).filter g = (L.take i).filter g ++ (if g a = true then [a] else []) := by
  have h1 : L[i]? = some a := by
    have := congrArg (fun l => l[0]?) ha
    simpa [List.getElem?_drop] using this
  rw [List.take_add_one, h1, List.filter_append]
  congr 1
  cases e : g a <;> simp [e]
theorem StI.step_no (h : StI W wr A c n p O m qx q b col L B i vf vb br S H) (ap : ∀ g ∈ A.all, ¬ O g) (hn : L.Nodup) (ha : L.drop i = a :: L.drop (i + 1)) {v : Value} (hv : ∀ g, v.ownBlock = some g → B ≤ g ∧ vf.ownBlock ≠ some g ∧ vb.ownBlock ≠ some g) (hg : S.gone col a = false) (st : StR W wr A c S H q v (L.drop (i + 1)) b col a w') : StI W w' A c n p O m qx q b col L B (i + 1) vf vb br S H := by
  obtain ⟨g0, g1, g2, g3, g4, g5, g6, g7, g8⟩ := h.stepW ap hn ha hv st
  simp only [hg, Bool.false_eq_true, if_false] at g1 g3 g7 g8
  refine ⟨g1, g2, g3, g4, ?_, g6, g7, h.nf, h.nb, h.nfb, g8, h.hA, h.hO, h.hq, h.hW⟩
  rw [take_filter ha, g0, hg]
  simp only [Bool.false_eq_true, if_false, List.append_nil]
  exact g5
theorem StI.step_yes {o : Obj} (h : StI W wr A c n p O m qx q b col L B i vf vb br S H) (ap : ∀ g ∈ A.all, ¬ O g) (hn : L.Nodup) (ha : L.drop i = a :: L.drop (i + 1)) {v : Value} (hv : ∀ g, v.ownBlock = some g → B ≤ g ∧ vf.ownBlock ≠ some g ∧ vb.ownBlock ≠ some g) (hg : S.gone col a = true) (st : StR W wr A c S H q v (L.drop (i + 1)) b col a w1)
    (hown : w'.ownsRow B 3 1 v4 (((L.take i).filter fun x => p.1.gone col x).length + 1) (((L.take i).filter fun x => p.1.gone col x).map (.int .i64) ++ [.int .i64 a])) (hgrow : (w1.alloc o).grownBy w' vf.ownBlock) (hat : v4.ownBlock = vf.ownBlock ∨ v4.ownBlock = some (w1.alloc o).heap.size) : StI W w' A c n p O m qx q b col L B (i + 1) v4 vb br (S.freS c a) (freH S c H a) := by
  obtain ⟨g0, g1, g2, g3, ⟨v5, g4, g4'⟩, g5, g6, g7, g8⟩ := h.stepW ap hn ha hv st
  simp only [hg, if_true] at g1 g3 g7 g8
  have T4 : Touch (fun k => vf.ownBlock = some k) w1 w' := Touch.grown ((Touch.refl _ _).alloc _) hgrow (fun k e => .inl e)
  have fresh : ∀ k, vf.ownBlock = some k → B ≤ k := fun k hk => (World.ownsRow.lt g5 k hk).1
  have hsz : w1.heap.size ≤ (w1.alloc o).heap.size := by rw [World.size_alloc]; omega
  have v4n : ∀ g, g < w1.heap.size → vf.ownBlock ≠ some g → v4.ownBlock ≠ some g := fun g hg hn e => by
    rcases hat with x | x
    · exact hn (x.symm.trans e)
    · rw [x] at e
      cases e
      omega
  refine ⟨g1.touch (g1.at'.base.step T4 (fun k hk => .inr (Nat.le_trans h.hW (fresh k hk)))) T4 (fun g hg e => ?_), g2.touch T4 (fun g hO e => ?_), g3, ⟨v5, g4.touch T4 (fun e => h.nf e) (fun g hg e => (g4' g hg).2.1 e), fun g hg => ⟨(g4' g hg).1, v4n g (g4.nv g hg).2.2 (g4' g hg).2.1, (g4' g hg).2.2⟩⟩, ?_, g6.touch T4 (fun g hg e => h.nfb g e hg), g7, v4n q (blk_lt g4.box) h.nf, h.nb, fun g hg e => ?_, g8, h.hA, h.hO, h.hq, h.hW⟩
  · have := h.hA g hg
    have := fresh g e
    omega
  · have := h.hO g hO
    have := fresh g e
    omega
  · rw [take_filter ha, g0, hg]
    simp only [if_true]
    unfold Ow
    rw [List.length_append, List.map_append]
    exact hown
  · exact v4n g (World.ownsRow.lt g6 g e).2 (fun e2 => h.nfb g e2 e) hg
end Go.Proofs.YtflhjbmoncbomaaGreatDoor
