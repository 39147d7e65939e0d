/- Marking, walked: what is done with each object. Conditions: the tables of limits, of sizes and of de Bruijn's bits read as laid. -/
import Derived.Test.YtnobempbcdkoaaaGreatDoorMrd
namespace Go.Proofs.YtnobempbcdkoaaaGreatDoor
open Go.RowKit Go.Shelf
attribute [local go_sem] Oper.semAt_some

variable {W w w' : World} {A : HA} {c : Cf} {S : HS} {H : Nat → List Nat} {rt : List Int} {col room : Int} {B mk p bh bc bm : Nat} {v : Value} {s : MaS} {pend : Int → Prop} {K : Nat → Bool}
theorem mark1 (a : Int) (hp : HpI W w A c { S with K := K } H) (ho : S.obj a = true) (hc : col = 0 ∨ col = 1) (hb : w.heap[bh]? = some (Obj.cells #[.pointer (some ⟨A.h, 0, none⟩)] 31)) (hb2 : w.heap[bc]? = some (Obj.cells #[.int .i64 col] 3)) :
    Calls Tryz.prog 76 #[.int .i64 a, .pointer (some ⟨bh, 0, none⟩), .pointer (some ⟨bc, 0, none⟩)] w fun e w' => e = .returned (.tuple #[]) ∧ Touch (HT A) w w' ∧ HpI W w' A c { S with K := putM K (S.s.ws.length + 1) a (decide (1 - col = 1)) } H := by
  obtain ⟨d0, -⟩ := box1 hb
  obtain ⟨d1, -⟩ := box1 hb2
  have HP := Lib.hid (And.intro (hp_PaintE a (1 - col) hp) ho)
  clear hp ho hb hb2
  rcases hc with rfl | rfl
  all_goals
    go_enter Tryz.func76, Tryz.ntmps76
    go_wp2_with (go_at_call 77; fail)
    refine HP.out.1.mono ?_
    rintro e w1 ⟨rfl, t1, h1⟩
    have hS : ∀ n : Int, n = 0 ∨ n = 1 → ({ S with K := K } : HS).paiS a n = { S with K := putM K (S.s.ws.length + 1) a (decide (n = 1)) } := fun n hn => by
      unfold HS.paiS
      rw [if_pos]
      unfold HS.paiB
      show (S.obj a && _) = true
      rw [HP.out.2]
      rcases hn with rfl | rfl <;> rfl
    rw [hS _ (by simp)] at h1
    have H1 := Lib.hid (And.intro t1 h1)
    clear t1 h1 hS HP
    go_wp2
    go_end0
    exact ⟨rfl, H1.out⟩
set_option maxRecDepth 20000 in
theorem mark2 (a : Int) (hi : MaI W A c S H B mk p col room s v w) (hk : MkS S c rt col room s (fun x => x = a ∨ pend x)) (hx : s.xs = []) (ho : S.obj a = true) (hc : col = 0 ∨ col = 1)
    (hb : w.heap[bh]? = some (Obj.cells #[.pointer (some ⟨A.h, 0, none⟩)] 31)) (hb2 : w.heap[bc]? = some (Obj.cells #[.int .i64 col] 3)) (hb3 : w.heap[bm]? = some (Obj.cells #[.pointer (some ⟨mk, 0, none⟩)] 135)) (hn : ¬ MaO A mk p v bm) :
    Calls Tryz.prog 81 #[.int .i64 a, .pointer (some ⟨bh, 0, none⟩), .pointer (some ⟨bc, 0, none⟩), .pointer (some ⟨bm, 0, none⟩)] w fun e w' => e = .returned (.tuple #[]) ∧ ∃ s' v', MaN W A c S H rt B mk p col room w v s pend s' v' w' ∧ s'.xs = [] := by
  obtain ⟨d0, -⟩ := box1 hb
  obtain ⟨d1, -⟩ := box1 hb2
  obtain ⟨d2, -⟩ := box1 hb3
  have hcol := hp_ColorE a hi.hp
  have hbl : S.blk col s.K a = decide (({ S with K := s.K } : HS).colV a = col) := by unfold HS.blk; rw [ho]; rfl
  obtain ⟨V, hV⟩ : ∃ V, ({ S with K := s.K } : HS).colV a = V := ⟨_, rfl⟩
  obtain ⟨E, hE⟩ : ∃ E, ({ S with K := s.K } : HS).colE a = E := ⟨_, rfl⟩
  rw [hV, hE] at hcol
  rw [hV] at hbl
  cases hbk : S.blk col s.K a with
  | true =>
    have hlk := mk_look (pend := pend) a hi hc hk hbk
    rw [hbk] at hbl
    have hd : (V == col) = true := by have := of_decide_eq_true hbl.symm; simpa using this
    have HI := Lib.hid (And.intro hi (And.intro hcol (And.intro hlk (And.intro hc (And.intro hb3 hn)))))
    clear hi hk hb hb2 hb3 hcol hlk hc hbl hV hE hbk ho hx hn
    go_enter Tryz.func81, Tryz.ntmps81
    go_wp2_with (go_at_call 35; fail)
    refine HI.out.2.1.mono ?_
    rintro e w1 ⟨rfl, rfl⟩
    go_wp2_with (go_at_call 82; fail)
    refine HI.out.2.2.1.mono ?_
    rintro e w2 ⟨rfl, s2, v2, h2⟩
    obtain ⟨d2, -⟩ := box1 (blk_touch HI.out.2.2.2.2.1 h2.t HI.out.2.2.2.2.2)
    have H2 := Lib.hid h2
    clear h2 d0 d1
    go_wp2_with (go_at_call 79; fail)
    refine (mk_drain H2.out.i HI.out.2.2.2.1 H2.out.k).mono ?_
    rintro e w3 ⟨rfl, s3, v3, h3, hx⟩
    have H3 := Lib.hid (And.intro (H2.out.trans h3) hx)
    clear h3 hx
    go_wp2
    go_end0
    exact ⟨rfl, s3, v3, H3.out⟩
  | false =>
    rw [hbk] at hbl
    have hd : (V == col) = false := by have := of_decide_eq_false hbl.symm; simpa using this
    have HE : Hid (∃ s' v', MaN W A c S H rt B mk p col room w v s pend s' v' w ∧ s'.xs = []) := ⟨s, v, MaN.refl hi (MarI.looked hk (fun _ h => h) (fun e => by rw [hbk] at e; cases e)), hx⟩
    have HI := Lib.hid hcol
    clear hi hk hb hb2 hb3 hcol hc hbl hV hE hbk ho hx hn
    go_enter Tryz.func81, Tryz.ntmps81
    go_wp2_with (go_at_call 35; fail)
    refine HI.out.mono ?_
    rintro e w1 ⟨rfl, rfl⟩
    go_wp2
    go_end0
    exact ⟨rfl, HE.out⟩
theorem MaO.not {s' : MaS} {v' : Value} {pend' : Int → Prop} {b : Nat} (h : MaN W A c S H rt B mk p col room w v s pend' s' v' w') (hb : b < w.heap.size) (hn : ¬ MaO A mk p v b) : ¬ MaO A mk p v' b := fun x =>
  (MaO.sub h.sub b x).elim hn (fun y => by omega)
/-- The color that all get. -/
def OffI (W : World) (A : HA) (c : Cf) (S : HS) (H : Nat → List Nat) (col : Int) (w1 : World) (pre : List Int) (X : World) : Prop :=
  Touch (HT A) w1 X ∧ ∃ K, HpI W X A c { S with K := K } H ∧ ∀ x ∈ pre, S.blk col K x = false
theorem OffI.step {pre : List Int} {X X' : World} {a : Int} {K : Nat → Bool} (hc : col = 0 ∨ col = 1) (ho : S.obj a = true) (ht : Touch (HT A) w X) (hb : ∀ x ∈ pre, S.blk col K x = false) (h1 : Touch (HT A) X X') (h2 : HpI W X' A c { S with K := putM K (S.s.ws.length + 1) a (decide (1 - col = 1)) } H) : OffI W A c S H col w (pre ++ [a]) X' := by
  refine ⟨ht.trans h1, _, h2, fun x hx => ?_⟩
  rw [← Bool.not_eq_true, blk_off hc ho]
  rintro ⟨h3, h4⟩
  rcases List.mem_append.1 hx with hx | hx
  · rw [hb x hx] at h4; cases h4
  · exact h3 (by simpa using hx)
/-- At first none has the color. -/
theorem MkS.start (hb : ∀ x, S.blk col K x = false) : MkS S c rt col room ⟨K, [], false, 0, 0⟩ (fun _ => False) := by
  refine ⟨fun x hx => ?_, fun x hx => absurd hx (by simp), List.nodup_nil, fun _ x hx => ?_, ?_, Nat.le_refl _, fun _ => rfl⟩
  · rw [hb] at hx; cases hx
  · rw [hb] at hx; cases hx
  · show 0 = _
    rw [List.filter_eq_nil_iff.2]
    · rfl
    · intro x _; rw [hb]; simp
end Go.Proofs.YtnobempbcdkoaaaGreatDoor
