/- Marking, walked: paint, look, drain, each, Mark. Conditions: the tables of limits, of sizes and of de Bruijn's bits read as laid. -/
import Derived.Test.YtnobempbcdkoaaaGreatDoorMrk
import Derived.Test.YtnobempbcdkoaaaGreatDoorStE
import Derived.Deep.RegionHeld3
namespace Go.Proofs.YtnobempbcdkoaaaGreatDoor
open Go.RowKit Go.Shelf
attribute [local go_sem] Oper.semAt_some

variable {W w w' : World} {A : HA} {c : Cf} {S : HS} {H : Nat → List Nat} {rt : List Int} {col room : Int} {B mk p : Nat} {v : Value}
theorem hp_PaintE (a n : Int) (h : HpI W w A c S H) :
    Calls Tryz.prog 77 #[.pointer (some ⟨A.h, 0, none⟩), .int .i64 a, .int .i64 n] w fun e w' => e = .returned (.tuple #[.bool (S.paiV a n), .int .i64 (S.paiE a n)]) ∧ Touch (HT A) w w' ∧ HpI W w' A c (S.paiS a n) H :=
  (heap_Paint a n h.at').mono fun _ _ ⟨g1, g2, g3⟩ => ⟨g1, g2, g3, by
    unfold HS.paiS
    split
    · exact h.inv.same _ S.x
    · exact h.inv, h.laid⟩
theorem hp_ColorE (a : Int) (h : HpI W w A c S H) :
    Calls Tryz.prog 35 #[.pointer (some ⟨A.h, 0, none⟩), .int .i64 a] w fun e w' => e = .returned (.tuple #[.int .i64 (S.colV a), .int .i64 (S.colE a)]) ∧ w = w' := heap_Color a h.at'
/-- What a marker holds. -/
structure MaS where
  K : Nat → Bool
  xs : List Int
  ov : Bool
  n : Nat
  al : Nat
/-- The stack's footprint. -/
def SkF (p : Nat) (v : Value) : Nat → Prop := fun b => b = p ∨ v.ownBlock = some b
theorem StackAt.exact {F : Nat → Prop} {xs : List Int} {over : Bool} (h : StackAt w p F v xs room over) : StackAt w p (SkF p v) v xs room over ∧ ∀ b, SkF p v b → F b :=
  ⟨⟨h.box, h.own, h.len, .inl rfl, fun b hb => ⟨.inr hb, (h.fv b hb).2⟩⟩, fun b hb => hb.elim (fun e => e ▸ h.fp) (fun e => (h.fv b e).1)⟩
structure MaI (W : World) (A : HA) (c : Cf) (S : HS) (H : Nat → List Nat) (B mk p : Nat) (col room : Int) (s : MaS) (v : Value) (wr : World) : Prop where
  hp : HpI W wr A c { S with K := s.K } H
  mb : wr.heap[mk]? = some (Obj.cells #[.pointer (some ⟨A.h, 0, none⟩), .pointer (some ⟨p, 0, none⟩), .int .i64 col, .int .i64 s.n, .int .i64 s.al] 137)
  sk : StackAt wr p (SkF p v) v s.xs room s.ov
  nb : ∀ b, SkF p v b → B ≤ b ∧ b ≠ mk
  lo : ∀ b ∈ A.all, b < B
  hi : B ≤ mk
  wB : W.heap.size ≤ B
/-- What marking may turn. -/
def MaO (A : HA) (mk p : Nat) (v : Value) : Nat → Prop := fun j => HT A j ∨ j = mk ∨ SkF p v j
variable {s : MaS}
theorem MaI.nA (h : MaI W A c S H B mk p col room s v w) {b : Nat} (hb : B ≤ b) : b ∉ A.all := fun x => by have := h.lo b x; omega
theorem MaI.heap {K : Nat → Bool} (h : MaI W A c S H B mk p col room s v w) (ht : Touch (HT A) w w') (hp : HpI W w' A c { S with K := K } H) : MaI W A c S H B mk p col room { s with K := K } v w' :=
  ⟨hp, blk_touch h.mb ht (h.nA h.hi), h.sk.touch ht (fun b hb => h.nA (h.nb b hb).1), h.nb, h.lo, h.hi, h.wB⟩
theorem MaI.old (h : MaI W A c S H B mk p col room s v w) (ht : Touch nob w w') : MaI W A c S H B mk p col room s v w' := h.heap ht.hnob (h.hp.old ht)
/-- A number of the marker is laid. -/
theorem MaI.num {n al : Nat} {w1 : World} (h : MaI W A c S H B mk p col room s v w) (ht : Touch (fun b => b = mk) w w1) (hm : w1.heap[mk]? = some (Obj.cells #[.pointer (some ⟨A.h, 0, none⟩), .pointer (some ⟨p, 0, none⟩), .int .i64 col, .int .i64 n, .int .i64 al] 137)) : MaI W A c S H B mk p col room { s with n := n, al := al } v w1 :=
  ⟨h.hp.touch (h.hp.at'.base.step ht (fun b hb => .inr ((show b = mk from hb) ▸ Nat.le_trans h.wB h.hi))) ht (fun b hb x => h.nA h.hi ((show b = mk from x) ▸ hb)), hm, h.sk.touch ht (fun b hb => (h.nb b hb).2), h.nb, h.lo, h.hi, h.wB⟩
/-- The stack is turned. -/
theorem MaI.stack {xs : List Int} {ov : Bool} {v' : Value} (h : MaI W A c S H B mk p col room s v w) (ht : Touch (SkF p v) w w') (hsub : ∀ b, SkF p v' b → SkF p v b ∨ w.heap.size ≤ b) (hs : StackAt w' p (SkF p v') v' xs room ov) : MaI W A c S H B mk p col room { s with xs := xs, ov := ov } v' w' := by
  have l1 := blk_lt h.mb
  refine ⟨h.hp.touch (h.hp.at'.base.step ht (fun b hb => .inr (Nat.le_trans h.wB (h.nb b hb).1))) ht (fun b hb x => h.nA (h.nb b x).1 hb), blk_touch h.mb ht (fun x => (h.nb _ x).2 rfl), hs, fun b hb => ?_, h.lo, h.hi, h.wB⟩
  rcases hsub b hb with x | x
  · exact h.nb b x
  · have := h.hi
    exact ⟨by omega, by omega⟩
/-- One is painted. -/
def MaS.pt (S : HS) (col room : Int) (s : MaS) (a : Int) : MaS :=
  if S.obj a = true then
    (if S.blk col s.K a = true then { s with K := putM s.K (S.s.ws.length + 1) a (decide (col = 1)) }
    else { K := putM s.K (S.s.ws.length + 1) a (decide (col = 1)), xs := if (s.xs.length : Int) < room then s.xs ++ [a] else s.xs, ov := if (s.xs.length : Int) < room then s.ov else true, n := s.n + 1, al := s.al })
  else s
theorem paiV_blk (hc : col = 0 ∨ col = 1) (K : Nat → Bool) (a : Int) (ho : S.obj a = true) : ({ S with K := K } : HS).paiV a col = !S.blk col K a := by
  obtain ⟨n, rfl, hn⟩ := obj_nat ho
  have e : ({ S with K := K } : HS).obj (n : Int) = true := ho
  have may : mayB (S.s.ws.length + 1) (n : Int) = true := by
    unfold mayB
    rw [decide_eq_true (show (0 : Int) ≤ (n : Int) by omega), decide_eq_true (show (n : Int) < ((S.s.ws.length + 1 : Nat) : Int) by omega)]
    rfl
  have hB : ({ S with K := K } : HS).colB (n : Int) = K n := by
    show hasB K (S.s.ws.length + 1) n = K n
    unfold hasB
    rw [may, Int.toNat_natCast]
    rfl
  have hP : putB K (S.s.ws.length + 1) (n : Int) (decide (col = 1)) = (K n != decide (col = 1)) := by
    unfold putB
    rw [may, Int.toNat_natCast]
    rfl
  unfold HS.paiV HS.paiB HS.blk HS.colV
  rw [e, hB, ho]
  show (true && _ && putB K (S.s.ws.length + 1) (n : Int) (decide (col = 1))) = _
  rw [hP]
  rcases hc with rfl | rfl
  · cases K n <;> simp
  · cases K n <;> simp
set_option maxRecDepth 20000 in
set_option maxHeartbeats 1000000 in
theorem mk_paint (a : Int) (h : MaI W A c S H B mk p col room s v w) (hc : col = 0 ∨ col = 1) (hn : s.n ≤ 1048577) :
    Calls Tryz.prog 78 #[.pointer (some ⟨mk, 0, none⟩), .int .i64 a] w fun e w' => e = .returned (.tuple #[]) ∧ ∃ v', Touch (MaO A mk p v) w w' ∧ (∀ b, SkF p v' b → SkF p v b ∨ w.heap.size ≤ b) ∧ MaI W A c S H B mk p col room (s.pt S col room a) v' w' := by
  have HI := Lib.hid h
  have HC := Lib.hid hc
  obtain ⟨⟨d0, d1, d2, d3, d4⟩, f3⟩ : (w.cell? ⟨mk, 0, none⟩ = some (.pointer (some ⟨A.h, 0, none⟩)) ∧ w.cell? ⟨mk, 1, none⟩ = some (.pointer (some ⟨p, 0, none⟩)) ∧ w.cell? ⟨mk, 2, none⟩ = some (.int .i64 col) ∧ w.cell? ⟨mk, 3, none⟩ = some (.int .i64 s.n) ∧ w.cell? ⟨mk, 4, none⟩ = some (.int .i64 s.al)) ∧ w.frozen? ⟨mk, 3, none⟩ = false := by simp [World.cell?, World.frozen?, h.mb]
  have hpt := hp_PaintE a col (h.hp.old (Touch.drew (Touch.refl nob w)))
  have HK : Hid (∀ w1, Touch (HT A) w w1 → w1.cell? ⟨mk, 0, none⟩ = some (.pointer (some ⟨A.h, 0, none⟩)) ∧ w1.cell? ⟨mk, 2, none⟩ = some (.int .i64 col)) := fun w1 ht => by
    have := blk_touch h.mb ht (h.nA h.hi)
    simp [World.cell?, this]
  obtain ⟨V, hV⟩ : ∃ V, ({ S with K := s.K } : HS).paiV a col = V := ⟨_, rfl⟩
  obtain ⟨E, hE⟩ : ∃ E, ({ S with K := s.K } : HS).paiE a col = E := ⟨_, rfl⟩
  rw [hV, hE] at hpt
  have HP := Lib.hid (And.intro hpt (And.intro hV hE))
  clear h hc hpt hV hE
  go_enter Tryz.func78, Tryz.ntmps78
  go_wp2_with fail
  go_region_held3 (fun w1 => w1.cell? ⟨mk, 0, none⟩ = some (.pointer (some ⟨A.h, 0, none⟩)) ∧ w1.cell? ⟨mk, 2, none⟩ = some (.int .i64 col)) (first | exact HK.out _ H1.out.1 | exact HK.out _ (Touch.drew (Touch.refl _ _)) | exact HK.out _ (Touch.refl _ _)) (first
    | (go_at_call 77; refine HP.out.1.mono ?_; rintro e w1 ⟨rfl, t1, hp1⟩; have H1 := Lib.hid (And.intro ((Touch.drew (Touch.refl (HT A) w)).trans t1) hp1); clear t1 hp1))
  rename_i hheld
  clear hheld d0 d1 d2 d3 d4 f3
  have HM1 : Hid (MaI W A c S H B mk p col room (if S.obj a = true then { s with K := putM s.K (S.s.ws.length + 1) a (decide (col = 1)) } else s) v w1 ∧ Touch (MaO A mk p v) w w1) := by
    have h1 := H1.out.2
    refine ⟨?_, H1.out.1.mono fun _ _ x => .inl x⟩
    have hb : ({ S with K := s.K } : HS).paiB a col = S.obj a := by
      unfold HS.paiB
      show (S.obj a && _) = _
      rcases HC.out with rfl | rfl <;> simp
    unfold HS.paiS at h1
    rw [hb] at h1
    by_cases ho : S.obj a = true
    · rw [if_pos ho] at h1 ⊢
      exact HI.out.heap H1.out.1 h1
    · rw [if_neg ho] at h1 ⊢
      exact HI.out.heap H1.out.1 h1
  clear HK H1
  by_cases ho : S.obj a = true
  · have hE : E = 0 := by
      rw [← HP.out.2.2]
      unfold HS.paiE HS.paiB
      rw [if_pos]
      show (S.obj a && _) = true
      rw [ho]
      rcases HC.out with rfl | rfl <;> rfl
    subst hE
    have hV : V = !S.blk col s.K a := by rw [← HP.out.2.1]; exact paiV_blk HC.out _ _ ho
    have HO := Lib.hid ho
    rw [if_pos ho] at HM1
    clear ho HP
    cases hb : S.blk col s.K a with
    | true =>
      rw [hb] at hV
      have hV' : V = false := hV
      clear hV
      subst hV'
      have HE : Hid (∃ v', Touch (MaO A mk p v) w w1 ∧ (∀ b, SkF p v' b → SkF p v b ∨ w.heap.size ≤ b) ∧ MaI W A c S H B mk p col room (s.pt S col room a) v' w1) := by
        refine ⟨v, HM1.out.2, fun b hb => .inl hb, ?_⟩
        unfold MaS.pt
        rw [if_pos HO.out, if_pos hb]
        exact HM1.out.1
      clear hb
      go_wp2
      go_end0
      exact ⟨rfl, HE.out⟩
    | false =>
      rw [hb] at hV
      have hV' : V = true := hV
      clear hV
      subst hV'
      have HB := Lib.hid hb
      clear hb
      obtain ⟨⟨d0, d1, d3⟩, f3⟩ : (w1.cell? ⟨mk, 0, none⟩ = some (.pointer (some ⟨A.h, 0, none⟩)) ∧ w1.cell? ⟨mk, 1, none⟩ = some (.pointer (some ⟨p, 0, none⟩)) ∧ w1.cell? ⟨mk, 3, none⟩ = some (.int .i64 s.n)) ∧ w1.frozen? ⟨mk, 3, none⟩ = false := by have := HM1.out.1.mb; simp [World.cell?, World.frozen?, this]
      obtain ⟨W2, hW2⟩ : ∃ W2, W2 = w1.setCell ⟨mk, 3, none⟩ (.int .i64 ((s.n : Int) + 1)) := ⟨_, rfl⟩
      have hm2 : W2.heap[mk]? = some (Obj.cells #[.pointer (some ⟨A.h, 0, none⟩), .pointer (some ⟨p, 0, none⟩), .int .i64 col, .int .i64 ((s.n + 1 : Nat) : Int), .int .i64 s.al] 137) := by rw [hW2]; exact blk_set HM1.out.1.mb (by simp)
      have t2 : Touch (fun b => b = mk) w1 W2 := by rw [hW2]; exact touch_set _ _ _ _
      have HM2 : Hid (MaI W A c S H B mk p col room { s with K := putM s.K (S.s.ws.length + 1) a (decide (col = 1)), n := s.n + 1 } v W2 ∧ Touch (MaO A mk p v) w W2) := ⟨HM1.out.1.num t2 hm2, HM1.out.2.trans (t2.mono fun _ _ e => .inr (.inl e))⟩
      have e1 : W2.cell? ⟨mk, 1, none⟩ = some (.pointer (some ⟨p, 0, none⟩)) := by simp [World.cell?, hm2]
      clear t2 hm2
      by_cases hl : (s.xs.length : Int) < room
      · go_wp2_with (go_at_call 115; fail)
        rw [← hW2]
        refine (stack_Push_ok p _ v s.xs room s.ov a W2 HM2.out.1.sk (by exact hl)).mono ?_
        rintro e w3 ⟨rfl, t3, F', v', hsub, h3⟩
        obtain ⟨hx, hfx⟩ := h3.exact
        have HE : Hid (∃ v', Touch (MaO A mk p v) w w3 ∧ (∀ b, SkF p v' b → SkF p v b ∨ w.heap.size ≤ b) ∧ MaI W A c S H B mk p col room (s.pt S col room a) v' w3) := by
          have hs2 : ∀ b, SkF p v' b → SkF p v b ∨ W2.heap.size ≤ b := fun b hb => hsub b (hfx b hb)
          refine ⟨v', HM2.out.2.trans (t3.mono fun _ _ e => .inr (.inr e)), fun b hb => (hs2 b hb).imp_right (Nat.le_trans HM2.out.2.size), ?_⟩
          unfold MaS.pt
          rw [if_pos HO.out, if_neg (by rw [HB.out]; simp)]
          rw [if_pos hl, if_pos hl]
          exact HM2.out.1.stack t3 hs2 hx
        clear t3 hsub h3 hx hfx
        go_wp2
        go_end0
        exact ⟨rfl, HE.out⟩
      · have HL := Lib.hid hl
        clear hl
        go_wp2_with (go_at_call 115; fail)
        rw [← hW2]
        refine (stack_Push_no p _ v s.xs room s.ov a W2 HM2.out.1.sk (by have := HL.out; omega)).mono ?_
        rintro e w3 ⟨rfl, t3, h3⟩
        have HE : Hid (∃ v', Touch (MaO A mk p v) w w3 ∧ (∀ b, SkF p v' b → SkF p v b ∨ w.heap.size ≤ b) ∧ MaI W A c S H B mk p col room (s.pt S col room a) v' w3) := by
          refine ⟨v, HM2.out.2.trans (t3.mono fun _ _ e => .inr (.inr e)), fun b hb => .inl hb, ?_⟩
          unfold MaS.pt
          rw [if_pos HO.out, if_neg (by rw [HB.out]; simp)]
          have hl' : ¬ (s.xs.length : Int) < room := by have := HL.out; omega
          rw [if_neg hl', if_neg hl']
          exact HM2.out.1.stack t3 (fun b hb => .inl hb) h3
        clear t3 h3
        go_wp2
        go_end0
        exact ⟨rfl, HE.out⟩
  · have hE : E = 1 := by
      rw [← HP.out.2.2]
      unfold HS.paiE HS.paiB
      rw [if_neg]
      show ¬ (S.obj a && _) = true
      rw [Bool.not_eq_true] at ho
      rw [ho]
      simp
    subst hE
    have HE : Hid (∃ v', Touch (MaO A mk p v) w w1 ∧ (∀ b, SkF p v' b → SkF p v b ∨ w.heap.size ≤ b) ∧ MaI W A c S H B mk p col room (s.pt S col room a) v' w1) := by
      refine ⟨v, HM1.out.2, fun b hb => .inl hb, ?_⟩
      have := HM1.out.1
      rw [if_neg ho] at this
      unfold MaS.pt
      rw [if_neg ho]
      exact this
    clear ho HP
    cases V
    all_goals
      go_wp2
      go_end0
      exact ⟨rfl, HE.out⟩
end Go.Proofs.YtnobempbcdkoaaaGreatDoor
