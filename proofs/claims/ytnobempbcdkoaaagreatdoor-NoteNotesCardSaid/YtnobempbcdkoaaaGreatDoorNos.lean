/- Noting, step by step: the steps, walked. Conditions: none beyond what each says. -/
import Derived.Test.YtnobempbcdkoaaaGreatDoorNot
import Derived.Test.YtnobempbcdkoaaaGreatDoorMrw
namespace Go.Proofs.YtnobempbcdkoaaaGreatDoor
open Go.RowKit
attribute [local go_sem] Oper.semAt_some

variable {w w' : World} {n h p q f b0 b1 b2 b3 b4 : Nat} {room : Int} {u : Value} {xs : List Int} {v col : Int} {tv : Value}
theorem box4 {w : World} {b : Nat} {v0 v1 v2 v3 : Value} {t : TypeId} (h : w.heap[b]? = some (.cells #[v0, v1, v2, v3] t)) :
    w.cell? ⟨b, 0, none⟩ = some v0 ∧ w.cell? ⟨b, 1, none⟩ = some v1 ∧ w.cell? ⟨b, 2, none⟩ = some v2 ∧ w.cell? ⟨b, 3, none⟩ = some v3 := by
  simp [World.cell?, h]
theorem one_ne {w : World} {b k : Nat} {v : Value} {cs : Array Value} {t t' : TypeId} (h : w.heap[b]? = some (.cells #[v] t)) (g : w.heap[k]? = some (.cells cs t')) (hc : cs.size ≠ 1 ∨ t ≠ t') : b ≠ k := fun e => by
  subst e
  have h1 := h.symm.trans g
  simp only [Option.some.injEq, Obj.cells.injEq] at h1
  rcases hc with hc | hc
  · exact hc (by rw [← h1.1]; rfl)
  · exact hc h1.2.1
set_option maxHeartbeats 1000000 in
/-- A value is laid into the buffer. -/
theorem note_add (c0 : BxN w b0 n) (c1 : BxI w b1 v) (c3 : BxS w b3 tv) (hn : NtB w n h p q f) (hb : BufAt w p room u xs) (hr : (((xs.length : Nat) : Int) == room) = false) (hl : xs.length < 4096) :
    Calls Tryz.prog 66 #[pt b0, pt b1, pt b3] w fun e w' => e = .returned tv ∧ Touch (fun b => b = p) w w' ∧ ∃ v', BufAt w' p room v' (xs ++ [v]) ∧ SubB w v' u := by
  obtain ⟨d0, -⟩ := box1 c0
  obtain ⟨d1, -⟩ := box1 c1
  obtain ⟨d3, -⟩ := box1 c3
  obtain ⟨-, e1, -, -⟩ := box4 hn
  have n1 : b1 ≠ p := one_ne c1 hb.box (.inr (by decide))
  have n3 : b3 ≠ p := one_ne c3 hb.box (.inr (by decide))
  have HB := Lib.hid (buf_Add_ok (hb.old ((Touch.refl nob w).drew)) v hr hl)
  have n0 : b0 ≠ p := one_ne c0 hb.box (.inr (by decide))
  have nn : n ≠ p := fun e => by
    have h1 := hn.symm.trans (e ▸ hb.box)
    simp at h1
  have HK : Hid (∀ w1, Touch (fun b => b = p) w w1 → (w1.cell? ⟨b0, 0, none⟩ = some (pt n) ∧ w1.cell? ⟨b1, 0, none⟩ = some (.int .i64 v) ∧ w1.cell? ⟨n, 1, none⟩ = some (pt p)) ∧ w1.cell? ⟨b3, 0, none⟩ = some tv) := fun w1 ht => ⟨⟨one_cell (blk_touch c0 ht n0), one_cell (blk_touch c1 ht n1), (box4 (blk_touch hn ht nn)).2.1⟩, one_cell (blk_touch c3 ht n3)⟩
  clear c0 c1 c3 hn hb hr hl n0 n1 n3 nn
  go_enter Tryz.func66, Tryz.ntmps66
  go_wp2_with fail
  go_region_held3 (fun w1 => w1.cell? ⟨b0, 0, none⟩ = some (pt n) ∧ w1.cell? ⟨b1, 0, none⟩ = some (.int .i64 v) ∧ w1.cell? ⟨n, 1, none⟩ = some (pt p)) (first | exact (HK.out _ H1.out.1).1 | exact (HK.out _ (Touch.drew (Touch.refl _ _))).1 | exact (HK.out _ (Touch.refl _ _)).1) (first
    | (go_at_call 63; refine HB.out.mono ?_; rintro e w1 ⟨rfl, t1, hp1⟩; have H1 := Lib.hid (And.intro ((Touch.drew (Touch.refl (fun b => b = p) w)).trans t1) hp1); clear t1 hp1))
  rename_i hheld
  clear hheld d0 d1 d3 e1
  have d3 := (HK.out _ H1.out.1).2
  go_wp2
  go_ret
  exact ⟨rfl, H1.out.1, H1.out.2⟩
variable {W : World} {A : HA} {c : Cf} {S : HS} {H : Nat → List Nat}
set_option maxRecDepth 20000 in
set_option maxHeartbeats 4000000 in
/-- A value is looked at, and noted. -/
theorem note_two (hp : HpI W w A c S H) (c0 : BxN w b0 n) (c1 : BxI w b1 v) (c2 : BxI w b2 col) (c3 : BxS w b3 tv) (c4 : BxA w b4 (.func (.func 66) #[] #[pt b0, pt b1, pt b3])) (hn : NtB w n A.h p q f) (hb : BufAt w p room u xs) (hl : xs.length ≤ room ∧ room ≤ 256 ∧ 1 ≤ room) :
    Calls Tryz.prog 67 #[pt b0, pt b1, pt b2, pt b3, pt b4] w fun e w' =>
      ((S.colE v ≠ 0 ∨ S.colV v = col) ∧ e = .returned tv ∧ Touch nob w w') ∨
      ((S.colE v = 0 ∧ S.colV v ≠ col) ∧ (xs.length : Int) < room ∧ e = .returned tv ∧ Touch (fun b => b = p) w w' ∧ ∃ v', BufAt w' p room v' (xs ++ [v]) ∧ SubB w v' u) ∨
      ((S.colE v = 0 ∧ S.colV v ≠ col) ∧ (xs.length : Int) = room ∧ Touch nob w w' ∧ ∃ b, e = .returned (.func (.func 72) #[] #[pt b, pt (b + 1 + 1), pt (b + 1)]) ∧ w.heap.size ≤ b ∧ BxN w' b n ∧ BxI w' (b + 1) col ∧ BxS w' (b + 1 + 1) (.func (.func 66) #[] #[pt b0, pt b1, pt b3])) := by
  obtain ⟨d0, -⟩ := box1 c0
  obtain ⟨d1, -⟩ := box1 c1
  obtain ⟨e0, e1, -, -⟩ := box4 hn
  have hcol := hp_ColorE v (hp.old ((Touch.refl nob w).drew))
  obtain ⟨V, hV⟩ : ∃ V, S.colV v = V := ⟨_, rfl⟩
  obtain ⟨E, hE⟩ : ∃ E, S.colE v = E := ⟨_, rfl⟩
  rw [hV, hE] at hcol
  have HV := Lib.hid (And.intro hV hE)
  have HC := Lib.hid hcol
  have hk : ∀ w1, Touch nob w w1 → (w1.cell? ⟨b0, 0, none⟩ = some (pt n) ∧ w1.cell? ⟨b1, 0, none⟩ = some (.int .i64 v) ∧ w1.cell? ⟨n, 0, none⟩ = some (pt A.h)) ∧ w1.cell? ⟨b2, 0, none⟩ = some (.int .i64 col) ∧ w1.cell? ⟨b3, 0, none⟩ = some tv ∧ w1.cell? ⟨n, 1, none⟩ = some (pt p) ∧ w1.cell? ⟨b4, 0, none⟩ = some (.func (.func 66) #[] #[pt b0, pt b1, pt b3]) := fun w1 ht =>
    ⟨⟨one_cell (blk_touch c0 ht (fun x => x)), one_cell (blk_touch c1 ht (fun x => x)), (box4 (blk_touch hn ht (fun x => x))).1⟩, one_cell (blk_touch c2 ht (fun x => x)), one_cell (blk_touch c3 ht (fun x => x)), (box4 (blk_touch hn ht (fun x => x))).2.1, one_cell (blk_touch c4 ht (fun x => x))⟩
  have HK := Lib.hid hk
  have HB := Lib.hid (And.intro c0 (And.intro c1 (And.intro c3 (And.intro hn (And.intro hb hl)))))
  clear hp c0 c1 c2 c3 c4 hn hb hl hV hE hcol hk
  rw [HV.out.1, HV.out.2]
  go_enter Tryz.func67, Tryz.ntmps67
  go_wp2_with fail
  go_region_held3 (fun w1 => w1.cell? ⟨b0, 0, none⟩ = some (pt n) ∧ w1.cell? ⟨b1, 0, none⟩ = some (.int .i64 v) ∧ w1.cell? ⟨n, 0, none⟩ = some (pt A.h)) (first | exact (HK.out _ H1.out).1 | exact (HK.out _ (Touch.drew (Touch.refl _ _))).1 | exact (HK.out _ (Touch.refl _ _)).1) (first
    | (go_at_call 35; refine HC.out.mono ?_; rintro e w1 ⟨rfl, rfl⟩; have H1 := Lib.hid (Touch.drew (Touch.refl nob w))))
  rename_i hheld
  clear hheld d0 d1 e0 e1
  obtain ⟨W1, hW1⟩ : ∃ W1, w.drew = W1 := ⟨_, rfl⟩
  rw [hW1] at H1 ⊢
  clear hW1
  obtain ⟨⟨d0, -, -⟩, d2, d3, e1, d4⟩ := HK.out _ H1.out
  have fin : ∀ w2, Touch nob W1 w2 → BxN w2 b0 n ∧ BxI w2 b1 v ∧ BxS w2 b3 tv ∧ NtB w2 n A.h p q f ∧ BufAt w2 p room u xs := fun w2 ht =>
    have t := H1.out.trans ht
    ⟨blk_touch HB.out.1 t (fun x => x), blk_touch HB.out.2.1 t (fun x => x), blk_touch HB.out.2.2.1 t (fun x => x), blk_touch HB.out.2.2.2.1 t (fun x => x), HB.out.2.2.2.2.1.old t⟩
  have HF := Lib.hid fin
  clear fin
  by_cases hE : E = 0
  · have g1 : (E != 0) = false := by simpa using hE
    by_cases hVc : V = col
    · have g2 : (V == col) = true := by simpa using hVc
      have HE := Lib.hid hVc
      clear hE hVc
      go_wp2
      go_ret
      exact .inl ⟨.inr HE.out, rfl, H1.out⟩
    · have g2 : (V == col) = false := by simpa using hVc
      have HE := Lib.hid (And.intro hE hVc)
      clear hE hVc
      go_wp2_with (go_at_call 68; fail)
      refine (buf_Full (HF.out W1 (Touch.refl _ _)).2.2.2.2).mono ?_
      rintro e w2 ⟨rfl, t2⟩
      have h2 := HF.out w2 t2
      have H2 := Lib.hid (And.intro (H1.out.trans t2) h2)
      obtain ⟨d2', -⟩ : w2.cell? ⟨b2, 0, none⟩ = some (.int .i64 col) ∧ True := ⟨(HK.out _ (H1.out.trans t2)).2.1, trivial⟩
      obtain ⟨-, -, -, e1', d4'⟩ := HK.out _ (H1.out.trans t2)
      have d0' := one_cell h2.1
      clear d0 d2 d3 e1 d4 t2 h2
      cases hf : (((xs.length : Nat) : Int) == room) with
      | false =>
        have HFu := Lib.hid hf
        clear hf
        go_wp2_with (go_at_call 66; fail)
        obtain ⟨x0, x1, x3, xn, xb⟩ := H2.out.2
        have hlr := HB.out.2.2.2.2.2
        refine (note_add x0 x1 x3 xn xb HFu.out (by omega)).mono ?_
        rintro e w3 ⟨rfl, t3, v', hb3, hs3⟩
        have hne : (xs.length : Int) ≠ room := by have := HFu.out; simpa using this
        have H3 := Lib.hid (And.intro ((H2.out.1.mono (fun _ _ x => x.elim)).trans t3) (And.intro hb3 (And.intro (fun b hb => (hs3 b hb).imp id (Nat.le_trans H2.out.1.size)) (show (xs.length : Int) < room by omega))))
        clear t3 hb3 hs3 x0 x1 x3 xn xb hne
        go_wp2
        go_ret
        exact .inr (.inl ⟨HE.out, H3.out.2.2.2, rfl, H3.out.1, v', H3.out.2.1, H3.out.2.2.1⟩)
      | true =>
        have hfr : (xs.length : Int) = room := by simpa using hf
        have HFu := Lib.hid hfr
        clear hf hfr
        go_wp2_with (go_at_call 43; fail)
        obtain ⟨x0, x1, x3, xn, xb⟩ := H2.out.2
        refine (note_Pour col _ (.inr ⟨_, _, rfl⟩) xn xb).mono ?_
        rintro e w3 ⟨t3, h3⟩
        rcases h3 with ⟨rfl, _⟩ | ⟨hx, b, rfl, hb, k0, k1, k2⟩
        · have h1 := HFu.out
          have h4 := HB.out.2.2.2.2.2
          rw [List.length_nil] at h1
          omega
        · have H3 := Lib.hid (And.intro (H2.out.1.trans t3) (And.intro (Nat.le_trans H2.out.1.size hb) (And.intro k0 (And.intro k1 k2))))
          clear t3 hx hb k0 k1 k2 x0 x1 x3 xn xb
          go_wp2
          go_ret
          exact .inr (.inr ⟨HE.out, HFu.out, H3.out.1, b, rfl, H3.out.2⟩)
  · have g1 : (E != 0) = true := by simpa using hE
    have HE := Lib.hid hE
    clear hE
    go_wp2
    go_ret
    exact .inl ⟨.inl HE.out, rfl, H1.out⟩
/-- A buffer is handed over, or painted. -/
theorem note_pour1 (c0 : BxN w b0 n) (c1 : BxS w b1 tv) (c2 : BxI w b2 col) (ht : SV tv) (hn : NtB w n h p q f) (hb : BufAt w p room u xs) {ys : List Int} {y : Value} (hx : BoxAt w q y ys) :
    Calls Tryz.prog 72 #[pt b0, pt b1, pt b2] w fun e w' =>
      (ys = [] ∧ e = .returned tv ∧ Touch (fun b => b = p ∨ b = q) w w' ∧ ∃ u', BufAt w' p room (.slice none 0 0) [] ∧ BoxAt w' q u' xs ∧ SubB w u' (.slice none 0 0)) ∨
      (ys ≠ [] ∧ Touch nob w w' ∧ ∃ b, e = .returned (.func (.func 111) #[] #[pt b, pt (b + 1), pt (b + 1 + 1), pt (b + 1 + 1 + 1)]) ∧ w.heap.size ≤ b ∧ BxN w' b n ∧ BxI w' (b + 1) col ∧ BxB w' (b + 1 + 1) false ∧ BxS w' (b + 1 + 1 + 1) tv) := by
  obtain ⟨d0, -⟩ := box1 c0
  obtain ⟨d1, -⟩ := box1 c1
  obtain ⟨d2, -⟩ := box1 c2
  obtain ⟨-, e1, e2, -⟩ := box4 hn
  have n1 : ∀ b, b = b0 ∨ b = b1 ∨ b = b2 ∨ b = n → ¬ (b = p ∨ b = q) := by
    rintro b (rfl | rfl | rfl | rfl) (e | e)
    · exact one_ne c0 hb.box (.inr (by decide)) e
    · exact one_ne c0 hx.box (.inr (by decide)) e
    · exact one_ne c1 hb.box (.inr (by decide)) e
    · exact one_ne c1 hx.box (.inr (by decide)) e
    · exact one_ne c2 hb.box (.inr (by decide)) e
    · exact one_ne c2 hx.box (.inr (by decide)) e
    · have h1 := hn.symm.trans (e ▸ hb.box); simp at h1
    · have h1 := hn.symm.trans (e ▸ hx.box); simp at h1
  have HK : Hid (∀ w1, Touch (fun b => b = p ∨ b = q) w w1 → (w1.cell? ⟨b0, 0, none⟩ = some (pt n) ∧ w1.cell? ⟨n, 1, none⟩ = some (pt p) ∧ w1.cell? ⟨n, 2, none⟩ = some (pt q)) ∧ w1.cell? ⟨b1, 0, none⟩ = some tv ∧ w1.cell? ⟨b2, 0, none⟩ = some (.int .i64 col)) := fun w1 h =>
    ⟨⟨one_cell (blk_touch c0 h (n1 _ (.inl rfl))), (box4 (blk_touch hn h (n1 _ (.inr (.inr (.inr rfl)))))).2.1, (box4 (blk_touch hn h (n1 _ (.inr (.inr (.inr rfl)))))).2.2.1⟩, one_cell (blk_touch c1 h (n1 _ (.inr (.inl rfl)))), one_cell (blk_touch c2 h (n1 _ (.inr (.inr (.inl rfl)))))⟩
  have HT := Lib.hid ht
  have HB := Lib.hid (And.intro (hb.old ((Touch.refl nob w).drew)) (hx.old ((Touch.refl nob w).drew)))
  clear c0 c1 c2 hn hb hx n1 ht
  cases ys with
  | nil =>
    have HH := Lib.hid (box_Hand_ok HB.out.1 HB.out.2)
    go_enter Tryz.func72, Tryz.ntmps72
    go_wp2_with fail
    go_region_held3 (fun w1 => w1.cell? ⟨b0, 0, none⟩ = some (pt n) ∧ w1.cell? ⟨n, 1, none⟩ = some (pt p) ∧ w1.cell? ⟨n, 2, none⟩ = some (pt q)) (first | exact (HK.out _ H1.out.1).1 | exact (HK.out _ (Touch.drew (Touch.refl _ _))).1 | exact (HK.out _ (Touch.refl _ _)).1) (first
      | (go_at_call 64; refine HH.out.mono ?_; rintro e w1 ⟨rfl, t1, hp1⟩; have H1 := Lib.hid (And.intro ((Touch.drew (Touch.refl (fun b => b = p ∨ b = q) w)).trans t1) hp1); clear t1 hp1))
    rename_i hheld
    obtain ⟨-, d1, -⟩ := HK.out _ H1.out.1
    clear hheld d0 d2 e1 e2
    go_wp2
    go_ret
    exact .inl ⟨by first | rfl | trivial, rfl, H1.out.1, H1.out.2⟩
  | cons a ys =>
    have HH := Lib.hid (box_Hand_no HB.out.1 HB.out.2)
    go_enter Tryz.func72, Tryz.ntmps72
    go_wp2_with fail
    go_region_held3 (fun w1 => w1.cell? ⟨b0, 0, none⟩ = some (pt n) ∧ w1.cell? ⟨n, 1, none⟩ = some (pt p) ∧ w1.cell? ⟨n, 2, none⟩ = some (pt q)) (first | exact (HK.out _ (Touch.drew (Touch.refl _ _))).1 | exact (HK.out _ (Touch.refl _ _)).1) (first
      | (go_at_call 64; refine HH.out.mono ?_; rintro e w1 ⟨rfl, rfl⟩))
    rename_i hheld
    clear hheld d1 d2 e1 e2
    obtain ⟨W1, hW1⟩ : ∃ W1, w.drew = W1 := ⟨_, rfl⟩
    have H1 : Hid (Touch nob w W1) := by rw [← hW1]; exact (Touch.refl nob w).drew
    rw [hW1]
    clear hW1
    obtain ⟨⟨d0, -, -⟩, d1, d2⟩ := HK.out W1 (H1.out.mono fun _ _ x => x.elim)
    go_wp2_with (go_at_call 73; fail)
    refine (note_paint n col false tv HT.out W1).mono ?_
    rintro e w2 ⟨b, rfl, t2, hb, k⟩
    have H2 := Lib.hid (And.intro (H1.out.trans t2) (And.intro (Nat.le_trans H1.out.size hb) k))
    clear t2 hb k
    go_wp2
    go_ret
    exact .inr ⟨by simp, H2.out.1, b, rfl, H2.out.2⟩
/-- A flag is raised. -/
theorem note_raise {up : Bool} (c0 : BxN w b0 n) (c3 : BxS w b3 tv) (hn : NtB w n h p q f) (hf : w.heap[f]? = some (Obj.cells #[.bool up] 121)) :
    Calls Tryz.prog 113 #[pt b0, pt b3] w fun e w' => e = .returned tv ∧ Touch (fun b => b = f) w w' ∧ w'.heap[f]? = some (Obj.cells #[.bool true] 121) := by
  obtain ⟨d0, -⟩ := box1 c0
  obtain ⟨-, -, -, e3⟩ := box4 hn
  have n3 : b3 ≠ f := one_ne c3 hf (.inr (by decide))
  have HF := Lib.hid (And.intro (flag_Raise f up hf) (And.intro c3 n3))
  clear c0 c3 hn hf n3
  go_enter Tryz.func113, Tryz.ntmps113
  go_wp2_with (go_at_call 44; fail)
  refine HF.out.1.mono ?_
  rintro e w1 ⟨rfl, t1, h1⟩
  have d3 := one_cell (blk_touch HF.out.2.1 t1 HF.out.2.2)
  have H1 := Lib.hid (And.intro t1 h1)
  clear t1 h1 d0 e3
  go_wp2
  go_ret
  exact ⟨rfl, H1.out⟩
theorem RwAt.touchT {w w' : World} {T : Nat → Prop} {t : TypeId} {r : List Value} {v : Value} {xs : List Int} {p : Nat} (h : RwAt w p t r v xs) (ht : Touch T w w') (hp : ¬ T p) (hs : ∀ b, v.ownBlock = some b → ¬ T b) : RwAt w' p t r v xs :=
  ⟨blk_touch h.box ht hp, h.row.touch ht hs, h.ty, h.len⟩
/-- What painting a buffer's first address may turn. -/
def PnT (A : HA) (p : Nat) : Nat → Prop := fun b => HT A b ∨ b = p
set_option maxRecDepth 20000 in
set_option maxHeartbeats 4000000 in
/-- The buffer's first address is painted. -/
theorem note_paint1 {x : Int} {fr : Bool} (hp : HpI W w A c S H) (c0 : BxN w b0 n) (c1 : BxI w b1 col) (c2 : BxB w b2 fr) (c3 : BxS w b3 tv) (ht : SV tv) (hn : NtB w n A.h p q f) (hb : BufAt w p room u (x :: xs))
    (hA : ∀ b, (b = b0 ∨ b = b1 ∨ b = b2 ∨ b = b3 ∨ b = n ∨ b = p ∨ u.ownBlock = some b) → b ∉ A.all) (hpW : W.heap.size ≤ p) :
    Calls Tryz.prog 111 #[pt b0, pt b1, pt b2, pt b3] w fun e w' => Touch (PnT A p) w w' ∧ HpI W w' A c (S.paiS x col) H ∧ (∃ u', BufAt w' p room u' xs ∧ SubB w u' u) ∧
      ((xs ≠ [] ∧ ∃ b, e = .returned (.func (.func 111) #[] #[pt b, pt (b + 1), pt (b + 1 + 1), pt (b + 1 + 1 + 1)]) ∧ w.heap.size ≤ b ∧ BxN w' b n ∧ BxI w' (b + 1) col ∧ BxB w' (b + 1 + 1) (fr || S.paiV x col) ∧ BxS w' (b + 1 + 1 + 1) tv) ∨
       (xs = [] ∧ (fr || S.paiV x col) = true ∧ e = .returned (.func (.func 113) #[] #[pt b0, pt b3])) ∨
       (xs = [] ∧ (fr || S.paiV x col) = false ∧ e = .returned tv)) := by
  have hmf := hmkf
  obtain ⟨d0, -⟩ := box1 c0
  obtain ⟨-, e1, -, -⟩ := box4 hn
  have np : ∀ b, b = b0 ∨ b = b1 ∨ b = b2 ∨ b = b3 ∨ b = n → ¬ b = p := by
    rintro b (rfl | rfl | rfl | rfl | rfl) e
    · exact one_ne c0 hb.box (.inr (by decide)) e
    · exact one_ne c1 hb.box (.inr (by decide)) e
    · exact one_ne c2 hb.box (.inr (by decide)) e
    · exact one_ne c3 hb.box (.inr (by decide)) e
    · have h1 := hn.symm.trans (e ▸ hb.box); simp at h1
  have nT : ∀ b, b = b0 ∨ b = b1 ∨ b = b2 ∨ b = b3 ∨ b = n → ¬ PnT A p b := fun b hb2 x => x.elim (hA b (by rcases hb2 with e | e | e | e | e <;> simp [e])) (np b hb2)
  have HK : Hid (∀ w1, Touch (PnT A p) w w1 → BxN w1 b0 n ∧ BxI w1 b1 col ∧ BxB w1 b2 fr ∧ BxS w1 b3 tv ∧ NtB w1 n A.h p q f) := fun w1 h =>
    ⟨blk_touch c0 h (nT _ (.inl rfl)), blk_touch c1 h (nT _ (.inr (.inl rfl))), blk_touch c2 h (nT _ (.inr (.inr (.inl rfl)))), blk_touch c3 h (nT _ (.inr (.inr (.inr (.inl rfl))))), blk_touch hn h (nT _ (.inr (.inr (.inr (.inr rfl)))))⟩
  have HTv := Lib.hid ht
  have HB := Lib.hid (And.intro (buf_Next_ok hb) (And.intro hp (And.intro hA hpW)))
  clear hp c0 c1 c2 c3 ht hn hb hA hpW np nT
  obtain ⟨V, hV⟩ : ∃ V, S.paiV x col = V := ⟨_, rfl⟩
  rw [hV]
  have HV := Lib.hid hV
  clear hV
  go_enter Tryz.func111, Tryz.ntmps111
  go_wp2_with (go_at_call 112; fail)
  refine HB.out.1.mono ?_
  rintro e w1 ⟨rfl, t1, u1, hb1, hs1⟩
  have t1' : Touch (PnT A p) w w1 := t1.mono fun _ _ e => .inr e
  have hA1 : ∀ b, (b = p ∨ u1.ownBlock = some b) → b ∉ A.all := fun b hb => by
    rcases hb with hb | hb
    · exact HB.out.2.2.1 b (.inr (.inr (.inr (.inr (.inr (.inl hb))))))
    · rcases hs1 b hb with h | h
      · exact HB.out.2.2.1 b (.inr (.inr (.inr (.inr (.inr (.inr h))))))
      · intro hm; have := HB.out.2.1.at'.lt b hm; omega
  have hp1 : HpI W w1 A c S H := HB.out.2.1.touch (HB.out.2.1.at'.base.step t1 (fun b hb => .inr ((show b = p from hb) ▸ HB.out.2.2.2))) t1 (fun b hb e => hA1 b (.inl e) hb)
  have hpa := hp_PaintE x col (hp1.old ((Touch.refl nob w1).drew))
  obtain ⟨E, hE⟩ : ∃ E, S.paiE x col = E := ⟨_, rfl⟩
  rw [HV.out, hE] at hpa
  obtain ⟨k0, k1, k2, k3, k4⟩ := HK.out w1 t1'
  obtain ⟨d0, -⟩ := box1 k0
  obtain ⟨d1, -⟩ := box1 k1
  obtain ⟨e0, e1, -, -⟩ := box4 k4
  have H1 := Lib.hid (And.intro t1' (And.intro hb1 (And.intro hs1 (And.intro hA1 hpa))))
  have HS := Lib.hid (show w.heap.size ≤ w1.heap.size from t1.size)
  clear t1 t1' hb1 hs1 hA1 hp1 hpa hE k0 k1 k2 k3 k4
  go_wp2_with fail
  have HQ : Hid (∀ w2, Touch (HT A) w1.drew w2 → Touch (PnT A p) w w2) := fun w2 ht => H1.out.1.drew.trans (ht.mono fun _ _ e => Or.inl e)
  go_region_held3 (fun w2 => w2.cell? ⟨b0, 0, none⟩ = some (pt n) ∧ w2.cell? ⟨b1, 0, none⟩ = some (.int .i64 col) ∧ w2.cell? ⟨n, 0, none⟩ = some (pt A.h)) (first | exact ⟨one_cell (HK.out _ H2.out.1).1, one_cell (HK.out _ H2.out.1).2.1, (box4 (HK.out _ H2.out.1).2.2.2.2).1⟩ | exact ⟨one_cell (HK.out _ (Touch.drew H1.out.1)).1, one_cell (HK.out _ (Touch.drew H1.out.1)).2.1, (box4 (HK.out _ (Touch.drew H1.out.1)).2.2.2.2).1⟩ | exact ⟨d0, d1, e0⟩) (first
    | (go_at_call 77; refine H1.out.2.2.2.2.mono ?_; rintro e w2 ⟨rfl, t2, hp2⟩; have H2 := Lib.hid (And.intro (HQ.out w2 t2) (And.intro t2 hp2)); clear t2 hp2))
  rename_i hheld
  clear hheld d0 d1 e0 e1
  have hb2 : BufAt w2 p room u1 xs := H1.out.2.1.old (w' := w1.drew) ((Touch.refl nob w1).drew) |>.touchT H2.out.2.1 (fun e => H1.out.2.2.2.1 p (.inl rfl) e) (fun b hb e => H1.out.2.2.2.1 b (.inr hb) e)
  have hs2 : SubB w u1 u := H1.out.2.2.1
  obtain ⟨k0, k1, k2, k3, k4⟩ := HK.out w2 H2.out.1
  obtain ⟨d0, -⟩ := box1 k0
  obtain ⟨d1, -⟩ := box1 k1
  obtain ⟨d2, -⟩ := box1 k2
  obtain ⟨d3, -⟩ := box1 k3
  obtain ⟨-, e1, -, -⟩ := box4 k4
  have H3 := Lib.hid (And.intro hb2 (And.intro hs2 (buf_Len hb2)))
  clear hb2 hs2 k0 k1 k2 k3 k4
  cases xs with
  | nil =>
    cases fr <;> cases V
    all_goals
      go_wp2_with (go_at_call 33; fail)
      refine H3.out.2.2.mono ?_
      rintro e w3 ⟨rfl, rfl⟩
      rw [List.length_nil]
      go_wp2
      go_ret
      exact ⟨H2.out.1, H2.out.2.2, ⟨_, H3.out.1, H3.out.2.1⟩, by simp⟩
  | cons y ys =>
    obtain ⟨m, hm⟩ : ∃ m, (y :: ys).length = m := ⟨_, rfl⟩
    have hm0 : (0 : Int) < (m : Int) := by rw [← hm]; simp
    have HL := Lib.hid H3.out.2.2
    rw [hm] at HL
    clear hm
    cases fr <;> cases V
    all_goals
      go_wp2_with (go_at_call 33; fail)
      refine HL.out.mono ?_
      rintro e w3 ⟨rfl, rfl⟩
      go_wp2_with (go_at_call 73; fail)
      refine (note_paint n col _ tv HTv.out _).mono ?_
      rintro e w4 ⟨b, rfl, t4, hb, k⟩
      have H4 := Lib.hid (And.intro (H2.out.1.trans (t4.mono fun _ _ x => x.elim)) (And.intro (H2.out.2.2.old t4) (And.intro (H3.out.1.old t4) (And.intro (Nat.le_trans H2.out.1.size hb) k))))
      clear t4 hb k
      go_wp2
      go_ret
      exact ⟨H4.out.1, H4.out.2.1, ⟨_, H4.out.2.2.1, H3.out.2.1⟩, .inl ⟨by simp, b, rfl, H4.out.2.2.2⟩⟩
end Go.Proofs.YtnobempbcdkoaaaGreatDoor
