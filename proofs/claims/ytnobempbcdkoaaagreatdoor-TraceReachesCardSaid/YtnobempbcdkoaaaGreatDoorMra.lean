/- Marking, walked: Mark. Conditions: the tables of limits, of sizes and of de Bruijn's bits read as laid. -/
import Derived.Test.YtnobempbcdkoaaaGreatDoorMrm
import Derived.Laws.EntriesVeiled
namespace Go.Proofs.YtnobempbcdkoaaaGreatDoor
open Go.RowKit Go.Shelf
attribute [local go_sem] Oper.semAt_some

variable {W w w' : World} {A : HA} {c : Cf} {S : HS} {H : Nat → List Nat} {rt : List Int} {col room : Int}
theorem IntsIn.touch2 {T : Nat → Prop} {w w' : World} {v : Value} {xs : List Int} (h : IntsIn w v xs) (ht : Touch T w w') (hs : xs ≠ [] → ∀ b, v.ownBlock = some b → ¬ T b) : IntsIn w' v xs := by
  by_cases h0 : xs = []
  · obtain ⟨ao, cap, rfl, _⟩ := h
    exact ⟨ao, cap, rfl, .inl h0⟩
  · exact h.touch ht (hs h0)
theorem IntsIn.lt {w : World} {v : Value} {xs : List Int} (h : IntsIn w v xs) (h0 : xs ≠ []) {b : Nat} (hb : v.ownBlock = some b) : b < w.heap.size := by
  obtain ⟨ao, cap, rfl, h1 | ⟨b', o, rfl, hc, hx⟩⟩ := h
  · exact absurd h1 h0
  · obtain rfl : b' = b := by cases hb; rfl
    exact cell_lt (hx 0 (List.length_pos_iff.2 h0))
theorem Rch.ofK {K : Nat → Bool} {x : Int} (h : Rch { S with K := K } c rt x) : Rch S c rt x := by
  induction h with
  | root h1 h2 => exact Rch.root h1 h2
  | step _ h2 h3 ih => exact Rch.step ih h2 h3
theorem Rch.toK {K : Nat → Bool} {x : Int} (h : Rch S c rt x) : Rch { S with K := K } c rt x := by
  induction h with
  | root h1 h2 => exact Rch.root h1 h2
  | step _ h2 h3 ih => exact Rch.step ih h2 h3
/-- Behind the roots, and between two walks through all. -/
structure OutI (W : World) (A : HA) (c : Cf) (S : HS) (H : Nat → List Nat) (rt : List Int) (B mk p : Nat) (col room : Int) (w : World) (v : Value) (rs : List Int) (pend : Int → Prop) (s' : MaS) (v' : Value) (wr : World) : Prop where
  t : Touch (MaO A mk p v) w wr
  sub : ∀ b, SkF p v' b → SkF p v b ∨ w.heap.size ≤ b
  i : MaI W A c S H B mk p col room s' v' wr
  k : MkS S c rt col room s' pend
  xs : s'.xs = []
  rs : ∀ x ∈ rs, S.obj x = true → S.blk col s'.K x = true
  al : (S.objs.length : Int) ≤ room → s'.al = 0
variable {B mk p : Nat} {v : Value} {s : MaS} {pend : Int → Prop} {rs : List Int}
theorem OutI.step {pend' : Int → Prop} {s1 s2 : MaS} {v1 v2 : Value} {w1 w2 : World} (h : OutI W A c S H rt B mk p col room w v rs pend s1 v1 w1) (g : MaN W A c S H rt B mk p col room w1 v1 s1 pend' s2 v2 w2) (hx : s2.xs = []) : OutI W A c S H rt B mk p col room w v rs pend' s2 v2 w2 :=
  ⟨h.t.step g.t (MaO.sub h.sub), fun b hb => (g.sub b hb).elim (fun x => h.sub b x) (fun x => .inr (Nat.le_trans h.t.size x)), g.i, g.k, hx, fun x hx ho => g.g.up x (h.rs x hx ho), fun e => g.g.al.trans (h.al e)⟩
theorem OutI.not {s1 : MaS} {v1 : Value} {w1 : World} (h : OutI W A c S H rt B mk p col room w v rs pend s1 v1 w1) {b : Nat} (hb : b < w.heap.size) (hn : ¬ MaO A mk p v b) : ¬ MaO A mk p v1 b := fun x => (MaO.sub h.sub b x).elim hn (fun y => by omega)
/-- A root is painted, and the stack is drained. -/
theorem OutI.root {s1 s2 s3 : MaS} {v1 v2 v3 : Value} {w1 w2 w3 : World} {x : Int} (h : OutI W A c S H rt B mk p col room w v rs (fun _ => False) s1 v1 w1) (hc : col = 0 ∨ col = 1) (hr : x ∈ rt) (ht : Touch (MaO A mk p v1) w1 w2) (hs : ∀ b, SkF p v2 b → SkF p v1 b ∨ w1.heap.size ≤ b) (hi : MaI W A c S H B mk p col room (s1.pt S col room x) v2 w2) (hs2 : s2 = s1.pt S col room x)
    (g : MaN W A c S H rt B mk p col room w2 v2 s2 (fun _ => False) s3 v3 w3) (hx : s3.xs = []) : OutI W A c S H rt B mk p col room w v (rs ++ [x]) (fun _ => False) s3 v3 w3 := by
  subst hs2
  have h2 := h.step ⟨ht, hs, hi, h.k.pt hc (fun ho => Rch.root hr ho), MaG.pt hc⟩ (s2 := s1.pt S col room x)
  have g2 : MaN W A c S H rt B mk p col room w1 v1 s1 (fun _ => False) s3 v3 w3 := MaN.trans ⟨ht, hs, hi, h.k.pt hc (fun ho => Rch.root hr ho), MaG.pt hc⟩ g
  have h3 := h.step g2 hx
  refine ⟨h3.t, h3.sub, h3.i, h3.k, h3.xs, fun y hy ho => ?_, h3.al⟩
  rcases List.mem_append.1 hy with hy | hy
  · exact h3.rs y hy ho
  · obtain rfl : y = x := by simpa using hy
    exact g.g.up _ (pt_in hc ho)
set_option maxRecDepth 20000 in
set_option maxHeartbeats 4000000 in
theorem tr_Mark (h : HpI W w A c S H) (hT : Tab W) (hc : col = 0 ∨ col = 1) (hr : 1 ≤ room ∧ room ≤ 4096) (hb : S.objs.length ≤ 4000) (ar : Option Addr) (R cr : Nat) (hro : IntsIn w (.slice ar R cr) rt) (hR : rt.length = R) (hrb : rt ≠ [] → ∀ b, (Value.slice ar R cr).ownBlock = some b → ¬ HT A b) (hR2 : R ≤ 1000) :
    Calls Tryz.prog 46 #[.pointer (some ⟨A.h, 0, none⟩), .int .i64 col, .int .i64 room, .slice ar R cr] w fun e w' => ∃ (n al : Nat) (K : Nat → Bool), e = .returned (.tuple #[.int .i64 n, .int .i64 al, .int .i64 0]) ∧ Touch (HT A) w w' ∧ HpI W w' A c { S with K := K } H ∧ (∀ x, S.blk col K x = true ↔ Rch S c rt x) ∧ n = (S.objs.filter (S.blk col K)).length ∧ al ≤ n ∧ ((S.objs.length : Int) ≤ room → al = 0) := by
  have hmf := hmkf
  have HH := Lib.hid (And.intro h (And.intro hT (And.intro hc (And.intro hr (And.intro hb (And.intro hro (And.intro hR hrb)))))))
  have hc0 : ((col != 0) = false) ∨ ((col != 0) = true ∧ (col != 1) = false) := by rcases hc with rfl | rfl <;> decide
  clear h hT hr hb hro hR hrb hc
  rcases hc0 with g1 | ⟨g1, g2⟩
  all_goals
    go_enter Tryz.func46, Tryz.ntmps46
    go_wp2_with (go_at_call 74; fail)
    obtain ⟨W0, hW0⟩ : ∃ W0, W0 = (w.alloc (Obj.cells #[.pointer (some ⟨A.h, 0, none⟩)] 31)).alloc (Obj.cells #[.int .i64 col] 3) := ⟨_, rfl⟩
    have t0 : Touch nob w W0 := by rw [hW0]; (repeat (first | with_reducible exact Touch.refl _ _ | with_reducible assumption | with_reducible apply Touch.alloc | with_reducible apply Touch.drewN | with_reducible apply Touch.drew | with_reducible refine Touch.setCell ?_ (.inr (by first | omega | (simp; done) | (simp; omega))) _))
    have b0 : W0.heap[w.heap.size]? = some (Obj.cells #[.pointer (some ⟨A.h, 0, none⟩)] 31) := by rw [hW0]; exact alloc2_0 w _ _
    have b1 : W0.heap[w.heap.size + 1]? = some (Obj.cells #[.int .i64 col] 3) := by rw [hW0]; exact alloc2_1 w _ _
    obtain ⟨z, hz⟩ : ∃ z, z = w.heap.size := ⟨_, rfl⟩
    rw [← hW0, ← hz]
    rw [← hz] at b0 b1
    refine (stack_New_ok room HH.out.2.2.2.1.1 HH.out.2.2.2.1.2 W0).mono ?_
    rintro e w1 ⟨rfl, t1, hs⟩
    obtain ⟨p, hp⟩ : ∃ p, p = W0.heap.size := ⟨_, rfl⟩
    rw [← hp] at hs ⊢
    obtain ⟨x0, y0⟩ := box1 (blk_touch b0 t1 (fun x => x))
    obtain ⟨x1, y1⟩ := box1 (blk_touch b1 t1 (fun x => x))
    have H1 := Lib.hid (And.intro (t0.trans t1) (And.intro (blk_touch b0 t1 (fun x => x)) (And.intro (blk_touch b1 t1 (fun x => x)) (And.intro hs (And.intro hz hp)))))
    have HZ : Hid (z + 2 = p ∧ p < w1.heap.size) := ⟨by rw [hp, hz, hW0]; simp, blk_lt hs.box⟩
    clear t0 b0 b1 t1 hs hz hp hW0
    obtain ⟨W2, hW2⟩ : ∃ W2, W2 = (w1.alloc (Obj.cells #[.pointer (some ⟨A.h, 0, none⟩), .pointer (some ⟨p, 0, none⟩), .int .i64 col, .int .i64 0, .int .i64 0] 137)).alloc (Obj.cells #[.pointer (some ⟨w1.heap.size, 0, none⟩)] 135) := ⟨_, rfl⟩
    have t2 : Touch nob w1 W2 := by rw [hW2]; (repeat (first | with_reducible exact Touch.refl _ _ | with_reducible assumption | with_reducible apply Touch.alloc | with_reducible apply Touch.drewN | with_reducible apply Touch.drew | with_reducible refine Touch.setCell ?_ (.inr (by first | omega | (simp; done) | (simp; omega))) _))
    have m0 : W2.heap[w1.heap.size]? = some (Obj.cells #[.pointer (some ⟨A.h, 0, none⟩), .pointer (some ⟨p, 0, none⟩), .int .i64 col, .int .i64 0, .int .i64 0] 137) := by rw [hW2]; exact alloc2_0 w1 _ _
    have m1 : W2.heap[w1.heap.size + 1]? = some (Obj.cells #[.pointer (some ⟨w1.heap.size, 0, none⟩)] 135) := by rw [hW2]; exact alloc2_1 w1 _ _
    have x2 := one_cell (blk_touch H1.out.2.1 t2 (fun x => x))
    rw [hW2] at x2
    go_wp2_with (go_at_call 75; fail)
    obtain ⟨mk, hmk⟩ : ∃ mk, mk = w1.heap.size := ⟨_, rfl⟩
    rw [← hW2, ← hmk]
    rw [← hmk] at m0 m1
    have H2 := Lib.hid (And.intro (H1.out.1.trans t2) (And.intro (blk_touch H1.out.2.1 t2 (fun x => x)) (And.intro (blk_touch H1.out.2.2.1 t2 (fun x => x)) (And.intro (H1.out.2.2.2.1.touch t2 (fun _ _ x => x)) (And.intro m0 (And.intro m1 hmk))))))
    clear t2 m0 m1 hmk hW2 x0 y0 x1 y1 x2
    refine (tr_each 76 #[.pointer (some ⟨z, 0, none⟩), .pointer (some ⟨z + 1, 0, none⟩)] (enters_of Tryz.func76 (by kernel_rfl) rfl) (HH.out.1.old H2.out.1) HH.out.2.1 (by have := HH.out.2.2.2.2.1; omega) (OffI W A c S H col W2 S.objs) (HT A) (fun b hb => Nat.lt_of_lt_of_le (HH.out.1.at'.lt b hb) H2.out.1.size) ?_).mono ?_
    · intro w' ht hp
      refine ⟨fun pre X => OffI W A c S H col W2 pre X ∧ Touch (HT A) w' X, ⟨⟨ht, S.K, hp, fun x hx => by cases hx⟩, Touch.refl _ _⟩, fun pre X hX => hX.2, ?_, fun X hX => hX.1⟩
      rintro pre a rest X hsp ⟨⟨hX, K, hK, hb⟩, hX2⟩
      have ho : S.obj a = true := mem_objs.1 (by rw [hsp]; simp)
      have hnz : ∀ b, z ≤ b → b ∉ A.all := fun b hb hm => by have := HH.out.1.at'.lt b hm; have := H1.out.2.2.2.2.1; omega
      refine (mark1 a hK ho HH.out.2.2.1 (blk_touch H2.out.2.1 hX (hnz z (Nat.le_refl _))) (blk_touch H2.out.2.2.1 hX (hnz (z + 1) (by omega)))).mono ?_
      rintro e X' ⟨rfl, h1, h2⟩
      exact ⟨rfl, OffI.step HH.out.2.2.1 ho hX hb h1 h2, hX2.trans h1⟩
    rintro e w3 ⟨rfl, t3, K, hK, hoff⟩
    have hnz : ∀ b, z ≤ b → b ∉ A.all := fun b hb hm => by have := HH.out.1.at'.lt b hm; have := H1.out.2.2.2.2.1; omega
    have hoffA : ∀ x, S.blk col K x = false := fun x => by
      cases hx : S.obj x with
      | true => exact hoff x (mem_objs.2 hx)
      | false => unfold HS.blk; rw [hx]; rfl
    have hpz := HZ.out
    have hmz := H2.out.2.2.2.2.2.2
    have hzz := H1.out.2.2.2.2.1
    have hMI : MaI W A c S H w.heap.size mk p col room ⟨K, [], false, 0, 0⟩ (.slice none 0 0) w3 := by
      refine ⟨hK, blk_touch H2.out.2.2.2.2.1 t3 (hnz mk (by omega)), ((H2.out.2.2.2.1.touch t3 (fun b hb x => hnz b (by have hb : b = p := hb; omega) x)).exact).1, ?_, HH.out.1.at'.lt, by omega, HH.out.1.at'.base.size⟩
      rintro b (rfl | hb)
      · omega
      · cases hb
    have hOut : OutI W A c S H rt w.heap.size mk p col room w3 (.slice none 0 0) [] (fun _ => False) ⟨K, [], false, 0, 0⟩ (.slice none 0 0) w3 := ⟨Touch.refl _ _, fun _ h => .inl h, hMI, MkS.start hoffA, rfl, fun x hx => absurd hx (by simp), fun _ => rfl⟩
    have HO := Lib.hid hOut
    have hNo : ∀ b, b = z ∨ b = z + 1 ∨ b = mk + 1 → b < w3.heap.size ∧ ¬ MaO A mk p (.slice none 0 0) b := fun b hb => by
      have hl1 := blk_lt H2.out.2.2.2.2.2.1
      have hl2 := t3.size
      refine ⟨by omega, ?_⟩
      rintro (x | x | x | x)
      · exact hnz b (by omega) x
      · omega
      · omega
      · cases x
    have HF : Hid (∀ wr, Touch (MaO A mk p (.slice none 0 0)) w3 wr → wr.heap[z]? = some (Obj.cells #[.pointer (some ⟨A.h, 0, none⟩)] 31) ∧ wr.heap[z + 1]? = some (Obj.cells #[.int .i64 col] 3) ∧ wr.heap[mk + 1]? = some (Obj.cells #[.pointer (some ⟨mk, 0, none⟩)] 135) ∧ IntsIn wr (.slice ar R cr) rt) := fun wr ht => by
      refine ⟨blk_touch (blk_touch H2.out.2.1 t3 (hnz z (Nat.le_refl _))) ht (hNo z (.inl rfl)).2, blk_touch (blk_touch H2.out.2.2.1 t3 (hnz _ (by omega))) ht (hNo _ (.inr (.inl rfl))).2, blk_touch (blk_touch H2.out.2.2.2.2.2.1 t3 (hnz _ (by omega))) ht (hNo _ (.inr (.inr rfl))).2, ?_⟩
      refine HH.out.2.2.2.2.2.1.touch2 (T := HT A) ((H2.out.1.hnob.trans t3).step ht ?_) HH.out.2.2.2.2.2.2.2
      rintro b (x | x | x | x)
      · exact .inl x
      · exact .inr (by omega)
      · exact .inr (by omega)
      · cases x
    have HN := Lib.hid hNo
    have HT3 := Lib.hid (H2.out.1.hnob.trans t3)
    clear t3 hK hoff hnz hoffA hpz hmz hzz hMI hOut hNo
    go_wp2_with fail
    go_loopw [44] (fun i wr => ∃ j : Nat, j ≤ R ∧ i = .int .i64 j ∧ Hid (∃ s' v', OutI W A c S H rt w.heap.size mk p col room w3 (.slice none 0 0) (rt.take j) (fun _ => False) s' v' wr)) (fun i _ => R - (intOf i).toNat)
    case atStart => exact ⟨0, Nat.zero_le _, rfl, _, _, HO.out⟩
    case round =>
      obtain ⟨j, hj, rfl, HI⟩ := hrel
      clear HO
      by_cases hlt : j < R
      · have hb2 : (j : Int) < (R : Int) := by omega
        obtain ⟨s1, v1, h1⟩ := HI.out
        obtain ⟨f0, f1, f2, f3⟩ := HF.out wr h1.t
        have hjl : j < rt.length := by rw [HH.out.2.2.2.2.2.2.1]; exact hlt
        obtain ⟨g, o, cap, hv, hcap, hcell⟩ := f3.at hjl
        rw [HH.out.2.2.2.2.2.2.1] at hv hcap
        injection hv with hv1 hv2 hv3
        subst hv1 hv3
        obtain ⟨x, hx⟩ : ∃ x, rt.getD j 0 = x := ⟨_, rfl⟩
        rw [hx] at hcell
        have hxm : x ∈ rt := by rw [← hx, List.getD_eq_getElem?_getD, List.getElem?_eq_getElem hjl]; exact List.getElem_mem hjl
        have htk : rt.take (j + 1) = rt.take j ++ [x] := by rw [take_succ_getD hjl, hx]
        have c2 := one_cell f2
        have hpt := mk_paint x h1.i HH.out.2.2.1 (by have := h1.k.n_le; have := HH.out.2.2.2.2.1; omega)
        have HX := Lib.hid (And.intro h1 (And.intro hxm (And.intro htk hpt)))
        clear h1 f0 f1 f2 f3 hjl hv2 hx hxm htk hpt HI
        go_wp2_with (go_at_call 78; fail)
        refine HX.out.2.2.2.mono ?_
        rintro e w5 ⟨rfl, v5, t5, s5, i5⟩
        have c2' := one_cell (blk_touch (HF.out wr HX.out.1.t).2.2.1 t5 (HX.out.1.not (HN.out _ (.inr (.inr rfl))).1 (HN.out _ (.inr (.inr rfl))).2))
        have H5 := Lib.hid (And.intro t5 (And.intro s5 i5))
        clear t5 s5 i5 c2 hcell
        go_wp2_with (go_at_call 79; fail)
        refine (mk_drain (rt := rt) (pend := fun _ => False) H5.out.2.2 HH.out.2.2.1 (HX.out.1.k.pt HH.out.2.2.1 (fun ho => Rch.root HX.out.2.1 ho))).mono ?_
        rintro e w6 ⟨rfl, s6, v6, h6, hx6⟩
        have H6 : Hid (∃ s' v', OutI W A c S H rt w.heap.size mk p col room w3 (.slice none 0 0) (rt.take (j + 1)) (fun _ => False) s' v' w6) := by
          refine ⟨s6, v6, ?_⟩
          rw [HX.out.2.2.1]
          exact HX.out.1.root HH.out.2.2.1 HX.out.2.1 H5.out.1 H5.out.2.1 H5.out.2.2 rfl h6 hx6
        clear h6 hx6 c2' HX H5
        go_wp2
        go_roundw
        case rel => exact ⟨j + 1, by omega, by go_num, H6⟩
        case measure => simp [intOf]; omega
      · obtain rfl : j = R := by omega
        have hb2 : ¬ (j : Int) < (j : Int) := by omega
        have HI2 : Hid (∃ s' v', OutI W A c S H rt w.heap.size mk p col room w3 (.slice none 0 0) rt (fun _ => False) s' v' wr) := by
          obtain ⟨s1, v1, h1⟩ := HI.out
          rw [List.take_of_length_le (Nat.le_of_eq HH.out.2.2.2.2.2.2.1)] at h1
          exact ⟨s1, v1, h1⟩
        clear HI
        go_wp2_with fail
        go_loopg [] S.objs.length (fun g wr => Hid (∃ s' v', OutI W A c S H rt w.heap.size mk p col room w3 (.slice none 0 0) rt (fun _ => False) s' v' wr ∧ S.objs.length ≤ g + s'.al))
        case atStart =>
          obtain ⟨s1, v1, h1⟩ := HI2.out
          exact ⟨s1, v1, h1, Nat.le_add_right _ _⟩
        case round =>
          clear HI2
          obtain ⟨s1, v1, h1, hg⟩ := hrel.out
          obtain ⟨f0, f1, f2, f3⟩ := HF.out wr h1.t
          have hca := stack_Calm p _ v1 s1.xs room s1.ov wr h1.i.sk
          have HX := Lib.hid (And.intro h1 (And.intro hg hca))
          clear h1 hg hca hrel f0 f1 f2 f3
          go_wp2_with (go_at_call 80; fail)
          refine HX.out.2.2.mono ?_
          rintro e w4 ⟨rfl, t4, k4⟩
          have hi4 := HX.out.1.i.stack (xs := s1.xs) (ov := false) t4 (fun b hb => .inl hb) k4
          have hT4 : Touch (MaO A mk p v1) wr w4 := t4.mono fun _ _ x => .inr (.inr x)
          cases hov : s1.ov with
          | false =>
            have hE : OutI W A c S H rt w.heap.size mk p col room w3 (.slice none 0 0) rt (fun _ => False) s1 v1 w4 := by
              have h1 := HX.out.1
              refine h1.step ⟨hT4, fun _ hb => .inl hb, ?_, h1.k, MaG.refl⟩ h1.xs
              have e : ({ s1 with xs := s1.xs, ov := false } : MaS) = s1 := by rw [← hov]
              rwa [e] at hi4
            obtain ⟨n, hn⟩ : ∃ n, s1.n = n := ⟨_, rfl⟩
            obtain ⟨al, hal⟩ : ∃ al, s1.al = al := ⟨_, rfl⟩
            have hfin : ∀ nq, Touch (HT A) w (w4.drewN nq) ∧ HpI W (w4.drewN nq) A c { S with K := s1.K } H ∧ (∀ x, S.blk col s1.K x = true ↔ Rch S c rt x) ∧ n = (S.objs.filter (S.blk col s1.K)).length ∧ al ≤ n ∧ ((S.objs.length : Int) ≤ room → al = 0) := fun nq => by
              have t9 : Touch nob w4 (w4.drewN nq) := (Touch.refl _ _).drewN nq
              have hk : MarI S c rt col room s1.K s1.xs s1.ov s1.n s1.al (fun _ => False) := hE.k
              rw [hE.xs, hov] at hk
              refine ⟨((HT3.out.step hE.t ?_).trans t9.hnob), hE.i.hp.old t9, fun x => hk.done hE.rs, hn ▸ hk.ct, ?_, hal ▸ hE.al⟩
              · rintro b (x | x | x | x)
                · exact .inl x
                · have := H2.out.2.2.2.2.2.2; have := HZ.out; have := H1.out.2.2.2.2.1; exact .inr (by omega)
                · have := HZ.out; have := H1.out.2.2.2.2.1; exact .inr (by omega)
                · cases x
              · have := hk.al
                rw [hn, hal] at this
                exact Nat.le_trans (Nat.le_add_right _ _) this
            have HE := Lib.hid hfin
            have hmb := hE.i.mb
            rw [hn, hal] at hmb
            obtain ⟨d0, d1, d2, d3, d4⟩ : (w4.cell? ⟨mk, 0, none⟩ = some (.pointer (some ⟨A.h, 0, none⟩)) ∧ w4.cell? ⟨mk, 1, none⟩ = some (.pointer (some ⟨p, 0, none⟩)) ∧ w4.cell? ⟨mk, 2, none⟩ = some (.int .i64 col) ∧ w4.cell? ⟨mk, 3, none⟩ = some (.int .i64 n) ∧ w4.cell? ⟨mk, 4, none⟩ = some (.int .i64 al)) := by simp [World.cell?, hmb]
            have cm := one_cell (HF.out w4 hE.t).2.2.1
            clear hmb hE hfin hn hal hov hi4 hT4 t4 k4 HX
            go_wp2_with fail
            go_quiet (fail)
            go_wp2
            refine bodyPost_ret (v := .tuple #[.int .i64 n, .int .i64 al, .int .i64 0]) (by simp [results, Tryz.results46, go_sem]) rfl ⟨n, al, s1.K, rfl, HE.out _⟩
          | true =>
            have hk1 : MarI S c rt col room s1.K s1.xs s1.ov s1.n s1.al (fun _ => False) := HX.out.1.k
            rw [HX.out.1.xs, hov] at hk1
            obtain ⟨n, hn⟩ : ∃ n, s1.n = n := ⟨_, rfl⟩
            obtain ⟨al, hal⟩ : ∃ al, s1.al = al := ⟨_, rfl⟩
            have hmb := hi4.mb
            have hmb' : w4.heap[mk]? = some (Obj.cells #[.pointer (some ⟨A.h, 0, none⟩), .pointer (some ⟨p, 0, none⟩), .int .i64 col, .int .i64 n, .int .i64 al] 137) := by rw [← hn, ← hal]; exact hmb
            have hnl := HX.out.1.k.n_le
            have hal1 : al + 1 ≤ n := by have := hk1.al; rw [hn, hal] at this; simpa using this
            have hal2 : al ≤ 4000 := by have := HH.out.2.2.2.2.1; rw [hn] at hnl; omega
            obtain ⟨W5, hW5⟩ : ∃ W5, W5 = w4.setCell ⟨mk, 4, none⟩ (.int .i64 ((al : Int) + 1)) := ⟨_, rfl⟩
            have hm5 : W5.heap[mk]? = some (Obj.cells #[.pointer (some ⟨A.h, 0, none⟩), .pointer (some ⟨p, 0, none⟩), .int .i64 col, .int .i64 n, .int .i64 ((al + 1 : Nat) : Int)] 137) := by rw [hW5]; exact blk_set hmb' (by simp)
            have t5 : Touch (fun b => b = mk) w4 W5 := by rw [hW5]; exact touch_set _ _ _ _
            have hi5 := hi4.num t5 hm5
            have hp5 := hk1.pass
            rw [hn, hal] at hp5
            have hOut5 : OutI W A c S H rt w.heap.size mk p col room w3 (.slice none 0 0) rt (fun x => S.obj x = true) ⟨s1.K, [], false, n, al + 1⟩ v1 W5 := by
              have h1 := HX.out.1
              refine ⟨(h1.t.step hT4 (MaO.sub h1.sub)).step t5 (fun b hb => .inl (.inr (.inl hb))), h1.sub, ?_, hp5, rfl, h1.rs, fun e => ?_⟩
              · have := hi5
                rw [h1.xs] at this
                exact this
              · exfalso
                have := hk1.rm e
                cases this
            have HO5 := Lib.hid (And.intro hOut5 (And.intro hal1 (show al + 1 ≤ S.objs.length by rw [hn] at hnl; omega)))
            have HG : Hid (S.objs.length ≤ gk + al) := by have := HX.out.2.1; rwa [hal] at this
            obtain ⟨d0, d1, d2, d3, d4⟩ : (w4.cell? ⟨mk, 0, none⟩ = some (.pointer (some ⟨A.h, 0, none⟩)) ∧ w4.cell? ⟨mk, 1, none⟩ = some (.pointer (some ⟨p, 0, none⟩)) ∧ w4.cell? ⟨mk, 2, none⟩ = some (.int .i64 col) ∧ w4.cell? ⟨mk, 3, none⟩ = some (.int .i64 n) ∧ w4.cell? ⟨mk, 4, none⟩ = some (.int .i64 al)) := by simp [World.cell?, hmb']
            have f4 : w4.frozen? ⟨mk, 4, none⟩ = false := by simp [World.frozen?, hmb']
            have hT34 := HX.out.1.t.step hT4 (MaO.sub HX.out.1.sub)
            have cm := one_cell (HF.out w4 hT34).2.2.1
            have ch := one_cell (HF.out W5 hOut5.t).1
            rw [hW5] at ch
            have hmz : mk ≠ z := by have := H2.out.2.2.2.2.2.2; have := HZ.out; omega
            clear hmb hmb' hk1 hnl hal1 hm5 t5 hi5 hp5 hOut5 hn hal hi4 hT4 t4 k4 hT34 HX hov
            go_wp2_with (go_at_call 75; fail)
            rw [← hW5]
            clear hW5 d0 d1 d2 d3 d4 f4 cm ch
            refine (tr_each (S := { S with K := s1.K }) 81 #[.pointer (some ⟨z, 0, none⟩), .pointer (some ⟨z + 1, 0, none⟩), .pointer (some ⟨mk + 1, 0, none⟩)] (enters_of Tryz.func81 (by kernel_rfl) rfl) HO5.out.1.i.hp HH.out.2.1 (by have := HH.out.2.2.2.2.1; exact Nat.le_trans this (by omega)) (fun X => ∃ s' v', MaN W A c S H rt w.heap.size mk p col room W5 v1 ⟨s1.K, [], false, n, al + 1⟩ (fun _ => False) s' v' X ∧ s'.xs = []) (MaO A mk p v1) HO5.out.1.i.lt ?_).mono ?_
            · intro w' ht hp'
              have hN0 : MaN W A c S H rt w.heap.size mk p col room W5 v1 ⟨s1.K, [], false, n, al + 1⟩ (fun x => S.obj x = true) ⟨s1.K, [], false, n, al + 1⟩ v1 w' := ⟨ht.mono fun _ _ x => .inl x, fun _ hb => .inl hb, HO5.out.1.i.heap ht hp', HO5.out.1.k, MaG.refl⟩
              refine ⟨fun pre X => ∃ s' v', MaN W A c S H rt w.heap.size mk p col room w' v1 ⟨s1.K, [], false, n, al + 1⟩ (fun x => S.obj x = true ∧ x ∉ pre) s' v' X ∧ s'.xs = [], ⟨_, v1, (MaN.refl hN0.i hN0.k).weak (fun x hx => ⟨hx, by simp⟩), rfl⟩, fun pre X ⟨_, _, hX, _⟩ => hX.t, ?_, ?_⟩
              · rintro pre a rest X hsp ⟨s', v', hX, hx'⟩
                have hsp : S.objs = pre ++ a :: rest := hsp
                have ho : S.obj a = true := mem_objs.1 (by rw [hsp]; simp)
                have hO' := (HO5.out.1.step hN0 rfl).step hX hx'
                obtain ⟨f0, f1, f2, -⟩ := HF.out X hO'.t
                refine (mark2 (pend := fun x => S.obj x = true ∧ x ∉ pre ++ [a]) a hX.i (MarI.weak hX.k ?_) hx' ho HH.out.2.2.1 f0 f1 f2 (hO'.not (HN.out _ (.inr (.inr rfl))).1 (HN.out _ (.inr (.inr rfl))).2)).mono ?_
                · rintro x ⟨h1, h2⟩
                  by_cases hxa : x = a
                  · exact .inl hxa
                  · exact .inr ⟨h1, by simp [h2, hxa]⟩
                · rintro e X' ⟨rfl, s2, v2, h2, hx2⟩
                  exact ⟨rfl, s2, v2, hX.trans h2, hx2⟩
              · rintro X ⟨s', v', hX, hx'⟩
                exact ⟨s', v', (hN0.trans hX).weak (fun x hx => hx.2 (mem_objs.2 hx.1)), hx'⟩
            rintro e w6 ⟨rfl, s6, v6, h6, hx6⟩
            have hO6 := HO5.out.1.step h6 hx6
            have hal6 : s6.al = al + 1 := h6.g.al
            have H6 : Hid (∃ s' v', OutI W A c S H rt w.heap.size mk p col room w3 (.slice none 0 0) rt (fun _ => False) s' v' w6 ∧ S.objs.length ≤ (gk - 1) + s'.al) := ⟨s6, v6, hO6, by have := HG.out; have := HO5.out.2; omega⟩
            have hgk : gk - 1 < gk := by have := HG.out; have := HO5.out.2; omega
            clear h6 hx6 hO6 hal6
            go_wp2
            go_roundg (gk - 1)
            case measure => exact hgk
            case rel => exact H6
end Go.Proofs.YtnobempbcdkoaaaGreatDoor
