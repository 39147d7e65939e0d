/- The document's heap, a block of which is swept: walked. Conditions: what Rv says. -/
import Derived.Test.YtflhjbmoncbomaaGreatDoorSwp
namespace Go.Proofs.YtflhjbmoncbomaaGreatDoor
open Go.RowKit

variable {w w' wr : World} {O O' : Nat → Prop} {m qx n : Nat} {c : Cf} {S : HS} {H : Nat → List Nat} {col : Int} {b : Nat}
/-- The addresses in a block. -/
def inB (c : Cf) (b : Nat) (l : List Int) : List Int := l.filter fun a => decide ((a - 1) / c.c1 = (b : Int))
theorem inB_slAt {ks : List Int} (tb : Tb c ks n) (j : Nat) : inB c b (slAt c ks j) = if j = b then slAt c ks b else [] := by
  unfold inB
  by_cases h : j = b
  · subst h
    rw [if_pos rfl]
    refine List.filter_eq_self.2 fun x hx => ?_
    simpa using (tb.slAt hx).2.2
  · rw [if_neg h]
    refine List.filter_eq_nil_iff.2 fun x hx => ?_
    have := (tb.slAt hx).2.2
    simp
    omega
theorem inB_all {ks : List Int} (tb : Tb c ks n) : ∀ j, inB c b (allSl c ks j) = if b < j then slAt c ks b else []
  | 0 => by rw [if_neg (Nat.not_lt_zero _)]; rfl
  | j + 1 => by
    have h1 := inB_all tb j
    have h2 := inB_slAt tb j (b := b)
    show inB c b (allSl c ks j ++ slAt c ks j) = _
    unfold inB at h1 h2 ⊢
    rw [List.filter_append, h1, h2]
    by_cases hb : b < j
    · rw [if_pos hb, if_neg (by omega), if_pos (by omega), List.append_nil]
    · rw [if_neg hb]
      by_cases e : j = b
      · rw [if_pos e, if_pos (by omega), List.nil_append]
      · rw [if_neg e, if_neg (by omega), List.nil_append]
/-- Behind j slots. -/
structure SwtI (w : World) (O : Nat → Prop) (m qx : Nat) (c : Cf) (n : Nat) (p : HS × (Nat → List Nat)) (col : Int) (l : List Int) (vo : Value) (wr : World) (O' : Nat → Prop) : Prop where
  t : Touch O w wr
  s : Sub w O' O
  rv : Rv wr O' m qx c n (swP c col l p).1 (swP c col l p).2
  ow : Ow wr w.heap.size vo (swL c col l p)
  nd : ∀ b, vo.ownBlock = some b → ¬ O' b
theorem inB_take (L : List Int) {j : Nat} {a : Int} (h : L[j]? = some a) : inB c b (L.take (j + 1)) = inB c b (L.take j) ++ (if (a - 1) / c.c1 = (b : Int) then [a] else []) := by
  unfold inB
  rw [List.take_add_one, h, List.filter_append]
  congr 1
  by_cases e : (a - 1) / c.c1 = (b : Int) <;> simp [e]
variable {p : HS × (Nat → List Nat)} {L : List Int} {j : Nat} {a : Int} {vo v4 : Value} {w5 w6 w7 : World} {O6 : Nat → Prop}
theorem SwtI.old {l : List Int} (h : SwtI w O m qx c n p col l vo wr O') (ht : Touch nob wr w') : SwtI w O m qx c n p col l vo w' O' :=
  ⟨h.t.trans ht.hnob, h.s, h.rv.old ht, h.ow.touch ht (fun _ _ x => x), h.nd⟩
theorem SwtI.skip (h : SwtI w O m qx c n p col (inB c b (L.take j)) vo wr O') (hLa : L[j]? = some a) (hng : (a - 1) / c.c1 = (b : Int) → (swP c col (inB c b (L.take j)) p).1.gone col a = false) : SwtI w O m qx c n p col (inB c b (L.take (j + 1))) vo wr O' := by
  rw [inB_take L hLa]
  by_cases e : (a - 1) / c.c1 = (b : Int)
  · rw [if_pos e]
    refine ⟨h.t, h.s, ?_, ?_, h.nd⟩
    · rw [swP_snoc, swStep_no (hng e)]
      exact h.rv
    · rw [swL_snoc, hng e]
      simp only [Bool.false_eq_true, if_false, List.append_nil]
      exact h.ow
  · rw [if_neg e, List.append_nil]
    exact h
theorem SwtI.take {o : Obj} (h : SwtI w O m qx c n p col (inB c b (L.take j)) vo wr O') (hLa : L[j]? = some a) (he : (a - 1) / c.c1 = (b : Int)) (hg : (swP c col (inB c b (L.take j)) p).1.gone col a = true) (t5 : Touch nob wr w5) (t6 : Touch O' w5 w6) (s6 : Sub w5 O6 O')
    (r6 : Rv w6 O6 m qx c n ((swP c col (inB c b (L.take j)) p).1.freS c a) (freH (swP c col (inB c b (L.take j)) p).1 c (swP c col (inB c b (L.take j)) p).2 a))
    (hown : w7.ownsRow w.heap.size 3 1 v4 ((swL c col (inB c b (L.take j)) p).length + 1) ((swL c col (inB c b (L.take j)) p).map (.int .i64) ++ [.int .i64 a])) (hgrow : (w6.alloc o).grownBy w7 vo.ownBlock) (hat : v4.ownBlock = vo.ownBlock ∨ v4.ownBlock = some (w6.alloc o).heap.size) : SwtI w O m qx c n p col (inB c b (L.take (j + 1))) v4 w7 O6 := by
  have T5 : Touch O w w5 := h.t.trans t5.hnob
  have T6 : Touch O w w6 := T5.step t6 h.s
  have S6 : Sub w O6 O := fun y hy => (s6 y hy).elim (h.s y) (fun x => .inr (Nat.le_trans T5.size x))
  have ow6 : Ow w6 w.heap.size vo (swL c col (inB c b (L.take j)) p) := (h.ow.touch t5 (fun _ _ x => x)).touch t6 (fun y hy hO => h.nd y hy hO)
  have nd6 : ∀ y, vo.ownBlock = some y → ¬ O6 y := fun y hy hO => by
    rcases s6 y hO with x | x
    · exact h.nd y hy x
    · have := (World.ownsRow.lt h.ow y hy).2
      have := t5.size
      omega
  have T7 : Touch (fun k => vo.ownBlock = some k) w6 w7 := Touch.grown ((Touch.refl _ _).alloc _) hgrow (fun k e => .inl e)
  rw [inB_take L hLa, if_pos he]
  refine ⟨T6.step T7 (fun k hk => .inr (World.ownsRow.lt ow6 k hk).1), S6, ?_, ?_, fun y hy => ?_⟩
  · rw [swP_snoc, swStep_yes hg]
    exact r6.touch T7 (fun y hO hy => nd6 y hy hO)
  · rw [swL_snoc, hg]
    simp only [if_true]
    unfold Ow
    rw [List.length_append, List.map_append]
    exact hown
  · rcases hat with e | e
    · exact nd6 y (by rw [← e]; exact hy)
    · rw [e] at hy
      cases hy
      intro hO
      obtain ⟨⟨R, ⟨_, _, _, hr⟩, _⟩, _⟩ := r6
      have h1 := hr.lt _ hO
      rw [World.size_alloc] at h1
      omega
set_option maxRecDepth 10000 in
set_option maxHeartbeats 2000000 in
theorem law15_swept (p : HS × (Nat → List Nat)) (col : Int) (b : Nat) (h : Rv w O m qx c n p.1 p.2) (hb : b < p.1.s.ks.length) :
    Calls Tryz.prog 54 #[.pointer (some ⟨m, 0, none⟩), .int .i64 b, .int .i64 col] w fun e w' => ∃ v', e = .returned v' ∧ ∃ O', SwtI w O m qx c n p col (slAt c p.1.s.ks b) v' w' O' := by
  obtain ⟨i0, hi, hz0, hz1, hz2⟩ := info_parts info_int2
  obtain ⟨L, hL⟩ : ∃ L, p.1.all c = L := ⟨_, rfl⟩
  obtain ⟨N, hN⟩ : ∃ N, L.length = N := ⟨_, rfl⟩
  have hfin : Hid (inB c b (L.take N) = slAt c p.1.s.ks b) := by
    show _ = _
    rw [← hN, List.take_length, ← hL]
    unfold HS.all
    rw [inB_all h.tb, if_pos hb]
  have hN1 : N ≤ 4096 := by
    obtain ⟨⟨R, hr, hs⟩, hi', tb, hz⟩ := h
    have h1 := hs.len tb hi'
    have h2 : (R.L.map fun s => s.a).length = N := by rw [hs.ad, ← hN, ← hL]; rfl
    rw [List.length_map] at h2
    omega
  have H0 : Hid (∃ O', SwtI w O m qx c n p col (inB c b (L.take 0)) (.slice none 0 0) w O') := ⟨O, Touch.refl _ _, Sub.refl _ _, h, World.ownsRow_nil _ _ _ _, fun b hb => by cases hb⟩
  have HL := Lib.hid (And.intro hL (And.intro hN (And.intro (c1_bd h.inv.ok) h.tb)))
  clear h hb hL hN
  go_enter Tryz.func54, Tryz.ntmps54
  go_wp2_with fail
  go_loopw [7, 8] (fun vo i wr => ∃ j : Nat, j ≤ N ∧ i = .int .i64 j ∧ Hid (∃ O', SwtI w O m qx c n p col (inB c b (L.take j)) vo wr O')) (fun _ i _ => N - (intOf i).toNat)
  case atStart => exact ⟨0, Nat.zero_le _, rfl, H0.out⟩
  case round =>
    obtain ⟨j, hj, rfl, HR⟩ := hrel
    clear H0
    obtain ⟨O5, st⟩ := HR.out
    obtain ⟨⟨R, hr, hs⟩, hi5, tb5, hz5⟩ := st.rv
    have hks : (swP c col (inB c b (L.take j)) p).1.s.ks = p.1.s.ks := swP_ks _ _
    have had : (R.L.map fun s => s.a) = L := by rw [hs.ad, hks]; exact HL.out.1
    have hRl : R.L.length = N := by rw [← HL.out.2.1, ← had, List.length_map]
    obtain ⟨sv, v, cx, hb⟩ := id hr
    have hbx := hb.box
    have d1 : wr.cell? ⟨m, 1, none⟩ = some (.int .i64 c.c1) := by simp [World.cell?, hbx]
    obtain ⟨-, d8, -⟩ := hb.boxes
    by_cases hlt : j < N
    · obtain ⟨s, hsj⟩ : ∃ s, R.L[j]? = some s := ⟨_, List.getElem?_eq_getElem (by omega)⟩
      have hLa : L[j]? = some s.a := by rw [← had, List.getElem?_map, hsj]; rfl
      obtain ⟨g, cap, rfl, og, gm, hcap, hjl, e0, e1, e2, e3, e4, e5, -⟩ := hb.slot j s hsj
      have ok := hs.ok s (List.mem_of_getElem? hsj)
      have hown := hs.own tb5 (List.mem_of_getElem? hsj)
      have hbd := own_bd hown
      obtain ⟨vs, cps, hvs, -⟩ := (hb.fs s (List.mem_of_getElem? hsj)).len
      rw [hvs] at e5
      obtain ⟨ln, hln⟩ : ∃ ln, s.f.length = ln := ⟨_, rfl⟩
      rw [hln] at e5
      obtain ⟨a, ha⟩ : ∃ a, s.a = a := ⟨_, rfl⟩
      obtain ⟨kk, hk⟩ : ∃ kk, s.k = kk := ⟨_, rfl⟩
      obtain ⟨is, his⟩ : ∃ is, s.is = is := ⟨_, rfl⟩
      obtain ⟨co, hco⟩ : ∃ co, s.col = co := ⟨_, rfl⟩
      obtain ⟨bg, hbg⟩ : ∃ bg, s.bg = bg := ⟨_, rfl⟩
      have okis := ok.is
      have okco := ok.col
      rw [ha, his] at okis
      rw [ha, hco] at okco
      rw [ha] at hbd e0 hLa
      rw [hk] at e1
      rw [his] at e2
      rw [hco] at e3
      rw [hbg] at e4
      rw [hRl] at d8 hcap
      have hc1 := HL.out.2.2.1
      have hq : (a - 1).tdiv c.c1 = (a - 1) / c.c1 := Int.tdiv_eq_ediv_of_nonneg (by omega)
      have hw1 : IntKind.i64.wrap (a - 1) = a - 1 := IntWalk.i64_in _ (by
        have h1 := hi5.len
        omega)
      have hc10 : ¬ c.c1 = 0 := by omega
      have hc1m : ¬ c.c1 = -1 := by omega
      have hqb : 0 ≤ (a - 1) / c.c1 ∧ (a - 1) / c.c1 ≤ a - 1 := ⟨Int.ediv_nonneg (by omega) (by omega), Int.ediv_le_self _ (by omega)⟩
      have hab : a ≤ 4096 := by
        have h1 := hi5.len
        omega
      obtain ⟨Q, hQ⟩ : ∃ Q, (a - 1) / c.c1 = Q := ⟨_, rfl⟩
      rw [hQ] at hq hqb
      have hwQ : IntKind.i64.wrap Q = Q := IntWalk.i64_in _ (by omega)
      have hjb : (j : Int) < (N : Int) := by omega
      have HX := Lib.hid (And.intro hLa (And.intro okis (And.intro okco hQ)))
      clear hr hs hi5 tb5 hz5 hks had hRl hb hbx hsj hln ha hk his hco hbg okis okco hLa hQ ok hown hbd hc1 hvs st og gm hjl
      go_wp2_with fail
      obtain ⟨W5, hW5⟩ : ∃ W5, W5 = wr.alloc (Obj.cells #[.int .i64 a, .int .i64 kk, .int .i64 is, .int .i64 co, .bool bg, .slice vs ln cps] 85) := ⟨_, rfl⟩
      obtain ⟨q9, hq9⟩ : ∃ q9, q9 = wr.heap.size := ⟨_, rfl⟩
      rw [← hW5, ← hq9]
      have T5 : Touch nob wr W5 := by rw [hW5]; exact (Touch.refl _ _).alloc _
      have hb5 : W5.heap[q9]? = some (Obj.cells #[.int .i64 a, .int .i64 kk, .int .i64 is, .int .i64 co, .bool bg, .slice vs ln cps] 85) := by rw [hW5, hq9]; exact World.alloc_heap_new _ _
      have k0 : W5.cell? ⟨q9, 0, none⟩ = some (.int .i64 a) := by simp [World.cell?, hb5]
      have k2 : W5.cell? ⟨q9, 2, none⟩ = some (.int .i64 is) := by simp [World.cell?, hb5]
      have k3 : W5.cell? ⟨q9, 3, none⟩ = some (.int .i64 co) := by simp [World.cell?, hb5]
      have k1 : W5.cell? ⟨m, 1, none⟩ = some (.int .i64 c.c1) := (T5.cell (cell_lt d1) (fun x => x)).trans d1
      have HT5 := Lib.hid T5
      have HQ9 := Lib.hid hq9
      have HK := Lib.hid (fun w7 (ht : Touch nob W5 w7) => show w7.cell? ⟨q9, 0, none⟩ = some (.int .i64 a) from (ht.cell (cell_lt k0) (fun x => x)).trans k0)
      clear d1 d8 e0 e1 e2 e3 e4 e5 hW5 hq9 T5 hb5
      have hng : Hid (¬ (is = 2 ∧ co ≠ col) → (swP c col (inB c b (L.take j)) p).1.gone col a = false) := fun hn => by
        unfold HS.gone
        cases ho : (swP c col (inB c b (L.take j)) p).1.obj a
        · rfl
        · have h2 : is = 2 := by rw [HX.out.2.1]; exact HS.isN_obj.2 ho
          have h3 := HX.out.2.2.1 ho
          have h4 : co = col := Decidable.byContradiction fun e => hn ⟨h2, e⟩
          rw [← h3, h4]
          simp
      have hyg : Hid (is = 2 ∧ co ≠ col → (swP c col (inB c b (L.take j)) p).1.gone col a = true) := fun hn => by
        have ho := HS.isN_obj.1 (HX.out.2.1.symm.trans hn.1)
        unfold HS.gone
        rw [ho, ← HX.out.2.2.1 ho]
        simpa using hn.2
      by_cases hQb : Q = (b : Int)
      · subst hQb
        by_cases h2 : is = 2
        · subst h2
          by_cases hcc : co = col
          · subst hcc
            go_quiet (fail)
            go_wp2
            go_roundw
            case rel =>
              obtain ⟨O5, st⟩ := HR.out
              exact ⟨j + 1, by omega, by go_num, O5, ((st.old HT5.out).old ((Touch.refl _ _).drewN _)).skip HX.out.1 (fun _ => hng.out (fun x => x.2 rfl))⟩
            case measure => simp [intOf]; omega
          · have hcb : (co != col) = true := by simpa using hcc
            have HG := Lib.hid (hyg.out ⟨rfl, hcc⟩)
            have HM : Hid ((swL c col (inB c b (L.take j)) p).length ≤ 4096) := by
              have h1 := swL_len (c := c) (col := col) (inB c b (L.take j)) p
              have h2 : (inB c b (L.take j)).length ≤ (L.take j).length := List.length_filter_le _ _
              rw [List.length_take] at h2
              have := HL.out.2.1
              show _ ≤ _
              omega
            go_quiet (fail)
            go_wp2_with (go_at_call 67; fail)
            generalize hw : World.drewN W5 nq = w5
            have t5 : Touch nob W5 w5 := by rw [← hw]; exact (Touch.refl _ _).drewN _
            obtain ⟨O5, st⟩ := HR.out
            have r5 := st.rv.old (HT5.out.trans t5)
            have HST := Lib.hid (And.intro st t5)
            clear hw t5 st
            refine (rv_Release a r5).mono ?_
            rintro e w6 ⟨rfl, O6, t6, s6, r6⟩
            generalize HS.freE _ _ = fe
            have c0 : w6.cell? ⟨q9, 0, none⟩ = some (.int .i64 a) := by
              have h5 := HK.out _ HST.out.2
              refine (t6.cell (cell_lt h5) (fun hO => ?_)).trans h5
              obtain ⟨⟨R, ⟨_, _, _, hr⟩, _⟩, _⟩ := HST.out.1.rv
              have h1 := hr.lt _ hO
              have h2 := HQ9.out
              omega
            have H6 := Lib.hid (And.intro t6 (And.intro s6 r6))
            have HO6 := Lib.hid (show Ow w6 w.heap.size u7 (swL c col (inB c b (L.take j)) p) from (HST.out.1.ow.touch (HT5.out.trans HST.out.2) (fun _ _ x => x)).touch t6 (fun y hy hO => HST.out.1.nd y hy hO))
            have HS6 : Hid (w.heap.size ≤ w6.heap.size) := Nat.le_trans HST.out.1.t.size (Nat.le_trans (HT5.out.trans HST.out.2).size t6.size)
            clear t6 s6 r6 r5 k0 k2 k3 k1
            go_wp2_with (at_builtin; refine wpList_append_own_at _ rfl _ _ 46 rfl w.heap.size 3 i0 (.int .i64 0) 1 8 Tryz.underlying46 hi hz0 hz1 hz2 rfl (by decide) _ _ _ rfl (HO6.out.alloc _) ⟨w6.heap.size, 0, none⟩ 1 1 [.int .i64 a] rfl rfl (World.news_of_block (World.alloc_heap_new _ _)) (ints_oneCell _ [a]) (by have := HM.out; unfold maxLen; omega) (by have := HM.out; omega) (by have := HS6.out; simp; omega) ?_; intro v7 w7 hown hgrow _ hat; have H7 := Lib.hid (HST.out.1.take HX.out.1 HX.out.2.2.2 HG.out (HT5.out.trans HST.out.2) H6.out.1 H6.out.2.1 H6.out.2.2 hown hgrow hat); clear hown hgrow hat)
            go_roundw
            case rel => exact ⟨j + 1, by omega, by go_num, O6, H7.out⟩
            case measure => simp [intOf]; omega
        · have h2b : (is == 2) = false := by simpa using h2
          go_quiet (fail)
          go_wp2
          go_roundw
          case rel =>
            obtain ⟨O5, st⟩ := HR.out
            exact ⟨j + 1, by omega, by go_num, O5, ((st.old HT5.out).old ((Touch.refl _ _).drewN _)).skip HX.out.1 (fun _ => hng.out (fun x => h2 x.1))⟩
          case measure => simp [intOf]; omega
      · have hQf : (Q == (b : Int)) = false := by simpa using hQb
        go_quiet (fail)
        go_wp2
        go_roundw
        case rel =>
          obtain ⟨O5, st⟩ := HR.out
          exact ⟨j + 1, by omega, by go_num, O5, ((st.old HT5.out).old ((Touch.refl _ _).drewN _)).skip HX.out.1 (fun e => absurd (HX.out.2.2.2.symm.trans e) hQb)⟩
        case measure => simp [intOf]; omega
    · have hjb : ¬ (j : Int) < (N : Int) := by omega
      obtain ⟨g, cap, rfl⟩ : ∃ g cap, sv = .slice g N cap := by
        obtain ⟨_, ⟨h1, h2⟩ | ⟨g, cap, cur, h1, _⟩⟩ := hb.row
        · exact ⟨_, _, by rw [h1, ← hRl, h2]⟩
        · exact ⟨_, _, by rw [h1, hRl]⟩
      have HJ : Hid (j = N) := by show _ = _; omega
      clear hr hs hi5 tb5 hz5 hks had hRl hb hbx st
      go_wp2
      go_ret
      obtain ⟨O5, st⟩ := HR.out
      rw [HJ.out, hfin.out] at st
      exact ⟨_, rfl, O5, st⟩
end Go.Proofs.YtflhjbmoncbomaaGreatDoor
