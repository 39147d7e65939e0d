/- SweepAll, walked. Conditions: the tables of limits, of sizes and of de Bruijn's bits read as laid. -/
import Derived.Test.YtflhjbmoncbomaaGreatDoorLaws15d
namespace Go.Proofs.YtflhjbmoncbomaaGreatDoor
open Go.RowKit

/-- A block more is swept, and told. -/
theorem SwtI.more {w wr w5 w7 : World} {O O' O5 : Nat → Prop} {m qx n j : Nat} {c : Cf} {p : HS × (Nat → List Nat)} {k : Int} {vo v v' : Value} (h : SwtI w O m qx c n p k (allSl c p.1.s.ks j) vo wr O') (g : SwtI wr O' m qx c n (swP c k (allSl c p.1.s.ks j) p) k (slAt c p.1.s.ks j) v w5 O5)
    (hown : Ow w7 w.heap.size v' (swL c k (allSl c p.1.s.ks j) p ++ swL c k (slAt c p.1.s.ks j) (swP c k (allSl c p.1.s.ks j) p))) (hgrow : w5.grownBy w7 vo.ownBlock) (hat : v'.ownBlock = vo.ownBlock ∨ v'.ownBlock = some w5.heap.size) : SwtI w O m qx c n p k (allSl c p.1.s.ks (j + 1)) v' w7 O5 := by
  have T5 := h.t.step g.t h.s
  have nd5 : ∀ y, vo.ownBlock = some y → ¬ O5 y := fun y hy hO => by
    rcases g.s y hO with x | x
    · exact h.nd y hy x
    · have := (World.ownsRow.lt h.ow y hy).2
      omega
  have T7 : Touch (fun y => vo.ownBlock = some y) w5 w7 := Touch.grown (Touch.refl _ _) hgrow (fun y e => .inl e)
  refine ⟨T5.step T7 (fun y hy => .inr (World.ownsRow.lt h.ow y hy).1), fun y hy => (g.s y hy).elim (h.s y) (fun x => .inr (Nat.le_trans h.t.size x)), ?_, ?_, fun y hy hO => ?_⟩
  · show Rv w7 O5 m qx c n (swP c k (allSl c p.1.s.ks j ++ slAt c p.1.s.ks j) p).1 (swP c k (allSl c p.1.s.ks j ++ slAt c p.1.s.ks j) p).2
    rw [swP_app]
    exact g.rv.touch T7 (fun y hO hy => nd5 y hy hO)
  · show Ow w7 w.heap.size v' (swL c k (allSl c p.1.s.ks j ++ slAt c p.1.s.ks j) p)
    rw [swL_app]
    exact hown
  · rcases hat with e | e
    · exact nd5 y (by rw [← e]; exact hy) hO
    · rw [e] at hy
      cases hy
      obtain ⟨⟨R, ⟨_, _, _, hr⟩, _⟩, _⟩ := g.rv
      exact absurd (hr.lt _ hO) (Nat.lt_irrefl _)
set_option maxRecDepth 10000 in
set_option maxHeartbeats 4000000 in
theorem law_SweepAll {w : World} (a0 : Int) (_ : (Lit.int .i64 a0).wf = true) (a1 : Int) (_ : (Lit.int .i64 a1).wf = true) (a2 : Int) (_ : (Lit.int .i64 a2).wf = true) (a3 : Int) (_ : (Lit.int .i64 a3).wf = true) (a4 : Int) (_ : (Lit.int .i64 a4).wf = true) (a5 : Int) (_ : (Lit.int .i64 a5).wf = true) (a6 : Int) (_ : (Lit.int .i64 a6).wf = true) (l : Value) (rows : List (List Value)) (hl : IsSlice w l [some .u8, some .u8, none] rows) (k : Int) (_ : (Lit.int .i64 k).wf = true) (hTab : Tab w) (hLim : Limits w) (hS : Sizes w) :
    Calls Tryz.prog 11 #[CfgV a0 a1 a2 a3 a4 a5 a6, l, .int .i64 k] w fun e w' => e = .returned (.bool true) ∧ Below w.heap.size w w' := by
  obtain ⟨N, hI, -⟩ := rows_of_slice hl (by simp)
  obtain ⟨th, -, hth⟩ := ThIn.of_rows hI
  have HTH := Lib.hid hth
  have HL := Lib.hid (Laid.mk hLim hS)
  have HTab := Lib.hid hTab
  clear hLim hS hTab hl hI hth
  obtain ⟨c, hc⟩ : ∃ c, little ⟨a0, a1, a2, a3, a4, a5, a6⟩ = c := ⟨_, rfl⟩
  have hok : c.ok = true := by rw [← hc]; exact little_ok _
  have hc4 : 0 ≤ c.c4 ∧ c.c4 ≤ 3 := by rw [← hc]; simp only [little]; omega
  have hc01 : (0 ≤ c.c0 ∧ c.c0 ≤ 4) ∧ 0 ≤ c.c1 ∧ c.c1 ≤ 36 := by rw [← hc]; simp only [little]; omega
  have hlit := ref02_Little ⟨a0, a1, a2, a3, a4, a5, a6⟩
  rw [hc] at hlit
  have hmb := mul_bd (a := c.c0) (b := c.c1) (A := 4) (B := 36) hc01.1.1 hc01.1.2 hc01.2.1 hc01.2.2
  obtain ⟨z, hz⟩ : ∃ z : Nat, (z : Int) = c.c0 * c.c1 := ⟨(c.c0 * c.c1).toNat, by omega⟩
  obtain ⟨n4, hn4⟩ : ∃ n4 : Nat, c.c4 = n4 := ⟨c.c4.toNat, by omega⟩
  have HC := Lib.hid (And.intro hok (And.intro hlit (And.intro hz (And.intro (show z ≤ 4096 by omega) (And.intro hn4 (show n4 ≤ 64 by omega))))))
  clear hok hlit hc hc4 hc01 hz hn4 hmb
  go_enter Tryz.func11, Tryz.ntmps11
  go_wp2_with (go_at_call 12; fail)
  obtain ⟨W, hW⟩ : ∃ W, W = w.alloc (Obj.cells (CfgRow a0 a1 a2 a3 a4 a5 a6) 23) := ⟨_, rfl⟩
  have hT : Touch nob w W := by rw [hW]; (repeat (first | with_reducible exact Touch.refl _ _ | with_reducible assumption | with_reducible apply Touch.alloc | with_reducible apply Touch.drewN | with_reducible apply Touch.drew | with_reducible refine Touch.setCell ?_ (.inr (by first | omega | (simp; done) | (simp; omega))) _))
  obtain ⟨b0, hb0⟩ : ∃ b, b = w.heap.size := ⟨_, rfl⟩
  rw [← hW, ← hb0]
  have HB := Lib.hid hT
  clear hW hb0 hT
  refine (HC.out.2.1 W).mono ?_
  rintro e w1 ⟨rfl, hT1⟩
  have H1 := Lib.hid (HB.out.trans hT1)
  clear hT1
  go_wp2_with (go_at_call 51; fail)
  refine (law15_Made c l th z n4 HC.out.1 HC.out.2.2.1 HC.out.2.2.2.1 HC.out.2.2.2.2.1 HC.out.2.2.2.2.2 w1 (HL.out.old H1.out) (HTH.out.old H1.out)).mono ?_
  rintro e w2 ⟨W1, t1, A, m, rfl, hn, qx, O, h2, hx2⟩
  obtain ⟨p, hp⟩ : ∃ p, mdF c A.L.n (th.take 40) (newS0 z n4, fun _ => []) = p := ⟨_, rfl⟩
  rw [hp] at h2 hx2
  clear hp
  have H2 := Lib.hid (And.intro (H1.out.trans t1) h2)
  clear t1 hn h2
  go_wp2_with (go_at_call 32; fail)
  refine (law15_awake w2 (HL.out.old (H2.out.1.trans H2.out.2.base))).mono ?_
  rintro e w3 ⟨rfl, t3⟩
  have HTW := Lib.hid (HTab.out.touch H2.out.1 (fun x => x))
  have H3 : Hid (Touch nob w w3 ∧ Two W1 w3 A c p.1 p.2 O m qx) := ⟨(H2.out.1.trans H2.out.2.base).trans t3, H2.out.2.old t3⟩
  clear t3
  have HX2 := Lib.hid hx2
  have hlt3 : ∀ g, O g → g < w3.heap.size := fun g hg => by
    obtain ⟨⟨R, ⟨_, _, _, hb⟩, _⟩, _⟩ := H3.out.2.rv
    exact hb.lt g hg
  have HLT := Lib.hid hlt3
  clear hx2 hlt3
  by_cases hk : k = 0 ∨ k = 1
  · have g2 : ¬ k < 0 := by omega
    have g3 : ¬ k > 1 := by omega
    have HK := Lib.hid hk
    have F1 := Lib.hid (swP_facts (col := k) (p.1.all c) p H3.out.2.rv.inv)
    have C1 := Lib.hid (swd_clr (col := k) (H := p.2) H3.out.2.rv.tb H3.out.2.rv.inv)
    have HLL : Hid ((swL c k (p.1.all c) p).length ≤ 4096) := (SwA.mk' (k := k) H3.out.2.rv.inv H3.out.2.rv.tb H3.out.2.rv.hz).ll
    have HOL : Hid ((swP c k (p.1.all c) p).1.objs.length ≤ 4096) := Nat.le_trans (objs_len F1.out.inv) (by rw [F1.out.len]; exact H3.out.2.rv.hz)
    clear hk
    go_wp2_with (go_at_call 27; fail)
    refine (sw_All p k H3.out.2.hp HK.out).mono ?_
    rintro e w4 ⟨v4, rfl, al⟩
    have t4 := al.t
    have hp4 : HpI W1 w4 A c (swP c k (p.1.all c) p).1 (swP c k (p.1.all c) p).2 := al.hp
    have ow4 : Ow w4 w3.heap.size v4 (swL c k (p.1.all c) p) := al.ow
    obtain ⟨aa, na, ca, rfl⟩ := ow4.ints.shape'
    have r4 := H3.out.2.mid t4
    have H4 := Lib.hid (And.intro t4 (And.intro hp4 (And.intro ow4 r4)))
    obtain ⟨U, hU⟩ : ∃ U, p.1.s.ks.length = U := ⟨_, rfl⟩
    have HU := Lib.hid hU
    have S0 : Hid (∃ O', SwtI w4 O m qx c A.L.n p k (allSl c p.1.s.ks 0) (.slice none 0 0) w4 O') := ⟨O, Touch.refl _ _, Sub.refl _ _, r4, World.ownsRow_nil _ _ _ _, fun b hb => by cases hb⟩
    have hUm : U ≤ 4096 := by
      have h1 := H3.out.2.rv.tb
      have h2 := h1.le
      have h3 := h1.hn
      obtain ⟨⟨u0, v0⟩, _⟩ := cfgOk_iff.1 h1.ok
      omega
    clear al t4 hp4 ow4 r4 hU
    go_wp2_with fail
    go_loopw [11, 12] (fun vo i wr => ∃ j : Nat, j ≤ U ∧ i = .int .i64 j ∧ Hid (∃ O', SwtI w4 O m qx c A.L.n p k (allSl c p.1.s.ks j) vo wr O')) (fun _ i _ => U - (intOf i).toNat)
    case atStart => exact ⟨0, Nat.zero_le _, rfl, S0.out⟩
    case round =>
      obtain ⟨j, hj, rfl, HR⟩ := hrel
      clear S0
      obtain ⟨O5, st⟩ := HR.out
      have d7 := st.rv.box7
      rw [swP_ks, HU.out] at d7
      by_cases hlt : j < U
      · have hjb : (j : Int) < (U : Int) := by omega
        have hsw := law15_swept (swP c k (allSl c p.1.s.ks j) p) k j st.rv (by rw [swP_ks, HU.out]; exact hlt)
        rw [swP_ks] at hsw
        have HSW := Lib.hid hsw
        have HST := Lib.hid st
        have HL : Hid ((swL c k (allSl c p.1.s.ks j) p).length + (swL c k (slAt c p.1.s.ks j) (swP c k (allSl c p.1.s.ks j) p)).length ≤ 1048576) := by
          have h1 := swL_len (c := c) (col := k) (allSl c p.1.s.ks j) p
          have h2 := swL_len (c := c) (col := k) (slAt c p.1.s.ks j) (swP c k (allSl c p.1.s.ks j) p)
          have h3 := allSl_le (c := c) (ks := p.1.s.ks) j
          have h4 := slAt_le (c := c) (ks := p.1.s.ks) (m := j)
          show _ ≤ _
          omega
        clear hsw st HR
        go_wp2_with (go_at_call 54; fail)
        refine HSW.out.mono ?_
        rintro e w5 ⟨v5, rfl, O6, sw⟩
        have HS5 := Lib.hid sw
        have HO5 := Lib.hid (show Ow w5 w4.heap.size u11 (swL c k (allSl c p.1.s.ks j) p) from HST.out.ow.touch sw.t (fun y hy hO => HST.out.nd y hy hO))
        have HB5 : Hid (w4.heap.size ≤ w5.heap.size) := Nat.le_trans HST.out.t.size sw.t.size
        obtain ⟨a5, n5, c5, rfl⟩ := sw.ow.ints.shape'
        clear sw d7
        go_wp2_with (at_builtin; refine wpList_append_sx rfl _ _ rfl w4.heap.size _ _ _ _ rfl HO5.out rfl HS5.out.ow.sx HL.out HB5.out ?_; intro v7 w7 hown hgrow hat; have H7 := Lib.hid (HST.out.more HS5.out hown hgrow hat); clear hown hgrow hat)
        go_roundw
        case rel => exact ⟨j + 1, by omega, by go_num, O6, H7.out⟩
        case measure => simp [intOf]; omega
      · have hjb : ¬ (j : Int) < (U : Int) := by omega
        have hJ : allSl c p.1.s.ks j = p.1.all c := by
          unfold HS.all
          rw [HU.out, show j = U by omega]
        rw [hJ] at st
        obtain ⟨aw, nw, cw, ew⟩ := st.ow.ints.shape'
        subst ew
        have h5 : Two W1 wr A c (swP c k (p.1.all c) p).1 (swP c k (p.1.all c) p).2 O5 m qx := H3.out.2.next H4.out.1 H4.out.2.1 st.t st.s st.rv
        have og : Ow wr w3.heap.size (.slice aa na ca) (swL c k (p.1.all c) p) := H4.out.2.2.1.touch st.t (fun g hg hO => by
          have h1 := HLT.out g hO
          have h2 := H4.out.2.2.1.new g hg
          omega)
        have H5 := Lib.hid (And.intro h5 (And.intro og st.ow))
        clear hj hlt hJ h5 og st HR
        go_wp2_with (go_at_call 52; fail)
        refine (ref01_Same _ _ (swL c k (p.1.all c) p) wr H5.out.2.1.ints H5.out.2.2.ints (Nat.le_trans HLL.out (by decide))).mono ?_
        rintro e w6 ⟨rfl, t6⟩
        have H6 : Hid (Two W1 w6 A c (swP c k (p.1.all c) p).1 (swP c k (p.1.all c) p).2 O5 m qx) := H5.out.1.old t6
        clear t6 d7
        go_wp2_with (go_at_call 34; fail)
        refine (law11_Alike H6.out HTW.out (by rw [F1.out.x]; exact HX2.out)).mono ?_
        rintro e w7 ⟨rfl, t7, h7⟩
        have H7 := Lib.hid h7
        clear t7 h7
        go_wp2_with (go_at_call 48; fail)
        refine (hp_Objects H7.out.hp (HTW.out.touch H7.out.base (fun x => x))).mono ?_
        rintro e w8 ⟨v8, rfl, t8, hp8, ow8⟩
        obtain ⟨NO, hNO⟩ : ∃ NO, (swP c k (p.1.all c) p).1.objs.length = NO := ⟨_, rfl⟩
        obtain ⟨ag, cg, rfl⟩ := ow8.ints.shape
        rw [hNO] at ow8 ⊢
        have H8 := Lib.hid (And.intro hp8 ow8)
        have HNO := Lib.hid hNO
        have hNO4 : NO ≤ 4096 := by rw [← hNO]; exact HOL.out
        clear t8 hp8 ow8 hNO
        go_wp2_with fail
        go_loopw [14] (fun i w2 => ∃ t : Nat, t ≤ NO ∧ i = .int .i64 t ∧ w2 = w8) (fun i _ => NO - (intOf i).toNat)
        case atStart => exact ⟨0, Nat.zero_le _, rfl, rfl⟩
        case round =>
          obtain ⟨t, ht, rfl, rfl⟩ := hrel
          by_cases hlt2 : t < NO
          · have htb : (t : Int) < (NO : Int) := by omega
            obtain ⟨g, rfl, hcap, hcell⟩ := own_at H8.out.2 rfl HNO.out hlt2
            obtain ⟨x, hx⟩ : ∃ x, (swP c k (p.1.all c) p).1.objs.getD t 0 = x := ⟨_, rfl⟩
            rw [hx] at hcell
            have hxo : (swP c k (p.1.all c) p).1.obj x = true := by
              have h1 : t < (swP c k (p.1.all c) p).1.objs.length := by rw [HNO.out]; exact hlt2
              rw [← mem_objs, ← hx, List.getD_eq_getElem?_getD, List.getElem?_eq_getElem h1]
              exact List.getElem_mem _
            have hco := heap_Color x H8.out.1.at'
            rw [C1.out x hxo, show (swP c k (p.1.all c) p).1.colE x = 0 by unfold HS.colE; rw [hxo]; rfl] at hco
            have HCO := Lib.hid hco
            clear hx hxo hco
            go_wp2_with (go_at_call 21; fail)
            refine HCO.out.mono ?_
            rintro e w9 ⟨rfl, rfl⟩
            go_wp2
            go_roundw
            case rel => exact ⟨t + 1, by omega, by first | (go_num; done) | trivial⟩
            case measure => first | (simp [intOf]; done) | (simp [intOf]; omega)
          · have htb : ¬ (t : Int) < (NO : Int) := by omega
            have HE := Lib.hid ((H2.out.1.trans H8.out.1.at'.base).below)
            clear ht hlt2
            go_wp2
            go_ret
            exact ⟨rfl, HE.out⟩
  · have HK0 := Lib.hid (show k ≠ 0 ∧ k ≠ 1 by omega)
    have hcs : k < 0 ∨ (¬ k < 0 ∧ k > 1) := by omega
    clear hk
    go_wp2_with (go_at_call 27; fail)
    refine (sw_All_no k HK0.out.1 HK0.out.2 _ w3).mono ?_
    rintro e w4 ⟨rfl, rfl⟩
    rcases hcs with g0 | ⟨g0, g1⟩
    all_goals
      go_wp2_with (go_at_call 34; fail)
      refine (law11_Alike H3.out.2 HTW.out HX2.out).mono ?_
      rintro e w8 ⟨rfl, t8, h8⟩
      have H8 := Lib.hid ((H2.out.1.trans h8.base).below)
      clear t8 h8
      go_wp2
      go_ret
      exact ⟨rfl, H8.out⟩
end Go.Proofs.YtflhjbmoncbomaaGreatDoor
