/- HeapKeeps, walked. Conditions: the tables of limits, of sizes and of de Bruijn's bits read as laid. -/
import Derived.Test.YtflhjbmoncbomaaDoorLaws11
import Derived.Test.YtflhjbmoncbomaaDoorHpE
import Derived.Test.YtflhjbmoncbomaaDoorU8
import Derived.Test.YtflhjbmoncbomaaDoorSame
import Derived.Test.YtflhjbmoncbomaaDoorLittle
import Derived.Test.YtflhjbmoncbomaaDoorSeven
namespace Go.Proofs.YtflhjbmoncbomaaDoor
open Go.RowKit

variable {W w w' : World} {A : HA} {c : Cf} {S : HS} {H : Nat → List Nat}
/-- While fields are laid. -/
structure KpI (c : Cf) (S0 S : HS) (es : List Nat) (i k : Nat) : Prop where
  kq : Kq c S0 S
  fw : ∀ i' k' : Nat, i' < es.length → (k' : Int) < S0.flds (es.getD i' 0 : Nat) → (i' < i ∨ (i' = i ∧ k' < k)) → S.fw (es.getD i' 0) k' = (es.getD ((i' + k') % es.length) 0 : Nat)
theorem KpI.step {S0 S : HS} {es : List Nat} {i k : Nat} (h : KpI c S0 S es i k) (hi : HInv c S H) (hB : ∀ e ∈ es, S0.B e = true) (hi0 : HInv c S0 H) (hn : es.Nodup) (hl : i < es.length) (hk : (k : Int) < S0.flds (es.getD i 0 : Nat)) : KpI c S0 (S.setw (es.getD i 0 + k) (es.getD ((i + k) % es.length) 0 : Nat)) es i (k + 1) := by
  have hg : ∀ i', i' < es.length → es.getD i' 0 ∈ es := fun i' hi' => by
    rw [List.getD_eq_getElem?_getD, List.getElem?_eq_getElem hi']
    exact List.getElem_mem hi'
  have hb : S.B (es.getD i 0) = true := by rw [h.kq.B]; exact hB _ (hg i hl)
  obtain ⟨q1, q2, q3, q4⟩ := hi.stored hb (by rw [h.kq.fl hi0 (hB _ (hg i hl))]; exact hk) (es.getD ((i + k) % es.length) 0 : Nat)
  refine ⟨h.kq.trans q1, fun i' k' hi' hk' hd => ?_⟩
  by_cases e : i' = i ∧ k' = k
  · obtain ⟨rfl, rfl⟩ := e
    exact q3
  · have hb' : S.B (es.getD i' 0) = true := by rw [h.kq.B]; exact hB _ (hg i' hi')
    rw [q4 _ _ hb' (by rw [h.kq.fl hi0 (hB _ (hg i' hi'))]; exact hk') (fun x => ?_)]
    · exact h.fw i' k' hi' hk' (by omega)
    · by_cases hii : i' = i
      · exact e ⟨hii, x.2⟩
      · exact nodup_ne hn hi' hl hii x.1
theorem KpI.next {S0 S : HS} {es : List Nat} {i k : Nat} (h : KpI c S0 S es i k) (hk : S0.flds (es.getD i 0 : Nat) ≤ k) : KpI c S0 S es (i + 1) 0 :=
  ⟨h.kq, fun i' k' hi' hk' hd => h.fw i' k' hi' hk' (by
    by_cases e : i' = i
    · subst e; omega
    · omega)⟩
theorem HS.st_val {T : HS} {a f v : Int} (h : T.stE c a f v = 0) : 0 ≤ v ∧ v ≤ T.s.ws.length := by
  unfold HS.stE HS.objE at h
  by_cases h0 : a = 0
  · rw [if_pos h0] at h; cases h
  · rw [if_neg h0] at h
    by_cases hm : T.may c a = true
    · rw [if_pos hm, if_pos rfl] at h
      by_cases hf : 0 ≤ f ∧ f < T.flds a
      · rw [if_pos hf] at h
        by_cases hv : 0 ≤ v ∧ v ≤ T.s.ws.length
        · exact hv
        · rw [if_neg hv] at h; cases h
      · rw [if_neg hf] at h; cases h
    · rw [if_neg hm] at h; cases h
theorem map_getD (es : List Nat) (j : Nat) : (es.map fun (x : Nat) => (x : Int)).getD j 0 = ((es.getD j 0 : Nat) : Int) := by
  rw [List.getD_eq_getElem?_getD, List.getD_eq_getElem?_getD, List.getElem?_map]
  cases es[j]? <;> rfl
theorem nats_of {av : Option Addr} {m cp : Nat} {es : List Nat} (hm : es.length = m) (h0 : 0 < m) (h : IntsIn w (.slice av m cp) (es.map fun (x : Nat) => (x : Int))) : ∃ b o, av = some ⟨b, o, none⟩ ∧ m ≤ cp ∧ ∀ j, j < m → w.cell? ⟨b, o + j, none⟩ = some (.int .i64 (es.getD j 0 : Nat)) := by
  obtain ⟨ao, cap, hv, h | ⟨b, o, rfl, hc, h⟩⟩ := h
  · have h2 : es = [] := by simpa using h
    rw [h2] at hm
    simp at hm
    omega
  · injection hv with h1 h2 h3
    rw [List.length_map] at h hc
    subst h1 h3
    exact ⟨b, o, rfl, by omega, fun j hj => by rw [h j (by omega), map_getD]⟩
theorem elems_nodup (M : Nat → Bool) (n : Nat) : (elems M n).Nodup := List.Pairwise.filter _ List.nodup_range
set_option maxRecDepth 10000 in
set_option maxHeartbeats 8000000 in
theorem law_HeapKeeps {w : World} (a0 : Int) (_ : (Lit.int .i64 a0).wf = true) (a1 : Int) (_ : (Lit.int .i64 a1).wf = true) (a2 : Int) (_ : (Lit.int .i64 a2).wf = true) (a3 : Int) (_ : (Lit.int .i64 a3).wf = true) (a4 : Int) (_ : (Lit.int .i64 a4).wf = true) (a5 : Int) (_ : (Lit.int .i64 a5).wf = true) (a6 : Int) (_ : (Lit.int .i64 a6).wf = true) (sz : Value) (rows : List (List Value)) (hl : IsSlice w sz [some .u8] rows) (q_0 : Int) (_ : (Lit.int .i64 q_0).wf = true) (q_1 : Int) (_ : (Lit.int .i64 q_1).wf = true) (q_2 : Int) (_ : (Lit.int .i64 q_2).wf = true) (hTab : Tab w) (hLim : Limits w) (hS : Sizes w) :
    Calls Tryd.prog 4 #[CfgV a0 a1 a2 a3 a4 a5 a6, sz, .agg #[.int .i64 q_0, .int .i64 q_1, .int .i64 q_2]] w fun e w' => e = .returned (.bool true) ∧ Below w.heap.size w w' := by
  obtain ⟨us, hU, hub⟩ := u8s_of_slice hl
  obtain ⟨N, hN⟩ : ∃ N, us.length = N := ⟨_, rfl⟩
  obtain ⟨ao, cap, rfl⟩ := hU.shape
  rw [hN] at hU hub ⊢
  have HU := Lib.hid (And.intro hU (And.intro hub hN))
  have HL := Lib.hid (Laid.mk hLim hS)
  have HTab := Lib.hid hTab
  clear hLim hS hTab hl hU hub hN
  obtain ⟨c, hc⟩ : ∃ c, little ⟨a0, a1, a2, a3, a4, a5, a6⟩ = c := ⟨_, rfl⟩
  have hok : c.ok = true := by rw [← hc]; exact little_ok _
  have hc4 : 0 ≤ c.c4 ∧ c.c4 ≤ 3 := by rw [← hc]; simp only [little]; omega
  have hc01 : (0 ≤ c.c0 ∧ c.c0 ≤ 4) ∧ 0 ≤ c.c1 ∧ c.c1 ≤ 36 := by rw [← hc]; simp only [little]; omega
  have hlit := ref02_Little ⟨a0, a1, a2, a3, a4, a5, a6⟩
  rw [hc] at hlit
  have HC := Lib.hid (And.intro hok (And.intro hlit (And.intro hc4 hc01)))
  clear hok hlit hc hc4 hc01
  go_enter Tryd.func4, Tryd.ntmps4
  go_wp2_with fail
  obtain ⟨W, hW⟩ : ∃ W, W = (w.alloc (Obj.cells (CfgRow a0 a1 a2 a3 a4 a5 a6) 23)).alloc (Obj.cells #[.int .i64 q_0, .int .i64 q_1, .int .i64 q_2] 39) := ⟨_, rfl⟩
  have hT : Touch nob w W := by rw [hW]; (repeat (first | with_reducible exact Touch.refl _ _ | with_reducible assumption | with_reducible apply Touch.alloc | with_reducible apply Touch.drewN | with_reducible apply Touch.drew | with_reducible refine Touch.setCell ?_ (.inr (by first | omega | (simp; done) | (simp; omega))) _))
  have hbx : W.heap[w.heap.size]? = some (Obj.cells (CfgRow a0 a1 a2 a3 a4 a5 a6) 23) := by rw [hW]; exact alloc2_0 w _ _
  have hbq : W.heap[w.heap.size + 1]? = some (Obj.cells #[.int .i64 q_0, .int .i64 q_1, .int .i64 q_2] 39) := by rw [hW]; exact alloc2_1 w _ _
  obtain ⟨b0, hb0⟩ : ∃ b, b = w.heap.size := ⟨_, rfl⟩
  rw [← hW, ← hb0]
  rw [← hb0] at hbx hbq
  have hbq : Hid (W.heap[b0 + 1]? = some (Obj.cells #[.int .i64 q_0, .int .i64 q_1, .int .i64 q_2] 39)) := hbq
  refine (HC.out.2.1 W).mono ?_
  rintro e w1 ⟨rfl, hT1⟩
  have hb1 := blk_touch hbx hT1 (fun x => x)
  obtain ⟨y0, y1, y2, y3, y4, y5, y6⟩ := cfg_box hb1 (Touch.refl _ _)
  have f0 : ∀ j, w1.frozen? ⟨b0, j, none⟩ = false := fun j => by simp [World.frozen?, hb1]
  have g0 := f0 0; have g1 := f0 1; have g2 := f0 2; have g3 := f0 3; have g4 := f0 4; have g5 := f0 5; have g6 := f0 6
  obtain ⟨W3, hW3⟩ : ∃ W3, W3 = set7 w1 b0 (.int .i64 c.c0) (.int .i64 c.c1) (.int .i64 c.c2) (.int .i64 c.c3) (.int .i64 c.c4) (.int .i64 c.c5) (.int .i64 c.c6) := ⟨_, rfl⟩
  have hc3 : W3.heap[b0]? = some (Obj.cells (CfgRow c.c0 c.c1 c.c2 c.c3 c.c4 c.c5 c.c6) 23) := by rw [hW3]; exact set7_at _ _ _ _ _ _ _ _ hb1
  have hT3 : Touch nob w W3 := by rw [hW3]; exact set7_touch _ _ _ _ _ _ _ (by omega) (hT.trans hT1)
  have HO1 : Hid (∀ k o, k ≠ b0 → W.heap[k]? = some o → W3.heap[k]? = some o) := fun k o hk h => by rw [hW3]; exact (set7_other _ _ _ _ _ _ _ _ hk).trans (blk_touch h hT1 (fun x => x))
  have H3 := Lib.hid (And.intro hT3 hc3)
  clear hT hbx hT1 hb1 f0 hc3 hT3 hW hb0
  by_cases h40 : N ≤ 40
  · skip
    go_wp2_with (go_at_call 7; fail)
    simp only [set7] at hW3
    rw [← hW3]
    clear hW3 y0 y1 y2 y3 y4 y5 y6 g0 g1 g2 g3 g4 g5 g6
    refine (law11_awake W3 (HL.out.old H3.out.1)).mono ?_
    rintro e w4 ⟨rfl, hT4⟩
    obtain ⟨y0, y1, y2, y3, y4, y5, y6⟩ := cfg_box H3.out.2 hT4
    have HT4 := Lib.hid (And.intro (H3.out.1.trans hT4) (And.intro (blk_touch H3.out.2 hT4 (fun x => x)) (blk_touch (HO1.out _ _ (by omega) hbq.out) hT4 (fun x => x))))
    clear hT4
    go_wp2_with (go_at_call 8; fail)
    refine (heap_New_ok c w4 (HL.out.old HT4.out.1) HC.out.1).mono ?_
    rintro e w5 ⟨A, z, n, rfl, hz, hbn, hn, h5⟩
    have hz1 : z ≤ 144 := by
      have hc01 := HC.out.2.2.2
      have := (mul_bd (a := c.c0) (b := c.c1) (A := 4) (B := 36) hc01.1.1 hc01.1.2 hc01.2.1 hc01.2.2).2
      omega
    have hn3 : n ≤ 3 := by have := HC.out.2.2.1; omega
    have H5 : Hid (∃ S H, HpI w4 w5 A c S H ∧ S.x = List.replicate n 0 ∧ S.s.ws.length = z) := ⟨_, _, h5, rfl, List.length_replicate⟩
    have HN5 := Lib.hid (And.intro hn (show (A.L.n : Int) = c.c0 from hbn))
    clear y0 y1 y2 y3 y4 y5 y6 h5 hz hbn hn
    go_wp2_with fail
    go_loopw [9] (fun i wr => ∃ j : Nat, j ≤ N ∧ i = .int .i64 j ∧ Hid (∃ S H, HpI w4 wr A c S H ∧ S.x = List.replicate n 0 ∧ S.s.ws.length = z)) (fun i _ => N - (intOf i).toNat)
    case atStart => exact ⟨0, Nat.zero_le _, rfl, H5⟩
    case round =>
      obtain ⟨j, hj, rfl, HR⟩ := hrel
      clear H5
      obtain ⟨S, H, hr, hx, hzz⟩ := HR.out
      have HP := Lib.hid (And.intro hr (And.intro hx hzz))
      clear HR
      by_cases hlt : j < N
      · have hb : (j : Int) < (N : Int) := by omega
        obtain ⟨bl, ob, cp, hv, hcp, hcell⟩ := (HU.out.1.old (HT4.out.1.trans hr.at'.base)).at (k := j) (by rw [HU.out.2.2]; exact hlt)
        rw [HU.out.2.2] at hv hcp
        injection hv with hv1 hv2 hv3
        subst hv1 hv3
        have hu := HU.out.2.1 j hlt
        obtain ⟨x, hxx⟩ : ∃ x, us.getD j 0 = x := ⟨_, rfl⟩
        rw [hxx] at hcell hu
        obtain ⟨y, hy⟩ : ∃ y, x % 8 = y := ⟨_, rfl⟩
        have hy1 : x.tmod 8 = y := by rw [Int.tmod_eq_emod_of_nonneg hu.1]; exact hy
        have hyb : 0 ≤ y ∧ y < 8 := by omega
        obtain ⟨hx0, hx1⟩ := hu
        obtain ⟨hy2, hy3⟩ := hyb
        clear hx hzz hr hv2 hcp hxx hy
        go_wp2_with (go_at_call 10; fail)
        refine (hp_Make y ((j : Int) % 2) HP.out.1).mono ?_
        rintro e w9 ⟨rfl, hT9, h9⟩
        have H9 : Hid (∃ S H, HpI w4 w9 A c S H ∧ S.x = List.replicate n 0 ∧ S.s.ws.length = z) := by
          have hev := mak_ev (f := y) (col := (j : Int) % 2) HP.out.1.inv HN5.out.2
          exact ⟨_, _, h9, hev.x.trans HP.out.2.1, hev.len.trans HP.out.2.2⟩
        clear hT9 h9 hcell
        go_wp2
        go_roundw
        case rel => exact ⟨j + 1, by omega, by go_num, H9⟩
        case measure => simp [intOf]; omega
      · have hnb : ¬ (j : Int) < (N : Int) := by omega
        have hob := hp_Objects hr (HTab.out.touch (HT4.out.1.trans hr.at'.base) (fun x => x))
        have HOb := Lib.hid hob
        clear hob hx hzz hr
        go_wp2_with (go_at_call 12; fail)
        refine HOb.out.mono ?_
        rintro e w6 ⟨v, rfl, hT6, h6, hI6, hg6⟩
        obtain ⟨es, hes⟩ : ∃ es, elems S.B (S.s.ws.length + 1) = es := ⟨_, rfl⟩
        have hobj : S.objs = es.map fun (x : Nat) => (x : Int) := by unfold HS.objs; rw [hes]
        rw [hobj] at hI6
        obtain ⟨m, hm⟩ : ∃ m, es.length = m := ⟨_, rfl⟩
        have hml : (es.map fun (x : Nat) => (x : Int)).length = m := by rw [List.length_map]; exact hm
        obtain ⟨av, cpv, rfl⟩ := hI6.shape
        rw [hml] at hI6 hg6 ⊢
        have hB : ∀ e ∈ es, S.B e = true := fun e he => by rw [← hes] at he; exact (mem_elems.1 he).2
        have hle : ∀ e ∈ es, e ≤ z := fun e he => by rw [← hes] at he; have := (mem_elems.1 he).1; have := HP.out.2.2; omega
        have hnd : es.Nodup := by rw [← hes]; exact elems_nodup _ _
        have hgA : ∀ g, (Value.slice av m cpv).ownBlock = some g → g ∉ A.all := fun g hg => HP.out.1.at'.aside (hg6 g hg)
        have HE := Lib.hid (And.intro hB (And.intro hle (And.intro hnd (And.intro hm (And.intro hgA (And.intro hobj hml))))))
        have H6 : Hid (∃ T, HpI w4 w6 A c T H ∧ KpI c S T es 0 0 ∧ IntsIn w6 (.slice av m cpv) (es.map fun (x : Nat) => (x : Int))) := ⟨S, h6, ⟨Kq.refl c S, fun _ _ _ _ h => by omega⟩, hI6⟩
        have HS0 := Lib.hid h6.inv
        have hmz : m ≤ 145 := by
          have := elems_le S.B (S.s.ws.length + 1)
          rw [hes, hm, HP.out.2.2] at this
          omega
        clear hT6 h6 hI6 hg6 hB hle hnd hgA hes hobj hm hml HOb hlt hnb hj
        go_wp2_with fail
        go_loopw [11] (fun i wr => ∃ j : Nat, j ≤ m ∧ i = .int .i64 j ∧ Hid (∃ T, HpI w4 wr A c T H ∧ KpI c S T es j 0 ∧ IntsIn wr (.slice av m cpv) (es.map fun (x : Nat) => (x : Int)))) (fun i _ => m - (intOf i).toNat)
        case atStart => exact ⟨0, Nat.zero_le _, rfl, H6⟩
        case round =>
          obtain ⟨i, hi, rfl, HR⟩ := hrel
          clear H6
          obtain ⟨T, h1, h2, h3⟩ := HR.out
          have HG := Lib.hid (And.intro h1 (And.intro h2 h3))
          clear HR h1 h2
          by_cases hlt : i < m
          · have hb : (i : Int) < (m : Int) := by omega
            obtain ⟨bl, ob, hav, hcp, hcell⟩ := nats_of HE.out.2.2.2.1 (by omega) h3
            subst hav
            have hci := hcell i hlt
            have hel : i < es.length := by rw [HE.out.2.2.2.1]; exact hlt
            have hme : es.getD i 0 ∈ es := by
              rw [List.getD_eq_getElem?_getD, List.getElem?_eq_getElem hel]
              exact List.getElem_mem hel
            have hfi := hpo_Fields HG.out.1 (by rw [HG.out.2.1.kq.B]; exact HE.out.1 _ hme)
            rw [HG.out.2.1.kq.fl HP.out.1.inv (HE.out.1 _ hme)] at hfi
            obtain ⟨f, hf⟩ : ∃ f, S.flds (es.getD i 0 : Nat) = f := ⟨_, rfl⟩
            rw [hf] at hfi
            have hfb : 0 ≤ f ∧ f < 256 := by rw [← hf]; exact HS.flds_bd S _
            obtain ⟨p, rfl⟩ := Int.eq_ofNat_of_zero_le hfb.1
            have hpb : p < 256 := by omega
            obtain ⟨ei, hei⟩ : ∃ ei, es.getD i 0 = ei := ⟨_, rfl⟩
            rw [hei] at hci hfi hme hf
            have HF := Lib.hid (And.intro hfi (And.intro hf (And.intro hme hei)))
            clear h3 hcell hfi hf hme hfb hei hel
            go_wp2_with (go_at_call 13; fail)
            refine HF.out.1.mono ?_
            rintro e w7 ⟨rfl, hT7, h7⟩
            have H7 : Hid (∃ T, HpI w4 w7 A c T H ∧ KpI c S T es i 0 ∧ IntsIn w7 (.slice (some ⟨bl, ob, none⟩) m cpv) (es.map fun (x : Nat) => (x : Int))) := ⟨T, h7, HG.out.2.1, HG.out.2.2.touch hT7 (fun g hg => HE.out.2.2.2.2.1 g hg)⟩
            clear hT7 h7 hci HG
            go_wp2_with fail
            go_loopw [14] (fun k wr => ∃ j : Nat, j ≤ p ∧ k = .int .i64 j ∧ Hid (∃ T, HpI w4 wr A c T H ∧ KpI c S T es i j ∧ IntsIn wr (.slice (some ⟨bl, ob, none⟩) m cpv) (es.map fun (x : Nat) => (x : Int)))) (fun k _ => p - (intOf k).toNat)
            case atStart => exact ⟨0, Nat.zero_le _, rfl, H7⟩
            case round =>
              obtain ⟨k, hk, rfl, HR⟩ := hrel
              clear H7
              obtain ⟨T, h1, h2, h3⟩ := HR.out
              have HG := Lib.hid (And.intro h1 (And.intro h2 h3))
              clear HR h1 h2
              by_cases hkp : k < p
              · have hkb : (k : Int) < (p : Int) := by omega
                obtain ⟨_, _, hav, -, hcell⟩ := nats_of HE.out.2.2.2.1 (by omega) h3
                cases hav
                have hci := hcell i hlt
                obtain ⟨r, hr⟩ : ∃ r, (i + k) % m = r := ⟨_, rfl⟩
                have hrm : r < m := by rw [← hr]; exact Nat.mod_lt _ (by omega)
                have hcr := hcell r hrm
                have hel : r < es.length := by rw [HE.out.2.2.2.1]; exact hrm
                have hmr : es.getD r 0 ∈ es := by
                  rw [List.getD_eq_getElem?_getD, List.getElem?_eq_getElem hel]
                  exact List.getElem_mem hel
                rw [HF.out.2.2.2] at hci
                have hst := fun w1 (h : HpI w4 w1 A c T H) => hpo_Store (e := ei) (k := k) (es.getD r 0 : Nat) h (by rw [HG.out.2.1.kq.B]; exact HE.out.1 _ HF.out.2.2.1) (by rw [HG.out.2.1.kq.fl HP.out.1.inv (HE.out.1 _ HF.out.2.2.1), HF.out.2.1]; exact hkb) (by
                  have := HE.out.2.1 _ hmr
                  have h5 := HG.out.2.1.kq.len
                  have := HP.out.2.2
                  omega)
                have hkp2 := HG.out.2.1.step (k := k) HG.out.1.inv HE.out.1 HP.out.1.inv HE.out.2.2.1 (by rw [HE.out.2.2.2.1]; exact hlt) (by rw [HF.out.2.2.2, HF.out.2.1]; exact hkb)
                rw [HE.out.2.2.2.1, hr, HF.out.2.2.2] at hkp2
                obtain ⟨er, her⟩ : ∃ er, es.getD r 0 = er := ⟨_, rfl⟩
                rw [her] at hcr hst hkp2
                have hw1 : IntKind.i64.wrap ((i : Int) + k) = (i : Int) + k := IntWalk.i64_in _ (by omega)
                have hw2 : ((i : Int) + k).tmod m = r := by
                  rw [Int.tmod_eq_emod_of_nonneg (by omega), ← hr]
                  exact (Int.natCast_emod (i + k) m).symm
                have hm0 : ¬ (m : Int) = 0 := by omega
                have hw3 : IntKind.i64.wrap (r : Int) = r := IntWalk.i64_in _ (by omega)
                have hmN : ¬ m = 0 := by omega
                have hm1 : ¬ (m : Int) = -1 := by omega
                have hrb : (r : Int) < (m : Int) := by omega
                have HX := Lib.hid (And.intro hst hkp2)
                have HKeep := Lib.hid (fun w1 (ht : Touch (HT A) wr w1) => show w1.cell? ⟨bl, ob + i, none⟩ = some (.int .i64 (ei : Nat)) ∧ w1.cell? ⟨bl, ob + r, none⟩ = some (.int .i64 (er : Nat)) from
                  ⟨(ht.cell (cell_lt hci) (fun x => HE.out.2.2.2.2.1 bl rfl x)).trans hci, (ht.cell (cell_lt hcr) (fun x => HE.out.2.2.2.2.1 bl rfl x)).trans hcr⟩)
                clear h3 hcell hst hkp2 hel hmr her
                have HD : Hid (HpI w4 wr.drew A c T H) := HG.out.1.old (Touch.drew (Touch.refl _ _))
                go_wp2_with fail
                go_region_held3 (fun w1 => w1.cell? ⟨bl, ob + i, none⟩ = some (.int .i64 (ei : Nat)) ∧ w1.cell? ⟨bl, ob + r, none⟩ = some (.int .i64 (er : Nat))) (first | exact HKeep.out _ (Touch.refl _ _) | exact HKeep.out _ (Touch.drew (Touch.refl _ _)) | exact HK4.out) (first
                  | (go_at_call 14; refine (HX.out.1 _ HD.out).mono ?_; rintro e w9 ⟨rfl, hT9, h9⟩; have HK4 := Lib.hid (HKeep.out w9 (Touch.trans (Touch.drew (Touch.refl (HT A) wr)) hT9)); have H9 : Hid (∃ T, HpI w4 w9 A c T H ∧ KpI c S T es i (k + 1) ∧ IntsIn w9 (.slice (some ⟨bl, ob, none⟩) m cpv) (es.map fun (x : Nat) => (x : Int))) := ⟨_, h9, HX.out.2, HG.out.2.2.touch (Touch.trans (Touch.drew (Touch.refl (HT A) wr)) hT9) (fun g hg => HE.out.2.2.2.2.1 g hg)⟩; clear hT9 h9))
                go_wp2
                go_roundw
                case rel => exact ⟨k + 1, by omega, by go_num, H9⟩
                case measure => simp [intOf]; omega
              · have hkp3 : k = p := by omega
                have H9 : Hid (∃ T, HpI w4 wr A c T H ∧ KpI c S T es (i + 1) 0 ∧ IntsIn wr (.slice (some ⟨bl, ob, none⟩) m cpv) (es.map fun (x : Nat) => (x : Int))) := ⟨T, HG.out.1, HG.out.2.1.next (by rw [HF.out.2.2.2, HF.out.2.1]; omega), HG.out.2.2⟩
                have hkb : ¬ (k : Int) < (p : Int) := by omega
                clear h3 hkp3
                go_wp2
                go_roundw
                case rel => exact ⟨i + 1, by omega, by go_num, H9⟩
                case measure => simp [intOf]; omega
          · have hb : ¬ (i : Int) < (m : Int) := by omega
            obtain rfl : i = m := by omega
            have hbq := HT4.out.2.2
            have hbq5 := blk_touch hbq HG.out.1.at'.base (fun x => x)
            obtain ⟨q0, q1, q2, -, -, -⟩ := box3 hbq5
            have hst := hp_Store q_0 q_1 q_2 HG.out.1
            obtain ⟨hk1, hk2⟩ := HG.out.1.st_keep q_0 q_1 q_2
            obtain ⟨E, hE⟩ : ∃ E, T.stE c q_0 q_1 q_2 = E := ⟨_, rfl⟩
            obtain ⟨T2, hT2⟩ : ∃ T2, T.stS c q_0 q_1 q_2 = T2 := ⟨_, rfl⟩
            rw [hE, hT2] at hst
            rw [hT2] at hk1 hk2
            rw [hE] at hk2
            have hqv : E = 0 → 0 ≤ q_2 ∧ q_2 ≤ z := fun h0 => by
              have h1 := HS.st_val (hE.trans h0)
              have := HG.out.2.1.kq.len
              have := HP.out.2.2
              omega
            have HX := Lib.hid (And.intro hst (And.intro hk1 (And.intro hk2 (And.intro hqv HG.out))))
            clear hst hk1 hk2 hE hT2 h3 hbq hbq5 hqv
            go_wp2_with (go_at_call 14; fail)
            refine HX.out.1.mono ?_
            rintro e w7 ⟨rfl, hT7, h7⟩
            have hbq7 := box3 (blk_touch HT4.out.2.2 h7.at'.base (fun x => x))
            have H7 : Hid (HpI w4 w7 A c T2 H ∧ IntsIn w7 (.slice av i cpv) (es.map fun (x : Nat) => (x : Int))) := ⟨h7, HG.out.2.2.touch hT7 (fun g hg => HE.out.2.2.2.2.1 g hg)⟩
            have HQ := Lib.hid (fun w1 (h : HpI w4 w1 A c T2 H) => box3 (blk_touch HT4.out.2.2 h.at'.base (fun x => x)))
            clear hT7 h7 q0 q1 q2 hbq7 HG hb hi hlt
            go_wp2_with fail
            go_loopw [16] (fun v wr => ∃ j : Nat, j ≤ i ∧ v = .int .i64 j ∧ Hid (HpI w4 wr A c T2 H ∧ IntsIn wr (.slice av i cpv) (es.map fun (x : Nat) => (x : Int)))) (fun v _ => i - (intOf v).toNat)
            case atStart => exact ⟨0, Nat.zero_le _, rfl, H7⟩
            case round =>
              obtain ⟨a, ha, rfl, HR⟩ := hrel
              clear H7
              by_cases hlt : a < i
              · have hb : (a : Int) < (i : Int) := by omega
                obtain ⟨bl, ob, hav, hcp, hcell⟩ := nats_of HE.out.2.2.2.1 (by omega) HR.out.2
                subst hav
                have hci := hcell a hlt
                have hel : a < es.length := by rw [HE.out.2.2.2.1]; exact hlt
                have hme : es.getD a 0 ∈ es := by
                  rw [List.getD_eq_getElem?_getD, List.getElem?_eq_getElem hel]
                  exact List.getElem_mem hel
                have hTB : T.B (es.getD a 0) = true := by rw [HX.out.2.2.2.2.2.1.kq.B]; exact HE.out.1 _ hme
                have hfi := hpo_Fields HR.out.1 (by rw [HX.out.2.1.B]; exact hTB)
                have hf2 : T2.flds (es.getD a 0 : Nat) = S.flds (es.getD a 0 : Nat) := (HX.out.2.1.fl HX.out.2.2.2.2.1.inv hTB).trans (HX.out.2.2.2.2.2.1.kq.fl HP.out.1.inv (HE.out.1 _ hme))
                rw [hf2] at hfi
                obtain ⟨f, hf⟩ : ∃ f, S.flds (es.getD a 0 : Nat) = f := ⟨_, rfl⟩
                rw [hf] at hfi hf2
                have hfb : 0 ≤ f ∧ f < 256 := by rw [← hf]; exact HS.flds_bd S _
                obtain ⟨p, rfl⟩ := Int.eq_ofNat_of_zero_le hfb.1
                have hpb : p < 256 := by omega
                have hfw := fun (k : Nat) (hk : (k : Int) < p) => (HX.out.2.2.1 _ k hTB (by rw [HX.out.2.2.2.2.2.1.kq.fl HP.out.1.inv (HE.out.1 _ hme), hf]; exact hk))
                have hfw2 := fun (k : Nat) (hk : (k : Int) < p) => HX.out.2.2.2.2.2.1.fw a k hel (by rw [hf]; exact hk) (.inl (by omega))
                obtain ⟨ei, hei⟩ : ∃ ei, es.getD a 0 = ei := ⟨_, rfl⟩
                rw [hei] at hci hfi hme hf hf2 hTB
                simp only [hei] at hfw hfw2
                have HF := Lib.hid (And.intro hfi (And.intro hf2 (And.intro hTB (And.intro hfw hfw2))))
                clear hcell hfi hf hme hfb hel hf2 hTB hfw hfw2
                go_wp2_with (go_at_call 13; fail)
                refine HF.out.1.mono ?_
                rintro e w8 ⟨rfl, hT8, h8⟩
                have H8 : Hid (HpI w4 w8 A c T2 H ∧ IntsIn w8 (.slice (some ⟨bl, ob, none⟩) i cpv) (es.map fun (x : Nat) => (x : Int))) := ⟨h8, HR.out.2.touch hT8 (fun g hg => HE.out.2.2.2.2.1 g hg)⟩
                clear hT8 h8 hci HR
                go_wp2_with fail
                go_loopw [19] (fun v wr => ∃ j : Nat, j ≤ p ∧ v = .int .i64 j ∧ Hid (HpI w4 wr A c T2 H ∧ IntsIn wr (.slice (some ⟨bl, ob, none⟩) i cpv) (es.map fun (x : Nat) => (x : Int)))) (fun v _ => p - (intOf v).toNat)
                case atStart => exact ⟨0, Nat.zero_le _, rfl, H8⟩
                case round =>
                  obtain ⟨k, hk, rfl, HR⟩ := hrel
                  clear H8
                  by_cases hkp : k < p
                  · have hkb : (k : Int) < (p : Int) := by omega
                    obtain ⟨_, _, hav, -, hcell⟩ := nats_of HE.out.2.2.2.1 (by omega) HR.out.2
                    cases hav
                    have hci := hcell a hlt
                    rw [hei] at hci
                    obtain ⟨r, hr⟩ : ∃ r, (a + k) % i = r := ⟨_, rfl⟩
                    have hrm : r < i := by rw [← hr]; exact Nat.mod_lt _ (by omega)
                    have hcr := hcell r hrm
                    have hel : r < es.length := by rw [HE.out.2.2.2.1]; exact hrm
                    have hmr : es.getD r 0 ∈ es := by
                      rw [List.getD_eq_getElem?_getD, List.getElem?_eq_getElem hel]
                      exact List.getElem_mem hel
                    have hrz := HE.out.2.1 _ hmr
                    have hv1 := HF.out.2.2.2.1 k hkb
                    have hv2 := HF.out.2.2.2.2 k hkb
                    rw [HE.out.2.2.2.1, hr] at hv2
                    obtain ⟨er, her⟩ : ∃ er, es.getD r 0 = er := ⟨_, rfl⟩
                    rw [her] at hcr hv2 hrz
                    rw [hv2] at hv1
                    have hqv := HX.out.2.2.2.1
                    have hvb : 0 ≤ T2.fw ei k ∧ T2.fw ei k ≤ 9223372036854775807 := by
                      rw [hv1]
                      split
                      · rename_i h0; have := hqv h0.1; omega
                      · omega
                    have hld := fun w1 (h : HpI w4 w1 A c T2 H) => hpo_Load h (by rw [HX.out.2.1.B]; exact HF.out.2.2.1) (by rw [HF.out.2.1]; exact hkb) hvb
                    rw [hv1] at hld
                    have hw1 : IntKind.i64.wrap ((a : Int) + k) = (a : Int) + k := IntWalk.i64_in _ (by omega)
                    have hw2 : ((a : Int) + k).tmod i = r := by
                      rw [Int.tmod_eq_emod_of_nonneg (by omega), ← hr]
                      exact (Int.natCast_emod (a + k) i).symm
                    have hm0 : ¬ (i : Int) = 0 := by omega
                    have hm1 : ¬ (i : Int) = -1 := by omega
                    have hmN : ¬ i = 0 := by omega
                    have hrb : (r : Int) < (i : Int) := by omega
                    obtain ⟨q0, q1, q2, -, -, -⟩ := HQ.out _ HR.out.1
                    have HLd := Lib.hid hld
                    clear hcell hld hmr her hel hv1 hv2 hqv hvb hrz
                    have HKp := Lib.hid (fun w1 (ht : Touch nob wr w1) => show HpI w4 w1 A c T2 H ∧ IntsIn w1 (.slice (some ⟨bl, ob, none⟩) i cpv) (es.map fun (x : Nat) => (x : Int)) ∧ w1.cell? ⟨bl, ob + a, none⟩ = some (.int .i64 (ei : Nat)) from
                      ⟨HR.out.1.old ht, HR.out.2.old ht, (ht.cell (cell_lt hci) (fun x => x)).trans hci⟩)
                    go_wp2_with fail
                    by_cases hE0 : E = 0
                    · by_cases he0 : (ei : Int) = q_0
                      · by_cases hk0 : (k : Int) = q_1
                        · rw [if_pos ⟨hE0, he0, hk0⟩] at HLd
                          have b1 : (E == 0) = true := by simpa using hE0
                          have b2 : ((ei : Int) == q_0) = true := by simpa using he0
                          have b3 : ((k : Int) == q_1) = true := by simpa using hk0
                          clear HR hE0 he0 hk0
                          go_quiet (fail)
                          obtain ⟨W9, hW9⟩ : ∃ W9, W9 = wr.drewN nq := ⟨_, rfl⟩
                          rw [← hW9]
                          have HK9 := Lib.hid (HKp.out W9 (by rw [hW9]; exact Touch.drewN (Touch.refl _ _) _))
                          clear hW9 hci hcr q0 q1 q2
                          have hci := HK9.out.2.2
                          obtain ⟨q0, q1, q2, -, -, -⟩ := HQ.out _ HK9.out.1
                          go_wp2_with (go_at_call 15; fail)
                          refine (HLd.out W9 HK9.out.1).mono ?_
                          rintro e w9 ⟨rfl, hT9, h9⟩
                          have H9 : Hid (HpI w4 w9 A c T2 H ∧ IntsIn w9 (.slice (some ⟨bl, ob, none⟩) i cpv) (es.map fun (x : Nat) => (x : Int))) := ⟨h9, HK9.out.2.1.touch hT9 (fun g hg => HE.out.2.2.2.2.1 g hg)⟩
                          clear hT9 h9 hci q0 q1 q2
                          go_wp2
                          go_roundw
                          case rel => exact ⟨k + 1, by omega, by go_num, H9⟩
                          case measure => simp [intOf]; omega
                        · rw [if_neg (fun x => hk0 x.2.2)] at HLd
                          have b1 : (E == 0) = true := by simpa using hE0
                          have b2 : ((ei : Int) == q_0) = true := by simpa using he0
                          have b3 : ((k : Int) == q_1) = false := by simpa using hk0
                          clear HR hE0 he0 hk0
                          go_quiet (fail)
                          obtain ⟨W9, hW9⟩ : ∃ W9, W9 = wr.drewN nq := ⟨_, rfl⟩
                          rw [← hW9]
                          have HK9 := Lib.hid (HKp.out W9 (by rw [hW9]; exact Touch.drewN (Touch.refl _ _) _))
                          clear hW9 hci hcr q0 q1 q2
                          have hci := HK9.out.2.2
                          obtain ⟨q0, q1, q2, -, -, -⟩ := HQ.out _ HK9.out.1
                          go_wp2_with (go_at_call 15; fail)
                          refine (HLd.out W9 HK9.out.1).mono ?_
                          rintro e w9 ⟨rfl, hT9, h9⟩
                          have H9 : Hid (HpI w4 w9 A c T2 H ∧ IntsIn w9 (.slice (some ⟨bl, ob, none⟩) i cpv) (es.map fun (x : Nat) => (x : Int))) := ⟨h9, HK9.out.2.1.touch hT9 (fun g hg => HE.out.2.2.2.2.1 g hg)⟩
                          clear hT9 h9 hci q0 q1 q2
                          go_wp2
                          go_roundw
                          case rel => exact ⟨k + 1, by omega, by go_num, H9⟩
                          case measure => simp [intOf]; omega
                      · rw [if_neg (fun x => he0 x.2.1)] at HLd
                        have b1 : (E == 0) = true := by simpa using hE0
                        have b2 : ((ei : Int) == q_0) = false := by simpa using he0
                        clear HR hE0 he0
                        go_quiet (fail)
                        obtain ⟨W9, hW9⟩ : ∃ W9, W9 = wr.drewN nq := ⟨_, rfl⟩
                        rw [← hW9]
                        have HK9 := Lib.hid (HKp.out W9 (by rw [hW9]; exact Touch.drewN (Touch.refl _ _) _))
                        clear hW9 hci hcr q0 q1 q2
                        have hci := HK9.out.2.2
                        obtain ⟨q0, q1, q2, -, -, -⟩ := HQ.out _ HK9.out.1
                        go_wp2_with (go_at_call 15; fail)
                        refine (HLd.out W9 HK9.out.1).mono ?_
                        rintro e w9 ⟨rfl, hT9, h9⟩
                        have H9 : Hid (HpI w4 w9 A c T2 H ∧ IntsIn w9 (.slice (some ⟨bl, ob, none⟩) i cpv) (es.map fun (x : Nat) => (x : Int))) := ⟨h9, HK9.out.2.1.touch hT9 (fun g hg => HE.out.2.2.2.2.1 g hg)⟩
                        clear hT9 h9 hci q0 q1 q2
                        go_wp2
                        go_roundw
                        case rel => exact ⟨k + 1, by omega, by go_num, H9⟩
                        case measure => simp [intOf]; omega
                    · rw [if_neg (fun x => hE0 x.1)] at HLd
                      have b1 : (E == 0) = false := by simpa using hE0
                      clear HR hE0
                      go_quiet (fail)
                      obtain ⟨W9, hW9⟩ : ∃ W9, W9 = wr.drewN nq := ⟨_, rfl⟩
                      rw [← hW9]
                      have HK9 := Lib.hid (HKp.out W9 (by rw [hW9]; exact Touch.drewN (Touch.refl _ _) _))
                      clear hW9 hci hcr q0 q1 q2
                      have hci := HK9.out.2.2
                      obtain ⟨q0, q1, q2, -, -, -⟩ := HQ.out _ HK9.out.1
                      go_wp2_with (go_at_call 15; fail)
                      refine (HLd.out W9 HK9.out.1).mono ?_
                      rintro e w9 ⟨rfl, hT9, h9⟩
                      have H9 : Hid (HpI w4 w9 A c T2 H ∧ IntsIn w9 (.slice (some ⟨bl, ob, none⟩) i cpv) (es.map fun (x : Nat) => (x : Int))) := ⟨h9, HK9.out.2.1.touch hT9 (fun g hg => HE.out.2.2.2.2.1 g hg)⟩
                      clear hT9 h9 hci q0 q1 q2
                      go_wp2
                      go_roundw
                      case rel => exact ⟨k + 1, by omega, by go_num, H9⟩
                      case measure => simp [intOf]; omega
                  · have hkb : ¬ (k : Int) < (p : Int) := by omega
                    go_wp2
                    go_roundw
                    case rel => exact ⟨a + 1, by omega, by go_num, HR⟩
                    case measure => simp [intOf]; omega
              · have hb : ¬ (a : Int) < (i : Int) := by omega
                have hxT : T2.x = List.replicate n 0 := HX.out.2.1.x.trans (HX.out.2.2.2.2.2.1.kq.x.trans HP.out.2.1)
                have hoT : T2.objs = es.map fun (x : Nat) => (x : Int) := HX.out.2.1.objs.trans (HX.out.2.2.2.2.2.1.kq.objs.trans HE.out.2.2.2.2.2.1)
                have HXT := Lib.hid (And.intro hxT hoT)
                have H9 := Lib.hid HR.out
                clear HR hxT hoT ha hlt
                go_wp2_with fail
                go_loopw [23] (fun v wr => ∃ j : Nat, j ≤ n ∧ v = .int .i64 j ∧ Hid (HpI w4 wr A c T2 H ∧ IntsIn wr (.slice av i cpv) (es.map fun (x : Nat) => (x : Int)))) (fun v _ => n - (intOf v).toNat)
                case atStart => exact ⟨0, Nat.zero_le _, rfl, H9⟩
                case round =>
                  obtain ⟨k, hk, rfl, HR⟩ := hrel
                  clear H9
                  obtain ⟨-, -, -, -, z4, -, -⟩ := cfg_box HT4.out.2.1 HR.out.1.at'.base
                  rw [← HN5.out.1] at z4
                  by_cases hkn : k < n
                  · have hkb : (k : Int) < (n : Int) := by omega
                    have hce := heap_Cell_ok k HR.out.1.at' (by rw [HXT.out.1, List.length_replicate]; exact hkn)
                    rw [HXT.out.1, show (List.replicate n (0 : Int)).getD k 0 = 0 by rw [List.getD_eq_getElem?_getD, List.getElem?_replicate]; split <;> rfl] at hce
                    have HCE := Lib.hid hce
                    clear hce
                    go_wp2_with (go_at_call 11; fail)
                    refine HCE.out.mono ?_
                    rintro e w9 ⟨rfl, rfl⟩
                    go_wp2
                    go_roundw
                    case rel => exact ⟨k + 1, by omega, by go_num, HR⟩
                    case measure => simp [intOf]; omega
                  · have hkb : ¬ (k : Int) < (n : Int) := by omega
                    have hob := hp_Objects HR.out.1 (HTab.out.touch (HT4.out.1.trans HR.out.1.at'.base) (fun x => x))
                    rw [HXT.out.2] at hob
                    have HOb := Lib.hid hob
                    clear hob hkn hk
                    go_wp2_with (go_at_call 12; fail)
                    refine HOb.out.mono ?_
                    rintro e w9 ⟨v, rfl, hT9, h9, hI9, hg9⟩
                    have H9 := Lib.hid (And.intro h9 (And.intro hI9 (HR.out.2.touch hT9 (fun g hg => HE.out.2.2.2.2.1 g hg))))
                    clear hT9 h9 hI9 hg9 z4
                    go_wp2_with (go_at_call 16; fail)
                    refine (ref01_Same _ _ (es.map fun (x : Nat) => (x : Int)) w9 H9.out.2.1 H9.out.2.2 (by rw [HE.out.2.2.2.2.2.2]; omega)).mono ?_
                    rintro e w10 ⟨rfl, hT10⟩
                    have H10 := Lib.hid (((HT4.out.1.trans H9.out.1.at'.base).trans hT10).below)
                    clear hT10
                    go_wp2
                    go_ret
                    exact ⟨rfl, H10.out⟩
  · have hlg : (N : Int) > 40 := by omega
    go_wp2_with (go_at_call 7; fail)
    simp only [set7] at hW3
    rw [← hW3]
    clear hW3 y0 y1 y2 y3 y4 y5 y6 g0 g1 g2 g3 g4 g5 g6
    refine (law11_awake W3 (HL.out.old H3.out.1)).mono ?_
    rintro e w4 ⟨rfl, hT4⟩
    have HE := Lib.hid ((H3.out.1.trans hT4).below)
    clear hT4
    go_wp2
    go_ret
    exact ⟨rfl, HE.out⟩
end Go.Proofs.YtflhjbmoncbomaaDoor
