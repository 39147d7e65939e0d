/- The sweep's laws: a heap and the document's are made, walked. Conditions: the tables of limits and of sizes read as laid. -/
import Derived.Test.YtnobempbcdkoaaaGreatDoorRv1
namespace Go.Proofs.YtnobempbcdkoaaaGreatDoor
open Go.RowKit

variable {W w w1 w2 w' : World} {O O' T : Nat → Prop} {m qx n : Nat} {c : Cf} {A : HA} {S S' : HS} {H H' : Nat → List Nat}
/-- A slice of things: fields, color, gone. -/
def ThIn (w : World) (v : Value) (th : List (Int × Int × Bool)) : Prop :=
  ∃ ao cap, v = .slice ao th.length cap ∧ (th.length = 0 ∨ ∃ b o, ao = some ⟨b, o, none⟩ ∧ th.length ≤ cap ∧ ∀ k t, th[k]? = some t → ((0 ≤ t.1 ∧ t.1 ≤ 255) ∧ 0 ≤ t.2.1 ∧ t.2.1 ≤ 255) ∧ w.cell? ⟨b, o + k * 3, none⟩ = some (.int .u8 t.1) ∧ w.cell? ⟨b, o + k * 3 + 1, none⟩ = some (.int .u8 t.2.1) ∧ w.cell? ⟨b, o + k * 3 + 2, none⟩ = some (.bool t.2.2))
theorem ThIn.old {v : Value} {th : List (Int × Int × Bool)} (h : ThIn w v th) (ht : Touch nob w w') : ThIn w' v th := by
  obtain ⟨ao, cap, rfl, h0 | ⟨b, o, e, hc, hr⟩⟩ := h
  · exact ⟨ao, cap, rfl, .inl h0⟩
  · refine ⟨ao, cap, rfl, .inr ⟨b, o, e, hc, fun k t hk => ?_⟩⟩
    obtain ⟨b1, c1, c2, c3⟩ := hr k t hk
    have key : ∀ {i j : Nat} {u : Value}, w.cell? ⟨i, j, none⟩ = some u → w'.cell? ⟨i, j, none⟩ = some u := fun {i j u} hp => (ht.cell (cell_lt hp) (fun x => x)).trans hp
    exact ⟨b1, key c1, key c2, key c3⟩
theorem fits3 {r : List Value} (h : Fits [some .u8, some .u8, none] r) : ∃ t : Int × Int × Bool, r = [.int .u8 t.1, .int .u8 t.2.1, .bool t.2.2] ∧ (0 ≤ t.1 ∧ t.1 ≤ 255) ∧ 0 ≤ t.2.1 ∧ t.2.1 ≤ 255 := by
  cases h with
  | cons h1 h =>
    cases h with
    | cons h2 h =>
      cases h with
      | cons h3 h =>
        cases h
        obtain ⟨x, rfl, hx⟩ := h1
        obtain ⟨y, rfl, hy⟩ := h2
        obtain ⟨z, rfl⟩ := h3
        exact ⟨(x, y, z), rfl, bounds_u8 hx, bounds_u8 hy⟩
theorem ThIn.of_rows {v : Value} {N : Nat} (h : RowsIn w v [some .u8, some .u8, none] N) : ∃ th, th.length = N ∧ ThIn w v th := by
  obtain ⟨ao, cap, rfl, h0 | ⟨b, o, e, hc, _, hr⟩⟩ := h
  · subst h0
    exact ⟨[], rfl, ao, cap, rfl, .inl rfl⟩
  · have key : ∀ k : Fin N, ∃ t : Int × Int × Bool, ((0 ≤ t.1 ∧ t.1 ≤ 255) ∧ 0 ≤ t.2.1 ∧ t.2.1 ≤ 255) ∧ w.cell? ⟨b, o + k * 3, none⟩ = some (.int .u8 t.1) ∧ w.cell? ⟨b, o + k * 3 + 1, none⟩ = some (.int .u8 t.2.1) ∧ w.cell? ⟨b, o + k * 3 + 2, none⟩ = some (.bool t.2.2) := fun k => by
      obtain ⟨r, hf, hcl⟩ := hr k k.2
      obtain ⟨t, rfl, hb⟩ := fits3 hf
      exact ⟨t, hb, hcl 0 (by decide), hcl 1 (by decide), hcl 2 (by decide)⟩
    obtain ⟨g, hg⟩ := Classical.axiomOfChoice key
    refine ⟨List.ofFn g, List.length_ofFn, ao, cap, by rw [List.length_ofFn], .inr ⟨b, o, e, by rw [List.length_ofFn]; exact hc, fun k t hk => ?_⟩⟩
    rw [List.getElem?_ofFn] at hk
    split at hk
    · cases hk
      exact hg _
    · cases hk
/-- One thing is made; it may be gone. -/
def mdS (c : Cf) (n : Nat) (p : HS × (Nat → List Nat)) (t : Int × Int × Bool) : HS × (Nat → List Nat) :=
  if makE p.1 p.2 n (t.1 % 16) (t.2.1 % 2) = 0 ∧ t.2.2 = true then ((makS p.1 p.2 c n (t.1 % 16) (t.2.1 % 2)).freS c (makV p.1 p.2 c n (t.1 % 16) (t.2.1 % 2)), freH (makS p.1 p.2 c n (t.1 % 16) (t.2.1 % 2)) c (makH p.1 p.2 c n (t.1 % 16) (t.2.1 % 2)) (makV p.1 p.2 c n (t.1 % 16) (t.2.1 % 2)))
  else (makS p.1 p.2 c n (t.1 % 16) (t.2.1 % 2), makH p.1 p.2 c n (t.1 % 16) (t.2.1 % 2))
def mdF (c : Cf) (n : Nat) (l : List (Int × Int × Bool)) (p : HS × (Nat → List Nat)) : HS × (Nat → List Nat) := l.foldl (mdS c n) p
theorem mdF_snoc (c : Cf) (n : Nat) (l : List (Int × Int × Bool)) (t : Int × Int × Bool) (p : HS × (Nat → List Nat)) : mdF c n (l ++ [t]) p = mdS c n (mdF c n l p) t := by
  unfold mdF
  rw [List.foldl_append]
  rfl
/-- Between two rounds. -/
def MdI (W wr : World) (A : HA) (c : Cf) (p : HS × (Nat → List Nat)) (m qx : Nat) : Prop := ∃ O, Two W wr A c p.1 p.2 O m qx ∧ p.1.x.length ≤ 64
theorem freS_x (S : HS) (c : Cf) (a : Int) : (S.freS c a).x = S.x := by
  unfold HS.freS HS.putS
  split
  · split <;> rfl
  · rfl
set_option maxRecDepth 10000 in
set_option maxHeartbeats 4000000 in
theorem law15_Made (c : Cf) (v : Value) (th : List (Int × Int × Bool)) (z n4 : Nat) (hc : c.ok = true) (hz : (z : Int) = c.c0 * c.c1) (hz1 : z ≤ 4096) (hn4 : c.c4 = n4) (h64 : n4 ≤ 64) (w : World) (hL : Laid w) (hth : ThIn w v th) :
    Calls Tryz.prog 47 #[c.V, v] w fun e w' => ∃ W, Touch nob w W ∧ ∃ A m, e = .returned (.tuple #[.pointer (some ⟨A.h, 0, none⟩), .pointer (some ⟨m, 0, none⟩)]) ∧ (A.L.n : Int) = c.c0 ∧ ∃ qx, MdI W w' A c (mdF c A.L.n (th.take 40) (newS0 z n4, fun _ => [])) m qx := by
  obtain ⟨ao, cap, rfl, -⟩ := id hth
  obtain ⟨N, hN⟩ : ∃ N, th.length = N := ⟨_, rfl⟩
  have HTH := Lib.hid (And.intro hth hN)
  have HC := Lib.hid (And.intro hc (And.intro hz (And.intro hz1 (And.intro hn4 h64))))
  have HL := Lib.hid hL
  rw [hN]
  clear hth hN hc hz hz1 hn4 h64 hL
  go_enter Tryz.func47, Tryz.ntmps47
  go_wp2_with fail
  obtain ⟨W, hW⟩ : ∃ W, W = w.alloc (Obj.cells (CfgRow c.c0 c.c1 c.c2 c.c3 c.c4 c.c5 c.c6) 23) := ⟨_, rfl⟩
  have hT : Touch nob w W := by rw [hW]; (repeat (first | with_reducible exact Touch.refl _ _ | with_reducible assumption | with_reducible apply Touch.alloc | with_reducible apply Touch.drewN | with_reducible apply Touch.drew | with_reducible refine Touch.setCell ?_ (.inr (by first | omega | (simp; done) | (simp; omega))) _))
  have hbx : W.heap[w.heap.size]? = some (Obj.cells (CfgRow c.c0 c.c1 c.c2 c.c3 c.c4 c.c5 c.c6) 23) := by rw [hW]; exact World.alloc_heap_new w _
  obtain ⟨b0, hb0⟩ : ∃ b, b = w.heap.size := ⟨_, rfl⟩
  rw [← hW, ← hb0]
  rw [← hb0] at hbx
  have HB := Lib.hid (And.intro hT hbx)
  clear hW hT hbx hb0
  refine (heap_New_ok c W (HL.out.old HB.out.1) HC.out.1).mono ?_
  rintro e w1 ⟨A, z', n', rfl, hz', hn, hn', h1⟩
  obtain rfl : z' = z := by have := HC.out.2.1; omega
  obtain rfl : n' = n4 := by have := HC.out.2.2.2.1; omega
  obtain ⟨y0, y1, y2, y3, y4, y5, y6⟩ := cfg_box HB.out.2 h1.at'.base
  have H1 := Lib.hid (And.intro h1 hn)
  clear h1 hn hz' hn'
  go_wp2_with (go_at_call 84; fail)
  have hnw := rf_New c n' HC.out.2.2.2.1 HC.out.2.2.2.2 w1
  refine hnw.mono ?_
  rintro e w2 ⟨m, qx, O, rfl, t2, hO, r2⟩
  have I2 : MdI W w2 A c (mdF c A.L.n (th.take 0) (newS0 z' n', fun _ => [])) m qx := ⟨O, Two.start H1.out.1 t2 hO r2 HC.out.1 HC.out.2.1 HC.out.2.2.1 H1.out.2, by show (List.replicate n' (0 : Int)).length ≤ 64; rw [List.length_replicate]; exact HC.out.2.2.2.2⟩
  have HI2 := Lib.hid I2
  clear hnw t2 hO r2 I2 y0 y1 y2 y3 y4 y5 y6
  go_wp2_with fail
  go_loopw [9] (fun i wr => ∃ j : Nat, j ≤ N ∧ j ≤ 40 ∧ i = .int .i64 j ∧ Hid (MdI W wr A c (mdF c A.L.n (th.take j) (newS0 z' n', fun _ => [])) m qx)) (fun i _ => N - (intOf i).toNat)
  case atStart => exact ⟨0, Nat.zero_le _, Nat.zero_le _, rfl, HI2.out⟩
  case round =>
    obtain ⟨j, hj, hj40, rfl, HR⟩ := hrel
    clear HI2
    by_cases hlt : j < N
    · by_cases h40 : j < 40
      · obtain ⟨t, ht⟩ : ∃ t, th[j]? = some t := ⟨_, List.getElem?_eq_getElem (by rw [HTH.out.2]; exact hlt)⟩
        obtain ⟨O3, h3, hx3⟩ := HR.out
        obtain ⟨ao', cap', e, hr⟩ := HTH.out.1.old HB.out.1
        obtain ⟨b, o, rfl, hcap, hcells⟩ := hr.resolve_left (by rw [HTH.out.2]; omega)
        rw [HTH.out.2] at e hcap
        injection e with e1 e2 e3
        subst e1 e3
        obtain ⟨bd, c1, c2, c3⟩ := hcells j t ht
        have HTK := Lib.hid (show th.take (j + 1) = th.take j ++ [t] by rw [List.take_add_one, ht]; rfl)
        obtain ⟨p, hp⟩ : ∃ p, mdF c A.L.n (th.take j) (newS0 z' n', fun _ => []) = p := ⟨_, rfl⟩
        rw [hp] at h3 hx3
        have HP := Lib.hid hp
        have H3 := Lib.hid h3
        clear hp h3 hr hcells e2 ht HR
        obtain ⟨tf, tc, tg⟩ := t
        simp only at bd c1 c2 c3
        obtain ⟨f, hf⟩ : ∃ f, tf % 16 = f := ⟨_, rfl⟩
        obtain ⟨col, hcol⟩ : ∃ col, tc % 2 = col := ⟨_, rfl⟩
        have hf1 : tf.tmod 16 = f := by rw [Int.tmod_eq_emod_of_nonneg bd.1.1]; exact hf
        have hcol1 : tc.tmod 2 = col := by rw [Int.tmod_eq_emod_of_nonneg bd.2.1]; exact hcol
        have f0 : 0 ≤ f := by omega
        have f1 : f < 16 := by omega
        have g0 : 0 ≤ col := by omega
        have g1 : col < 2 := by omega
        obtain ⟨⟨d0, d1⟩, d2, d3⟩ := bd
        have hwf : IntKind.i64.wrap f = f := IntWalk.i64_in _ (by omega)
        have hwc : IntKind.i64.wrap col = col := IntWalk.i64_in _ (by omega)
        have HFC := Lib.hid (And.intro hf hcol)
        have hb : (j : Int) < (N : Int) := by omega
        have hb4 : (j : Int) < 40 := by omega
        clear hf hcol
        have HK := Lib.hid (fun w1 (ht : Touch nob W w1) => show w1.cell? ⟨b, o + j * 3, none⟩ = some (.int .u8 tf) ∧ w1.cell? ⟨b, o + j * 3 + 1, none⟩ = some (.int .u8 tc) from
          ⟨(ht.cell (cell_lt c1) (fun x => x)).trans c1, (ht.cell (cell_lt c2) (fun x => x)).trans c2⟩)
        have HKg := Lib.hid (fun w1 (ht : Touch nob W w1) => show w1.cell? ⟨b, o + j * 3 + 2, none⟩ = some (.bool tg) from (ht.cell (cell_lt c3) (fun x => x)).trans c3)
        clear c1 c2 c3
        have HD : Hid (Two W wr.drew A c p.1 p.2 O3 m qx) := H3.out.old (Touch.drew (Touch.refl _ _))
        have hM := hp_Make f col HD.out.hp
        have hR := fun w6 O6 (h : Rv w6 O6 m qx c A.L.n p.1 p.2) => rv_Make f col h
        obtain ⟨E, hE⟩ : ∃ E, makE p.1 p.2 A.L.n f col = E := ⟨_, rfl⟩
        obtain ⟨V, hV⟩ : ∃ V, makV p.1 p.2 c A.L.n f col = V := ⟨_, rfl⟩
        obtain ⟨S5, hS5⟩ : ∃ S5, makS p.1 p.2 c A.L.n f col = S5 := ⟨_, rfl⟩
        obtain ⟨H5', hH5⟩ : ∃ H5, makH p.1 p.2 c A.L.n f col = H5 := ⟨_, rfl⟩
        rw [hE, hV, hS5, hH5] at hM hR
        have HM := Lib.hid (And.intro hM hR)
        have hno : ¬ (E = 0 ∧ tg = true) → mdS c A.L.n p (tf, tc, tg) = (S5, H5') := fun hn => by
          unfold mdS
          simp only [HFC.out.1, HFC.out.2, hE, hV, hS5, hH5, if_neg hn]
        have hyes : E = 0 ∧ tg = true → mdS c A.L.n p (tf, tc, tg) = (S5.freS c V, freH S5 c H5' V) := fun hn => by
          unfold mdS
          simp only [HFC.out.1, HFC.out.2, hE, hV, hS5, hH5, if_pos hn]
        have HEV := Lib.hid (And.intro hno hyes)
        have HXx : Hid (S5.x.length ≤ 64) := by
          have h1 := (mak_ev (f := f) (col := col) H3.out.rv.inv H1.out.2).x
          rw [hS5] at h1
          show _ ≤ _
          rw [h1]
          exact hx3
        clear hM hR hE hV hS5 hH5 hno hyes hx3
        go_wp2_with fail
        go_region_held3 (fun w1 => w1.cell? ⟨b, o + j * 3, none⟩ = some (.int .u8 tf) ∧ w1.cell? ⟨b, o + j * 3 + 1, none⟩ = some (.int .u8 tc)) (first | exact HK.out _ H3.out.base | exact HK.out _ HD.out.base | exact HK.out _ HQ5.out.2.1.at'.base) (first
          | (go_at_call 85; (try rw [hwf, hwc]); refine HM.out.1.mono ?_; rintro e w5 ⟨rfl, t5, hp5⟩; have HQ5 := Lib.hid (And.intro t5 (And.intro hp5 (HD.out.mid t5))); clear t5 hp5))
        rename_i hheld
        clear hheld
        have HQ6 : Hid (Touch (HT A) wr.drew w5.drew ∧ HpI W w5.drew A c S5 H5' ∧ Rv w5.drew O3 m qx c A.L.n p.1 p.2) := ⟨HQ5.out.1.drew, HQ5.out.2.1.old (Touch.drew (Touch.refl _ _)), HQ5.out.2.2.old (Touch.drew (Touch.refl _ _))⟩
        go_wp2_with fail
        go_region_held3 (fun w1 => w1.cell? ⟨b, o + j * 3, none⟩ = some (.int .u8 tf) ∧ w1.cell? ⟨b, o + j * 3 + 1, none⟩ = some (.int .u8 tc)) (first | exact HK.out _ HQ5.out.2.1.at'.base | exact HK.out _ HQ6.out.2.1.at'.base | exact HK.out _ HQ7.out.base) (first
          | (go_at_call 86; (try rw [hwf, hwc]); refine (HM.out.2 _ _ HQ6.out.2.2).mono ?_; rintro e w6 ⟨rfl, O6, t6, s6, r6⟩; have HQ7 : Hid (Two W w6 A c S5 H5' O6 m qx) := HD.out.next HQ6.out.1 HQ6.out.2.1 t6 s6 r6; clear t6 s6 r6))
        rename_i hheld
        clear hheld
        have k3 := HKg.out _ HQ7.out.base
        by_cases hE0 : E = 0
        · subst hE0
          cases tg
          · go_wp2
            go_roundw
            case rel =>
              refine ⟨j + 1, by omega, by omega, by go_num, O6, ?_⟩
              rw [HTK.out, mdF_snoc, HP.out, HEV.out.1 (fun x => by cases x.2)]
              exact ⟨HQ7.out, HXx.out⟩
            case measure => simp [intOf]; omega
          · go_wp2_with (go_at_call 87; fail)
            refine (hp_Free V HQ7.out.hp).mono ?_
            rintro e w7 ⟨rfl, t7, hp7⟩
            generalize HS.freE _ _ = fe
            have HQ8 := Lib.hid (And.intro t7 (And.intro hp7 (HQ7.out.mid t7)))
            clear t7 hp7
            go_wp2_with (go_at_call 88; fail)
            refine (rv_Release V HQ8.out.2.2).mono ?_
            rintro e w8 ⟨rfl, O8, t8, s8, r8⟩
            generalize HS.freE _ _ = fe2
            have HQ9 : Hid (Two W w8 A c (S5.freS c V) (freH S5 c H5' V) O8 m qx) := HQ7.out.next HQ8.out.1 HQ8.out.2.1 t8 s8 r8
            clear t8 s8 r8
            go_wp2
            go_roundw
            case rel =>
              refine ⟨j + 1, by omega, by omega, by go_num, O8, ?_⟩
              rw [HTK.out, mdF_snoc, HP.out, HEV.out.2 ⟨by first | rfl | trivial, by first | rfl | trivial⟩]
              exact ⟨HQ9.out, by rw [freS_x]; exact HXx.out⟩
            case measure => simp [intOf]; omega
        · have hEb : (E == 0) = false := by simpa using hE0
          go_wp2
          go_roundw
          case rel =>
            refine ⟨j + 1, by omega, by omega, by go_num, O6, ?_⟩
            rw [HTK.out, mdF_snoc, HP.out, HEV.out.1 (fun x => hE0 x.1)]
            exact ⟨HQ7.out, HXx.out⟩
          case measure => simp [intOf]; omega
      · have hb : (j : Int) < (N : Int) := by omega
        have hb4 : ¬ (j : Int) < 40 := by omega
        have HE : Hid (j = 40) := by show _ = _; omega
        clear hj40 h40
        go_wp2
        go_ret2
        refine ⟨W, HB.out.1, A, m, rfl, H1.out.2, qx, ?_⟩
        have e := HE.out
        subst e
        exact HR.out
    · have hb : ¬ (j : Int) < (N : Int) := by omega
      have HE : Hid (th.take j = th.take 40) := by
        show _ = _
        have : j = N := by omega
        rw [List.take_of_length_le (by rw [HTH.out.2]; omega), List.take_of_length_le (by rw [HTH.out.2]; omega)]
      go_wp2
      go_ret2
      refine ⟨W, HB.out.1, A, m, rfl, H1.out.2, qx, ?_⟩
      rw [← HE.out]
      exact HR.out
end Go.Proofs.YtnobempbcdkoaaaGreatDoor
