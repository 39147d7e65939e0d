/- SweepTwice, walked. Conditions: the tables of limits, of sizes and of de Bruijn's bits read as laid. -/
import Derived.Test.YtflhjbmoncbomaaGreatDoorLaws15
import Derived.Test.YtflhjbmoncbomaaGreatDoorSwp
import Derived.Test.YtflhjbmoncbomaaGreatDoorHpP
import Derived.Test.YtflhjbmoncbomaaGreatDoorIn
import Derived.Test.YtflhjbmoncbomaaGreatDoorLittle
namespace Go.Proofs.YtflhjbmoncbomaaGreatDoor
open Go.RowKit

variable {w : World}
theorem ow_heap {w w' : World} {A : HA} {B : Nat} {v : Value} {xs : List Int} (h : Ow w B v xs) (ht : Touch (HT A) w w') (hA : ∀ b ∈ A.all, b < B) : Ow w' B v xs :=
  h.touch ht (fun g hg hm => by
    have h1 := hA g hm
    have h2 := h.new g hg
    omega)
/-- What is known of a sweep of all. -/
structure SwA (c : Cf) (k : Int) (n : Nat) (p p' : HS × (Nat → List Nat)) (l : List Int) : Prop where
  inv : HInv c p'.1 p'.2
  tb : Tb c p'.1.s.ks n
  len : p'.1.s.ws.length ≤ 4096
  clr : Clr p'.1 k
  ll : l.length ≤ 4096
theorem SwA.mk' {c : Cf} {k : Int} {n : Nat} {p : HS × (Nat → List Nat)} (hi : HInv c p.1 p.2) (tb : Tb c p.1.s.ks n) (hz : p.1.s.ws.length ≤ 4096) : SwA c k n p (swP c k (p.1.all c) p) (swL c k (p.1.all c) p) := by
  have f := swP_facts (col := k) (p.1.all c) p hi
  refine ⟨f.inv, by rw [f.ks]; exact tb, by rw [f.len]; exact hz, swd_clr (H := p.2) tb hi, ?_⟩
  have h1 := swL_len (c := c) (col := k) (p.1.all c) p
  have h2 := sub_len (p.1.all c) ((List.range p.1.s.ws.length).map fun (x : Nat) => (x : Int) + 1) (all_nodup tb) (fun x hx => by
    obtain ⟨j, _, e, hj, _⟩ := hi.slot_of (tb.mem'.1 hx)
    exact List.mem_map.2 ⟨j, List.mem_range.2 hj, e.symm⟩)
  rw [List.length_map, List.length_range] at h2
  omega
theorem objs_len {c : Cf} {S : HS} {H : Nat → List Nat} (hi : HInv c S H) : S.objs.length ≤ S.s.ws.length := by
  have h2 := sub_len S.objs ((List.range S.s.ws.length).map fun (x : Nat) => (x : Int) + 1) (objs_asc.imp fun h e => by omega) (fun x hx => by
    obtain ⟨j, _, e, hj, _⟩ := hi.slot_of (hi.obj_own (mem_objs.1 hx)).1
    exact List.mem_map.2 ⟨j, List.mem_range.2 hj, e.symm⟩)
  rwa [List.length_map, List.length_range] at h2
set_option maxRecDepth 10000 in
set_option maxHeartbeats 4000000 in
theorem law_SweepTwice {w : World} (a0 : Int) (_ : (Lit.int .i64 a0).wf = true) (a1 : Int) (_ : (Lit.int .i64 a1).wf = true) (a2 : Int) (_ : (Lit.int .i64 a2).wf = true) (a3 : Int) (_ : (Lit.int .i64 a3).wf = true) (a4 : Int) (_ : (Lit.int .i64 a4).wf = true) (a5 : Int) (_ : (Lit.int .i64 a5).wf = true) (a6 : Int) (_ : (Lit.int .i64 a6).wf = true) (l : Value) (rows : List (List Value)) (hl : IsSlice w l [some .u8, some .u8, none] rows) (color : Int) (hcol : (Lit.int .u8 color).wf = true) (hTab : Tab w) (hLim : Limits w) (hS : Sizes w) :
    Calls Tryz.prog 8 #[CfgV a0 a1 a2 a3 a4 a5 a6, l, .int .u8 color] w fun e w' => e = .returned (.bool true) ∧ Below w.heap.size w w' := by
  obtain ⟨N, hI, -⟩ := rows_of_slice hl (by simp)
  obtain ⟨th, -, hth⟩ := ThIn.of_rows hI
  have hcb := bounds_u8 hcol
  have HTH := Lib.hid hth
  have HL := Lib.hid (Laid.mk hLim hS)
  have HTab := Lib.hid hTab
  clear hLim hS hTab hl hI hth hcol
  obtain ⟨c, hc⟩ : ∃ c, little ⟨a0, a1, a2, a3, a4, a5, a6⟩ = c := ⟨_, rfl⟩
  have hok : c.ok = true := by rw [← hc]; exact little_ok _
  have hc4 : 0 ≤ c.c4 ∧ c.c4 ≤ 3 := by rw [← hc]; simp only [little]; omega
  have hc01 : (0 ≤ c.c0 ∧ c.c0 ≤ 4) ∧ 0 ≤ c.c1 ∧ c.c1 ≤ 36 := by rw [← hc]; simp only [little]; omega
  have hlit := ref02_Little ⟨a0, a1, a2, a3, a4, a5, a6⟩
  rw [hc] at hlit
  have hmb := mul_bd (a := c.c0) (b := c.c1) (A := 4) (B := 36) hc01.1.1 hc01.1.2 hc01.2.1 hc01.2.2
  obtain ⟨z, hz⟩ : ∃ z : Nat, (z : Int) = c.c0 * c.c1 := ⟨(c.c0 * c.c1).toNat, by omega⟩
  obtain ⟨n4, hn4⟩ : ∃ n4 : Nat, c.c4 = n4 := ⟨c.c4.toNat, by omega⟩
  have HC := Lib.hid (And.intro hok (And.intro hlit (And.intro hz (And.intro (show z ≤ 4096 by omega) (And.intro hn4 (show n4 ≤ 64 by omega))))))
  clear hok hlit hc hc4 hc01 hz hn4 hmb
  obtain ⟨k, hk⟩ : ∃ k, color % 2 = k := ⟨_, rfl⟩
  have hk1 : color.tmod 2 = k := by rw [Int.tmod_eq_emod_of_nonneg hcb.1]; exact hk
  have hk2 : 0 ≤ k ∧ k < 2 := by omega
  obtain ⟨k0, k1⟩ := hk2
  have hkw : IntKind.i64.wrap k = k := IntWalk.i64_in _ (by omega)
  have hkw1 : IntKind.i64.wrap (1 - k) = 1 - k := IntWalk.i64_in _ (by omega)
  have HK := Lib.hid (show (k = 0 ∨ k = 1) ∧ (1 - k = 0 ∨ 1 - k = 1) ∧ k ≠ 1 - k by omega)
  obtain ⟨hcb0, hcb1⟩ := hcb
  clear hk
  go_enter Tryz.func8, Tryz.ntmps8
  go_wp2_with (go_at_call 12; fail)
  obtain ⟨W, hW⟩ : ∃ W, W = w.alloc (Obj.cells (CfgRow a0 a1 a2 a3 a4 a5 a6) 23) := ⟨_, rfl⟩
  have hT : Touch nob w W := by rw [hW]; (repeat (first | with_reducible exact Touch.refl _ _ | with_reducible assumption | with_reducible apply Touch.alloc | with_reducible apply Touch.drewN | with_reducible apply Touch.drew | with_reducible refine Touch.setCell ?_ (.inr (by first | omega | (simp; done) | (simp; omega))) _))
  obtain ⟨b0, hb0⟩ : ∃ b, b = w.heap.size := ⟨_, rfl⟩
  rw [← hW, ← hb0]
  have HB := Lib.hid hT
  clear hW hb0 hT
  refine (HC.out.2.1 W).mono ?_
  rintro e w1 ⟨rfl, hT1⟩
  have H1 := Lib.hid (HB.out.trans hT1)
  clear hT1
  go_wp2_with (go_at_call 51; fail)
  refine (law15_Made c l th z n4 HC.out.1 HC.out.2.2.1 HC.out.2.2.2.1 HC.out.2.2.2.2.1 HC.out.2.2.2.2.2 w1 (HL.out.old H1.out) (HTH.out.old H1.out)).mono ?_
  rintro e w2 ⟨W1, t1, A, m, rfl, hn, qx, O, h2, -⟩
  obtain ⟨p, hp⟩ : ∃ p, mdF c A.L.n (th.take 40) (newS0 z n4, fun _ => []) = p := ⟨_, rfl⟩
  rw [hp] at h2
  have H2 := Lib.hid (And.intro (H1.out.trans t1) h2)
  clear t1 hn h2 hp
  go_wp2_with (go_at_call 32; fail)
  refine (law15_awake w2 (HL.out.old (H2.out.1.trans H2.out.2.base))).mono ?_
  rintro e w3 ⟨rfl, t3⟩
  have HTW := Lib.hid (HTab.out.touch H2.out.1 (fun x => x))
  have H3 : Hid (Touch nob w w3 ∧ Two W1 w3 A c p.1 p.2 O m qx) := ⟨(H2.out.1.trans H2.out.2.base).trans t3, H2.out.2.old t3⟩
  have HA3 : Hid (∀ b ∈ A.all, b < w3.heap.size) := H3.out.2.hp.at'.lt
  have A1 := Lib.hid (SwA.mk' (k := k) H3.out.2.rv.inv H3.out.2.rv.tb H3.out.2.rv.hz)
  have HAp := Lib.hid (fun x (hx : x ∈ swL c k (p.1.all c) p) => swp_apart (H := p.2) H3.out.2.rv.tb H3.out.2.rv.inv hx)
  clear t3
  go_wp2_with (go_at_call 27; fail)
  refine (sw_All p k H3.out.2.hp HK.out.1).mono ?_
  rintro e w4 ⟨v4, rfl, al⟩
  have al' : HpI W1 w4 A c (swP c k (p.1.all c) p).1 (swP c k (p.1.all c) p).2 ∧ Ow w4 w3.heap.size v4 (swL c k (p.1.all c) p) := ⟨al.hp, al.ow⟩
  obtain ⟨P1, hP1⟩ : ∃ P1, swP c k (p.1.all c) p = P1 := ⟨_, rfl⟩
  obtain ⟨La, hLa⟩ : ∃ La, swL c k (p.1.all c) p = La := ⟨_, rfl⟩
  rw [hP1, hLa] at al' A1 HAp
  have t4 := al.t
  have H4 := Lib.hid (And.intro t4 (And.intro al'.1 al'.2))
  have A2 := Lib.hid (SwA.mk' (k := k) A1.out.inv A1.out.tb A1.out.len)
  have N2 := Lib.hid (swp_none A1.out.clr A1.out.tb A1.out.inv)
  obtain ⟨aa, na, ca, rfl⟩ := al'.2.ints.shape'
  clear t4 al al' hP1 hLa
  go_wp2_with (go_at_call 48; fail)
  refine (hp_Objects H4.out.2.1 (HTW.out.touch H4.out.2.1.at'.base (fun x => x))).mono ?_
  rintro e w5 ⟨v5, rfl, t5, hp5, ow5⟩
  have H5 : Hid (HpI W1 w5 A c P1.1 P1.2 ∧ Ow w5 w3.heap.size (.slice aa na ca) La ∧ Ow w5 w3.heap.size v5 P1.1.objs) := ⟨hp5, ow_heap H4.out.2.2 t5 HA3.out, ow5.base H4.out.1.size⟩
  obtain ⟨ab, nb, cb, rfl⟩ := ow5.ints.shape'
  clear t5 hp5 ow5
  go_wp2_with (go_at_call 27; fail)
  refine (sw_All P1 k H5.out.1 HK.out.1).mono ?_
  rintro e w6 ⟨v6, rfl, al⟩
  have al' : HpI W1 w6 A c (swP c k (P1.1.all c) P1).1 (swP c k (P1.1.all c) P1).2 ∧ Ow w6 w5.heap.size v6 (swL c k (P1.1.all c) P1) := ⟨al.hp, al.ow⟩
  rw [show swL c k (P1.1.all c) P1 = [] from N2.out.1] at al'
  obtain ⟨P2, hP2⟩ : ∃ P2, swP c k (P1.1.all c) P1 = P2 := ⟨_, rfl⟩
  have n2 : P2.1.objs = P1.1.objs := by rw [← hP2]; exact N2.out.2.1
  rw [hP2] at al' A2
  have t6 := al.t
  have H6 : Hid (HpI W1 w6 A c P2.1 P2.2 ∧ Ow w6 w3.heap.size (.slice aa na ca) La ∧ Ow w6 w3.heap.size (.slice ab nb cb) P1.1.objs) := ⟨al'.1, ow_heap H5.out.2.1 t6 HA3.out, ow_heap H5.out.2.2 t6 HA3.out⟩
  have A3 := Lib.hid (SwA.mk' (k := 1 - k) A2.out.inv A2.out.tb A2.out.len)
  have N3 := Lib.hid (swp_each A2.out.clr HK.out.2.2 A2.out.tb A2.out.inv)
  obtain ⟨ac, cc, hv6⟩ := al'.2.ints.shape
  rw [List.length_nil] at hv6
  subst hv6
  have HN := Lib.hid n2
  clear t6 al al' hP2 n2
  go_wp2_with (go_at_call 48; fail)
  refine (hp_Objects H6.out.1 (HTW.out.touch H6.out.1.at'.base (fun x => x))).mono ?_
  rintro e w7 ⟨v7, rfl, t7, hp7, ow7⟩
  rw [HN.out] at ow7
  have H7 : Hid (HpI W1 w7 A c P2.1 P2.2 ∧ Ow w7 w3.heap.size (.slice aa na ca) La ∧ Ow w7 w3.heap.size (.slice ab nb cb) P1.1.objs) := ⟨hp7, ow_heap H6.out.2.1 t7 HA3.out, ow_heap H6.out.2.2 t7 HA3.out⟩
  have HO7 := Lib.hid ow7
  have HOL : Hid (P1.1.objs.length ≤ 4096) := Nat.le_trans (objs_len A1.out.inv) A1.out.len
  clear t7 hp7 ow7
  go_wp2_with (go_at_call 52; fail)
  refine (ref01_Same _ _ P1.1.objs w7 HO7.out.ints H7.out.2.2.ints (Nat.le_trans HOL.out (by decide))).mono ?_
  rintro e w8 ⟨rfl, t8⟩
  obtain ⟨N8, hN8⟩ : ∃ N8, La.length = N8 := ⟨_, rfl⟩
  obtain ⟨cap8, ea⟩ : ∃ cap8, na = N8 ∧ ca = cap8 := by
    obtain ⟨_, _, e, _⟩ := H7.out.2.1.ints
    injection e with _ e2 _
    exact ⟨_, e2.trans hN8, rfl⟩
  obtain ⟨rfl, rfl⟩ := ea
  have H8 : Hid (HpI W1 w8 A c P2.1 P2.2 ∧ Ow w8 w3.heap.size (.slice aa na ca) La ∧ Ow w8 w3.heap.size (.slice ab nb cb) P1.1.objs) := ⟨H7.out.1.old t8, H7.out.2.1.touch t8 (fun _ _ x => x), H7.out.2.2.touch t8 (fun _ _ x => x)⟩
  have hna : na ≤ 4096 := by have := A1.out.ll; omega
  have HN8 := Lib.hid hN8
  clear t8 hN8
  go_wp2_with fail
  go_loopw [15] (fun i wr => ∃ j : Nat, j ≤ na ∧ i = .int .i64 j ∧ Hid (Touch nob w8 wr)) (fun i _ => na - (intOf i).toNat)
  case atStart => exact ⟨0, Nat.zero_le _, rfl, Touch.refl _ _⟩
  case round =>
    obtain ⟨j, hj, rfl, HR⟩ := hrel
    by_cases hlt : j < na
    · have hb : (j : Int) < (na : Int) := by omega
      obtain ⟨g, hg, hcap, hcell⟩ := own_at (H8.out.2.1.touch HR.out (fun _ _ x => x)) rfl HN8.out hlt
      subst hg
      have hx : La.getD j 0 ∈ La := by
        have : j < La.length := by rw [HN8.out]; exact hlt
        rw [List.getD_eq_getElem?_getD, List.getElem?_eq_getElem this]
        exact List.getElem_mem _
      obtain ⟨x, hxe⟩ : ∃ x, La.getD j 0 = x := ⟨_, rfl⟩
      rw [hxe] at hx hcell
      have HD : Hid (decide (x ∈ P1.1.objs) = false) := decide_eq_false (HAp.out x hx)
      clear hx hxe
      go_wp2_with (go_at_call 53; fail)
      refine (ref01_In _ P1.1.objs x (H8.out.2.2.ints.old HR.out) (Nat.le_trans HOL.out (by decide))).mono ?_
      rintro e w9 ⟨rfl, t9⟩
      rw [HD.out]
      have H9 := Lib.hid (HR.out.trans t9)
      clear t9
      go_wp2
      go_roundw
      case rel => exact ⟨j + 1, by omega, by go_num, H9.out⟩
      case measure => simp [intOf]; omega
    · have hb : ¬ (j : Int) < (na : Int) := by omega
      have H9 : Hid (HpI W1 wr A c P2.1 P2.2 ∧ Ow wr w3.heap.size (.slice ab nb cb) P1.1.objs) := ⟨H8.out.1.old HR.out, H8.out.2.2.touch HR.out (fun _ _ x => x)⟩
      clear hj hlt
      go_wp2_with (go_at_call 27; fail)
      refine (sw_All P2 (1 - k) H9.out.1 HK.out.2.1).mono ?_
      rintro e w10 ⟨v10, rfl, al⟩
      have al' : HpI W1 w10 A c (swP c (1 - k) (P2.1.all c) P2).1 (swP c (1 - k) (P2.1.all c) P2).2 ∧ Ow w10 wr.heap.size v10 (swL c (1 - k) (P2.1.all c) P2) := ⟨al.hp, al.ow⟩
      rw [show swL c (1 - k) (P2.1.all c) P2 = P1.1.objs from N3.out.1.trans HN.out] at al'
      obtain ⟨P3, hP3⟩ : ∃ P3, swP c (1 - k) (P2.1.all c) P2 = P3 := ⟨_, rfl⟩
      have n3 : P3.1.objs = [] := by rw [← hP3]; exact N3.out.2
      rw [hP3] at al' A3
      have H10 : Hid (HpI W1 w10 A c P3.1 P3.2 ∧ Ow w10 wr.heap.size v10 P1.1.objs ∧ Ow w10 w3.heap.size (.slice ab nb cb) P1.1.objs) := ⟨al'.1, al'.2, ow_heap H9.out.2 al.t HA3.out⟩
      have HN3 := Lib.hid n3
      obtain ⟨ad, nd, cd, rfl⟩ := al'.2.ints.shape'
      clear al al' hP3 n3
      go_wp2_with (go_at_call 52; fail)
      refine (ref01_Same _ _ P1.1.objs w10 H10.out.2.1.ints H10.out.2.2.ints (Nat.le_trans HOL.out (by decide))).mono ?_
      rintro e w11 ⟨rfl, t11⟩
      have H11 : Hid (HpI W1 w11 A c P3.1 P3.2) := H10.out.1.old t11
      clear t11
      go_wp2_with (go_at_call 48; fail)
      refine (hp_Objects H11.out (HTW.out.touch H11.out.at'.base (fun x => x))).mono ?_
      rintro e w12 ⟨v12, rfl, t12, hp12, ow12⟩
      rw [HN3.out] at ow12
      obtain ⟨ae, ce, hv12⟩ := ow12.ints.shape
      rw [List.length_nil] at hv12
      subst hv12
      have H12 := Lib.hid hp12
      clear t12 hp12 ow12
      go_wp2_with (go_at_call 33; fail)
      refine (law11_Parted H12.out HTW.out A3.out.len).mono ?_
      rintro e w13 ⟨rfl, t13, hp13⟩
      have H13 := Lib.hid ((H2.out.1.trans hp13.at'.base).below)
      clear t13 hp13
      go_wp2
      go_ret
      exact ⟨rfl, H13.out⟩
end Go.Proofs.YtflhjbmoncbomaaGreatDoor
