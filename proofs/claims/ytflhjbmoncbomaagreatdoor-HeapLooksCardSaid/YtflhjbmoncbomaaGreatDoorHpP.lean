/- The law's Parted, walked. Conditions: the tables of limits, of sizes and of de Bruijn's bits read as laid. -/
import Derived.Test.YtflhjbmoncbomaaGreatDoorHpG
namespace Go.Proofs.YtflhjbmoncbomaaGreatDoor
open Go.RowKit

variable {W w w' : World} {A : HA} {c : Cf} {S : HS} {H : Nat → List Nat}
/-- While the lists are gathered. -/
structure PtI (W w : World) (A : HA) (c : Cf) (S : HS) (H : Nat → List Nat) (B p' g' cap' : Nat) (wr : World) (va vs : Value) (xs ys : List Int) : Prop where
  hp : HpI W wr A c S H
  t : Touch (HT A) w wr
  lo : ∀ b ∈ A.all, b < w.heap.size
  wB : w.heap.size ≤ B
  pl : w.heap.size ≤ p' ∧ p' < B ∧ w.heap.size ≤ g' ∧ g' < B
  bs : B ≤ wr.heap.size
  blk : BlkAt wr p' g' cap' A.L.n c S.s.ks
  oa : Ow wr B va xs
  os : Ow wr B vs ys
  ap : ∀ k, va.ownBlock = some k → vs.ownBlock ≠ some k
variable {B p' g' cap' : Nat} {wr : World} {va vs : Value} {xs ys zs : List Int}
theorem PtI.heap (h : PtI W w A c S H B p' g' cap' wr va vs xs ys) (ht : Touch (HT A) wr w') (hi : HpI W w' A c S H) : PtI W w A c S H B p' g' cap' w' va vs xs ys := by
  have no : ∀ k, w.heap.size ≤ k → ¬ HT A k := fun k hk hm => by have := h.lo k hm; omega
  refine ⟨hi, h.t.trans ht, h.lo, h.wB, h.pl, Nat.le_trans h.bs ht.size, h.blk.touch ht (no _ h.pl.1) (no _ h.pl.2.2.1), h.oa.touch ht (fun g hg => no _ ?_), h.os.touch ht (fun g hg => no _ ?_), h.ap⟩
  · have := h.oa.new g hg; have := h.wB; omega
  · have := h.os.new g hg; have := h.wB; omega
theorem PtI.old (h : PtI W w A c S H B p' g' cap' wr va vs xs ys) (ht : Touch nob wr w') : PtI W w A c S H B p' g' cap' w' va vs xs ys := h.heap ht.hnob (h.hp.old ht)
theorem PtI.grow (h : PtI W w A c S H B p' g' cap' wr va vs xs ys) {T : Nat → Prop} (ht : Touch T wr w') (hT : ∀ k, T k → B ≤ k) : HpI W w' A c S H ∧ Touch (HT A) w w' ∧ B ≤ w'.heap.size ∧ BlkAt w' p' g' cap' A.L.n c S.s.ks := by
  have hb := h.hp.at'.base
  have := h.wB
  refine ⟨h.hp.touch (hb.step ht (fun i hi => .inr ?_)) ht (fun b hb' x => ?_), h.t.step ht (fun i hi => .inr ?_), Nat.le_trans h.bs ht.size, h.blk.touch ht (fun x => ?_) (fun x => ?_)⟩
  · have h1 := hT i hi
    have h2 := h.hp.at'.hi A.h (all_at (A := A) 0)
    have h3 := h.lo A.h (all_at (A := A) 0)
    omega
  · have h1 := hT b x
    have h3 := h.lo b hb'
    omega
  · have h1 := hT i hi
    omega
  · have := hT _ x; have := h.pl; omega
  · have := hT _ x; have := h.pl; omega
theorem PtI.app_a {v3 : Value} {w3 : World} (h : PtI W w A c S H B p' g' cap' wr va vs xs ys) (ho : Ow w3 B v3 (xs ++ zs)) (hg : wr.grownBy w3 va.ownBlock) (hat : v3.ownBlock = va.ownBlock ∨ v3.ownBlock = some wr.heap.size) : PtI W w A c S H B p' g' cap' w3 v3 vs (xs ++ zs) ys := by
  have hT : Touch (fun j => va.ownBlock = some j) wr w3 := Touch.grown (Touch.refl _ _) hg (fun j hj => .inl hj)
  obtain ⟨h1, h2, h3, h4⟩ := h.grow hT (fun k hk => h.oa.new k hk)
  refine ⟨h1, h2, h.lo, h.wB, h.pl, h3, h4, ho, h.os.touch hT (fun g hg e => h.ap g e hg), fun k hk => ?_⟩
  rcases hat with e | e
  · rw [e] at hk; exact h.ap k hk
  · rw [e] at hk
    cases hk
    intro e2
    have := h.os.old _ e2
    omega
theorem PtI.app_s {v3 : Value} {w3 : World} (h : PtI W w A c S H B p' g' cap' wr va vs xs ys) (ho : Ow w3 B v3 (ys ++ zs)) (hg : wr.grownBy w3 vs.ownBlock) (hat : v3.ownBlock = vs.ownBlock ∨ v3.ownBlock = some wr.heap.size) : PtI W w A c S H B p' g' cap' w3 va v3 xs (ys ++ zs) := by
  have hT : Touch (fun j => vs.ownBlock = some j) wr w3 := Touch.grown (Touch.refl _ _) hg (fun j hj => .inl hj)
  obtain ⟨h1, h2, h3, h4⟩ := h.grow hT (fun k hk => h.os.new k hk)
  refine ⟨h1, h2, h.lo, h.wB, h.pl, h3, h4, h.oa.touch hT (fun g hg e => h.ap g hg e), ho, fun k hk e2 => ?_⟩
  rcases hat with e | e
  · rw [e] at e2; exact h.ap k hk e2
  · rw [e] at e2
    cases e2
    have := h.oa.old _ hk
    omega
theorem PtI.mark {q : Nat} (h : PtI W w A c S H B p' g' cap' wr va vs xs ys) (hq : B ≤ q) (ha : ∀ k, va.ownBlock = some k → k ≠ q) (hs : ∀ k, vs.ownBlock = some k → k ≠ q) (i : Nat) (u : Value) : PtI W w A c S H B p' g' cap' (wr.setCell ⟨q, i, none⟩ u) va vs xs ys := by
  have hT : Touch (fun k => k = q) wr (wr.setCell ⟨q, i, none⟩ u) := Touch.setCell (S := fun k => k = q) (Touch.refl _ _) (.inl rfl) _
  obtain ⟨h1, h2, h3, h4⟩ := h.grow hT (fun k hk => by omega)
  exact ⟨h1, h2, h.lo, h.wB, h.pl, h3, h4, h.oa.touch hT (fun g hg e => ha g hg e), h.os.touch hT (fun g hg e => hs g hg e), h.ap⟩
theorem bools_set (M : Nat → Bool) (n y : Nat) (b : Bool) (_ : y < n) : (bools M n).set y (.bool b) = bools (fun x => if x = y then b else M x) n := by
  apply List.ext_getElem
  · simp
  · intro i h1 h2
    simp only [List.length_map, List.length_range] at h2
    rw [List.getElem_set]
    simp only [List.getElem_map, List.getElem_range]
    by_cases e : y = i
    · rw [if_pos e, if_pos e.symm]
    · rw [if_neg e, if_neg (fun x => e x.symm)]
theorem own_at {v : Value} {B : Nat} {Z : List Int} {az : Option Addr} {m cs : Nat} (h : Ow w B v Z) (hv : v = .slice az m cs) (hm : Z.length = m) {j : Nat} (hj : j < m) : ∃ g, az = some ⟨g, 0, none⟩ ∧ m ≤ cs ∧ w.cell? ⟨g, j, none⟩ = some (.int .i64 (Z.getD j 0)) := by
  subst hv
  rcases h.shape with ⟨_, e⟩ | ⟨g, cap, e⟩
  · rw [e] at hm; simp at hm; omega
  · injection e with e1 e2 e3
    subst e1 e3
    obtain ⟨b, o, cap', hv', hc', hcell⟩ := h.ints.at (k := j) (by omega)
    injection hv' with f1 f2 f3
    cases f1
    rw [Nat.zero_add] at hcell
    exact ⟨g, rfl, by omega, hcell⟩
theorem blk_SlotsS {p q cap n : Nat} {ks : List Int} (m : Nat) (h : BlkAt w p q cap n c ks) (hL : Laid w) (hm : m < n) :
    Calls Tryz.prog 79 #[.pointer (some ⟨p, 0, none⟩), .int .i64 m] w fun e w' => ∃ v, e = .returned v ∧ Touch nob w w' ∧ Sx w' v (slAt c ks m) := by
  by_cases hk : m < ks.length
  · refine (blk_Slots m h hL.lim hL.siz).mono ?_
    rintro e w1 ⟨v, rfl, hT, hI, _⟩
    refine ⟨v, rfl, hT, sx_of_ints hI (fun e => ?_)⟩
    unfold slAt at e
    rw [if_pos hk] at e
    have hc := h.ok
    have u := c1_bd hc
    have h1 : (sl c (ks.getD m 0) m).length = 0 := by rw [e]; rfl
    rw [sl_len hc (h.cls m hk) (by omega) (by have := h.hn; omega)] at h1
    obtain ⟨p0, _⟩ := per_facts c.c1 _ (h.cls m hk) u.1 u.2
    omega
  · refine (blk_Slots_no m h (.inr (by omega))).mono ?_
    rintro e w1 ⟨rfl, rfl⟩
    refine ⟨_, rfl, Touch.refl _ _, .inl ⟨rfl, ?_⟩⟩
    unfold slAt
    rw [if_neg hk]
theorem run_cfg_words (c0 c1 c2 c3 c4 c5 c6 : Int) (w : World) : (Instr.field 23 (.agg #[.int .i64 c0, .int .i64 c1, .int .i64 c2, .int .i64 c3, .int .i64 c4, .int .i64 c5, .int .i64 c6]) 1).run Tryz.prog w = .ok (.int .i64 c1) w := by kernel_rfl
set_option maxRecDepth 10000 in
set_option maxHeartbeats 4000000 in
theorem law11_Parted (h : HpI W w A c S H) (hT : Tab W) (hz : S.s.ws.length ≤ 4096) :
    Calls Tryz.prog 33 #[.pointer (some ⟨A.h, 0, none⟩)] w fun e w' => e = .returned (.bool true) ∧ Touch (HT A) w w' ∧ HpI W w' A c S H := by
  have hn4 : A.L.n ≤ 4096 := by
    obtain ⟨ct, hb⟩ := h.at'.ls.tb
    exact hb.n4.2
  have hnc := h.tb.hn
  obtain ⟨nb, hnb⟩ : ∃ nb, A.L.n = nb := ⟨_, rfl⟩
  have hsl := h.seen_len
  have hse : (seenL S c H A.L.n).length ≤ S.s.ws.length := by
    have h1 := sub_len (seenL S c H A.L.n) ((List.range S.s.ws.length).map fun (x : Nat) => (x : Int) + 1) h.seen_nodup (fun x hx => by
      have := h.seen_bd hx
      exact List.mem_map.2 ⟨(x - 1).toNat, List.mem_range.2 (by omega), by omega⟩)
    simpa using h1
  have HH := Lib.hid (And.intro h (And.intro hT (And.intro hz (And.intro hsl hse))))
  have HN := Lib.hid (And.intro hnb hnc)
  rw [hnb] at hn4 hnc
  clear h hT hz hsl hse hnb
  have hf0 : ∀ w, (Instr.field 23 c.V 0).run Tryz.prog w = .ok (.int .i64 nb) w := fun w => by rw [hnc]; exact run_cfg_blocks c.c0 c.c1 c.c2 c.c3 c.c4 c.c5 c.c6 w
  have hf1 : ∀ w, (Instr.field 23 c.V 1).run Tryz.prog w = .ok (.int .i64 c.c1) w := run_cfg_words c.c0 c.c1 c.c2 c.c3 c.c4 c.c5 c.c6
  go_enter Tryz.func33, Tryz.ntmps33
  go_wp2_with (go_at_call 47; fail)
  refine (hp_Table HH.out.1).mono ?_
  rintro e w1 ⟨p', g', cap', rfl, hT1, hp', hg', hb1⟩
  have H1 : Hid (PtI W w A c S H w1.heap.size p' g' cap' w1 (.slice none 0 0) (.slice none 0 0) [] []) :=
    ⟨HH.out.1.old hT1, hT1.hnob, HH.out.1.at'.lt, hT1.size, ⟨hp', blk_lt hb1.box, hg', hb1.row.lt⟩, Nat.le_refl _, hb1, World.ownsRow_nil _ _ _ _, World.ownsRow_nil _ _ _ _, fun k hk => by cases hk⟩
  obtain ⟨B, hB⟩ : ∃ B, B = w1.heap.size := ⟨_, rfl⟩
  rw [← hB] at H1
  clear hT1 hp' hg' hb1 hB
  obtain ⟨L, hL⟩ : ∃ L, allSl c S.s.ks nb = L := ⟨_, rfl⟩
  have HLen : Hid ((∀ m, m ≤ nb → (allSl c S.s.ks m).length ≤ L.length) ∧ (seenL S c H nb).length = L.length ∧ L.length ≤ 4096 ∧ allSl c S.s.ks nb = L) := by
    have h4 := HH.out.2.2.2.1
    have h5 := HH.out.2.2.2.2
    have h6 := HH.out.2.2.1
    rw [HN.out.1] at h4 h5
    rw [hL] at h4
    refine ⟨fun m hm => ?_, h4, by omega, hL⟩
    obtain ⟨d, rfl⟩ : ∃ d, nb = m + d := ⟨nb - m, by omega⟩
    rw [← hL]
    exact (allSl_prefix m d).length_le
  clear hL
  go_wp2_with fail
  go_loopw [6, 4] (fun i v wr => ∃ j : Nat, j ≤ nb ∧ i = .int .i64 j ∧ Hid (PtI W w A c S H B p' g' cap' wr v (.slice none 0 0) (allSl c S.s.ks j) [])) (fun i _ _ => nb - (intOf i).toNat)
  case atStart => exact ⟨0, Nat.zero_le _, rfl, H1⟩
  case round =>
    obtain ⟨j, hj, rfl, HR⟩ := hrel
    clear H1
    by_cases hlt : j < nb
    · have hb : (j : Int) < (nb : Int) := by omega
      go_wp2_with (go_at_call 46; fail)
      refine (hp_Config HR.out.hp).mono ?_
      rintro e w2 ⟨rfl, hT2⟩
      have H2 := Lib.hid (HR.out.old hT2)
      clear hT2 HR
      go_wp2_with (go_at_call 79; fail)
      refine (blk_SlotsS j H2.out.blk H2.out.hp.lay (by rw [HN.out.1]; exact hlt)).mono ?_
      rintro e w3 ⟨v2, rfl, hT3, hs3⟩
      have H3 := Lib.hid (And.intro (H2.out.old hT3) hs3)
      clear hT3 hs3 H2
      have hl1 := HLen.out.1 (j + 1) (by omega)
      have HL1 : Hid ((allSl c S.s.ks j).length + (slAt c S.s.ks j).length ≤ 1048576) := by
        show _ ≤ _
        have h1 : (allSl c S.s.ks (j + 1)).length = (allSl c S.s.ks j).length + (slAt c S.s.ks j).length := List.length_append
        have h2 := HLen.out.2.2.1
        omega
      clear hl1
      go_wp2_with (at_builtin; refine wpList_append_sx rfl _ _ rfl B _ _ _ _ rfl H3.out.1.oa rfl H3.out.2 HL1.out H3.out.1.bs ?_; intro v4 w4 hown hgrow hat; have H4 : Hid (PtI W w A c S H B p' g' cap' w4 v4 (.slice none 0 0) (allSl c S.s.ks (j + 1)) []) := H3.out.1.app_a hown hgrow hat; clear hown hgrow hat)
      go_roundw
      case rel => exact ⟨j + 1, by omega, by go_num, H4⟩
      case measure => simp [intOf]; omega
    · have hb : ¬ (j : Int) < (nb : Int) := by omega
      obtain rfl : nb = j := by omega
      go_wp2_with (go_at_call 46; fail)
      refine (hp_Config HR.out.hp).mono ?_
      rintro e w2 ⟨rfl, hT2⟩
      have H2 := Lib.hid (HR.out.old hT2)
      rw [HLen.out.2.2.2] at H2
      clear hT2 HR hj hlt
      go_wp2_with (go_at_call 48; fail)
      refine (hp_Objects H2.out.hp (HH.out.2.1.touch H2.out.hp.at'.base (fun x => x))).mono ?_
      rintro e w3 ⟨v2, rfl, hT3, h3, ho3⟩
      have H3 := Lib.hid (And.intro (H2.out.heap hT3 h3) ho3.sx)
      clear hT3 h3 ho3 H2
      have HL0 : Hid ((S.objs ++ S.hnds c nb).length + (frs H 4).length ≤ 4096 ∧ S.objs.length + (S.hnds c nb).length ≤ 4096) := by
        have h1 := HLen.out.2.1
        have h2 := HLen.out.2.2.1
        have h3 : (seenL S c H nb).length = (S.objs ++ S.hnds c nb).length + (frs H 4).length := List.length_append
        have h4 : (S.objs ++ S.hnds c nb).length = S.objs.length + (S.hnds c nb).length := List.length_append
        exact ⟨by omega, by omega⟩
      go_wp2_with (at_builtin; refine wpList_append_sx rfl _ _ rfl B _ _ _ _ rfl H3.out.1.os rfl H3.out.2 (by have := HL0.out.2; rw [List.length_nil]; omega) H3.out.1.bs ?_; intro v4 w4 hown hgrow hat; have H4 := Lib.hid (H3.out.1.app_s (zs := S.objs) hown hgrow hat); clear hown hgrow hat)
      rw [List.nil_append] at H4
      clear H3
      go_wp2_with (go_at_call 50; fail)
      refine (hp_Hands H4.out.hp).mono ?_
      rintro e w5 ⟨v5, rfl, hT5, ho5⟩
      rw [HN.out.1] at ho5
      have H5 := Lib.hid (And.intro (H4.out.old hT5) ho5.sx)
      clear hT5 ho5 H4
      go_wp2_with (at_builtin; refine wpList_append_sx rfl _ _ rfl B _ _ _ _ rfl H5.out.1.os rfl H5.out.2 (by have := HL0.out.2; omega) H5.out.1.bs ?_; intro v6 w6 hown hgrow hat; have H6 := Lib.hid (H5.out.1.app_s (zs := S.hnds c nb) hown hgrow hat); clear hown hgrow hat)
      clear H5
      go_wp2_with fail
      go_loopw [7, 5] (fun i v wr => ∃ k : Nat, k ≤ 4 ∧ i = .int .i64 k ∧ Hid (PtI W w A c S H B p' g' cap' wr u4 v L ((S.objs ++ S.hnds c nb) ++ frs H k))) (fun i _ _ => 4 - (intOf i).toNat)
      case atStart => exact ⟨0, Nat.zero_le _, rfl, by show PtI _ _ _ _ _ _ _ _ _ _ _ _ _ _ (_ ++ []); rw [List.append_nil]; exact H6.out⟩
      case round =>
        obtain ⟨k, hk, rfl, HR⟩ := hrel
        clear H6
        by_cases hk4 : k < 4
        · have hb : (k : Int) < 4 := by omega
          go_wp2_with (go_at_call 49; fail)
          refine (hp_Frees k HR.out.hp hk4).mono ?_
          rintro e w7 ⟨v7, rfl, hT7, h7, ho7⟩
          have H7 := Lib.hid (And.intro (HR.out.heap hT7 h7) ho7.sx)
          clear hT7 h7 ho7 HR
          have HL1 : Hid (((S.objs ++ S.hnds c nb) ++ frs H k).length + (adr (H k)).length ≤ 1048576) := by
            show _ ≤ _
            have h1 := HL0.out.1
            have h2 : ∀ m d, (frs H m).length ≤ (frs H (m + d)).length := fun m d => by
              induction d with
              | zero => exact Nat.le_refl _
              | succ d ih =>
                have : (frs H (m + (d + 1))).length = (frs H (m + d)).length + (adr (H (m + d))).length := List.length_append
                omega
            have h3 := h2 (k + 1) (3 - k)
            rw [show k + 1 + (3 - k) = 4 by omega] at h3
            have h4 : (frs H (k + 1)).length = (frs H k).length + (adr (H k)).length := List.length_append
            rw [List.length_append]
            omega
          go_wp2_with (at_builtin; refine wpList_append_sx rfl _ _ rfl B _ _ _ _ rfl H7.out.1.os rfl H7.out.2 HL1.out H7.out.1.bs ?_; intro v8 w8 hown hgrow hat; have H8 := Lib.hid (H7.out.1.app_s (zs := adr (H k)) hown hgrow hat); clear hown hgrow hat)
          go_roundw
          case rel => exact ⟨k + 1, by omega, by go_num, by show PtI _ _ _ _ _ _ _ _ _ _ _ _ _ _ (_ ++ (frs H k ++ adr (H k))); rw [← List.append_assoc]; exact H8.out⟩
          case measure => simp [intOf]; omega
        · have hb : ¬ (k : Int) < 4 := by omega
          obtain rfl : k = 4 := by omega
          have HS : Hid (PtI W w A c S H B p' g' cap' wr u4 u5 L (seenL S c H nb)) := HR.out
          clear HR hk hk4
          obtain ⟨Z, hZ⟩ : ∃ Z, seenL S c H nb = Z := ⟨_, rfl⟩
          rw [hZ] at HS
          obtain ⟨m, hm⟩ : ∃ m, L.length = m := ⟨_, rfl⟩
          have hZm : Z.length = m := by rw [← hZ, ← hm]; exact HLen.out.2.1
          obtain ⟨z, hz⟩ : ∃ z, S.s.ws.length = z := ⟨_, rfl⟩
          have hz1 : z ≤ 4096 := by rw [← hz]; exact HH.out.2.2.1
          have hm1 : m ≤ 4096 := by rw [← hm]; exact HLen.out.2.2.1
          have hcz : c.c0 * c.c1 = (z : Int) := by rw [← hz]; exact HH.out.1.inv.len.symm
          have HZ := Lib.hid (And.intro hZ (And.intro hZm (And.intro hm hz)))
          have ho1 := HS.out.oa
          have ho2 := HS.out.os
          obtain ⟨aa, ca, ea⟩ := own_shape ho1
          obtain ⟨az, cs, es⟩ := own_shape ho2
          rw [hm] at ea
          rw [hZm] at es
          subst ea es
          clear ho1 ho2 hZ hZm hm hz
          go_wp2_with (go_at_call 46; fail)
          refine (hp_Config HS.out.hp).mono ?_
          rintro e w7 ⟨rfl, hT7⟩
          have H7 := Lib.hid (HS.out.old hT7)
          clear hT7 HS
          go_wp2_with (go_at_call 46; fail)
          refine (hp_Config H7.out.hp).mono ?_
          rintro e w8 ⟨rfl, hT8⟩
          have H8 := Lib.hid (H7.out.old hT8)
          clear hT8 H7
          obtain ⟨i1, hi1, hy0, hys, hyb⟩ := info_parts info_bool
          go_wp2_with (at_make; refine wpList_make_full _ rfl _ _ 121 rfl w8.heap.size 4 i1 (.bool false) 1 Tryz.underlying121 hi1 hy0 hys .i64 .i64 _ _ (z + 1) rfl rfl (by omega) (by omega) (by rw [hyb]; omega) (by unfold maxLen; omega) (Nat.le_refl _) ?_; intro w9 hown hgrow; have HX := Lib.hid (And.intro hown hgrow); clear hown hgrow)
          have H9 : Hid (PtI W w A c S H B p' g' cap' w9 (.slice aa m ca) (.slice az m cs) L Z ∧ RowAt w9 w8.heap.size 4 (z + 1) (bools (fun x => decide ((x : Int) ∈ Z.take 0)) (z + 1))) := by
            obtain ⟨hown, hgrow⟩ := HX.out
            rw [made_bools] at hown
            have hT9 : Touch nob w8 w9 := (Touch.refl nob w8).grown hgrow (fun _ h => by cases h)
            refine ⟨H8.out.old hT9, ?_⟩
            have h1 := (RowAt.of_owns hown).1
            simpa using h1
          obtain ⟨q, hq⟩ : ∃ q, q = w8.heap.size := ⟨_, rfl⟩
          have HQ : Hid (q ∉ A.all ∧ q ≠ p' ∧ q ≠ g' ∧ B ≤ q ∧ (∀ k, (Value.slice aa m ca).ownBlock = some k → k ≠ q) ∧ ∀ k, (Value.slice az m cs).ownBlock = some k → k ≠ q) := by
            have h1 := H8.out.bs
            have h2 := H8.out.pl
            have h3 := H8.out.wB
            refine ⟨fun hm => ?_, by omega, by omega, by omega, fun k hk => ?_, fun k hk => ?_⟩
            · have := H8.out.lo q hm; omega
            · have := H8.out.oa.old k hk; omega
            · have := H8.out.os.old k hk; omega
          rw [← hq] at H9 ⊢
          clear hq HX H8 hcz i1 hi1 hy0 hys hyb
          have hzw : wrap64 ((z : Int) + 1) = ((z + 1 : Nat) : Int) := by rw [wrap64_in (by omega) (by omega)]; omega
          have HZp : Hid (Z.Nodup ∧ (∀ x ∈ Z, 1 ≤ x ∧ x ≤ (z : Int)) ∧ ∀ x ∈ L, x ∈ Z) := by
            have h1 := HH.out.1.seen_nodup
            have h2 : ∀ x ∈ seenL S c H A.L.n, 1 ≤ x ∧ x ≤ (S.s.ws.length : Int) := fun x hx => HH.out.1.seen_bd hx
            have h3 : ∀ x ∈ allSl c S.s.ks A.L.n, x ∈ seenL S c H A.L.n := fun x hx => HH.out.1.seen_mem.2 (HH.out.1.tb.mem.1 hx)
            rw [HN.out.1] at h1 h2 h3
            rw [HZ.out.1] at h1 h2 h3
            rw [HLen.out.2.2.2] at h3
            rw [HZ.out.2.2.2] at h2
            exact ⟨h1, h2, h3⟩
          go_wp2_with fail
          go_loopw [9] (fun i wr => ∃ j : Nat, j ≤ m ∧ i = .int .i64 j ∧ Hid (PtI W w A c S H B p' g' cap' wr (.slice aa m ca) (.slice az m cs) L Z ∧ RowAt wr q 4 (z + 1) (bools (fun x => decide ((x : Int) ∈ Z.take j)) (z + 1)))) (fun i _ => m - (intOf i).toNat)
          case atStart => exact ⟨0, Nat.zero_le _, rfl, H9⟩
          case round =>
            obtain ⟨j, hj, rfl, HR⟩ := hrel
            clear H9
            by_cases hlt : j < m
            · have hb : (j : Int) < (m : Int) := by omega
              obtain ⟨g, hag, hcs, hcell⟩ := own_at HR.out.1.os rfl HZ.out.2.1 hlt
              subst hag
              have hjl : j < Z.length := by rw [HZ.out.2.1]; exact hlt
              have hmem : Z.getD j 0 ∈ Z := by
                rw [List.getD_eq_getElem?_getD, List.getElem?_eq_getElem hjl]
                exact List.getElem_mem hjl
              have hxb := HZp.out.2.1 _ hmem
              obtain ⟨y, hy⟩ : ∃ y : Nat, Z.getD j 0 = y := ⟨(Z.getD j 0).toNat, by omega⟩
              have hsn := take_snoc'' hjl
              rw [hy] at hcell hxb hsn
              have hnot : ¬ ((y : Int) ∈ Z.take j) := fun hm => by
                have hp := List.take_prefix (j + 1) Z
                rw [hsn] at hp
                have hnd := hp.sublist.nodup HZp.out.1
                exact (List.nodup_append.1 hnd).2.2 _ hm _ (List.mem_singleton.2 rfl) rfl
              have hyz : y < z + 1 := by omega
              have cM := bool_cell HR.out.2 hyz
              rw [decide_eq_false hnot] at cM
              have fM := HR.out.2.free y
              have H10 : Hid (PtI W w A c S H B p' g' cap' (wr.setCell ⟨q, y, none⟩ (.bool true)) (.slice aa m ca) (.slice (some ⟨g, 0, none⟩) m cs) L Z ∧ RowAt (wr.setCell ⟨q, y, none⟩ (.bool true)) q 4 (z + 1) (bools (fun x => decide ((x : Int) ∈ Z.take (j + 1))) (z + 1))) := by
                refine ⟨HR.out.1.mark HQ.out.2.2.2.1 HQ.out.2.2.2.2.1 HQ.out.2.2.2.2.2 y _, ?_⟩
                have h1 := HR.out.2.set y (.bool true)
                rw [bools_set _ _ _ _ hyz] at h1
                have hM : (fun x : Nat => if x = y then true else decide ((x : Int) ∈ Z.take j)) = fun x : Nat => decide ((x : Int) ∈ Z.take (j + 1)) := by
                  funext x
                  rw [hsn]
                  by_cases e : x = y
                  · subst e; simp
                  · rw [if_neg e]
                    have : ¬ (x : Int) = (y : Int) := by omega
                    simp [this]
                rw [hM] at h1
                exact h1
              obtain ⟨hy1, hy2⟩ := hxb
              have hb1 : ¬ (y : Int) < 1 := by omega
              have hb2 : ¬ (y : Int) ≥ ((z + 1 : Nat) : Int) := by omega
              have hb3 : (y : Int) < ((z + 1 : Nat) : Int) := by omega
              clear hjl hmem hy hsn hnot HR
              go_wp2
              go_roundw
              case rel => exact ⟨j + 1, by omega, by go_num, H10⟩
              case measure => simp [intOf]; omega
            · have hb : ¬ (j : Int) < (m : Int) := by omega
              obtain rfl : m = j := by omega
              have H11 : Hid (PtI W w A c S H B p' g' cap' wr (.slice aa m ca) (.slice az m cs) L Z ∧ RowAt wr q 4 (z + 1) (bools (fun x => decide ((x : Int) ∈ Z)) (z + 1))) := by
                have := HR.out
                rw [List.take_of_length_le (by rw [HZ.out.2.1]; exact Nat.le_refl _)] at this
                exact this
              clear HR hj hlt
              go_wp2_with fail
              go_loopw [10] (fun i wr => ∃ j : Nat, j ≤ m ∧ i = .int .i64 j ∧ Hid (PtI W w A c S H B p' g' cap' wr (.slice aa m ca) (.slice az m cs) L Z ∧ RowAt wr q 4 (z + 1) (bools (fun x => decide ((x : Int) ∈ Z)) (z + 1)))) (fun i _ => m - (intOf i).toNat)
              case atStart => exact ⟨0, Nat.zero_le _, rfl, H11⟩
              case round =>
                obtain ⟨j, hj, rfl, HR⟩ := hrel
                clear H11
                by_cases hlt : j < m
                · have hb : (j : Int) < (m : Int) := by omega
                  obtain ⟨g, hag, hcs, hcell⟩ := own_at HR.out.1.oa rfl HZ.out.2.2.1 hlt
                  subst hag
                  have hjl : j < L.length := by rw [HZ.out.2.2.1]; exact hlt
                  have hmem : L.getD j 0 ∈ Z := HZp.out.2.2 _ (by
                    rw [List.getD_eq_getElem?_getD, List.getElem?_eq_getElem hjl]
                    exact List.getElem_mem hjl)
                  have hxb := HZp.out.2.1 _ hmem
                  obtain ⟨y, hy⟩ : ∃ y : Nat, L.getD j 0 = y := ⟨(L.getD j 0).toNat, by omega⟩
                  rw [hy] at hcell hxb hmem
                  have hyz : y < z + 1 := by omega
                  have cM := bool_cell HR.out.2 hyz
                  rw [decide_eq_true hmem] at cM
                  have hb3 : (y : Int) < ((z + 1 : Nat) : Int) := by omega
                  clear hjl hmem hxb hy
                  go_wp2
                  go_roundw
                  case rel => exact ⟨j + 1, by omega, by go_num, HR⟩
                  case measure => simp [intOf]; omega
                · have hb : ¬ (j : Int) < (m : Int) := by omega
                  have HE := Lib.hid (And.intro HR.out.1.t HR.out.1.hp)
                  clear HR hj hlt
                  go_wp2
                  go_ret
                  exact ⟨rfl, HE.out⟩
end Go.Proofs.YtflhjbmoncbomaaGreatDoor
