/- Free lists: what the law makes, and the law's example, walked. Conditions: the tables of limits and of sizes read as laid. Free lists and what is in them: what each call tells; the law's example, walked. Conditions: the tables of limits and of sizes read as laid. -/
import Derived.Test.YtjbmpdibjfcafaaDoorLList
import Derived.Test.YtjbmpdibjfcafaaDoorAwake7
import Derived.Test.YtjbmpdibjfcafaaDoorSame
namespace Go.Proofs.YtjbmpdibjfcafaaDoor
open Go.RowKit

variable {w wr : World} {A : LA} {c : Cf} {n : Nat}
/-- A slice of bytes: what it holds. -/
def U8In (w : World) (v : Value) (us : List Int) : Prop :=
  ∃ ao cap, v = .slice ao us.length cap ∧ (us = [] ∨ ∃ b o, ao = some ⟨b, o, none⟩ ∧ us.length ≤ cap ∧ ∀ j, j < us.length → w.cell? ⟨b, o + j, none⟩ = some (.int .u8 (us.getD j 0)))
theorem U8In.old {w w' : World} {v : Value} {us : List Int} (h : U8In w v us) (ht : Touch nob w w') : U8In w' v us := by
  obtain ⟨ao, cap, rfl, h⟩ := h
  refine ⟨ao, cap, rfl, ?_⟩
  rcases h with h | ⟨b, o, rfl, hc, h⟩
  · exact .inl h
  · exact .inr ⟨b, o, rfl, hc, fun j hj => (ht.cell (cell_lt (h j hj)) (fun x => x)).trans (h j hj)⟩
theorem U8In.at {w : World} {v : Value} {us : List Int} (h : U8In w v us) {k : Nat} (hk : k < us.length) : ∃ b o cap, v = .slice (some ⟨b, o, none⟩) us.length cap ∧ us.length ≤ cap ∧ w.cell? ⟨b, o + k, none⟩ = some (.int .u8 (us.getD k 0)) := by
  obtain ⟨ao, cap, rfl, h | ⟨b, o, rfl, hc, h⟩⟩ := h
  · subst h; simp at hk
  · exact ⟨b, o, cap, rfl, hc, h k hk⟩
theorem U8In.shape {w : World} {v : Value} {us : List Int} (h : U8In w v us) : ∃ ao cap, v = .slice ao us.length cap := by
  obtain ⟨ao, cap, rfl, _⟩ := h
  exact ⟨ao, cap, rfl⟩
/-- The classes that are assigned. -/
def asg (us : List Int) (n m : Nat) : List Int := ((us.take m).map (fun x => x % 4)).take n
theorem asg_succ {us : List Int} {n m : Nat} (hm : m < us.length) : asg us n (m + 1) = if (asg us n m).length < n then asg us n m ++ [us.getD m 0 % 4] else asg us n m := by
  unfold asg
  rw [take_snoc'' hm, List.map_append, List.map_cons, List.map_nil]
  have hl : ((us.take m).map (fun x => x % 4)).length = m := by rw [List.length_map, List.length_take]; omega
  by_cases h : m < n
  · have e1 : ((us.take m).map (fun x => x % 4)).take n = (us.take m).map (fun x => x % 4) := List.take_of_length_le (by omega)
    rw [e1, hl, if_pos h, List.take_of_length_le (by rw [List.length_append, hl]; simp; omega)]
  · rw [if_neg (by rw [List.length_take, hl]; omega), List.take_append_of_le_length (by omega)]
theorem asg_le (us : List Int) (n m : Nat) : (asg us n m).length ≤ n := by unfold asg; rw [List.length_take]; exact Nat.min_le_left _ _
/-- While it is made. -/
structure MadeAt (w wr : World) (pa qa ca z pt qt n : Nat) (c : Cf) (ks : List Int) : Prop where
  touch : Touch nob w wr
  ar : ArenaAt wr pa qa ca (List.replicate z 0) 0 0
  tb : BlkAt wr pt qt n n c ks
  ge : ∀ x ∈ [pa, qa, pt, qt], w.heap.size ≤ x
  nd : [pa, qa, pt, qt].Nodup
theorem MadeAt.ge4 {pa qa ca z pt qt : Nat} {ks : List Int} (h : MadeAt w wr pa qa ca z pt qt n c ks) : w.heap.size ≤ pa ∧ w.heap.size ≤ qa ∧ w.heap.size ≤ pt ∧ w.heap.size ≤ qt ∧ pa ≠ qt ∧ qa ≠ qt := by
  have h1 := h.nd
  simp only [List.nodup_cons, List.mem_cons, List.not_mem_nil, not_or, or_false, not_false_eq_true, List.nodup_nil, and_true] at h1
  exact ⟨h.ge _ (by simp), h.ge _ (by simp), h.ge _ (by simp), h.ge _ (by simp), h1.1.2.2, h1.2.1.2⟩
theorem made_Assign {pa qa ca z pt qt : Nat} {ks : List Int} (k : Int) (hk : isCls k = true) (h : MadeAt w wr pa qa ca z pt qt n c ks) :
    Calls Tryd.prog 33 #[.pointer (some ⟨pt, 0, none⟩), .int .i64 k] wr fun e w' => (∃ x y, e = .returned (.tuple #[.int .i64 x, .int .i64 y])) ∧ MadeAt w w' pa qa ca z pt qt n c (if ks.length < n then ks ++ [k] else ks) := by
  obtain ⟨g1, g2, g3, g4, g5, g6⟩ := h.ge4
  by_cases hf : ks.length < n
  · rw [if_pos hf]
    exact (blk_Assign_ok k h.tb hk hf).mono fun _ _ ⟨e1, e2, e3⟩ => ⟨⟨_, _, e1⟩, h.touch.step e2 (fun i hi => .inr (by rw [hi]; exact g4)), h.ar.touch e2 g5 g6, e3, h.ge, h.nd⟩
  · rw [if_neg hf]
    exact (blk_Assign_full k h.tb hk (by have := h.tb.le; omega)).mono fun _ _ ⟨e1, e2⟩ => ⟨⟨_, _, e1⟩, h.touch.trans e2, h.ar.touch e2 (fun x => x) (fun x => x), h.tb.old e2, h.ge, h.nd⟩
set_option maxHeartbeats 1600000 in
theorem law08_made (us : List Int) (v : Value) (hU : U8In w v us) (hw : ∀ j, j < us.length → 0 ≤ us.getD j 0 ∧ us.getD j 0 < 256) (hc : c.ok = true) (hn : (n : Int) = c.c0) (hL : Laid w) :
    Calls Tryd.prog 50 #[c.V, v] w fun e w' => ∃ (A : LA) (z : Nat), e = .returned (.tuple #[.pointer (some ⟨A.pa, 0, none⟩), .pointer (some ⟨A.pt, 0, none⟩), .pointer (some ⟨A.p, 0, none⟩)]) ∧ (z : Int) = c.c0 * c.c1 ∧ A.n = n ∧ LsAt w w' A c ⟨List.replicate z 0, asg us n (min us.length 10), fun _ => false, fun _ => 0, fun _ => 0⟩ := by
  obtain ⟨⟨u0, v0⟩, ⟨u1, v1⟩, -⟩ := cfgOk_iff.1 hc
  have ⟨m0, m1⟩ := mul_bd (a := c.c0) (b := c.c1) (A := 4096) (B := 256) (by omega) (by omega) (by omega) (by omega)
  have m2 : 0 < c.c0 * c.c1 := Int.mul_pos (by omega) (by omega)
  obtain ⟨z, hz⟩ := Int.eq_ofNat_of_zero_le m0
  have hz1 : 1 ≤ z ∧ z ≤ 1048576 := by omega
  obtain ⟨m, hm⟩ : ∃ m, us.length = m := ⟨_, rfl⟩
  obtain ⟨ao, cap, rfl⟩ := hU.shape
  rw [hm] at hU ⊢
  have H := Lib.hid (And.intro hU (And.intro hw (And.intro hc (And.intro hn (And.intro hL (And.intro hz (And.intro hz1 hm)))))))
  clear hU hw hc hn hL hz hz1 u0 v0 u1 v1 m2 hm
  go_enter Tryd.func50, Tryd.ntmps50
  go_wp2_with fail
  obtain ⟨W, hW⟩ : ∃ W, W = w.alloc (Obj.cells (CfgRow c.c0 c.c1 c.c2 c.c3 c.c4 c.c5 c.c6) 49) := ⟨_, rfl⟩
  have hT : Touch nob w W := by rw [hW]; repeat (first | with_reducible exact Touch.refl _ _ | with_reducible assumption | with_reducible apply Touch.alloc | with_reducible apply Touch.drewN | with_reducible apply Touch.drew | with_reducible refine Touch.setCell ?_ (.inr (by first | omega | (simp; done) | (simp; omega))) _)
  have hbx : W.heap[w.heap.size]? = some (Obj.cells (CfgRow c.c0 c.c1 c.c2 c.c3 c.c4 c.c5 c.c6) 49) := by rw [hW]; exact World.alloc_heap_new w _
  obtain ⟨b0, hb0⟩ : ∃ b, b = w.heap.size := ⟨_, rfl⟩
  rw [← hW, ← hb0, H.out.2.2.2.2.2.1]
  rw [← hb0] at hbx
  have HC := Lib.hid (And.intro hT (fun w' ht => cfg_box hbx (w' := w') ht))
  clear hT hbx hb0 hW
  refine (arena_New_ok z H.out.2.2.2.2.2.2.1 W).mono ?_
  rintro e w1 ⟨pa, qa, rfl, hT1, hpa, hqa, hA⟩
  obtain ⟨k0, k1, k2, k3, k4, k5, k6⟩ := HC.out.2 _ hT1
  have H1 := Lib.hid (And.intro (HC.out.1.trans hT1) (And.intro (Nat.le_trans HC.out.1.size hpa) (And.intro (Nat.le_trans HC.out.1.size hqa) hA)))
  clear hT1 hpa hqa hA
  go_wp2_with (go_at_call 32; fail)
  refine (block_New_ok c w1 (H.out.2.2.2.2.1.old H1.out.1).lim H.out.2.2.1 n H.out.2.2.2.1).mono ?_
  rintro e w2 ⟨pt, qt, rfl, hT2, hpt, hqt, hB⟩
  have HM : Hid (MadeAt w w2 pa qa z z pt qt n c []) := by
    have g1 := H1.out.1.size
    have g2 := blk_lt H1.out.2.2.2.box
    have g3 := H1.out.2.2.2.row.lt
    have g4 := H1.out.2.2.2.ne
    have g5 := H1.out.2.1
    have g6 := H1.out.2.2.1
    have g7 := hB.ne
    refine ⟨H1.out.1.trans hT2, H1.out.2.2.2.touch hT2 (fun x => x) (fun x => x), hB, ?_, ?_⟩
    · intro x hx
      simp only [List.mem_cons, List.not_mem_nil, or_false] at hx
      omega
    · simp only [List.nodup_cons, List.mem_cons, List.not_mem_nil, not_or, or_false, not_false_eq_true, List.nodup_nil, and_true]
      omega
  clear hT2 hpt hqt hB k0 k1 k2 k3 k4 k5 k6 H1
  go_wp2_with fail
  go_loopw [11] (fun i wr => ∃ j : Nat, j ≤ m ∧ j ≤ 10 ∧ i = .int .i64 j ∧ Hid (MadeAt w wr pa qa z z pt qt n c (asg us n j))) (fun i _ => 10 - (intOf i).toNat)
  case atStart => exact ⟨0, Nat.zero_le _, Nat.zero_le _, rfl, by show MadeAt _ _ _ _ _ _ _ _ _ _ _; simpa [asg] using HM.out⟩
  case round =>
    obtain ⟨j, hj, hj10, rfl, HR⟩ := hrel
    clear HM
    by_cases hc : j < m ∧ j < 10
    · obtain ⟨c1, c2⟩ := hc
      have c3 : (j : Int) < (m : Int) := by omega
      have c4 : (j : Int) < 10 := by omega
      obtain ⟨b1, o1, cap1, hv, hcap, hcell⟩ := (H.out.1.old HR.out.touch).at (k := j) (by rw [H.out.2.2.2.2.2.2.2]; exact c1)
      rw [H.out.2.2.2.2.2.2.2] at hv hcap
      injection hv with hv1 hv2 hv3
      subst hv1 hv3
      clear hv2
      have hu := H.out.2.1 j (by rw [H.out.2.2.2.2.2.2.2]; exact c1)
      have HS := Lib.hid (asg_succ (us := us) (n := n) (m := j) (by rw [H.out.2.2.2.2.2.2.2]; exact c1))
      obtain ⟨x, hx⟩ : ∃ x, us.getD j 0 = x := ⟨_, rfl⟩
      rw [hx] at hcell hu HS
      obtain ⟨y, hy⟩ : ∃ y, x % 4 = y := ⟨_, rfl⟩
      have hy1 : x.tmod 4 = y := by rw [Int.tmod_eq_emod_of_nonneg hu.1]; exact hy
      rw [hy] at HS
      have hyb : 0 ≤ y ∧ y < 4 := by omega
      obtain ⟨hx0, hx1⟩ := hu
      obtain ⟨hy2, hy3⟩ := hyb
      clear hx hy
      go_wp2_with (go_at_call 33; fail)
      refine (made_Assign y (isCls_iff.2 ⟨hy2, by omega⟩) HR.out).mono ?_
      rintro e w3 ⟨⟨x', y', rfl⟩, h3⟩
      have H3 : Hid (MadeAt w w3 pa qa z z pt qt n c (asg us n (j + 1))) := by show MadeAt _ _ _ _ _ _ _ _ _ _ _; rw [HS.out]; exact h3
      clear h3 hcell
      go_wp2
      go_roundw
      case rel => exact ⟨j + 1, by omega, by omega, by go_num, H3⟩
      case measure => simp [intOf]; omega
    · have hjm : j = min m 10 := by omega
      have HF : Hid (MadeAt w wr pa qa z z pt qt n c (asg us n (min m 10))) := by show MadeAt _ _ _ _ _ _ _ _ _ _ _; rw [← hjm]; exact HR.out
      have hdd : ¬ ((j : Int) < (m : Int)) ∨ ((j : Int) < (m : Int) ∧ ¬ ((j : Int) < 10)) := by omega
      have HEND := Lib.hid (lists_New_ok HF.out.touch HF.out.ar HF.out.tb (by rw [List.length_replicate]; exact H.out.2.2.2.2.2.1.symm) HF.out.ge HF.out.nd (fun i hi => by
        have : (List.replicate z (0 : Int)).getD i 0 = 0 := by
          rw [List.getD_eq_getElem?_getD, List.getElem?_replicate]
          split <;> rfl
        rw [this]
        decide) H.out.2.2.2.2.1)
      clear hjm hc HR
      rcases hdd with hd | ⟨hd, hd'⟩
      all_goals
        go_wp2_with (go_at_call 61; fail)
        refine HEND.out.mono ?_
        rintro e w3 ⟨p, pi, qi, rfl, -, h3⟩
        have H3 := Lib.hid h3
        clear h3
        go_wp2
        refine bodyPost_ret (v := .tuple #[.pointer (some ⟨pa, 0, none⟩), .pointer (some ⟨pt, 0, none⟩), .pointer (some ⟨p, 0, none⟩)]) (by simp [results, Tryd.results50, go_sem]) rfl ⟨⟨p, pa, qa, pt, qt, pi, qi, n⟩, z, rfl, H.out.2.2.2.2.2.1.symm, rfl, H3.out⟩
end Go.Proofs.YtjbmpdibjfcafaaDoor
namespace Go.Proofs.YtjbmpdibjfcafaaDoor
open Go.RowKit

/-- Lists, and what is in them. -/
structure LL (W w : World) (A : LA) (c : Cf) (s : LS) (H : Nat → List Nat) : Prop where
  ls : LsAt W w A c s
  inv : LInv c s H
  laid : Laid W
variable {W w wr : World} {A : LA} {c : Cf} {s : LS} {H : Nat → List Nat}
theorem LL.old {w' : World} (h : LL W w A c s H) (ht : Touch nob w w') : LL W w' A c s H := ⟨h.ls.old ht, h.inv, h.laid⟩
theorem LL.base (h : LL W w A c s H) : Touch nob W w := h.ls.base
theorem LL.lay (h : LL W w A c s H) : Laid w := h.laid.old h.ls.base
theorem LL.ok (h : LL W w A c s H) : c.ok = true := by obtain ⟨_, h1⟩ := h.ls.tb; exact h1.ok
theorem LL.slot (h : LL W w A c s H) {a : Int} (ho : ownB c s.ks a = true) : ∃ j k : Nat, a = j + 1 ∧ j < s.ws.length ∧ k < 4 ∧ clsA c s.ks (j + 1) = k ∧ ownB c s.ks (j + 1) = true := by
  obtain ⟨h1, h2⟩ := own_bd ho
  have h3 := h.ls.len
  obtain ⟨j, hj⟩ : ∃ j : Nat, a = j + 1 := ⟨(a - 1).toNat, by omega⟩
  subst hj
  obtain ⟨k, hk, hc⟩ := clsA_nat h.ok ho
  exact ⟨j, k, rfl, by omega, hk, hc, ho⟩
theorem LL.m_le (h : LL W w A c s H) {k : Nat} (hk : k < 4) : s.m k = (H k).length ∧ (H k).length ≤ 1048576 :=
  ⟨h.inv.many k hk, Nat.le_trans (h.inv.len_le hk) h.inv.wle⟩
theorem ll_Put_no (a : Int) (h : LL W w A c s H) (ho : ownB c s.ks a = false) :
    Calls Tryd.prog 53 #[.pointer (some ⟨A.p, 0, none⟩), .int .i64 a] w fun e w' => e = .returned (.int .i64 1) ∧ Touch (LT A) w w' ∧ LL W w' A c s H :=
  (lists_Put_no a h.ls ho h.laid).mono fun _ _ g => ⟨g.1, g.2.mono fun _ _ x => x.elim, h.old g.2⟩
theorem ll_Put_in (j k : Nat) (h : LL W w A c s H) (hj : j < s.ws.length) (ho : ownB c s.ks (j + 1) = true) (hk : k < 4) (hc : clsA c s.ks (j + 1) = k) (hm : j ∈ H k) :
    Calls Tryd.prog 53 #[.pointer (some ⟨A.p, 0, none⟩), .int .i64 (j + 1)] w fun e w' => e = .returned (.int .i64 11) ∧ Touch (LT A) w w' ∧ LL W w' A c s H :=
  (lists_Put_in j k h.ls hj ho hc ((h.inv.of_own hk hj hc).2 hm) h.laid).mono fun _ _ g => ⟨g.1, g.2.mono fun _ _ x => x.elim, h.old g.2⟩
theorem ll_Put_ok (j k : Nat) (h : LL W w A c s H) (hj : j < s.ws.length) (ho : ownB c s.ks (j + 1) = true) (hk : k < 4) (hc : clsA c s.ks (j + 1) = k) (hm : j ∉ H k) :
    Calls Tryd.prog 53 #[.pointer (some ⟨A.p, 0, none⟩), .int .i64 (j + 1)] w fun e w' => e = .returned (.int .i64 0) ∧ Touch (LT A) w w' ∧ LL W w' A c (s.put j k) (updH H k (j :: H k)) := by
  have hM : s.M (j + 1) = false := by
    cases e : s.M (j + 1)
    · rfl
    · exact absurd ((h.inv.of_own hk hj hc).1 e) hm
  obtain ⟨m1, m2⟩ := h.m_le hk
  exact (lists_Put_ok j k h.ls hj ho hk hc hM (by omega) h.laid).mono fun _ _ g => ⟨g.1, g.2.1, g.2.2, h.inv.put hk hj ho hc hM, h.laid⟩
theorem ll_Take_ok (j k : Nat) (L : List Nat) (h : LL W w A c s H) (hk : k < 4) (hL : H k = j :: L) :
    Calls Tryd.prog 51 #[.pointer (some ⟨A.p, 0, none⟩), .int .i64 k] w fun e w' => e = .returned (.tuple #[.int .i64 (j + 1), .int .i64 0]) ∧ Touch (LT A) w w' ∧ LL W w' A c (s.tak j k) (updH H k L) := by
  have hT := h.inv.thr k hk
  rw [hL] at hT
  obtain ⟨m1, m2⟩ := h.m_le hk
  have hm : j ∈ H k := by rw [hL]; exact List.mem_cons_self ..
  have hl : (H k).length = L.length + 1 := by rw [hL]; rfl
  exact (lists_Take_ok j k h.ls hT.2.1 hT.1 hk ((h.inv.of_own hk hT.2.1 (h.inv.cls k hk j hm).2).2 hm) (by omega) h.laid).mono fun _ _ g => ⟨g.1, g.2.1, g.2.2, h.inv.tak hk hL, h.laid⟩
theorem ll_Take_none (k : Nat) (h : LL W w A c s H) (hk : k < 4) (hL : H k = []) :
    Calls Tryd.prog 51 #[.pointer (some ⟨A.p, 0, none⟩), .int .i64 k] w fun e w' => e = .returned (.tuple #[.int .i64 0, .int .i64 12]) ∧ w = w' := by
  have hT := h.inv.thr k hk
  rw [hL] at hT
  exact lists_Take_none k h.ls hk hT
theorem ll_list (most k : Nat) (h : LL W w A c s H) (hk : k < 4) :
    Calls Tryd.prog 55 #[.pointer (some ⟨A.p, 0, none⟩), .int .i64 k, .int .i64 most] w fun e w' => ∃ v, e = .returned v ∧ Touch (LT A) w w' ∧ LL W w' A c s H ∧ IntsIn w' v ((adr (H k)).take most) :=
  (law08_list most k (H k) h.ls hk (h.inv.thr k hk) (h.m_le hk).2 h.laid).mono fun _ _ ⟨v, g1, g2, g3, g4⟩ => ⟨v, g1, g2.mono fun _ _ e => .inr (.inl e), ⟨g3, h.inv, h.laid⟩, g4⟩
theorem ll_Load (j : Nat) (h : LL W w A c s H) (hj : j < s.ws.length) :
    Calls Tryd.prog 57 #[.pointer (some ⟨A.pa, 0, none⟩), .int .i64 (j + 1)] w fun e w' => e = .returned (.tuple #[.int .u64 (s.ws.getD j 0), .int .i64 0]) ∧ Touch (LT A) w w' ∧ LL W w' A c s H := by
  obtain ⟨ca, lo, st, ha⟩ := h.ls.ar
  exact (arena_Load_ok _ _ ca _ lo st j w ha hj).mono fun _ _ g => ⟨g.1, g.2.1.mono fun _ _ e => .inr (.inl e), h.ls.loaded g.2.1 g.2.2, h.inv, h.laid⟩
theorem ll_Next (j : Nat) (h : LL W w A c s H) (hj : j < s.ws.length) :
    Calls Tryd.prog 58 #[.int .u64 (s.ws.getD j 0)] w fun e w' => e = .returned (.tuple #[.int .i64 (nxtW (s.ws.getD j 0)), .bool (isLinkW (s.ws.getD j 0))]) ∧ w = w' :=
  header_NextV _ (h.ls.wok j hj).1 (h.ls.wok j hj).2 w h.lay.siz
theorem LL.has_nat (_ : LL W w A c s H) {j : Nat} (hj : j < s.ws.length) : hasB s.M (s.ws.length + 1) (j + 1) = s.M (j + 1) := by
  unfold hasB mayB
  rw [decide_eq_true (show (0 : Int) ≤ (j : Int) + 1 by omega), decide_eq_true (show (j : Int) + 1 < ((s.ws.length + 1 : Nat) : Int) by omega), show ((j : Int) + 1).toNat = j + 1 by omega]
  rfl
theorem LL.has_no (h : LL W w A c s H) {a : Int} (ho : ownB c s.ks a = false) : hasB s.M (s.ws.length + 1) a = false := by
  cases e : hasB s.M (s.ws.length + 1) a
  · rfl
  · unfold hasB at e
    rw [Bool.and_eq_true] at e
    obtain ⟨x, rfl, hx⟩ := may_nat e.1
    have e2 : s.M x = true := e.2
    cases x with
    | zero => rw [h.inv.zero] at e2; cases e2
    | succ j =>
      obtain ⟨k, hk, hm⟩ := (h.inv.mem j (by omega)).1 e2
      have := (h.inv.cls k hk j hm).1
      rw [show ((j + 1 : Nat) : Int) = (j : Int) + 1 by omega] at ho
      rw [ho] at this
      cases this
theorem Thr.nth {ws : List Int} : ∀ {a : Int} {L : List Nat} {i : Nat}, Thr ws a L → i < L.length → L.getD i 0 < ws.length ∧ isLinkW (ws.getD (L.getD i 0) 0) = true ∧ nxtW (ws.getD (L.getD i 0) 0) = if i + 1 < L.length then ((L.getD (i + 1) 0 : Nat) : Int) + 1 else 0
  | _, [], _, _, hi => by simp at hi
  | _, j :: L, 0, h, _ => by
    obtain ⟨h1, h2, h3, h4⟩ := h
    refine ⟨h2, h3, ?_⟩
    cases L with
    | nil => exact h4
    | cons x L => rw [if_pos (by simp)]; exact h4.1
  | _, j :: L, i + 1, h, hi => by
    have := Thr.nth (i := i) h.2.2.2 (by simpa using hi)
    simpa using this
def awakeC8 : Cf := ⟨1, 16, 1, 1, 0, 1, 1⟩
set_option maxHeartbeats 1600000 in
theorem law08_awake (w : World) (hL : Laid w) : Calls Tryd.prog 49 #[] w fun e w' => e = .returned (.bool true) ∧ Touch nob w w' := by
  have HL := Lib.hid hL
  clear hL
  go_enter Tryd.func49, Tryd.ntmps49
  go_wp2_with (go_at_call 50; fail)
  obtain ⟨W, hW⟩ : ∃ W, W = (w.alloc (Obj.cells (CfgRow 1 16 1 1 0 1 1) 49)).alloc (Obj.cells #[.int .u8 0] 5) := ⟨_, rfl⟩
  have hT : Touch nob w W := by rw [hW]; repeat (first | with_reducible exact Touch.refl _ _ | with_reducible assumption | with_reducible apply Touch.alloc | with_reducible apply Touch.drewN | with_reducible apply Touch.drew | with_reducible refine Touch.setCell ?_ (.inr (by first | omega | (simp; done) | (simp; omega))) _)
  have hb : W.heap[w.heap.size + 1]? = some (Obj.cells #[.int .u8 0] 5) := by rw [hW]; exact alloc2_1 w _ _
  have hU : U8In W (.slice (some ⟨w.heap.size + 1, 0, none⟩) 1 1) [0] := ⟨_, 1, rfl, .inr ⟨_, _, rfl, Nat.le_refl _, fun j hj => by
    obtain rfl : j = 0 := by simpa using hj
    exact one_cell hb⟩⟩
  rw [← hW]
  have HT := Lib.hid hT
  clear hb hT hW
  refine (law08_made (c := awakeC8) (n := 1) [0] _ hU (fun j hj => by
    obtain rfl : j = 0 := by simpa using hj
    decide) (by decide) rfl (HL.out.old HT.out)).mono ?_
  rintro e w1 ⟨A, z, rfl, hz, hn, h1⟩
  obtain rfl : z = 16 := by have : (z : Int) = 16 := hz; omega
  have H1 : Hid (LL W w1 A awakeC8 ⟨List.replicate 16 0, [0], fun _ => false, fun _ => 0, fun _ => 0⟩ (fun _ => [])) := ⟨h1, LInv.start _ _ (by simp), HL.out.old HT.out⟩
  clear hz hn h1 hU
  go_wp2_with (go_at_call 53; fail)
  refine (ll_Put_ok 0 0 H1.out (by simp) (by decide) (by decide) (by decide) (by simp)).mono ?_
  rintro e w2 ⟨rfl, -, h2⟩
  have H2 := Lib.hid h2
  clear h2
  go_wp2_with (go_at_call 53; fail)
  refine (ll_Put_ok 2 0 H2.out (by simp [LS.put]) (by decide) (by decide) (by decide) (by simp [updH])).mono ?_
  rintro e w3 ⟨rfl, -, h3⟩
  have H3 := Lib.hid h3
  clear h3
  go_wp2_with (go_at_call 57; fail)
  refine (ll_Load 0 H3.out (by simp [LS.put])).mono ?_
  rintro e w4 ⟨rfl, -, h4⟩
  have H4 := Lib.hid h4
  have hw : (LS.put (LS.put ⟨List.replicate 16 0, [0], fun _ => false, fun _ => 0, fun _ => 0⟩ 0 0) 2 0).ws.getD 0 0 = lnkW 0 := by simp [LS.put]
  have HN := Lib.hid (nxt_lnk (a := 0) (by decide) (by decide))
  have HX := Lib.hid (ll_Next 0 h4 (by simp [LS.put]))
  rw [hw] at HX ⊢
  rw [HN.out.1, HN.out.2] at HX
  clear h4 hw
  go_wp2_with (go_at_call 58; fail)
  refine HX.out.mono ?_
  rintro e w5 ⟨rfl, rfl⟩
  go_wp2_with (go_at_call 55; fail)
  refine (ll_list 9 0 H4.out (by decide)).mono ?_
  rintro e w5 ⟨v, rfl, -, h5, hI⟩
  have hI : IntsIn w5 v [3, 1] := hI
  obtain ⟨ao, cp, hv⟩ := hI.shape
  simp only [List.length_cons, List.length_nil] at hv
  subst hv
  have H5 := Lib.hid (And.intro h5.base hI)
  clear h5 hI
  go_wp2_with (go_at_call 28; fail)
  refine (ref01_Same _ _ [3, 1] _ (H5.out.2.touch (S := nob) (by repeat (first | with_reducible exact Touch.refl _ _ | with_reducible assumption | with_reducible apply Touch.alloc | with_reducible apply Touch.drewN | with_reducible apply Touch.drew | with_reducible refine Touch.setCell ?_ (.inr (by first | omega | (simp; done) | (simp; omega))) _)) (fun _ _ x => x)) ⟨_, 2, rfl, .inr ⟨_, _, rfl, Nat.le_refl _, fun j hj => ?_⟩⟩ (by decide)).mono ?_
  · rcases (show j = 0 ∨ j = 1 by simp at hj; omega) with rfl | rfl
    · exact (box2 (World.alloc_heap_new w5 (Obj.cells #[.int .i64 3, .int .i64 1] 3))).1
    · exact (box2 (World.alloc_heap_new w5 (Obj.cells #[.int .i64 3, .int .i64 1] 3))).2.1
  rintro e w6 ⟨rfl, hT6⟩
  have H6 : Hid (Touch nob w w6) := by
    have h1 : Touch nob w5 w6 := Touch.trans (by repeat (first | with_reducible exact Touch.refl _ _ | with_reducible assumption | with_reducible apply Touch.alloc | with_reducible apply Touch.drewN | with_reducible apply Touch.drew | with_reducible refine Touch.setCell ?_ (.inr (by first | omega | (simp; done) | (simp; omega))) _)) hT6
    exact HT.out.trans (H5.out.1.trans h1)
  clear hT6
  go_wp2
  go_ret
  exact ⟨rfl, H6.out⟩
end Go.Proofs.YtjbmpdibjfcafaaDoor
