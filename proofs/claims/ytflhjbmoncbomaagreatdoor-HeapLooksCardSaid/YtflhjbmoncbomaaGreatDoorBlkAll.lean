/- Tables of blocks: All, walked. Conditions: the tables of limits and of sizes read as laid. -/
import Derived.Test.YtflhjbmoncbomaaGreatDoorBlk4
import Derived.Test.YtflhjbmoncbomaaGreatDoorRf
import Derived.WalkMore
namespace Go.Proofs.YtflhjbmoncbomaaGreatDoor
open Go.RowKit Go.Shelf
attribute [local go_sem] Oper.semAt_some

variable {w : World} {p q cap n : Nat} {c : Cf} {ks : List Int}
/-- What is laid and never turned. -/
structure Laid (w : World) : Prop where
  lim : Limits w
  siz : Sizes w
theorem Laid.touch {S : Nat → Prop} {w w' : World} (h : Laid w) (ht : Touch S w w') (h1 : ¬ S 0) (h2 : ¬ S 1) : Laid w' := ⟨h.lim.touch ht h1, h.siz.touch ht h2⟩
theorem Laid.old {w w' : World} (h : Laid w) (ht : Touch nob w w') : Laid w' := h.touch ht (fun x => x) (fun x => x)
theorem Laid.lt {w : World} (h : Laid w) : 0 < w.heap.size ∧ 1 < w.heap.size := by
  refine ⟨h.lim.lt, ?_⟩
  obtain ⟨o, ho, _⟩ := cells_of_cell h.siz.1
  exact (Array.getElem?_eq_some_iff.1 ho).1
theorem run_cfg_blocks (c0 c1 c2 c3 c4 c5 c6 : Int) (w : World) : (Instr.field 23 (.agg #[.int .i64 c0, .int .i64 c1, .int .i64 c2, .int .i64 c3, .int .i64 c4, .int .i64 c5, .int .i64 c6]) 0).run Tryz.prog w = .ok (.int .i64 c0) w := by kernel_rfl
theorem blk_All (w : World) (pv : Option Addr) :
    Calls Tryz.prog 102 #[.pointer pv] w fun e w' => ∃ b, e = .returned (.func (.func 137) #[] #[.pointer (some ⟨b, 0, none⟩)]) ∧ Touch nob w w' ∧ w.heap.size ≤ b ∧ w'.heap[b]? = some (Obj.cells #[.pointer pv] 72) := by
  go_enter Tryz.func102, Tryz.ntmps102
  go_wp2
  go_ret
  exact ⟨w.heap.size, rfl, (Touch.refl nob w).alloc _, Nat.le_refl _, World.alloc_heap_new w _⟩
/-- What the iterator holds between rounds. -/
structure Held (W wr : World) (O : Nat → Prop) (p' g cap n : Nat) (c : Cf) (ks : List Int) : Prop where
  at' : BlkAt wr p' g cap n c ks
  laid : Laid wr
  np : ¬ O p'
  ng : ¬ O g
  nl : ¬ O 0
  ns : ¬ O 1
  bd : ∀ b, O b → b < wr.heap.size
  sz : W.heap.size ≤ wr.heap.size
theorem Held.old {W wr w' : World} {O : Nat → Prop} {p' g : Nat} (h : Held W wr O p' g cap n c ks) (ht : Touch nob wr w') : Held W w' O p' g cap n c ks :=
  ⟨h.at'.old ht, h.laid.old ht, h.np, h.ng, h.nl, h.ns, fun b hb => Nat.lt_of_lt_of_le (h.bd b hb) ht.size, Nat.le_trans h.sz ht.size⟩
theorem Held.round {W wr w' : World} {O O' : Nat → Prop} {p' g : Nat} (h : Held W wr O p' g cap n c ks) (ht : Touch O wr w') (hs : ∀ b, O' b → O b ∨ (wr.heap.size ≤ b ∧ b < w'.heap.size)) : Held W w' O' p' g cap n c ks := by
  have no : ∀ b, b < wr.heap.size → ¬ O b → ¬ O' b := fun b hb hn h => by
    rcases hs b h with h | h
    · exact hn h
    · omega
  have hl := h.laid.lt
  exact ⟨h.at'.touch ht h.np h.ng, h.laid.touch ht h.nl h.ns, no _ (blk_lt h.at'.box) h.np, no _ h.at'.row.lt h.ng, no _ hl.1 h.nl, no _ hl.2 h.ns, fun b hb => by
    rcases hs b hb with h1 | h1
    · exact Nat.lt_of_lt_of_le (h.bd b h1) ht.size
    · exact h1.2, Nat.le_trans h.sz ht.size⟩
theorem take_snoc'' {xs : List Int} {k : Nat} (h : k < xs.length) : xs.take (k + 1) = xs.take k ++ [xs.getD k 0] := by
  rw [List.take_add_one, List.getD_eq_getElem?_getD, List.getElem?_eq_getElem h]; rfl
set_option maxRecDepth 20000 in
set_option maxHeartbeats 1600000 in
theorem ball1_iter (b : Nat) (hS : BlkAt w p q cap n c ks) (hT : Laid w) (hb : w.heap[b]? = some (Obj.cells #[.pointer (some ⟨p, 0, none⟩)] 72)) :
    Iter Tryz.prog 137 #[.pointer (some ⟨b, 0, none⟩)] (fun a : Int => #[.int .i64 a]) AbD (fun _ _ => True) (allSl c ks n) (fun k => k = 0 ∨ k = 1) w := by
  intro l J Jx W O hTo hJ hJx hY h0 hPr hO
  have hWb := blk_touch hb hTo (fun x => x)
  have hWS := hS.old hTo
  have hWT := hT.old hTo
  clear hTo hS hT hb
  refine callsIn_of_wp Tryz.func137 rfl trivial ?_ rfl
  simp only [Tryz.ntmps137, List.size_toArray, List.length_cons, List.length_nil, Nat.reduceAdd, Nat.reduceSub, Array.replicate_succ, Array.replicate_zero, List.push_toArray, List.append_toArray, List.nil_append, List.cons_append]
  obtain ⟨cb, fb⟩ := box1 hWb
  have H := Lib.hid (And.intro hWS (And.intro hWT hWb))
  clear hWS hWT hWb
  gi_wp2_with fail
  refine wpIn_wide.2 (wp_scope_straight ((wpIn_wide (n := 0)).1 ?_))
  gi_wp2_with fail
  refine ⟨trivial, rfl, ?_⟩
  refine (callsIn_wide.2 (blk_Copy H.out.1)).mono ?_
  rintro e W1 ⟨p', g, cap', rfl, hT1, hp', hg, hS1⟩
  gi_wp2_with fail
  refine wpIn_label ?_
  have hO1 := hJ _ _ _ _ h0 (hT1.mono (fun _ _ x => x.elim))
  have H1 : Hid (Held W W1 O p' g cap' n c ks) :=
    ⟨hS1, H.out.2.1.old hT1, fun h => Nat.lt_irrefl _ (Nat.lt_of_lt_of_le (hO _ h) hp'), fun h => Nat.lt_irrefl _ (Nat.lt_of_lt_of_le (hO _ h) hg), hPr _ (.inl rfl), hPr _ (.inr rfl), fun b hb => Nat.lt_of_lt_of_le (hO b hb) hT1.size, hT1.size⟩
  have hJ2 : ∀ (pre : List Int) (O : Nat → Prop) (A B : World), J pre O A → Touch nob A B → J pre O B := fun pre O A B h ht => hJ pre O A B h (ht.mono (fun _ _ x => x.elim))
  clear hS1 hT1 h0 H hp' hg hPr hO hJ hJx
  gi_wp2_with fail
  refine ⟨trivial, rfl, ?_⟩
  refine (callsIn_wide.2 (blk_Config H1.out.at')).mono ?_
  rintro e W2 ⟨rfl, hT2⟩
  have hO2 := hJ2 _ _ _ _ hO1 hT2
  have HN4 := Lib.hid H1.out.at'.n4
  have hcn := H1.out.at'.hn
  have H2 := Lib.hid (H1.out.old hT2)
  clear hO1 H1 hT2
  rw [show c.V = .agg #[.int .i64 (n : Int), .int .i64 c.c1, .int .i64 c.c2, .int .i64 c.c3, .int .i64 c.c4, .int .i64 c.c5, .int .i64 c.c6] by rw [hcn]]
  clear hcn
  have hfl := run_cfg_blocks
  gi_wp2_with fail
  gi_loopw [12] (fun iv wr => ∃ (m : Nat) (O : Nat → Prop), m ≤ n ∧ iv = .int .i64 m ∧ Hid (J (allSl c ks m) O wr) ∧ Hid (Held W wr O p' g cap' n c ks)) (fun iv _ => n - (intOf iv).toNat)
  case atStart => exact ⟨0, O, Nat.zero_le _, rfl, hO2, H2⟩
  case round =>
    obtain ⟨m, O, hm, rfl, HJ, HH⟩ := hrel
    clear hO2 H2
    by_cases hmn : m < n
    · have hb : (m : Int) < (n : Int) := by omega
      have hn4096 : n ≤ 4096 := HN4.out.2
      gi_wp2_with fail
      refine ⟨trivial, rfl, ?_⟩
      refine (callsIn_wide.2 (blk_Slots m HH.out.at' HH.out.laid.lim HH.out.laid.siz)).mono ?_
      rintro e W3 ⟨v, rfl, hT3, hI3, hG3⟩
      have hJ3 := Lib.hid (hJ2 _ _ _ _ HJ.out hT3)
      have hH3 := Lib.hid (HH.out.old hT3)
      have hgo : ∀ b, v.ownBlock = some b → ¬ O b := fun b hb ho => Nat.lt_irrefl _ (Nat.lt_of_lt_of_le (HH.out.bd b ho) (hG3 b hb))
      obtain ⟨ao, capv, rfl⟩ := hI3.shape
      have hL128 := slAt_le (c := c) (ks := ks) (m := m)
      have HA1 := Lib.hid (show allSl c ks (m + 1) = allSl c ks m ++ slAt c ks m from rfl)
      have hpre1 : Hid (allSl c ks (m + 1) <+: allSl c ks n) := by
        obtain ⟨d, hd⟩ : ∃ d, n = m + 1 + d := ⟨n - (m + 1), by omega⟩
        rw [hd]; exact allSl_prefix _ _
      obtain ⟨L, hL⟩ : ∃ L, slAt c ks m = L := ⟨_, rfl⟩
      rw [hL] at hI3 hL128 HA1 hgo
      rw [hL]
      obtain ⟨z, hz⟩ : ∃ z, L.length = z := ⟨_, rfl⟩
      rw [hz] at hL128 hI3 hgo
      rw [hz]
      have HI3 := Lib.hid (And.intro hI3 (And.intro hgo hz))
      clear hT3 hI3 hG3 hgo hL hz HJ HH
      gi_wp2_with fail
      gi_loopw [19] (fun iv wr => ∃ (j : Nat) (O : Nat → Prop), j ≤ z ∧ iv = .int .i64 j ∧ Hid (J (allSl c ks m ++ L.take j) O wr) ∧ Hid (Held W wr O p' g cap' n c ks) ∧ Hid (IntsIn wr (.slice ao z capv) L ∧ (∀ b, (Value.slice ao z capv).ownBlock = some b → ¬ O b) ∧ L.length = z)) (fun iv _ => z - (intOf iv).toNat)
      case atStart => exact ⟨0, O, Nat.zero_le _, rfl, (by show J _ _ _; simpa using hJ3.out), hH3, HI3⟩
      case round =>
        obtain ⟨j, O, hj, rfl, HJ, HH, HI⟩ := hrel
        clear hJ3 hH3 HI3
        by_cases hjz : j < z
        · have hbj : (j : Int) < (z : Int) := by omega
          obtain ⟨bl, ob, capx, hv, hcap, hcell⟩ := HI.out.1.at (k := j) (by rw [HI.out.2.2]; exact hjz)
          rw [HI.out.2.2] at hv hcap
          injection hv with hv1 hv2 hv3
          subst hv1 hv3
          clear hv2
          have hsn := take_snoc'' (xs := L) (k := j) (by rw [HI.out.2.2]; exact hjz)
          obtain ⟨x, hx⟩ : ∃ x, L.getD j 0 = x := ⟨_, rfl⟩
          rw [hx] at hcell hsn
          have hpre : allSl c ks m ++ L.take j ++ [x] <+: allSl c ks n := by
            rw [List.append_assoc, ← hsn]
            refine List.IsPrefix.trans ?_ hpre1.out
            rw [HA1.out]
            exact (List.prefix_append_right_inj _).2 (List.take_prefix _ _)
          obtain ⟨fn, tmps, assign, body, hy, hR⟩ := hY (allSl c ks m ++ L.take j) x wr O HJ.out hpre
          have HR := Lib.hid hR
          have HP := Lib.hid (And.intro hpre hsn)
          have HBL := Lib.hid (cell_lt hcell)
          clear hR hpre hsn hx
          gi_wp2_with fail
          refine ⟨rfl, HR.out.mono ?_⟩
          rintro e W' ⟨O', hT, hsub, (⟨rfl, hJ', _⟩ | ⟨rfl, hJx'⟩)⟩
          · have HH' := Lib.hid (HH.out.round hT hsub)
            have HJ' : Hid (J (allSl c ks m ++ L.take (j + 1)) O' W') := by show J _ _ _; rw [HP.out.2, ← List.append_assoc]; exact hJ'
            have HI' : Hid (IntsIn W' (.slice (some ⟨bl, ob, none⟩) z capv) L ∧ (∀ b, (Value.slice (some ⟨bl, ob, none⟩) z capv).ownBlock = some b → ¬ O' b) ∧ L.length = z) :=
              ⟨HI.out.1.touch hT HI.out.2.1, fun b hb ho => by
                rcases hsub b ho with h | h
                · exact HI.out.2.1 b hb h
                · have h1 := HBL.out
                  have : bl = b := by cases hb; rfl
                  omega, HI.out.2.2⟩
            clear hT hsub hJ' hcell
            gi_wp2
            go_roundw
            case rel => exact ⟨j + 1, O', by omega, by go_num, HJ', HH', HI'⟩
            case measure => simp [intOf]; omega
          · have HJ' := Lib.hid hJx'
            clear hT hsub hJx' hcell
            gi_wp2
            rw [Exit.noGoto_normal]
            go_end0
            exact ⟨⟨_, rfl⟩, O', .inr ⟨_, HP.out.1, HJ'.out⟩⟩
        · obtain rfl : j = z := by omega
          have HJ' : Hid (J (allSl c ks (m + 1)) O wr) := by
            show J _ _ _
            have := HJ.out
            rw [HA1.out]
            rwa [List.take_of_length_le (by rw [HI.out.2.2]; exact Nat.le_refl _)] at this
          gi_wp2
          go_roundw
          case rel => exact ⟨m + 1, O, by omega, by go_num, HJ', HH⟩
          case measure => simp [intOf]; omega
    · obtain rfl : m = n := by omega
      clear hY
      have HJJ := HJ.out
      gi_wp2_with fail
      rw [Exit.noGoto_normal]
      go_end0
      exact ⟨⟨_, rfl⟩, O, .inl HJJ⟩
end Go.Proofs.YtflhjbmoncbomaaGreatDoor
