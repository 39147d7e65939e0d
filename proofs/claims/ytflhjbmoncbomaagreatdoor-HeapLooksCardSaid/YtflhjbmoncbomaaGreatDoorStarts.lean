/- class.Starts: an iterator over a block's slots. Conditions: the table of sizes reads as laid. -/
import Derived.Test.YtflhjbmoncbomaaGreatDoorClass
import Derived.Test.YtflhjbmoncbomaaGreatDoorRep
import Derived.Shelf.Abstract
import Derived.Shelf.RegionOpen
import Derived.OwnWalkIn
import Derived.TacticsInMore
import Derived.LoopNIn
import Derived.LoopIn
namespace Go.Proofs.YtflhjbmoncbomaaGreatDoor
open Go.RowKit Go.Shelf
attribute [local go_sem] Oper.semAt_some

theorem prefix_range {n i : Nat} (h : i < n) : List.range i ++ [i] <+: List.range n := by
  rw [← List.range_succ, List.prefix_iff_eq_take]
  simp [List.take_range, Nat.min_eq_left h]

theorem prefix_of_range {n x : Nat} {pre : List Nat} (h : pre ++ [x] <+: List.range n) : x = pre.length ∧ pre.length < n ∧ pre = List.range pre.length := by
  have h1 := List.prefix_iff_eq_take.1 h
  have hl : pre.length + 1 ≤ n := by have := h.length_le; simpa using this
  have h2 : pre ++ [x] = List.range (pre.length + 1) := by rw [h1]; simp [List.take_range, Nat.min_eq_left hl]
  rw [List.range_succ] at h2
  obtain ⟨h3, h4⟩ := List.append_inj' h2 rfl
  exact ⟨by simpa using h4, by omega, h3⟩
theorem prefix_range_len {n : Nat} {pre : List Nat} (h : pre <+: List.range n) : pre.length ≤ n ∧ pre = List.range pre.length := by
  have hl : pre.length ≤ n := by have := h.length_le; simpa using this
  have h1 := List.prefix_iff_eq_take.1 h
  exact ⟨hl, by rw [h1]; simp [List.take_range, Nat.min_eq_left hl]⟩
set_option maxHeartbeats 800000 in
theorem starts1_iter (x k : Int) (bw bk n : Nat) (hn : perBlock x k = n) (w : World) (hS : Sizes w) (hg : 1 < w.heap.size) (hbw : bw < w.heap.size) (hbk : bk < w.heap.size) (hcw : w.cell? ⟨bw, 0, none⟩ = some (.int .i64 x)) (hck : w.cell? ⟨bk, 0, none⟩ = some (.int .i64 k)) :
    Iter Tryz.prog 151 #[.pointer (some ⟨bw, 0, none⟩), .pointer (some ⟨bk, 0, none⟩)] (fun i : Nat => #[.int .i64 i, .int .i64 (i * clsSize k)]) AbD (fun _ _ => True) (List.range n) (fun b => b = bw ∨ b = bk ∨ b = 1) w := by
  intro l J Jx W O hT hJ hJx hY h0 hPr _
  have hT' := hT.below
  have hWw : W.cell? ⟨bw, 0, none⟩ = some (.int .i64 x) := (hT.cell hbw (fun x => x)).trans hcw
  have hWk : W.cell? ⟨bk, 0, none⟩ = some (.int .i64 k) := (hT.cell hbk (fun x => x)).trans hck
  have hWS : Sizes W := ⟨(hT.cell hg (fun x => x)).trans hS.1, (hT.cell hg (fun x => x)).trans hS.2.1, (hT.cell hg (fun x => x)).trans hS.2.2.1, (hT.cell hg (fun x => x)).trans hS.2.2.2⟩
  have HS := Lib.hid hWS
  have HN := Lib.hid hn
  have hsz := hT.size
  clear hT hT' hcw hck hS
  refine callsIn_of_wp Tryz.func151 rfl trivial ?_ rfl
  simp only [Tryz.ntmps151, List.size_toArray, List.length_cons, List.length_nil, Nat.reduceAdd, Nat.reduceSub, Array.replicate_succ, Array.replicate_zero, List.push_toArray, List.append_toArray, List.nil_append, List.cons_append]
  clear hn
  gi_wp2_with (refine ⟨trivial, rfl, ?_⟩; gi_at_call 152; refine (callsIn_wide.2 (class_PerBlock x k W HS.out)).mono ?_; rintro e w' ⟨rfl, rfl⟩; rw [HN.out])
  gi_loopw [8] (fun c wr => ∃ (i : Nat) (O : Nat → Prop), i ≤ n ∧ c = .int .i64 i ∧ J (List.range i) O wr ∧ W.heap.size ≤ wr.heap.size ∧ (∀ b, b = bw ∨ b = bk ∨ b = 1 → ¬ O b ∧ wr.heap[b]? = W.heap[b]?)) (fun c _ => n - (intOf c).toNat)
  case atStart => exact ⟨0, O, by omega, rfl, h0, Nat.le_refl _, fun b hb => ⟨hPr b hb, rfl⟩⟩
  case round =>
    obtain ⟨i, O, hi, rfl, hJi, hsr, hpr⟩ := hrel
    have cellOf : ∀ b o, (b = bw ∨ b = bk ∨ b = 1) → wr.cell? ⟨b, o, none⟩ = W.cell? ⟨b, o, none⟩ := fun b o hb => World.cell?_of_block (w := W) (a := ⟨b, o, none⟩) (hpr b hb).2
    have c1 := (cellOf bw 0 (.inl rfl)).trans hWw
    have c2 := (cellOf bk 0 (.inr (.inl rfl))).trans hWk
    obtain ⟨z0, z1, z2, z3⟩ := HS.out
    replace z0 := (cellOf _ _ (.inr (.inr rfl))).trans z0
    replace z1 := (cellOf _ _ (.inr (.inr rfl))).trans z1
    replace z2 := (cellOf _ _ (.inr (.inr rfl))).trans z2
    replace z3 := (cellOf _ _ (.inr (.inr rfl))).trans z3
    clear cellOf hWw hWk
    by_cases hlt : i < n
    · have hk : isCls k = true := by
        cases hk : isCls k
        · have := HN.out
          unfold perBlock at this
          rw [hk] at this
          simp at this
          omega
        · rfl
      have hn128 : n ≤ 128 := by
        have := HN.out
        unfold perBlock at this
        split at this
        · rename_i hh
          simp only [Bool.and_eq_true, wordsOk, decide_eq_true_eq] at hh
          have := (per_bd x (clsSize k) (by omega) (by omega) (clsSize_lo hk) (clsSize_bd k).2).2.1
          omega
        · omega
      obtain ⟨fn, tmps, assign, body, hy, hR⟩ := hY (List.range i) i wr O hJi (prefix_range hlt)
      clear hY
      rcases clsSize_cases hk with ⟨rfl, hs⟩ | ⟨rfl, hs⟩ | ⟨rfl, hs⟩ | ⟨rfl, hs⟩
      all_goals
        rw [hs] at hy
        clear hs hk hJx hJ
        have HPR := Lib.hid hpr
        clear hpr
        have HR := Lib.hid hR
        clear hR
        gi_wp2
        refine ⟨rfl, HR.out.mono ?_⟩
        rintro e W' ⟨O', hT, hsub, (⟨rfl, hJ', _⟩ | ⟨rfl, hJx'⟩)⟩
        · have HS' := Lib.hid hsub
          have HT' := Lib.hid hT
          have HJ' := Lib.hid hJ'
          clear hsub hT hJ'
          gi_wp2
          go_roundw
          case rel =>
            refine ⟨i + 1, O', by omega, by go_num, by rw [List.range_succ]; exact HJ'.out, Nat.le_trans hsr HT'.out.size, fun b hb => ?_⟩
            have hb1 := HPR.out b hb
            have hbl : b < W.heap.size := by rcases hb with rfl | rfl | rfl <;> omega
            refine ⟨fun h => ?_, (HT'.out.block b (by omega) hb1.1).trans hb1.2⟩
            rcases HS'.out b h with h | h
            · exact hb1.1 h
            · omega
          case measure => simp [intOf]; omega
        · have HJ' := Lib.hid hJx'
          clear hsub hT hJx'
          gi_wp2
          refine bodyPost_ret (results_none rfl _ _ _) rfl ?_
          exact ⟨⟨_, rfl⟩, O', .inr ⟨List.range i ++ [i], prefix_range hlt, HJ'.out⟩⟩
    · obtain rfl : i = n := by omega
      clear hY
      gi_wp2
      go_end0
      exact ⟨⟨_, rfl⟩, O, .inl hJi⟩
set_option maxHeartbeats 400000 in
theorem class_Starts (x k : Int) (w : World) :
    Calls Tryz.prog 140 #[.int .i64 x, .int .i64 k] w fun e w' => e = .returned (.func (.func 151) #[] #[.pointer (some ⟨w.heap.size, 0, none⟩), .pointer (some ⟨w.heap.size + 1, 0, none⟩)]) ∧ w' = (w.alloc (.cells #[.int .i64 x] 3)).alloc (.cells #[.int .i64 k] 3) := by
  have hmf : ∀ (fn : Fn) (first cap : Array Value) (w : World), (Instr.makeFunc fn first cap).run Tryz.prog w = .ok (.func fn first cap) w := fun _ _ _ _ => rfl
  go_enter Tryz.func140, Tryz.ntmps140
  go_wp2
  go_ret
  exact ⟨rfl, rfl⟩
end Go.Proofs.YtflhjbmoncbomaaGreatDoor
