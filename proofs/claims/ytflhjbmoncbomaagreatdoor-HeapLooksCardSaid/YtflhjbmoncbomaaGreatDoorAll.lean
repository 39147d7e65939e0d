/- Sets of numbers: All, walked. Conditions: the library's table reads as laid. -/
import Derived.Test.YtflhjbmoncbomaaGreatDoorSet
import Derived.Test.YtflhjbmoncbomaaGreatDoorNext
import Derived.Shelf.Abstract
import Derived.Shelf.RegionOpen
import Derived.OwnWalkIn
import Derived.TacticsInMore
import Derived.LoopNIn
import Derived.LoopIn
namespace Go.Proofs.YtflhjbmoncbomaaGreatDoor
open Go.RowKit Go.Shelf
attribute [local go_sem] Oper.semAt_some

variable {w : World} {p q cap : Nat} {ws : List Nat} {size : Nat} {M : Nat → Bool}
/-- What a set has, rising. -/
def elems (M : Nat → Bool) (n : Nat) : List Nat := (List.range n).filter M
theorem elems_succ (n : Nat) : elems M (n + 1) = elems M n ++ (if M n then [n] else []) := by
  unfold elems
  rw [List.range_succ, List.filter_append]
  by_cases h : M n <;> simp [h]
theorem elems_skip {m : Nat} : ∀ {d : Nat}, (∀ j, m ≤ j → j < m + d → M j = false) → elems M (m + d) = elems M m
  | 0, _ => rfl
  | d + 1, h => by
    rw [← Nat.add_assoc, elems_succ, elems_skip (fun j h1 h2 => h j h1 (by omega)), h (m + d) (by omega) (by omega)]
    simp
theorem elems_some {m k : Nat} (h : NextR M size m (some k)) : elems M (k + 1) = elems M m ++ [k] := by
  obtain ⟨d, rfl⟩ : ∃ d, k = m + d := ⟨k - m, by have := h.1; omega⟩
  rw [elems_succ, elems_skip h.2.2.2, if_pos h.2.2.1]
theorem elems_none {m : Nat} (h : NextR M size m none) (hm : m ≤ size) : elems M size = elems M m := by
  obtain ⟨d, rfl⟩ : ∃ d, size = m + d := ⟨size - m, by omega⟩
  exact elems_skip h
theorem elems_prefix (m d : Nat) : elems M m <+: elems M (m + d) := by
  induction d with
  | zero => exact List.prefix_rfl
  | succ d ih => rw [← Nat.add_assoc, elems_succ]; exact ih.trans (List.prefix_append _ _)
theorem elems_len : ∀ n, (elems M n).length = cnt M n
  | 0 => rfl
  | n + 1 => by
    rw [elems_succ, List.length_append, elems_len n]
    show _ = cnt M n + _
    cases M n <;> rfl
theorem mem_elems {x n : Nat} : x ∈ elems M n ↔ x < n ∧ M x = true := by simp [elems]

theorem set_All (w : World) (pv : Option Addr) :
    Calls Tryz.prog 100 #[.pointer pv] w fun e w' => ∃ b, e = .returned (.func (.func 133) #[] #[.pointer (some ⟨b, 0, none⟩)]) ∧ Touch nob w w' ∧ w.heap.size ≤ b ∧ w'.heap[b]? = some (Obj.cells #[.pointer pv] 101) := by
  go_enter Tryz.func100, Tryz.ntmps100
  go_wp2
  go_ret
  exact ⟨w.heap.size, rfl, (Touch.refl nob w).alloc _, Nat.le_refl _, World.alloc_heap_new w _⟩
def allMeas (size : Nat) (nv okv : Value) : Nat := match okv with
  | .bool true => size - (intOf nv).toNat
  | _ => 0
set_option maxHeartbeats 800000 in
theorem all1_iter (b : Nat) (hS : SetAt w p q cap ws size M) (hT : Tab w) (hb : w.heap[b]? = some (Obj.cells #[.pointer (some ⟨p, 0, none⟩)] 101)) :
    Iter Tryz.prog 133 #[.pointer (some ⟨b, 0, none⟩)] (fun i : Nat => #[.int .i64 i]) AbD (fun _ _ => True) (elems M size) (fun k => k = 2) w := by
  intro l J Jx W O hTo hJ hJx hY h0 hPr hO
  have hWb := blk_touch hb hTo (fun x => x)
  have hWS := hS.touch hTo (fun x => x) (fun x => x)
  have hWT := hT.touch hTo (fun x => x)
  clear hTo hS hT hb
  refine callsIn_of_wp Tryz.func133 rfl trivial ?_ rfl
  simp only [Tryz.ntmps133, List.size_toArray, List.length_cons, List.length_nil, Nat.reduceAdd, Nat.reduceSub, Array.replicate_succ, Array.replicate_zero, List.push_toArray, List.append_toArray, List.nil_append, List.cons_append]
  obtain ⟨cb, fb⟩ := box1 hWb
  have H := Lib.hid (And.intro hWS (And.intro hWT hWb))
  clear hWS hWT hWb
  gi_wp2_with fail
  refine ⟨trivial, rfl, ?_⟩
  refine (callsIn_wide.2 (set_Copy H.out.1)).mono ?_
  rintro e W1 ⟨p', g, cap', rfl, hT1, hp', hg, hS1⟩
  have hO1 := hJ _ _ _ _ h0 (hT1.mono (fun _ _ x => x.elim))
  have htl := H.out.2.1.lt
  have hpl := blk_lt hS1.box
  have hgl := hS1.row.lt
  have H1 := Lib.hid (And.intro hS1 (And.intro (H.out.2.1.touch hT1 (fun x => x)) (And.intro (fun h => Nat.lt_irrefl _ (Nat.lt_of_lt_of_le (hO _ h) hp')) (And.intro (fun h => Nat.lt_irrefl _ (Nat.lt_of_lt_of_le (hO _ h) hg)) (And.intro (hPr _ rfl) (Nat.lt_of_lt_of_le htl hT1.size))))))
  have hJ2 : ∀ (pre : List Nat) (O : Nat → Prop) (A B : World), J pre O A → Touch nob A B → J pre O B := fun pre O A B h ht => hJ pre O A B h (ht.mono (fun _ _ x => x.elim))
  clear hS1 hT1 h0 H hp' hg hPr hO htl hJ hJx
  gi_wp2_with fail
  refine ⟨trivial, rfl, ?_⟩
  refine (callsIn_wide.2 (set_Next 0 H1.out.1 H1.out.2.1)).mono ?_
  rintro e W2 ⟨o, ho, rfl, rfl⟩
  have HN := Lib.hid ho
  clear ho
  gi_wp2_with fail
  gi_loopw [4, 5] (fun nv okv wr => ∃ (m : Nat) (o : Option Nat) (O : Nat → Prop), nv = .int .i64 (o.getD 0 : Nat) ∧ okv = .bool o.isSome ∧ m ≤ size ∧ Hid (NextR M size m o) ∧ J (elems M m) O wr ∧ Hid (SetAt wr p' g cap' ws size M ∧ Tab wr ∧ ¬ O p' ∧ ¬ O g ∧ ¬ O 2 ∧ 2 < wr.heap.size)) (fun nv okv _ => allMeas size nv okv)
  case atStart => exact ⟨0, o, O, rfl, rfl, Nat.zero_le _, HN, hO1, H1⟩
  case round =>
    obtain ⟨m, o, O, rfl, rfl, hm, HN, hJi, H⟩ := hrel
    clear H1 hO1
    cases o with
    | none =>
      rw [show (none : Option Nat).isSome = false from rfl]
      clear hY
      have hJi' : J (elems M size) O wr := by rw [elems_none HN.out hm]; exact hJi
      gi_wp2
      go_end0
      exact ⟨⟨_, rfl⟩, O, .inl hJi'⟩
    | some k =>
      rw [show (some k).isSome = true from rfl, show (some k).getD 0 = k from rfl]
      have hpre : elems M m ++ [k] <+: elems M size := by
        rw [← elems_some HN.out]
        obtain ⟨d, hd⟩ : ∃ d, size = k + 1 + d := ⟨size - (k + 1), by have := HN.out.2.1; omega⟩
        rw [hd]; exact elems_prefix _ _
      have hks : k < size := HN.out.2.1
      have hsl := H.out.1.le
      obtain ⟨fn, tmps, assign, body, hy, hR⟩ := hY (elems M m) k wr O hJi hpre
      have HR := Lib.hid hR
      have HP := Lib.hid hpre
      clear hR hpre hJi
      gi_wp2_with fail
      refine ⟨rfl, HR.out.mono ?_⟩
      rintro e W' ⟨O', hT, hsub, (⟨rfl, hJ', _⟩ | ⟨rfl, hJx'⟩)⟩
      · have H' : Hid (SetAt W' p' g cap' ws size M ∧ Tab W' ∧ ¬ O' p' ∧ ¬ O' g ∧ ¬ O' 2 ∧ 2 < W'.heap.size) := by
          obtain ⟨a1, a2, a3, a4, a5, a6⟩ := H.out
          have hpl := blk_lt a1.box
          have hgl := a1.row.lt
          have no : ∀ b, b < wr.heap.size → ¬ O b → ¬ O' b := fun b hb hn h => by
            rcases hsub b h with h | h
            · exact hn h
            · omega
          exact ⟨a1.touch hT a3 a4, a2.touch hT a5, no _ hpl a3, no _ hgl a4, no _ a6 a5, Nat.lt_of_lt_of_le a6 hT.size⟩
        have HJ' : Hid (J (elems M (k + 1)) O' W') := by show J _ _ _; rw [elems_some HN.out]; exact hJ'
        clear hsub hT hJ' H
        gi_wp2_with fail
        refine ⟨trivial, rfl, ?_⟩
        refine (callsIn_wide.2 (set_Next (k + 1 : Nat) H'.out.1 H'.out.2.1)).mono ?_
        rintro e W2 ⟨o', ho, rfl, rfl⟩
        have HN' := Lib.hid ho
        rw [show ((k + 1 : Nat) : Int).toNat = k + 1 by omega] at HN'
        clear ho
        gi_wp2
        go_roundw
        case rel => exact ⟨k + 1, o', O', rfl, rfl, by omega, HN', HJ'.out, H'⟩
        case measure =>
          cases o' with
          | none => simp [allMeas, intOf]; omega
          | some k' => have := HN'.out.1; simp [allMeas, intOf]; omega
      · have HJ' := Lib.hid hJx'
        clear hsub hT hJx'
        gi_wp2
        refine bodyPost_ret (results_none rfl _ _ _) rfl ?_
        exact ⟨⟨_, rfl⟩, O', .inr ⟨elems M m ++ [k], HP.out, HJ'.out⟩⟩
theorem set_Next_nil (n : Int) (w : World) : Calls Tryz.prog 134 #[.pointer none, .int .i64 n] w fun e w' => e = .returned (.tuple #[.int .i64 0, .bool false]) ∧ w = w' := by
  have hmay : ∀ k : Int, Calls Tryz.prog 115 #[.pointer none, .int .i64 k] w fun e w' => e = .returned (.bool false) ∧ w = w' := by
    intro k
    by_cases hk : 0 ≤ k
    · go_enter Tryz.func115, Tryz.ntmps115
      go_wp2
      go_ret
      refine ⟨ret_b ?_, rfl⟩
      simp; omega
    · go_enter Tryz.func115, Tryz.ntmps115
      go_wp2
      go_ret
      exact ⟨rfl, rfl⟩
  obtain ⟨m, hm⟩ : ∃ m : Nat, n.toNat = m := ⟨_, rfl⟩
  have hmx : (if n < 0 then (0 : Int) else n) = (m : Int) := by split <;> omega
  clear hm
  go_enter Tryz.func134, Tryz.ntmps134
  go_wp2_with fail
  go_step3
  go_wp2_with fail
  go_step3
  go_wp2_with fail
  go_loopw [1] (fun i wr => i = .int .i64 m ∧ wr = w) (fun _ _ => 0)
  case atStart => exact ⟨rfl, rfl⟩
  case round =>
    obtain ⟨rfl, rfl⟩ := hrel
    go_wp2_with (go_at_call 115; fail)
    refine (hmay _).mono ?_
    rintro e w' ⟨rfl, rfl⟩
    go_wp2_with (go_at_call 115; fail)
    refine (hmay _).mono ?_
    rintro e w' ⟨rfl, rfl⟩
    go_wp2_with fail
    rw [Exit.noGoto_ret]
    go_ret2
    exact ⟨rfl, rfl⟩
theorem all1_iter_nil (b : Nat) (hb : w.heap[b]? = some (Obj.cells #[.pointer none] 101)) :
    Iter Tryz.prog 133 #[.pointer (some ⟨b, 0, none⟩)] (fun i : Nat => #[.int .i64 i]) AbD (fun _ _ => True) [] (fun k => k = 2) w := by
  intro l J Jx W O hTo hJ hJx hY h0 hPr hO
  have hWb := blk_touch hb hTo (fun x => x)
  refine callsIn_of_wp Tryz.func133 rfl trivial ?_ rfl
  simp only [Tryz.ntmps133, List.size_toArray, List.length_cons, List.length_nil, Nat.reduceAdd, Nat.reduceSub, Array.replicate_succ, Array.replicate_zero, List.push_toArray, List.append_toArray, List.nil_append, List.cons_append]
  obtain ⟨cb, fb⟩ := box1 hWb
  clear hb hY hPr hO hJ hJx hTo hWb
  gi_wp2_with fail
  refine ⟨trivial, rfl, ?_⟩
  refine (callsIn_wide.2 (set_Copy_nil W)).mono ?_
  rintro e W1 ⟨rfl, rfl⟩
  gi_wp2_with fail
  refine ⟨trivial, rfl, ?_⟩
  refine (callsIn_wide.2 (set_Next_nil 0 W)).mono ?_
  rintro e W1 ⟨rfl, rfl⟩
  gi_wp2_with fail
  gi_loopw [4, 5] (fun nv okv wr => nv = .int .i64 0 ∧ okv = .bool false ∧ wr = W) (fun _ _ _ => 0)
  case atStart => exact ⟨rfl, rfl, rfl⟩
  case round =>
    obtain ⟨rfl, rfl, rfl⟩ := hrel
    gi_wp2
    go_end0
    exact ⟨⟨_, rfl⟩, O, .inl h0⟩
end Go.Proofs.YtflhjbmoncbomaaGreatDoor
