/- Push and Pop, walked. Conditions: none beyond what each says. -/
import Derived.Test.YthdlgffpcfjbiaaStack
import Derived.Deep.Cut
namespace Go.Proofs.Ythdlgffpcfjbiaa
open Go.RowKit

theorem info_int : (Try.prog.info? 3).map (fun i => (i.zero, i.size, i.bytes)) = some (some (.int .i64 0), 1, 8) := by kernel_rfl

/-- What stands behind the append. -/
def Pushed (W2 : World) (p : Nat) (x : Int) (ao : Option Addr) (xs : List Int) (cap : Nat) (room : Int) (over : Bool) (g cap3 : Nat) (w3 : World) : Prop :=
  w3.ownsRow 0 3 1 (.slice (some ⟨g, 0, none⟩) (xs.length + 1) cap3) (xs.length + 1) (xs.map (.int .i64) ++ [.int .i64 x]) ∧ (W2.alloc (Obj.cells #[.int .i64 x] 3)).drew.grownBy w3 (Value.slice ao xs.length cap).ownBlock ∧
    ((Value.slice ao xs.length cap).ownBlock = some g ∨ g = W2.heap.size + 1) ∧ g < w3.heap.size ∧ w3.heap[p]? = some (.cells #[.slice ao xs.length cap, .int .i64 room, .bool over] 74)

set_option maxHeartbeats 4000000 in
theorem stack_Push_ok (p : Nat) (F : Nat → Prop) (v : Value) (xs : List Int) (room : Int) (over : Bool) (x : Int) (w : World) (h : StackAt w p F v xs room over) (hr : xs.length < room) :
    Calls Try.prog 20 #[.pointer (some ⟨p, 0, none⟩), .int .i64 x] w fun e w' => e = .returned (.bool true) ∧ Touch F w w' ∧ ∃ F' v', Sub w F' F ∧ StackAt w' p F' v' (xs ++ [x]) room over := by
  have hmf := hmkf
  obtain ⟨i0, hi, hz0, hz1, hz2⟩ := info_parts info_int
  obtain ⟨l0, l1⟩ := h.len
  go_enter Try.func20, Try.ntmps20
  go_wp2_with fail
  obtain ⟨W, hW⟩ : ∃ W, W = (w.alloc (Obj.cells #[.pointer (some ⟨p, 0, none⟩)] 34)).alloc (Obj.cells #[.int .i64 x] 3) := ⟨_, rfl⟩
  obtain ⟨b, hb⟩ : ∃ b, b = w.heap.size := ⟨_, rfl⟩
  rw [← hW, ← hb]
  have b0 : W.heap[b]? = some (Obj.cells #[.pointer (some ⟨p, 0, none⟩)] 34) := by rw [hW, hb]; exact alloc2_0 w _ _
  have b1 : W.heap[b + 1]? = some (Obj.cells #[.int .i64 x] 3) := by rw [hW, hb]; exact alloc2_1 w _ _
  obtain ⟨c0, f0⟩ := box1 b0
  obtain ⟨c1, f1⟩ := box1 b1
  have hT : Touch nob w W := by rw [hW]; repeat (first | with_reducible exact Touch.refl _ _ | with_reducible assumption | with_reducible apply Touch.alloc | with_reducible apply Touch.drewN | with_reducible apply Touch.drew | with_reducible refine Touch.setCell ?_ (.inr (by first | omega | (simp; done) | (simp; omega))) _)
  have hA := h.touch hT (fun _ _ x => x)
  obtain ⟨d0, d1, d2, e0, e1, e2⟩ := box3 hA.box
  have hpb : ¬ p = b := by have := blk_lt h.box; omega
  have hpb1 : ¬ p = b + 1 := by have := blk_lt h.box; omega
  have HGB : Hid (∀ g, v.ownBlock = some g → g < b) := fun g hg => by rw [hb]; exact owns_lt h.own hg
  have hlen : ∃ ao cap, v = .slice ao xs.length cap := by
    rcases h.form with ⟨rfl, rfl⟩ | ⟨g, cap, rfl, _⟩
    · exact ⟨_, _, rfl⟩
    · exact ⟨_, _, rfl⟩
  obtain ⟨ao, cap, hv⟩ := hlen
  subst hv
  have HX := Lib.hid (And.intro hT (And.intro hA (And.intro hb (And.intro b0 b1))))
  have hne : (((xs.length : Nat) : Int) == room) = false := by simp; omega
  clear hW h hT hA hb b0 b1
  go_wp2_with go_in
  go_quiet (fail)
  go_wp2_with go_in
  obtain ⟨W2, hW2⟩ : ∃ W2, W.drewN nq = W2 := ⟨_, rfl⟩
  have hT2 : Touch nob W W2 := by rw [← hW2]; repeat (first | with_reducible exact Touch.refl _ _ | with_reducible assumption | with_reducible apply Touch.alloc | with_reducible apply Touch.drewN | with_reducible apply Touch.drew | with_reducible refine Touch.setCell ?_ (.inr (by first | omega | (simp; done) | (simp; omega))) _)
  rw [hW2]
  have hA2 := (HX.out.2.1).touch hT2 (fun _ _ x => x)
  clear hW2 d0 d1 d2 e0 e1 e2 c0 c1 f0 f1
  have hown := hA2.own
  obtain ⟨d0, d1, d2, e0, e1, e2⟩ := box3 hA2.box
  obtain ⟨c0, f0⟩ := box1 (blk_touch HX.out.2.2.2.1 hT2 (fun x => x))
  obtain ⟨c1, f1⟩ := box1 (blk_touch HX.out.2.2.2.2 hT2 (fun x => x))
  have hp2 := blk_lt hA2.box
  have hb2 := blk_lt (blk_touch HX.out.2.2.2.1 hT2 (fun x => x))
  have hb3 := blk_lt (blk_touch HX.out.2.2.2.2 hT2 (fun x => x))
  have HA2 := Lib.hid (And.intro hA2 (And.intro hT2 hown))
  clear hA2 hT2 hown
  have HP : Hid (∀ w3, (W2.alloc (Obj.cells #[.int .i64 x] 3)).drew.grownBy w3 (Value.slice ao xs.length cap).ownBlock → w3.heap[p]? = some (.cells #[.slice ao xs.length cap, .int .i64 room, .bool over] 74)) := fun w3 hg => by
    have h1 := blk_lt HA2.out.1.box
    exact (hg.block p (by show p < (W2.alloc _).heap.size; rw [World.size_alloc]; omega) (fun e => (HA2.out.1.fv p e.symm).2 rfl)).trans ((Below.heap_alloc _ _ _ h1).trans HA2.out.1.box)
  have HQ : Hid (∀ w3, (W2.alloc (Obj.cells #[.int .i64 x] 3)).drew.grownBy w3 (Value.slice ao xs.length cap).ownBlock → w3.cell? ⟨b, 0, none⟩ = some (.pointer (some ⟨p, 0, none⟩)) ∧ w3.cell? ⟨b + 1, 0, none⟩ = some (.int .i64 x)) := fun w3 hg => by
    have h1 := blk_touch HX.out.2.2.2.1 HA2.out.2.1 (fun x => x)
    have h2 := blk_touch HX.out.2.2.2.2 HA2.out.2.1 (fun x => x)
    exact ⟨(box1 ((hg.block b (by show b < (W2.alloc _).heap.size; rw [World.size_alloc]; exact Nat.lt_succ_of_lt (blk_lt h1)) (fun e => Nat.lt_irrefl _ (HGB.out b e.symm))).trans ((Below.heap_alloc _ _ _ (blk_lt h1)).trans h1))).1,
      (box1 ((hg.block (b + 1) (by show b + 1 < (W2.alloc _).heap.size; rw [World.size_alloc]; exact Nat.lt_succ_of_lt (blk_lt h2)) (fun e => by have := HGB.out (b + 1) e.symm; omega)).trans ((Below.heap_alloc _ _ _ (blk_lt h2)).trans h2))).1⟩
  go_cut [] from 16 (fun wc => ∃ g cap3 w3, Pushed W2 p x ao xs cap room over g cap3 w3 ∧ wc = w3.setCell ⟨p, 0, none⟩ (.slice (some ⟨g, 0, none⟩) (xs.length + 1) cap3))
  case first =>
    go_region_law (first | (refine step_append_lies _ rfl (.tmp 20) (.tmp 22) 33 rfl 0 3 i0 (.int .i64 0) 1 8 Try.underlying33 hi hz0 hz1 hz2 rfl (by decide) (.slice ao xs.length cap) xs.length (xs.map (.int .i64)) rfl (HA2.out.2.2.alloc _) ⟨W2.heap.size, 0, none⟩ 1 1 [.int .i64 x] rfl rfl (World.news_of_block (World.alloc_heap_new _ _)) (ints_oneCell _ [x]) (by omega) (by unfold maxLen; omega) (by omega) (Nat.zero_le _) (W2.heap.size + 1) (by simp) ?_; intro g cap3 w3 hown hgrow hat hlt3; have hp3 := HP.out w3 hgrow; have hq3 := (HQ.out w3 hgrow).1; have HW3 := Lib.hid (show Pushed W2 p x ao xs cap room over g cap3 w3 from ⟨hown, hgrow, hat, hlt3, hp3⟩); obtain ⟨dd0, dd1, dd2, ee0, ee1, ee2⟩ := box3 hp3; clear hown hgrow hat hlt3 hp3))
    all_goals
      go_wp2
      go_meet
      case rel => exact ⟨g, cap3, w3, HW3.out, rfl⟩
  case rest =>
    obtain ⟨g, cap3, w3, hP, rfl⟩ := hcut
    have HPP := Lib.hid hP
    clear hP
    go_wp2
    go_ret
    obtain ⟨hown, hgrow, hat, hlt3, hp3⟩ := HPP.out
    obtain ⟨hA2, hT2, _⟩ := HA2.out
    obtain ⟨hT, hA, _⟩ := HX.out
    have hgp : g ≠ p := by
      rcases hat with hat | hat
      · exact (hA2.fv g hat).2
      · omega
    have hTF : Touch F w w3 := Touch.grown (S := F) (Touch.drew (Touch.alloc ((hT.trans hT2).mono (fun _ _ h => h.elim)) _)) hgrow (fun k hk => .inl (hA2.fv k hk).1)
    refine ⟨rfl, Touch.setCell (S := F) hTF (.inl hA2.fp) _, fun b => b = p ∨ b = g, .slice (some ⟨g, 0, none⟩) (xs.length + 1) cap3, ?_, ?_⟩
    · rintro k (rfl | rfl)
      · exact .inl hA2.fp
      · rcases hat with hat | hat
        · exact .inl (hA2.fv _ hat).1
        · have := (hT.trans hT2).size; right; omega
    · refine ⟨blk_set hp3 rfl, ?_, ?_, .inl rfl, fun b hb => ?_⟩
      · rw [List.map_append, List.length_append]
        exact owns_touch hown (Touch.setCell (S := fun b => b = p) (Touch.refl _ _) (.inl rfl) _) (fun b hb => by cases hb; exact hgp)
      · rw [List.length_append]; simp; omega
      · cases hb; exact ⟨.inr rfl, hgp⟩
end Go.Proofs.Ythdlgffpcfjbiaa
