/- Free lists: All, walked. Conditions: the tables of limits and of sizes read as laid. Free lists: what All tells, listed. Conditions: the tables of limits and of sizes read as laid. -/
import Derived.Test.YtflhjbmoncbomaaGreatDoorLists3
import Derived.Maps.OwnIn
import Derived.WalkLawsBesides
import Derived.WalkMore
import Derived.Test.YtflhjbmoncbomaaGreatDoorBlkList
namespace Go.Proofs.YtflhjbmoncbomaaGreatDoor
open Go.RowKit Go.Shelf
attribute [local go_sem] Oper.semAt_some

/-- What the lists' iterator may turn: nothing of others but the arena's counts. -/
def AbL (pa qa : Nat) (ws : List Int) (n : Nat) (O : Nat → Prop) (A B : World) : Prop :=
  Touch (fun b => (n ≤ b ∨ b = pa) ∧ ¬ O b) A B ∧ (pa < n → qa < n → (∃ ca lo st, ArenaAt A pa qa ca ws lo st) → ∃ ca lo st, ArenaAt B pa qa ca ws lo st)
variable {pa qa : Nat} {ws : List Int}
theorem abL_T : ∀ n O A B, AbD n O A B → AbL pa qa ws n O A B :=
  fun _ _ _ _ h => ⟨Touch.mono h (fun _ _ x => ⟨.inl x.1, x.2⟩), fun h1 h2 ⟨ca, lo, st, h3⟩ => ⟨ca, lo, st, h3.touch h (fun x => Nat.not_le_of_lt h1 x.1) (fun x => Nat.not_le_of_lt h2 x.1)⟩⟩
theorem abL_M : ∀ (m n : Nat) (O O' : Nat → Prop) (A B : World), (∀ b, O' b → O b) → m ≤ n → AbL pa qa ws n O A B → AbL pa qa ws m O' A B :=
  fun _ _ _ _ _ _ h hm hab => ⟨Touch.mono hab.1 (fun _ _ hi => ⟨hi.1.imp (Nat.le_trans hm) id, fun x => hi.2 (h _ x)⟩), fun h1 h2 => hab.2 (Nat.lt_of_lt_of_le h1 hm) (Nat.lt_of_lt_of_le h2 hm)⟩
theorem abL_O : ∀ (n : Nat) (O : Nat → Prop) (A B : World) (k : Nat) (o : Obj), AbL pa qa ws n O A B → O k → A.heap[k]? = some o → o.isCells = false → B.heap[k]? = some o :=
  fun _ _ _ _ _ _ hab hO hk _ => (hab.1.block _ (Array.getElem?_eq_some_iff.1 hk).1 (fun x => x.2 hO)).trans hk
theorem AbL.trans {n : Nat} {O : Nat → Prop} {A B D : World} (h : AbL pa qa ws n O A B) (g : AbL pa qa ws n O B D) : AbL pa qa ws n O A D := ⟨h.1.trans g.1, fun h1 h2 h3 => g.2 h1 h2 (h.2 h1 h2 h3)⟩
theorem AbL.refl {n : Nat} {O : Nat → Prop} {A : World} : AbL pa qa ws n O A A := ⟨Touch.refl _ _, fun _ _ h => h⟩
variable {W0 w : World} {A : LA} {c : Cf} {s : LS}
theorem LsAt.fresh {n : Nat} {wr w' : World} (h : LsAt W0 w A c s) (hr : LsAt W0 wr A c s) (hn : w.heap.size ≤ n) (ht : Touch (fun b => n ≤ b) wr w') : LsAt W0 w' A c s := by
  have hl := h.lt
  exact hr.touch (hr.base.step ht (fun i hi => .inr (by have := h.base.size; omega))) ht (by omega) (by omega) (by omega) (by omega) (by omega) (by omega) (by omega)
theorem lists_All (w : World) (pv : Option Addr) (k : Int) :
    Calls Tryz.prog 101 #[.pointer pv, .int .i64 k] w fun e w' => ∃ b, e = .returned (.func (.func 135) #[] #[.pointer (some ⟨b, 0, none⟩), .pointer (some ⟨b + 1, 0, none⟩)]) ∧ Touch nob w w' ∧ w.heap.size ≤ b ∧ w'.heap[b]? = some (Obj.cells #[.pointer pv] 98) ∧ w'.heap[b + 1]? = some (Obj.cells #[.int .i64 k] 3) := by
  have hmf := hmkf
  go_enter Tryz.func101, Tryz.ntmps101
  go_wp2
  go_ret
  exact ⟨w.heap.size, rfl, (by (repeat (first | with_reducible exact Touch.refl _ _ | with_reducible assumption | with_reducible apply Touch.alloc | with_reducible apply Touch.drewN | with_reducible apply Touch.drew | with_reducible refine Touch.setCell ?_ (.inr (by first | omega | (simp; done) | (simp; omega))) _))), Nat.le_refl _, alloc2_0 w _ _, alloc2_1 w _ _⟩
def lenV : Value → Nat
  | .slice _ n _ => n
  | _ => 0
/-- The addresses of slots. -/
abbrev adr (L : List Nat) : List Int := L.map fun (x : Nat) => (x : Int) + 1
set_option maxRecDepth 20000 in
set_option maxHeartbeats 1600000 in
theorem lall_iter (b b' k : Nat) (L : List Nat) (h : LsAt W0 w A c s) (hk : k < 4) (hT : Thr s.ws (s.f k) L) (hl : L.length ≤ 1048576) (hL : Laid W0) (hb : w.heap[b]? = some (Obj.cells #[.pointer (some ⟨A.p, 0, none⟩)] 98)) (hb' : w.heap[b']? = some (Obj.cells #[.int .i64 k] 3)) :
    Iter Tryz.prog 135 #[.pointer (some ⟨b, 0, none⟩), .pointer (some ⟨b', 0, none⟩)] (fun a : Int => #[.int .i64 a]) (AbL A.pa A.qa s.ws) (fun _ _ => True) (adr L) (fun j => j = A.pa) w := by
  intro l J Jx W O hTo hJ hJx hY h0 hPr hO
  have hWb := blk_touch hb hTo (fun x => x)
  have hWb' := blk_touch hb' hTo (fun x => x)
  have hWS := h.old hTo
  clear hTo h hb hb' hJx
  refine callsIn_of_wp Tryz.func135 rfl trivial ?_ rfl
  simp only [Tryz.ntmps135, List.size_toArray, List.length_cons, List.length_nil, Nat.reduceAdd, Nat.reduceSub, Array.replicate_succ, Array.replicate_zero, List.push_toArray, List.append_toArray, List.nil_append, List.cons_append]
  obtain ⟨cb, fb⟩ := box1 hWb
  obtain ⟨cb', fb'⟩ := box1 hWb'
  have H := Lib.hid (And.intro hWS (And.intro hL (And.intro hk (And.intro hT (And.intro hl (And.intro hWb (And.intro (hPr _ rfl) hO)))))))
  have HJ := Lib.hid hJ
  have H0 := Lib.hid h0
  clear hWS hWb hWb' hL hk hT hl hPr hO hJ h0
  obtain ⟨i0, hi, hz0, hz1, hz2⟩ := info_parts info_int2
  gi_wp2_with fail
  refine wpIn_wide.2 (wp_scope_straight ((wpIn_wide (n := 0)).1 ?_))
  gi_wp2_with fail
  refine ⟨trivial, rfl, ?_⟩
  refine (callsIn_wide.2 (lists_First k H.out.2.2.1 H.out.1)).mono ?_
  rintro e W1 ⟨rfl, rfl⟩
  gi_wp2_with fail
  gi_loopw [4, 5] (fun v i wr => ∃ L1 L2 a, L = L1 ++ L2 ∧ i = .int .i64 a ∧ Hid (Thr s.ws a L2) ∧ Hid (AbL A.pa A.qa s.ws W.heap.size O W wr) ∧ Hid (LsAt W0 wr A c s) ∧ Hid (wr.ownsRow W.heap.size 3 1 v L1.length ((adr L1).map (.int .i64)))) (fun v _ _ => L.length - lenV v)
  case atStart => exact ⟨[], L, s.f k, rfl, rfl, H.out.2.2.2.1, AbL.refl, H.out.1, World.ownsRow_nil _ _ _ _⟩
  case round =>
    obtain ⟨L1, L2, a, hLL, rfl, HT, HA, HS, HO⟩ := hrel
    obtain ⟨z, hz⟩ : ∃ z, L1.length = z := ⟨_, rfl⟩
    rw [hz] at HO
    obtain ⟨ao, capv, rfl⟩ := own_shape HO.out
    have hzl : z ≤ 1048576 := by
      have h1 := H.out.2.2.2.2.1
      rw [hLL, List.length_append] at h1
      omega
    cases L2 with
    | nil =>
      obtain rfl : a = 0 := HT.out
      rw [List.append_nil] at hLL
      subst hLL
      have HJ1 := Lib.hid (HJ.out _ _ _ _ H0.out HA.out)
      have hgo : ∀ i, (Value.slice ao z capv).ownBlock = some i → ¬ O i := fun i hi ho => Nat.lt_irrefl _ (Nat.lt_of_lt_of_le (H.out.2.2.2.2.2.2.2 i ho) (HO.out.lt i hi).1)
      have hzz : (adr L).length = z := by rw [List.length_map]; exact hz
      have HI := Lib.hid (And.intro (ints_of_ownZ HO.out) (And.intro hgo hzz))
      have HB := Lib.hid (fun i (hi : O i) => Nat.lt_of_lt_of_le (H.out.2.2.2.2.2.2.2 i hi) HA.out.1.size)
      obtain ⟨xs, hxs⟩ : ∃ xs, adr L = xs := ⟨_, rfl⟩
      rw [hxs] at hY HI
      have HXS := Lib.hid hxs
      clear hz hgo hzz hxs HT HA HS HO
      gi_wp2_with fail
      refine wpIn_label ?_
      gi_wp2_with fail
      gi_loopw [22] (fun iv wr => ∃ (j : Nat) (O : Nat → Prop), j ≤ z ∧ iv = .int .i64 j ∧ Hid (J (xs.take j) O wr) ∧ Hid (IntsIn wr (.slice ao z capv) xs ∧ (∀ b, (Value.slice ao z capv).ownBlock = some b → ¬ O b) ∧ xs.length = z)) (fun iv _ => z - (intOf iv).toNat)
      case atStart => exact ⟨0, O, Nat.zero_le _, rfl, HJ1, HI⟩
      case round =>
        obtain ⟨j, O, hj, rfl, HJ, HI⟩ := hrel
        clear HJ1
        by_cases hjz : j < z
        · have hbj : (j : Int) < (z : Int) := by omega
          obtain ⟨bl, ob, capx, hv, hcap, hcell⟩ := HI.out.1.at (k := j) (by rw [HI.out.2.2]; exact hjz)
          rw [HI.out.2.2] at hv hcap
          injection hv with hv1 hv2 hv3
          subst hv1 hv3
          clear hv2
          have hsn := take_snoc'' (xs := xs) (k := j) (by rw [HI.out.2.2]; exact hjz)
          obtain ⟨x, hx⟩ : ∃ x, xs.getD j 0 = x := ⟨_, rfl⟩
          rw [hx] at hcell hsn
          have hpre : xs.take j ++ [x] <+: xs := by
            rw [← hsn]
            exact List.take_prefix _ _
          obtain ⟨fn, tmps, assign, body, hy, hR⟩ := hY (xs.take j) x wr O HJ.out hpre
          have HR := Lib.hid hR
          have HP := Lib.hid (And.intro hpre hsn)
          have HBL := Lib.hid (cell_lt hcell)
          clear hR hpre hsn hx
          gi_wp2_with fail
          refine ⟨rfl, HR.out.mono ?_⟩
          rintro e W' ⟨O', hT, hsub, (⟨rfl, hJ', _⟩ | ⟨rfl, hJx'⟩)⟩
          · have HJ' : Hid (J (xs.take (j + 1)) O' W') := by show J _ _ _; rw [HP.out.2]; exact hJ'
            have HI' : Hid (IntsIn W' (.slice (some ⟨bl, ob, none⟩) z capv) xs ∧ (∀ b, (Value.slice (some ⟨bl, ob, none⟩) z capv).ownBlock = some b → ¬ O' b) ∧ xs.length = z) :=
              ⟨HI.out.1.touch hT HI.out.2.1, fun b hb ho => by
                rcases hsub b ho with h | h
                · exact HI.out.2.1 b hb h
                · have h1 := HBL.out
                  have : bl = b := by cases hb; rfl
                  omega, HI.out.2.2⟩
            clear hT hsub hJ' hcell
            gi_wp2
            go_roundw
            case rel => exact ⟨j + 1, O', by omega, by go_num, HJ', HI'⟩
            case measure => simp [intOf]; omega
          · have HJ' := Lib.hid hJx'
            clear hT hsub hJx' hcell
            gi_wp2
            rw [Exit.noGoto_normal]
            go_end0
            exact ⟨⟨_, rfl⟩, O', .inr ⟨_, by rw [HXS.out]; exact HP.out.1, HJ'.out⟩⟩
        · obtain rfl : j = z := by omega
          have HJJ : J xs O wr := by
            have := HJ.out
            rwa [List.take_of_length_le (by rw [HI.out.2.2]; exact Nat.le_refl _)] at this
          clear hY
          gi_wp2_with fail
          rw [Exit.noGoto_normal]
          go_end0
          exact ⟨⟨_, rfl⟩, O, .inl (by rw [HXS.out]; exact HJJ)⟩
    | cons j L3 =>
      obtain ⟨hja, hjl, -, HT3⟩ := HT.out
      subst hja
      have HX := Lib.hid (And.intro hLL (And.intro hz (And.intro hjl HT3)))
      have HW : Hid (W.heap.size ≤ wr.heap.size) := HA.out.1.size
      have hj0 : ¬ ((j : Int) + 1 = 0) := by omega
      obtain ⟨cb1, -⟩ : wr.cell? ⟨b, 0, none⟩ = some (.pointer (some ⟨A.p, 0, none⟩)) ∧ True := ⟨(HA.out.1.cell (o := 0) (blk_lt H.out.2.2.2.2.2.1) (fun x => by
        rcases x.1 with h1 | h1
        · exact Nat.lt_irrefl _ (Nat.lt_of_lt_of_le (blk_lt H.out.2.2.2.2.2.1) h1)
        · have h2 := HS.out.ar
          obtain ⟨_, _, _, h2⟩ := H.out.1.ar
          have h3 := H.out.2.2.2.2.2.1
          rw [h1] at h3
          have := h2.box.symm.trans h3
          simp at this)).trans cb, trivial⟩
      have HC := Lib.hid (fun w1 (hg : (wr.alloc (Obj.cells #[.int .i64 ((j : Int) + 1)] 3)).grownBy w1 (Value.slice ao z capv).ownBlock) => show Touch (fun i => W.heap.size ≤ i) wr w1 ∧ w1.cell? ⟨b, 0, none⟩ = some (.pointer (some ⟨A.p, 0, none⟩)) from by
        have hT : Touch (fun i => W.heap.size ≤ i) wr w1 := Touch.grown ((Touch.refl _ _).alloc _) hg (fun i hi => .inl (HO.out.lt i hi).1)
        exact ⟨hT, (hT.cell (cell_lt cb1) (fun x => Nat.not_le_of_lt (blk_lt H.out.2.2.2.2.2.1) x)).trans cb1⟩)
      clear hLL hz hjl HT3 cb cb' cb1
      gi_wp2_with (gi_at_builtin; go_loud (refine wpListIn_append_own_at _ rfl _ _ 46 rfl W.heap.size 3 i0 (.int .i64 0) 1 8 Tryz.underlying46 hi hz0 hz1 hz2 rfl (by decide) _ z _ rfl (HO.out.alloc _) ⟨wr.heap.size, 0, none⟩ 1 1 [.int .i64 ((j : Int) + 1)] rfl rfl (cell_one_new _ _ _) (by simp [Value.oneCell']) (by unfold maxLen; omega) (by omega) (by have := HW.out; simp; omega) ?_; intro v' w1 hown' hgrow _ hat; obtain ⟨hTw, cb2⟩ := HC.out _ hgrow; have HY := Lib.hid (And.intro hown' (And.intro hTw hat)); clear hown' hgrow hat hTw))
      have H1 := Lib.hid (H.out.1.fresh HS.out (Nat.le_refl _) HY.out.2.1)
      refine ⟨trivial, rfl, ?_⟩
      refine (callsIn_wide.2 (lists_next j H1.out HX.out.2.2.1 H.out.2.1)).mono ?_
      rintro e W2 ⟨rfl, hT2, h2⟩
      have H2 := Lib.hid (And.intro hT2 h2)
      clear hT2 h2
      obtain ⟨ao', cap', rfl⟩ := own_shape HY.out.1
      gi_wp2
      go_roundw
      case rel =>
        have hOp : ∀ j, W.heap.size ≤ j → ¬ O j := fun j hj ho => Nat.lt_irrefl _ (Nat.lt_of_lt_of_le (H.out.2.2.2.2.2.2.2 j ho) hj)
        have hTn : Touch (fun i => W.heap.size ≤ i ∨ i = A.pa) wr W2 := (HY.out.2.1.mono fun _ _ x => .inl x).trans (H2.out.1.mono fun _ _ x => .inr x)
        refine ⟨L1 ++ [j], L3, _, ?_, rfl, HX.out.2.2.2, HA.out.trans ⟨hTn.mono fun i _ hi => ⟨hi, fun ho => ?_⟩, fun _ _ _ => H2.out.2.ar⟩, H2.out.2, ?_⟩
        · rw [HX.out.1, List.append_assoc]; rfl
        · rcases hi with h1 | h1
          · exact hOp i h1 ho
          · exact H.out.2.2.2.2.2.2.1 (h1 ▸ ho)
        · have h1 : w1.ownsRow W.heap.size 3 1 (.slice ao' (z + 1) cap') (z + 1) ((adr L1).map (.int .i64) ++ [.int .i64 ((j : Int) + 1)]) := HY.out.1
          rw [List.length_append, HX.out.2.1]
          show W2.ownsRow _ _ _ _ (z + 1) ((adr (L1 ++ [j])).map (.int .i64))
          rw [show (adr (L1 ++ [j])).map (Value.int .i64) = (adr L1).map (.int .i64) ++ [.int .i64 ((j : Int) + 1)] by simp [adr]]
          refine owns_at h1 (fun i hi hl => H2.out.1.block i hl (fun e => ?_))
          have h3 := (h1.lt i hi).1
          have h4 := H.out.1.lt
          omega
      case measure =>
        show L.length - (z + 1) < L.length - z
        have h1 := HX.out.1
        have h2 : L.length = z + (L3.length + 1) := by rw [h1, List.length_append, HX.out.2.1]; rfl
        omega
end Go.Proofs.YtflhjbmoncbomaaGreatDoor
namespace Go.Proofs.YtflhjbmoncbomaaGreatDoor
open Go.RowKit Go.Shelf
attribute [local go_sem] Oper.semAt_some

variable {pa qa : Nat} {ws : List Int}
/-- Between two rounds. -/
def LlI (pa qa : Nat) (ws : List Int) (W : World) (n0 n1 : Nat) (most : Int) (pre : List Int) (O : Nat → Prop) (A : World) : Prop :=
  Touch (fun k => k = n1 ∨ k = pa) W A ∧ A.heap[n0]? = some (Obj.cells #[.int .i64 most] 3) ∧ (0 ≤ most → (pre.length : Int) ≤ most) ∧ (∃ v, LzRow W.heap.size (n1) pre v A ∧ ∀ j, O j ↔ (j = n1 ∨ v.ownBlock = some j)) ∧ ∃ ca lo st, ArenaAt A pa qa ca ws lo st
def LlX (pa qa : Nat) (ws : List Int) (W : World) (n1 : Nat) (ys : List Int) (most : Int) (c : Code) (_ : List Int) (O : Nat → Prop) (A : World) : Prop :=
  c = Code.exit 0 ∧ Touch (fun k => k = n1 ∨ k = pa) W A ∧ (∃ v, LzRow W.heap.size (n1) (ys.take most.toNat) v A ∧ ∀ j, O j ↔ (j = n1 ∨ v.ownBlock = some j)) ∧ ∃ ca lo st, ArenaAt A pa qa ca ws lo st
variable {W0 w : World} {A : LA} {c : Cf} {s : LS}
/-- Of lists that aren't there. -/
theorem lall_nil (b b' : Nat) (k : Int) (hb : w.heap[b]? = some (Obj.cells #[.pointer none] 98)) (hb' : w.heap[b']? = some (Obj.cells #[.int .i64 k] 3)) :
    Iter Tryz.prog 135 #[.pointer (some ⟨b, 0, none⟩), .pointer (some ⟨b', 0, none⟩)] (fun a : Int => #[.int .i64 a]) AbD (fun _ _ => True) [] (fun _ => False) w := by
  intro l J Jx W O hTo hJ hJx hY h0 hPr hO
  obtain ⟨cb, fb⟩ := box1 (blk_touch hb hTo (fun x => x))
  obtain ⟨cb', fb'⟩ := box1 (blk_touch hb' hTo (fun x => x))
  have H0 := Lib.hid (fun w' (ht : Touch nob W w') => hJ _ _ _ _ h0 (ht.mono fun _ _ x => x.elim))
  clear hTo hb hb' hJx hJ hY h0 hPr hO
  refine callsIn_of_wp Tryz.func135 rfl trivial ?_ rfl
  simp only [Tryz.ntmps135, List.size_toArray, List.length_cons, List.length_nil, Nat.reduceAdd, Nat.reduceSub, Array.replicate_succ, Array.replicate_zero, List.push_toArray, List.append_toArray, List.nil_append, List.cons_append]
  gi_wp2_with fail
  refine wpIn_wide.2 (wp_scope_straight ((wpIn_wide (n := 0)).1 ?_))
  gi_wp2_with fail
  refine ⟨trivial, rfl, ?_⟩
  refine (callsIn_wide.2 (lists_First_no k none (.inl rfl) W)).mono ?_
  rintro e W1 ⟨rfl, rfl⟩
  gi_wp2_with fail
  gi_loopw [4, 5] (fun v i wr => v = .slice none 0 0 ∧ i = .int .i64 0 ∧ Hid (Touch nob W wr)) (fun _ _ _ => 0)
  case atStart => exact ⟨rfl, rfl, Touch.refl _ _⟩
  case round =>
    obtain ⟨rfl, rfl, HT⟩ := hrel
    gi_wp2_with fail
    refine wpIn_label ?_
    gi_wp2_with fail
    gi_loopw [22] (fun i wr => i = .int .i64 0 ∧ Hid (Touch nob W wr)) (fun _ _ => 0)
    case atStart => exact ⟨rfl, HT⟩
    case round =>
      obtain ⟨rfl, HT2⟩ := hrel
      gi_wp2_with fail
      rw [Exit.noGoto_normal]
      go_end0
      exact ⟨⟨_, rfl⟩, O, .inl (H0.out _ HT2.out)⟩
end Go.Proofs.YtflhjbmoncbomaaGreatDoor
