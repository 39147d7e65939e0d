/- slices.Backward's iterator over ints, walked. Conditions: none. slices.Collect over an iterator of ints, walked. Conditions: none. The heap's lists of objects and of free slots, walked. Conditions: the tables of limits, of sizes and of de Bruijn's bits read as laid. A slot of a class in hand, walked. Conditions: the tables of limits and of sizes read as laid. -/
import Derived.Test.YtnobempbcdkoaaaGreatDoorLL
import Derived.Test.YtnobempbcdkoaaaGreatDoorHpB
namespace Go.Proofs.YtnobempbcdkoaaaGreatDoor
open Go.RowKit Go.Shelf
attribute [local go_sem] Oper.semAt_some

variable {w : World}
/-- What Backward hands over. -/
def backL (xs : List Int) : List (Int × Int) := (List.range xs.length).map fun (m : Nat) => (((xs.length : Int) - 1 - m), xs.getD (xs.length - 1 - m) 0)
theorem backL_len (xs : List Int) : (backL xs).length = xs.length := by unfold backL; simp
theorem backL_take {xs : List Int} {m : Nat} (h : m < xs.length) : (backL xs).take (m + 1) = (backL xs).take m ++ [(((xs.length : Int) - 1 - m), xs.getD (xs.length - 1 - m) 0)] := by
  rw [List.take_add_one]
  congr 1
  unfold backL
  rw [List.getElem?_map, List.getElem?_range h]
  rfl
theorem backL_snd (xs : List Int) : (backL xs).map Prod.snd = xs.reverse := by
  unfold backL
  rw [List.map_map]
  apply List.ext_getElem
  · simp
  · intro i h1 h2
    simp only [List.length_map, List.length_range] at h1
    simp only [List.getElem_map, List.getElem_range, Function.comp_apply, List.getElem_reverse]
    rw [List.getD_eq_getElem?_getD, List.getElem?_eq_getElem (by omega)]
    rfl
theorem slices_Back (w : World) (v : Value) (hv : ∃ ao n cap, v = .slice ao n cap) :
    Calls Tryz.prog 152 #[v] w fun e w' => ∃ b, e = .returned (.func (.func 174) #[] #[.pointer (some ⟨b, 0, none⟩)]) ∧ Touch nob w w' ∧ w.heap.size ≤ b ∧ w'.heap[b]? = some (Obj.cells #[v] 28) := by
  have hmf := hmkf
  obtain ⟨ao, n, cap, rfl⟩ := hv
  go_enter Tryz.func152, Tryz.ntmps152
  go_wp2
  go_ret
  exact ⟨w.heap.size, rfl, (Touch.refl nob w).alloc _, Nat.le_refl _, World.alloc_heap_new w _⟩
set_option maxRecDepth 20000 in
set_option maxHeartbeats 1600000 in
theorem back_iter (b : Nat) (v : Value) (xs : List Int) (hI : IntsIn w v xs) (hb : w.heap[b]? = some (Obj.cells #[v] 28)) (hl : xs.length ≤ 1048576) :
    Iter Tryz.prog 174 #[.pointer (some ⟨b, 0, none⟩)] (fun p : Int × Int => #[.int .i64 p.1, .int .i64 p.2]) AbD (fun _ _ => True) (backL xs) (fun k => k = b ∨ v.ownBlock = some k) w := by
  intro l J Jx W O hTo hJ hJx hY h0 hPr hO
  have hWI := hI.old hTo
  have hWb := blk_touch hb hTo (fun x => x)
  obtain ⟨ao, cap, rfl⟩ := hWI.shape
  obtain ⟨n, hn⟩ : ∃ n, xs.length = n := ⟨_, rfl⟩
  have hbl := backL_len xs
  have htk := fun m (hm : m < n) => backL_take (xs := xs) (m := m) (by omega)
  rw [hn] at hWI hWb hbl hl htk hPr
  clear hTo hI hb hJ hJx
  refine callsIn_of_wp Tryz.func174 rfl trivial ?_ rfl
  simp only [Tryz.ntmps174, List.size_toArray, List.length_cons, List.length_nil, Nat.reduceAdd, Nat.reduceSub, Array.replicate_succ, Array.replicate_zero, List.push_toArray, List.append_toArray, List.nil_append, List.cons_append]
  have cb := one_cell hWb
  have H0 : Hid (J [] O W) := h0
  have HI : Hid (IntsIn W (.slice ao n cap) xs ∧ W.heap[b]? = some (Obj.cells #[.slice ao n cap] 28) ∧ (∀ k, k = b ∨ (Value.slice ao n cap).ownBlock = some k → ¬ O k)) := ⟨hWI, hWb, hPr⟩
  have HN := Lib.hid (And.intro hn (And.intro hbl htk))
  clear hWI hWb hPr h0 hn hbl htk hO
  gi_wp2_with fail
  gi_loopw [3] (fun iv wr => ∃ (m : Nat) (O : Nat → Prop), m ≤ n ∧ iv = .int .i64 ((n : Int) - 1 - m) ∧ Hid (J ((backL xs).take m) O wr) ∧ Hid (IntsIn wr (.slice ao n cap) xs ∧ wr.heap[b]? = some (Obj.cells #[.slice ao n cap] 28) ∧ (∀ k, k = b ∨ (Value.slice ao n cap).ownBlock = some k → ¬ O k))) (fun iv _ => (intOf iv + 1).toNat)
  case atStart => exact ⟨0, O, Nat.zero_le _, by go_num, H0, HI⟩
  case round =>
    obtain ⟨m, O, hm, rfl, HJ, HI⟩ := hrel
    clear H0 cb
    by_cases hmn : m < n
    · have h1 : (n : Int) - 1 - m ≥ 0 := by omega
      obtain ⟨j, hj⟩ : ∃ j : Nat, (n : Int) - 1 - m = j := ⟨n - 1 - m, by omega⟩
      have hjn : j < n := by omega
      rw [hj] at h1
      obtain ⟨bl, ob, capx, hv, hcap, hcell⟩ := HI.out.1.at (k := j) (by rw [HN.out.1]; exact hjn)
      rw [HN.out.1] at hv hcap
      injection hv with hv1 hv2 hv3
      subst hv1 hv3
      clear hv2
      have hsn := HN.out.2.2 m hmn
      rw [hj, show n - 1 - m = j by omega] at hsn
      obtain ⟨x, hx⟩ : ∃ x, xs.getD j 0 = x := ⟨_, rfl⟩
      rw [hx] at hcell hsn
      have hpre : (backL xs).take m ++ [((j : Int), x)] <+: backL xs := by
        rw [← hsn]
        exact List.take_prefix _ _
      have cb := one_cell HI.out.2.1
      obtain ⟨fn, tmps, assign, body, hy, hR⟩ := hY ((backL xs).take m) ((j : Int), x) wr O HJ.out hpre
      have HR := Lib.hid hR
      have HP := Lib.hid (And.intro hpre (And.intro hsn hj))
      have HBL := Lib.hid (And.intro (cell_lt hcell) (blk_lt HI.out.2.1))
      rw [hj]
      clear hR hpre hsn hx hj
      gi_wp2_with fail
      refine ⟨rfl, HR.out.mono ?_⟩
      rintro e W' ⟨O', hT, hsub, (⟨rfl, hJ', _⟩ | ⟨rfl, hJx'⟩)⟩
      · have HJ' : Hid (J ((backL xs).take (m + 1)) O' W') := by show J _ _ _; rw [HP.out.2.1]; exact hJ'
        have HI' : Hid (IntsIn W' (.slice (some ⟨bl, ob, none⟩) n cap) xs ∧ W'.heap[b]? = some (Obj.cells #[.slice (some ⟨bl, ob, none⟩) n cap] 28) ∧ (∀ k, k = b ∨ (Value.slice (some ⟨bl, ob, none⟩) n cap).ownBlock = some k → ¬ O' k)) :=
          ⟨HI.out.1.touch hT (fun k hk => HI.out.2.2 k (.inr hk)), blk_touch HI.out.2.1 hT (HI.out.2.2 b (.inl rfl)), fun k hk ho => by
            have h2 := HBL.out
            rcases hsub k ho with h | h
            · exact HI.out.2.2 k hk h
            · rcases hk with hk | hk
              · omega
              · have : bl = k := by cases hk; rfl
                omega⟩
        have hjj : ((j : Int) - 1) = (n : Int) - 1 - ((m + 1 : Nat) : Int) := by have := HP.out.2.2; omega
        have HJJ := Lib.hid hjj
        clear hT hsub hJ' hcell cb hjj
        gi_wp2
        go_roundw
        case rel => exact ⟨m + 1, O', by omega, by rw [← HJJ.out], HJ', HI'⟩
        case measure => simp [intOf] <;> omega
      · have HJ' := Lib.hid hJx'
        clear hT hsub hJx' hcell cb
        gi_wp2
        refine bodyPost_ret (results_none rfl _ _ _) rfl ?_
        exact ⟨⟨_, rfl⟩, O', .inr ⟨_, HP.out.1, HJ'.out⟩⟩
    · obtain rfl : m = n := by omega
      have HJJ : Hid (J (backL xs) O wr) := by
        have := HJ.out
        rwa [List.take_of_length_le (by rw [HN.out.2.1]; exact Nat.le_refl _)] at this
      have h1 : ¬ ((m : Int) - 1 - m ≥ 0) := by omega
      clear hY
      gi_wp2_with fail
      go_end0
      exact ⟨⟨_, rfl⟩, O, .inl HJJ.out⟩
end Go.Proofs.YtnobempbcdkoaaaGreatDoor
namespace Go.Proofs.YtnobempbcdkoaaaGreatDoor
open Go.RowKit Go.Shelf
attribute [local go_sem] Oper.semAt_some

variable {pa qa : Nat} {ws : List Int}
/-- A row of ints of one's own. -/
def Ow (w : World) (B : Nat) (v : Value) (xs : List Int) : Prop := w.ownsRow B 3 1 v xs.length (xs.map (.int .i64))
theorem Ow.ints {w : World} {B : Nat} {v : Value} {xs : List Int} (h : Ow w B v xs) : IntsIn w v xs := ints_of_ownZ h
theorem Ow.new {w : World} {B : Nat} {v : Value} {xs : List Int} (h : Ow w B v xs) : ∀ g, v.ownBlock = some g → B ≤ g := fun g hg => (World.ownsRow.lt h g hg).1
theorem Ow.old {w : World} {B : Nat} {v : Value} {xs : List Int} (h : Ow w B v xs) : ∀ g, v.ownBlock = some g → g < w.heap.size := fun g hg => (World.ownsRow.lt h g hg).2
theorem Ow.base {w : World} {B B' : Nat} {v : Value} {xs : List Int} (h : Ow w B v xs) (hb : B' ≤ B) : Ow w B' v xs := by
  obtain ⟨h1, h2⟩ := h
  refine ⟨h1, ?_⟩
  rcases h2 with h2 | ⟨g, cap, cur, rfl, hg, r⟩
  · exact .inl h2
  · exact .inr ⟨g, cap, cur, rfl, Nat.le_trans hb hg, r⟩
theorem Ow.touch {w w' : World} {B : Nat} {v : Value} {xs : List Int} {T : Nat → Prop} (h : Ow w B v xs) (ht : Touch T w w') (hn : ∀ g, v.ownBlock = some g → ¬ T g) : Ow w' B v xs :=
  owns_at h (fun g hg hl => ht.block g hl (hn g hg))
theorem Ow.shape {w : World} {B : Nat} {v : Value} {xs : List Int} (h : Ow w B v xs) : (v = .slice none 0 0 ∧ xs = []) ∨ ∃ g cap, v = .slice (some ⟨g, 0, none⟩) xs.length cap := by
  obtain ⟨h1, h2⟩ := h
  rcases h2 with ⟨h2, h3⟩ | ⟨g, cap, cur, rfl, _⟩
  · exact .inl ⟨h2, List.length_eq_zero_iff.1 h3⟩
  · exact .inr ⟨g, cap, rfl⟩
/-- Between two rounds. -/
def CoI (pa qa : Nat) (ws : List Int) (W : World) (n1 : Nat) (pre : List Int) (O : Nat → Prop) (A : World) : Prop :=
  Touch (fun k => k = n1 ∨ k = pa) W A ∧ (∃ v, LzRow W.heap.size n1 pre v A ∧ ∀ j, O j ↔ (j = n1 ∨ v.ownBlock = some j)) ∧ ∃ ca lo st, ArenaAt A pa qa ca ws lo st
variable {w : World} {Pr : Nat → Prop}
set_option maxRecDepth 20000 in
set_option maxHeartbeats 2000000 in
theorem appendSeq_any (gf : Nat) (lb : Array Value) (eg : ∀ args w, (callFunc gf args).run Tryz.prog w = .ok (.enter gf args) w) (xs : List Int) (hx : xs.length ≤ 2097152) (hpq : pa < w.heap.size ∧ qa < w.heap.size) (har : ∃ ca lo st, ArenaAt w pa qa ca ws lo st)
    (hit : ∀ W, Touch nob w W → Iter Tryz.prog gf lb (fun a : Int => #[.int .i64 a]) (AbL pa qa ws) (fun _ _ => True) xs Pr W) (hPl : ∀ k, Pr k → k < w.heap.size) :
    Calls Tryz.prog 94 #[.slice none 0 0, .func (.func gf) #[] lb] w fun e w' => ∃ v, e = .returned v ∧ Touch (fun k => k = pa) w w' ∧ (∃ ca lo st, ArenaAt w' pa qa ca ws lo st) ∧ Ow w' w.heap.size v xs := by
  refine (callsIn_wide (n := 0)).1 (callsIn_of_wp_marks Tryz.func94 rfl trivial ?_ rfl)
  simp only [Tryz.ntmps94, List.size_toArray, List.length_cons, List.length_nil, Nat.reduceAdd, Nat.reduceSub, Array.replicate_succ, Array.replicate_zero, List.push_toArray, List.append_toArray, List.nil_append, List.cons_append]
  have HS := Lib.hid (And.intro hit (And.intro hpq (And.intro hx har)))
  have HP := Lib.hid hPl
  clear hit hpq hx har hPl
  gi_wp2_with fail
  obtain ⟨W2, hW2⟩ : ∃ W2, W2 = w.alloc (Obj.cells #[.slice none 0 0] 28) := ⟨_, rfl⟩
  obtain ⟨n1, hn1⟩ : ∃ n, n = w.heap.size := ⟨_, rfl⟩
  rw [← hW2, ← hn1]
  have hT2 : Touch nob w W2 := by rw [hW2]; (repeat (first | with_reducible exact Touch.refl _ _ | with_reducible assumption | with_reducible apply Touch.alloc | with_reducible apply Touch.drewN | with_reducible apply Touch.drew | with_reducible refine Touch.setCell ?_ (.inr (by first | omega | (simp; done) | (simp; omega))) _))
  have c1 : W2.heap[n1]? = some (Obj.cells #[.slice none 0 0] 28) := by rw [hW2, hn1]; exact World.alloc_heap_new w _
  have hs2 : W2.heap.size = n1 + 1 := by rw [hW2, hn1]; simp
  have hIt := HS.out.1 W2 hT2
  have H := Lib.hid (And.intro hn1 (And.intro hT2 (And.intro hIt (And.intro c1 (show n1 + 1 ≤ W2.heap.size by omega)))))
  clear hW2 hn1 hT2 c1 hs2 hIt
  obtain ⟨i0, hi, hz0, hz1, hz2⟩ := info_parts info_int2
  have hWs := H.out.2.2.2.2
  have HN : Hid ((pa < w.heap.size ∧ qa < w.heap.size) ∧ n1 = w.heap.size ∧ w.heap.size ≤ W2.heap.size) := ⟨HS.out.2.1, H.out.1, H.out.2.1.size⟩
  refine rf_law1 ?a1 (O₀ := fun k => k = n1) rfl eg H.out.2.2.1 (fun _ => rfl) abL_T abL_M abL_O (fun _ _ _ _ _ _ _ => trivial)
    (CoI pa qa ws W2 n1) (fun _ _ _ _ => False)
    (fun k hk => by
      have h1 := HP.out k hk
      have := HN.out
      exact ⟨by omega, by omega⟩)
    (fun k hk => by omega)
    (fun pre O A B ⟨h1, ⟨v, h4, h5⟩, h6⟩ hab => ⟨h1.step hab.1 (fun i hi => hi.1.elim (fun h => .inr h) (fun e => .inl (.inr e))), ⟨v, h4.keep (fun k hk hh => hab.1.block k hk (fun x => x.2 ((h5 k).2 hh))), h5⟩, hab.2 (by have := HN.out; omega) (by have := HN.out; omega) h6⟩)
    (fun _ _ _ _ _ h _ => h)
    ⟨Touch.refl _ _, ⟨.slice none 0 0, ⟨H.out.2.2.2.1, World.ownsRow_nil _ _ _ _⟩, fun j => by simp [Value.ownBlock]⟩, ?ar0⟩ ?assign ?body ?done ?stop
  case ar0 =>
    obtain ⟨ca, lo, st, h⟩ := HS.out.2.2.2
    exact ⟨ca, lo, st, h.touch H.out.2.1 (fun x => x) (fun x => x)⟩
  case assign =>
    intro l x A K hK
    gi_wp2
    exact hK
  case body =>
    rintro l pre x O A ⟨i1, ⟨v, i4, i5⟩, i7⟩ hpre
    obtain ⟨ao, capv, rfl⟩ := own_shape i4.2
    have hlen : pre.length ≤ 2097152 := by
      have h1 := hpre.length_le
      have h3 := HS.out.2.2.1
      rw [List.length_append] at h1
      omega
    obtain ⟨n, hn⟩ : ∃ n, pre.length = n := ⟨_, rfl⟩
    have c1 := one_cell i4.1
    have f1 := one_free i4.1
    rw [hn] at c1 hlen
    have hpq := HN.out
    have HAr := Lib.hid (fun A' (ht : Touch O A A') => show ∃ ca lo st, ArenaAt A' pa qa ca ws lo st from by
      obtain ⟨ca, lo, st, h⟩ := i7
      have hno : ∀ j, j < W2.heap.size → j ≠ n1 → ¬ O j := fun j h1 h2 ho => by
        rcases (i5 j).1 ho with h | h
        · exact h2 h
        · have := (i4.2.lt _ h).1
          omega
      exact ⟨ca, lo, st, h.touch ht (hno _ (by omega) (by omega)) (hno _ (by omega) (by omega))⟩)
    have HB := Lib.hid (And.intro i1 (And.intro i4 (And.intro i5 (And.intro hpre hn))))
    have HL := Lib.hid hlen
    clear i1 i4 i5 i7 hpre hn hlen hpq
    have HW := Lib.hid hWs
    have hown := HB.out.2.1.2
    rw [HB.out.2.2.2.2] at hown
    have HO := Lib.hid hown
    have hAs : W2.heap.size ≤ A.heap.size := HB.out.1.size
    have HA := Lib.hid hAs
    have HC1 : Hid ((A.alloc (Obj.cells #[.int .i64 x] 3)).heap[n1]? = some (Obj.cells #[.slice ao n capv] 28)) := by
      have := HB.out.2.1.1
      rw [HB.out.2.2.2.2] at this
      exact (Below.heap_alloc _ _ _ (blk_lt this)).trans this
    have HC2 : Hid ((Value.slice ao n capv).ownBlock ≠ some n1) := fun e => by
      have := (hown.lt n1 e).1
      omega
    clear hWs hown hAs
    gi_wp2_with (gi_at_builtin; go_loud (refine wpListIn_append_own_at _ rfl _ _ 28 rfl W2.heap.size 3 i0 (.int .i64 0) 1 8 Tryz.underlying28 hi hz0 hz1 hz2 rfl (by decide) _ n _ rfl (HO.out.alloc _) ⟨A.heap.size, 0, none⟩ 1 1 [.int .i64 x] rfl rfl (cell_one_new _ _ _) (by simp [Value.oneCell']) (by have := HL.out; unfold maxLen; omega) (by have := HL.out; omega) (by have := HA.out; simp; omega) ?_; intro v' w1 hown' hgrow _ hat; have HX := Lib.hid (And.intro hown' (And.intro hgrow hat)); have b1' := grown_box hgrow (HC1.out) HC2.out; have c1' := one_cell b1'; have f1' := one_free b1'; obtain ⟨g', cap', rfl⟩ := ownsRow_succ hown'; clear hown' hgrow hat b1'))
    obtain ⟨hown', hgrow, hat⟩ := HX.out
    have hat : some g' = (Value.slice ao n capv).ownBlock ∨ some g' = some (A.alloc (Obj.cells #[.int .i64 x] 3)).heap.size := hat
    obtain ⟨i1, i4, i5, hpre, hn⟩ := HB.out
    rw [hn] at i5
    have hb1 := grown_box hgrow HC1.out HC2.out
    have hA0 := HA.out
    have hW0 := HW.out
    have hglt : g' < (w1.setCell ⟨n1, 0, none⟩ (.slice (some ⟨g', 0, none⟩) (n + 1) cap')).heap.size := by
      have := (hown'.lt g' rfl).2
      simpa [World.setCell] using this
    have hsub : ∀ j, (j = n1 ∨ j = g') → O j ∨ (A.heap.size ≤ j ∧ j < (w1.setCell ⟨n1, 0, none⟩ (.slice (some ⟨g', 0, none⟩) (n + 1) cap')).heap.size) := by
      rintro j (rfl | hj)
      · exact .inl ((i5 _).2 (.inl rfl))
      · rw [hj]
        rcases hat with h | h
        · exact .inl ((i5 _).2 (.inr h.symm))
        · right
          have : g' = (A.alloc (Obj.cells #[.int .i64 x] 3)).heap.size := Option.some.inj h
          rw [World.size_alloc] at this
          exact ⟨by omega, hglt⟩
    have hgn : g' ≠ n1 := by
      have := (hown'.lt g' rfl).1
      omega
    have hTA : Touch O A (w1.setCell ⟨n1, 0, none⟩ (.slice (some ⟨g', 0, none⟩) (n + 1) cap')) :=
      (Touch.grown ((Touch.refl O A).alloc _) hgrow (fun k hk => .inl ((i5 k).2 (.inr hk)))).setCell (.inl ((i5 _).2 (.inl rfl))) _
    refine ⟨fun j => j = n1 ∨ j = g', hTA, hsub, trivial, ?_, ⟨.slice (some ⟨g', 0, none⟩) (n + 1) cap', ⟨?_, ?_⟩, fun j => by simp [Value.ownBlock, eq_comm]⟩, HAr.out _ hTA⟩
    · exact i1.step hTA (fun j hj => by
        rcases (i5 j).1 hj with h | h
        · exact .inl (.inl h)
        · exact .inr (HO.out.lt j h).1)
    · exact (set_one _ hb1).trans (by simp)
    · have h2 := hown'
      rw [show (pre ++ [x]).length = n + 1 by simp [hn], List.map_append]
      exact owns_at h2 (fun k hk _ => by cases hk; exact set_other _ hgn)
  case done =>
    rintro D O A hD hO ⟨i1, ⟨v, i4, i5⟩, i7⟩ hK
    obtain ⟨ao, capv, rfl⟩ := own_shape i4.2
    have c1 := one_cell i4.1
    have HAr := Lib.hid i7
    have HB := Lib.hid (And.intro i1 (And.intro i4.2 (And.intro hK (And.intro hD (fun h => hO ((i5 D).2 (.inr h)))))))
    clear i1 i4 i5 i7 hK hD hO
    gi_wp2
    have hpq := HS.out.2.1
    have hwn := H.out.1
    have hwW := H.out.2.1.size
    obtain ⟨i1, i4, hK, hD, hO⟩ := HB.out
    refine ⟨by simp, .inl ⟨_, _, rfl, run_takeDeferred hK, ?_⟩⟩
    refine ⟨.slice ao (xs).length capv, by simp [results, Tryz.f94, go_sem], _, rfl, ?_, ?_, ?_⟩
    · exact ((H.out.2.1.mono (S' := fun k => k = pa) fun _ _ x => x.elim).step i1 (fun i hi => hi.elim (fun e => .inr (by omega)) .inl)).putObj (.inr (by omega)) _
    · obtain ⟨ca, lo, st, h⟩ := HAr.out
      exact ⟨ca, lo, st, h.touch (S := fun k => k = D) ((Touch.refl (fun k => k = D) A).putObj (.inl rfl) _) (by omega) (by omega)⟩
    · have h1 : Ow A W2.heap.size (.slice ao xs.length capv) xs := i4
      exact (h1.touch (T := fun k => k = D) ((Touch.refl (fun k => k = D) A).putObj (.inl rfl) _) (fun b hb e => hO (by rw [← e]; exact hb))).base (by omega)
  case stop =>
    rintro D c pre O A hD hO hpre h hK
    exact h.elim
theorem collect_any (gf : Nat) (lb : Array Value) (eg : ∀ args w, (callFunc gf args).run Tryz.prog w = .ok (.enter gf args) w) (xs : List Int) (hx : xs.length ≤ 2097152) (hpq : pa < w.heap.size ∧ qa < w.heap.size) (har : ∃ ca lo st, ArenaAt w pa qa ca ws lo st)
    (hit : ∀ W, Touch nob w W → Iter Tryz.prog gf lb (fun a : Int => #[.int .i64 a]) (AbL pa qa ws) (fun _ _ => True) xs Pr W) (hPl : ∀ k, Pr k → k < w.heap.size) :
    Calls Tryz.prog 51 #[.func (.func gf) #[] lb] w fun e w' => ∃ v, e = .returned v ∧ Touch (fun k => k = pa) w w' ∧ (∃ ca lo st, ArenaAt w' pa qa ca ws lo st) ∧ Ow w' w.heap.size v xs := by
  have H := Lib.hid (appendSeq_any gf lb eg xs hx hpq har hit hPl)
  clear hit hpq hx har eg hPl
  go_enter Tryz.func51, Tryz.ntmps51
  go_wp2_with (go_at_call 94; fail)
  refine H.out.mono ?_
  rintro e w1 ⟨v, rfl, g1, g2, g3⟩
  obtain ⟨ao, cap, rfl⟩ := g3.ints.shape
  have G := Lib.hid (And.intro g1 (And.intro g2 g3))
  clear g1 g2 g3
  go_wp2
  go_ret
  exact ⟨_, rfl, G.out⟩
/-- An iterator of numbers, that turns nothing of others, as one of ints. -/
theorem Iter.ints {P : Nat → Prop} {g : Nat} {lb : Array Value} {xs : List Nat} (h : Iter Tryz.prog g lb (fun x : Nat => #[.int .i64 x]) AbD (fun _ _ => True) xs P w) (P' : Nat → Prop) (hP : ∀ b, P b → P' b) :
    Iter Tryz.prog g lb (fun a : Int => #[.int .i64 a]) (AbL pa qa ws) (fun _ _ => True) (xs.map fun (x : Nat) => (x : Int)) P' w := by
  intro l J Jx W O hT hJ hJx hY h0 hPr hO
  refine (h l (fun pre => J (pre.map fun (x : Nat) => (x : Int))) (fun pre => Jx (pre.map fun (x : Nat) => (x : Int))) W O hT (fun pre O A B h hab => hJ _ _ _ _ h (abL_T _ _ _ _ hab)) (fun pre O A B h hab => hJx _ _ _ _ h (abL_T _ _ _ _ hab)) (fun pre x W1 O hj hp => ?_) h0 (fun b hb => hPr b (hP b hb)) hO).mono ?_
  · have h1 := hY (pre.map fun (x : Nat) => (x : Int)) (x : Int) W1 O hj (by have := hp.map (fun (x : Nat) => (x : Int)); simpa using this)
    simpa only [List.map_append, List.map_cons, List.map_nil] using h1
  · rintro e w' ⟨hv, O', hh⟩
    refine ⟨hv, O', ?_⟩
    rcases hh with hh | ⟨pre, hp, hh⟩
    · exact .inl hh
    · exact .inr ⟨_, hp.map _, hh⟩
end Go.Proofs.YtnobempbcdkoaaaGreatDoor
namespace Go.Proofs.YtnobempbcdkoaaaGreatDoor
open Go.RowKit

variable {W w w' : World} {A : HA} {c : Cf} {S : HS} {H : Nat → List Nat}
/-- The objects' addresses, rising. -/
def HS.objs (S : HS) : List Int := (elems S.B (S.s.ws.length + 1)).map fun (x : Nat) => (x : Int)
theorem elems_le (M : Nat → Bool) (n : Nat) : (elems M n).length ≤ n := by
  unfold elems
  exact Nat.le_trans (List.length_filter_le _ _) (by simp)
theorem HpAt.ars (h : HpAt W w A c S) : ∃ ca lo st, ArenaAt w A.L.pa A.L.qa ca S.s.ws lo st := h.ls.ar
theorem HpI.loaded (h : HpI W w A c S H) {w' : World} (hT : Touch (fun k => k = A.L.pa) w w') (ha : ∃ ca lo st, ArenaAt w' A.L.pa A.L.qa ca S.s.ws lo st) : Touch (HT A) w w' ∧ HpI W w' A c S H := by
  obtain ⟨ca, lo, st, ha⟩ := ha
  exact ⟨hT.mono fun _ _ e => by rw [e]; exact all_at (A := A) 7, h.at'.listsL (hT.mono fun _ _ e => .inr (.inl e)) (h.at'.ls.loaded hT ha) rfl, h.inv, h.laid⟩
theorem hp_Objects (h : HpI W w A c S H) (hT : Tab w) :
    Calls Tryz.prog 19 #[.pointer (some ⟨A.h, 0, none⟩)] w fun e w' => ∃ v, e = .returned v ∧ Touch (HT A) w w' ∧ HpI W w' A c S H ∧ Ow w' w.heap.size v S.objs := by
  obtain ⟨cx, -, -, -, d3, -, -, -⟩ := h.at'.cells
  have hlen := HS.len_le h.at'
  obtain ⟨cb, wb, hs⟩ := h.at'.bo
  have hpq : A.L.pa < w.heap.size ∧ A.L.qa < w.heap.size := ⟨h.at'.lt _ (all_at (A := A) 7), h.at'.lt _ (all_at (A := A) 8)⟩
  have HH := Lib.hid (And.intro h (And.intro hT (And.intro hs (And.intro hlen hpq))))
  clear h hT hs hlen hpq
  go_enter Tryz.func19, Tryz.ntmps19
  go_wp2_with (go_at_call 53; fail)
  refine (set_All w _).mono ?_
  rintro e w1 ⟨b, rfl, hT1, hb, hbx⟩
  have H1 := Lib.hid (And.intro hT1 (And.intro hb hbx))
  clear hT1 hb hbx
  go_wp2_with (go_at_call 51; fail)
  refine (collect_any (pa := A.L.pa) (qa := A.L.qa) (ws := S.s.ws) (Pr := fun k => k = 0) 100 _ (enters_of Tryz.func100 (by kernel_rfl) rfl) S.objs ?_ ?_ ?_ ?_ ?_).mono ?_
  · have h1 := elems_le S.B (S.s.ws.length + 1)
    have h2 := HH.out.2.2.2.1
    unfold HS.objs
    rw [List.length_map]
    omega
  · have h1 := HH.out.2.2.2.2
    have h2 := H1.out.1.size
    omega
  · obtain ⟨ca, lo, st, ha⟩ := HH.out.1.at'.ars
    exact ⟨ca, lo, st, ha.touch H1.out.1 (fun x => x) (fun x => x)⟩
  · intro W' hW'
    have ht := H1.out.1.trans hW'
    exact (all1_iter b (HH.out.2.2.1.touch ht (fun x => x) (fun x => x)) (HH.out.2.1.touch ht (fun x => x)) (blk_touch H1.out.2.2 hW' (fun x => x))).ints _ (fun _ h => h)
  · rintro k rfl
    exact Nat.lt_of_lt_of_le HH.out.2.1.lt H1.out.1.size
  rintro e w2 ⟨v, rfl, hT2, ha, hI⟩
  obtain ⟨ao, cap, rfl⟩ := hI.ints.shape
  have h2 := (HH.out.1.old H1.out.1).loaded hT2 ha
  have H2 := Lib.hid (And.intro (H1.out.1.hnob.trans h2.1) (And.intro h2.2 (hI.base H1.out.1.size)))
  clear hT2 ha hI h2
  go_wp2
  go_ret
  exact ⟨_, rfl, H2.out⟩
end Go.Proofs.YtnobempbcdkoaaaGreatDoor
namespace Go.Proofs.YtnobempbcdkoaaaGreatDoor
open Go.RowKit Go.Shelf
attribute [local go_sem] Oper.semAt_some

variable {W w w' : World} {A : HA} {c : Cf} {S : HS} {H : Nat → List Nat}
/-- Slots are put, one behind the other. -/
def pfold (c : Cf) : List Int → HS → (Nat → List Nat) → HS × (Nat → List Nat)
  | [], S, H => (S, H)
  | a :: l, S, H => pfold c l (S.putS c a) (putH S c H a)
theorem pfold_snoc (c : Cf) (a : Int) : ∀ (l : List Int) (S : HS) (H : Nat → List Nat), pfold c (l ++ [a]) S H = ((pfold c l S H).1.putS c a, putH (pfold c l S H).1 c (pfold c l S H).2 a)
  | [], _, _ => rfl
  | _ :: l, _, _ => pfold_snoc c a l _ _
theorem IntsIn.shape' {w : World} {v : Value} {xs : List Int} (h : IntsIn w v xs) : ∃ ao n cap, v = .slice ao n cap := by
  obtain ⟨ao, cap, rfl, _⟩ := h
  exact ⟨ao, _, cap, rfl⟩
theorem HpI.touch {T : Nat → Prop} (h : HpI W w A c S H) (hb : Touch nob W w') (ht : Touch T w w') (hn : ∀ b ∈ A.all, ¬ T b) : HpI W w' A c S H := ⟨h.at'.touch hb ht hn, h.inv, h.laid⟩
/-- Between two rounds. -/
structure SltI (W : World) (A : HA) (c : Cf) (S1 : HS) (H : Nat → List Nat) (W2 : World) (pre : List (Int × Int)) (O : Nat → Prop) (A' : World) : Prop where
  o : ∀ b, O b ↔ HT A b
  t : Touch (HT A) W2 A'
  i : HpI W A' A c (pfold c (pre.map Prod.snd) S1 H).1 (pfold c (pre.map Prod.snd) S1 H).2
theorem SltI.abd {W2 A' B : World} {pre : List (Int × Int)} {O : Nat → Prop} (h : SltI W A c S H W2 pre O A') (hs : W.heap.size ≤ W2.heap.size) (hab : AbD W2.heap.size O A' B) : SltI W A c S H W2 pre O B :=
  ⟨h.o, h.t.step hab (fun _ x => .inr x.1), h.i.touch (h.i.at'.base.step hab (fun _ x => .inr (Nat.le_trans hs x.1))) hab (fun b hb x => x.2 ((h.o b).2 hb))⟩
set_option maxHeartbeats 1600000 in
theorem hp_slot_new (k : Nat) (h : HpI W w A c S H) (hk : k < 4) (hL : H k = []) (hf : S.s.ks.length < A.L.n) :
    Calls Tryz.prog 123 #[.pointer (some ⟨A.h, 0, none⟩), .int .i64 k] w fun e w' => e = .returned (.tuple #[.int .i64 ((sl c k S.s.ks.length).getD 0 0), .int .i64 0]) ∧ Touch (HT A) w w' ∧ HpI W w' A c (pfold c (sl c k S.s.ks.length).tail.reverse { S with s := { S.s with ks := S.s.ks ++ [(k : Int)] } } H).1 (pfold c (sl c k S.s.ks.length).tail.reverse { S with s := { S.s with ks := S.s.ks ++ [(k : Int)] } } H).2 := by
  have hlen : 1 ≤ (sl c k S.s.ks.length).length ∧ (sl c k S.s.ks.length).length ≤ 128 := by
    obtain ⟨ct, hb⟩ := h.at'.ls.tb
    refine ⟨?_, sl_le⟩
    have hc := h.inv.ok
    have u := c1_bd hc
    have hkc := isCls_nat hk
    rw [sl_len hc hkc (by omega) (by have := hb.hn; omega)]
    obtain ⟨p0, p1, p2, p3⟩ := per_facts c.c1 k hkc u.1 u.2
    omega
  have hasg := fun w1 (h1 : HpI W w1 A c S H) => hp_Assign_ok k h1 hk hf
  obtain ⟨x0, rest, hxs⟩ : ∃ x0 rest, sl c k S.s.ks.length = x0 :: rest := by
    cases hs : sl c k S.s.ks.length with
    | nil => rw [hs] at hlen; simp at hlen
    | cons x0 rest => exact ⟨x0, rest, rfl⟩
  rw [hxs] at hlen hasg ⊢
  rw [List.getD_cons_zero, List.tail_cons]
  obtain ⟨S1, hS1⟩ : ∃ S1, { S with s := { S.s with ks := S.s.ks ++ [(k : Int)] } } = S1 := ⟨_, rfl⟩
  rw [hS1] at hasg ⊢
  obtain ⟨n, hn⟩ : ∃ n, rest.length = n := ⟨_, rfl⟩
  have hn1 : n ≤ 127 := by rw [List.length_cons] at hlen; omega
  refine (callsIn_wide (n := 0)).1 (callsIn_of_wp_marks Tryz.func123 rfl trivial ?_ rfl)
  simp only [Tryz.ntmps123, List.size_toArray, List.length_cons, List.length_nil, Nat.reduceAdd, Nat.reduceSub, Array.replicate_succ, Array.replicate_zero, List.push_toArray, List.append_toArray, List.nil_append, List.cons_append]
  have hmf := hmkf
  have HH := Lib.hid (And.intro h (And.intro hk (And.intro hL (And.intro hasg hn))))
  clear h hk hL hf hlen hxs hS1 hasg hn
  gi_wp2_with fail
  obtain ⟨W0, hW0⟩ : ∃ W0, W0 = w.alloc (Obj.cells #[.pointer (some ⟨A.h, 0, none⟩)] 31) := ⟨_, rfl⟩
  obtain ⟨b0, hb0⟩ : ∃ b, b = w.heap.size := ⟨_, rfl⟩
  rw [← hW0, ← hb0]
  have hT0 : Touch nob w W0 := by rw [hW0]; (repeat (first | with_reducible exact Touch.refl _ _ | with_reducible assumption | with_reducible apply Touch.alloc | with_reducible apply Touch.drewN | with_reducible apply Touch.drew | with_reducible refine Touch.setCell ?_ (.inr (by first | omega | (simp; done) | (simp; omega))) _))
  have hB0 : Bx W0 A b0 (.pointer (some ⟨A.h, 0, none⟩)) 31 := ⟨by rw [hW0, hb0]; exact World.alloc_heap_new w _, by rw [hb0]; exact HH.out.1.at'.aside (Nat.le_refl _)⟩
  have H0 := Lib.hid (And.intro hT0 (And.intro hB0 (And.intro (HH.out.1.old hT0) (show w.heap.size ≤ b0 by omega))))
  clear hW0 hb0 hT0 hB0
  refine ⟨trivial, rfl, ?_⟩
  refine (callsIn_wide.2 (hp_Take_none k H0.out.2.2.1 HH.out.2.1 HH.out.2.2.1)).mono ?_
  rintro e W1 ⟨rfl, rfl⟩
  have cb0 := H0.out.2.1.cell
  gi_wp2_with fail
  refine ⟨trivial, rfl, ?_⟩
  refine (callsIn_wide.2 (HH.out.2.2.2.1 _ H0.out.2.2.1)).mono ?_
  rintro e W1 ⟨v, rfl, hT1, h1, hI, hg⟩
  have hn := HH.out.2.2.2.2
  obtain ⟨g, o, cap, rfl, hcap, hcell⟩ : ∃ g o cap, v = .slice (some ⟨g, o, none⟩) (n + 1) cap ∧ n + 1 ≤ cap ∧ ∀ j, j < n + 1 → W1.cell? ⟨g, o + j, none⟩ = some (.int .i64 ((x0 :: rest).getD j 0)) := by
    obtain ⟨ao, cap, rfl, h | ⟨b, o, rfl, hc, hcl⟩⟩ := hI
    · simp at h
    · rw [List.length_cons, hn] at hc hcl ⊢
      exact ⟨b, o, cap, rfl, hc, hcl⟩
  have hg0 : W0.heap.size ≤ g := hg g rfl
  have hgl := cell_lt (hcell 0 (by omega))
  have hgA : g ∉ A.all := H0.out.2.2.1.at'.aside hg0
  have hIr : (cap = 1 → IntsIn W1 (.slice (some ⟨g, o, none⟩) n 0) rest) ∧ IntsIn W1 (.slice (some ⟨g, o + 1, none⟩) n (cap - 1)) rest := by
    refine ⟨fun h => ⟨_, 0, by rw [hn], .inl (List.length_eq_zero_iff.1 (by omega))⟩, ⟨_, cap - 1, by rw [hn], .inr ⟨g, o + 1, rfl, by omega, fun j hj => ?_⟩⟩⟩
    have := hcell (j + 1) (by omega)
    rw [show o + (j + 1) = o + 1 + j by omega] at this
    exact this
  have hc0 : W1.cell? ⟨g, o, none⟩ = some (.int .i64 x0) := hcell 0 (by omega)
  have H1 := Lib.hid (And.intro hT1 (And.intro h1 (And.intro (H0.out.2.1.touch hT1 H0.out.2.1.no) (And.intro hgl (And.intro hgA (And.intro hIr (And.intro hc0 hn)))))))
  clear hT1 h1 hI hg hcell hg0 hgl hgA hIr hc0 hn cb0
  have hc1 : (1 : Int) ≤ (n : Int) + 1 := by omega
  gi_wp2_with fail
  all_goals
    first | have HIr := Lib.hid (H1.out.2.2.2.2.2.1.1 ‹cap = 1›) | have HIr := Lib.hid H1.out.2.2.2.2.2.1.2
    refine ⟨trivial, rfl, ?_⟩
    refine (callsIn_wide.2 (slices_Back W1 _ HIr.out.shape')).mono ?_
    rintro e W2 ⟨b2, rfl, hT2, hb2, hbx2⟩
    have hww := hT2.size
    have H2 := Lib.hid (And.intro hT2 (And.intro hb2 (And.intro hbx2 (And.intro (HIr.out.old hT2) (And.intro (H1.out.2.1.old hT2) (And.intro (H1.out.2.2.1.touch hT2 (fun x => x)) ((hT2.cell (cell_lt H1.out.2.2.2.2.2.2.1) (fun x => x)).trans H1.out.2.2.2.2.2.2.1)))))))
    clear hT2 hb2 hbx2 hww
    gi_wp2_with fail
    have hbi := back_iter b2 _ rest H2.out.2.2.2.1 H2.out.2.2.1 (by have := H1.out.2.2.2.2.2.2.2; omega)
    have HBi := Lib.hid hbi
    clear hbi
    have HN : Hid (b2 ∉ A.all ∧ W.heap.size ≤ W2.heap.size ∧ ∀ b ∈ A.all, b < W2.heap.size) := ⟨H1.out.2.1.at'.aside H2.out.2.1, H2.out.2.2.2.2.1.at'.base.size, H2.out.2.2.2.2.1.at'.lt⟩
    refine rf_law1 ?_ (O₀ := HT A) rfl (enters_of Tryz.func174 (by kernel_rfl) rfl) HBi.out (fun _ => rfl) abD_T abD_M abD_O (fun _ _ _ _ _ _ _ => trivial)
      (SltI W A c S1 H W2) (fun _ _ _ _ => False)
      (fun k hk => by
        rcases hk with rfl | hk
        · exact ⟨blk_lt H2.out.2.2.1, HN.out.1⟩
        · have hk : g = k := by cases hk; rfl
          subst hk
          exact ⟨Nat.lt_of_lt_of_le H1.out.2.2.2.1 H2.out.1.size, H1.out.2.2.2.2.1⟩)
      (fun k hk => HN.out.2.2 k hk)
      (fun pre O A' B h hab => h.abd HN.out.2.1 hab)
      (fun _ _ _ _ _ h _ => h)
      ⟨fun _ => Iff.rfl, Touch.refl _ _, H2.out.2.2.2.2.1⟩ ?assign ?body ?done ?stop
    case assign =>
      intro l x A' K hK
      gi_wp2
      exact hK
    case body =>
      rintro l pre ⟨i, a⟩ O A' hi hpre
      have cb := (H2.out.2.2.2.2.2.1.touch hi.t H2.out.2.2.2.2.2.1.no).cell
      have HI := Lib.hid hi
      clear hi hpre
      gi_wp2_with fail
      refine ⟨trivial, rfl, ?_⟩
      refine (CallsIn.inRound l (callsIn_wide.2 (hp_Put a HI.out.i))).mono ?_
      rintro e W3 ⟨rfl, hT3, h3⟩
      have H3 := Lib.hid (And.intro hT3 h3)
      clear hT3 h3 cb
      gi_wp2_with fail
      refine ⟨O, H3.out.1.mono (fun b _ hb => (HI.out.o b).2 hb), fun _ h => .inl h, trivial, HI.out.o, HI.out.t.trans H3.out.1, ?_⟩
      rw [List.map_append, List.map_cons, List.map_nil, pfold_snoc]
      exact H3.out.2
    case done =>
      rintro D O A' hD hO hi hK
      have cc := (hi.t.cell (cell_lt H2.out.2.2.2.2.2.2) (fun h => H1.out.2.2.2.2.1 h)).trans H2.out.2.2.2.2.2.2
      have HI := Lib.hid (And.intro hi (And.intro hK (And.intro hD hO)))
      clear hi hK hD hO
      gi_wp2
      obtain ⟨hi, hK, hD, hO⟩ := HI.out
      have hw := Nat.le_trans (Nat.le_trans H0.out.1.size H1.out.1.size) H2.out.1.size
      refine ⟨by simp, .inl ⟨_, _, rfl, run_takeDeferred hK, ?_⟩⟩
      refine ⟨.tuple #[.int .i64 x0, .int .i64 0], by simp [results, Tryz.f123, go_sem], rfl, ?_, ?_⟩
      · exact (((H0.out.1.hnob.trans H1.out.1).trans H2.out.1.hnob).trans hi.t).putObj (.inr (Nat.le_trans hw hD)) _
      · have h1 := hi.i.touch (T := fun k => k = D) (w' := A'.putObj D (.deferred none)) (hi.i.at'.base.putObj (.inr (Nat.le_trans HN.out.2.1 hD)) _) (Touch.putObj (S := fun k => k = D) (Touch.refl _ _) (.inl rfl) _) (fun b hb e => by
          have := HN.out.2.2 b hb
          omega)
        rw [backL_snd] at h1
        exact h1
    case stop =>
      rintro D c pre O A hD hO hpre h hK
      exact h.elim
-- slot, whatever is asked
def sloE (S : HS) (H : Nat → List Nat) (n : Nat) (k : Int) : Int := if takE H k = 12 then S.asgE n k else takE H k
def sloV (S : HS) (H : Nat → List Nat) (c : Cf) (n : Nat) (k : Int) : Int := if takE H k = 12 then (if S.asgE n k = 0 then (sl c k S.s.ks.length).getD 0 0 else 0) else takV H k
def sloP (S : HS) (H : Nat → List Nat) (c : Cf) (n : Nat) (k : Int) : HS × (Nat → List Nat) := if takE H k = 12 then (if S.asgE n k = 0 then pfold c (sl c k S.s.ks.length).tail.reverse (S.asgS n k) H else (S, H)) else (S.takS H k, takH H k)
theorem hp_slot (k : Nat) (h : HpI W w A c S H) (hk : k < 4) :
    Calls Tryz.prog 123 #[.pointer (some ⟨A.h, 0, none⟩), .int .i64 k] w fun e w' => e = .returned (.tuple #[.int .i64 (sloV S H c A.L.n k), .int .i64 (sloE S H A.L.n k)]) ∧ Touch (HT A) w w' ∧ HpI W w' A c (sloP S H c A.L.n k).1 (sloP S H c A.L.n k).2 := by
  have hkc := isCls_nat hk
  unfold sloV sloE sloP
  have e2 : takE H (k : Int) = if H k = [] then 12 else 0 := by unfold takE; rw [if_pos hkc, Int.toNat_natCast]
  by_cases hL : H k = []
  · rw [if_pos hL] at e2
    rw [e2]
    simp only [if_true]
    by_cases hf : S.s.ks.length < A.L.n
    · have e1 : S.asgE A.L.n (k : Int) = 0 := by unfold HS.asgE; rw [if_pos hkc, if_pos hf]
      have e3 : S.asgS A.L.n (k : Int) = { S with s := { S.s with ks := S.s.ks ++ [(k : Int)] } } := by unfold HS.asgS; rw [if_pos e1]
      rw [e1, e3]
      simp only [if_true]
      exact hp_slot_new k h hk hL hf
    · have e1 : S.asgE A.L.n (k : Int) = 10 := by unfold HS.asgE; rw [if_pos hkc, if_neg hf]
      rw [e1]
      simp only [show ¬ ((10 : Int) = 0) by decide, if_false]
      have hfull : S.s.ks.length = A.L.n := by
        obtain ⟨ct, hb⟩ := h.at'.ls.tb
        have := hb.le
        omega
      refine (callsIn_wide (n := 0)).1 (callsIn_of_wp_marks Tryz.func123 rfl trivial ?_ rfl)
      simp only [Tryz.ntmps123, List.size_toArray, List.length_cons, List.length_nil, Nat.reduceAdd, Nat.reduceSub, Array.replicate_succ, Array.replicate_zero, List.push_toArray, List.append_toArray, List.nil_append, List.cons_append]
      have HH := Lib.hid (And.intro h (And.intro hk (And.intro hL hfull)))
      clear h hk hL hf hfull hkc e1 e2
      gi_wp2_with fail
      obtain ⟨W0, hW0⟩ : ∃ W0, W0 = w.alloc (Obj.cells #[.pointer (some ⟨A.h, 0, none⟩)] 31) := ⟨_, rfl⟩
      obtain ⟨b0, hb0⟩ : ∃ b, b = w.heap.size := ⟨_, rfl⟩
      rw [← hW0, ← hb0]
      have hT0 : Touch nob w W0 := by rw [hW0]; (repeat (first | with_reducible exact Touch.refl _ _ | with_reducible assumption | with_reducible apply Touch.alloc | with_reducible apply Touch.drewN | with_reducible apply Touch.drew | with_reducible refine Touch.setCell ?_ (.inr (by first | omega | (simp; done) | (simp; omega))) _))
      have hB0 : Bx W0 A b0 (.pointer (some ⟨A.h, 0, none⟩)) 31 := ⟨by rw [hW0, hb0]; exact World.alloc_heap_new w _, by rw [hb0]; exact HH.out.1.at'.aside (Nat.le_refl _)⟩
      have H0 := Lib.hid (And.intro hT0 (And.intro hB0 (HH.out.1.old hT0)))
      clear hW0 hb0 hT0 hB0
      refine ⟨trivial, rfl, ?_⟩
      refine (callsIn_wide.2 (hp_Take_none k H0.out.2.2 HH.out.2.1 HH.out.2.2.1)).mono ?_
      rintro e W1 ⟨rfl, rfl⟩
      have cb0 := H0.out.2.1.cell
      gi_wp2_with fail
      refine ⟨trivial, rfl, ?_⟩
      refine (callsIn_wide.2 (hp_Assign_full k H0.out.2.2 HH.out.2.1 HH.out.2.2.2)).mono ?_
      rintro e W1 ⟨rfl, hT1⟩
      have H1 := Lib.hid hT1
      clear hT1
      gi_wp2
      exact ⟨.tuple #[.int .i64 0, .int .i64 10], by simp [results, Tryz.f123, go_sem], rfl, (H0.out.1.trans H1.out).hnob, H0.out.2.2.old H1.out⟩
  · rw [if_neg hL] at e2
    rw [e2]
    simp only [show ¬ ((0 : Int) = 12) by decide, if_false]
    have htk := fun w1 (h1 : HpI W w1 A c S H) => hp_Take (k : Int) h1
    rw [e2] at htk
    obtain ⟨V, hV⟩ : ∃ V, takV H (k : Int) = V := ⟨_, rfl⟩
    obtain ⟨S', hS'⟩ : ∃ S', S.takS H (k : Int) = S' := ⟨_, rfl⟩
    rw [hV, hS'] at htk
    rw [hV, hS']
    refine (callsIn_wide (n := 0)).1 (callsIn_of_wp_marks Tryz.func123 rfl trivial ?_ rfl)
    simp only [Tryz.ntmps123, List.size_toArray, List.length_cons, List.length_nil, Nat.reduceAdd, Nat.reduceSub, Array.replicate_succ, Array.replicate_zero, List.push_toArray, List.append_toArray, List.nil_append, List.cons_append]
    have HH := Lib.hid (And.intro h htk)
    clear h hk hL hkc e2 htk hV hS'
    gi_wp2_with fail
    obtain ⟨W0, hW0⟩ : ∃ W0, W0 = w.alloc (Obj.cells #[.pointer (some ⟨A.h, 0, none⟩)] 31) := ⟨_, rfl⟩
    rw [← hW0]
    have hT0 : Touch nob w W0 := by rw [hW0]; (repeat (first | with_reducible exact Touch.refl _ _ | with_reducible assumption | with_reducible apply Touch.alloc | with_reducible apply Touch.drewN | with_reducible apply Touch.drew | with_reducible refine Touch.setCell ?_ (.inr (by first | omega | (simp; done) | (simp; omega))) _))
    have H0 := Lib.hid (And.intro hT0 (HH.out.1.old hT0))
    clear hW0 hT0
    refine ⟨trivial, rfl, ?_⟩
    refine (callsIn_wide.2 (HH.out.2 _ H0.out.2)).mono ?_
    rintro e W1 ⟨rfl, hT1, h1⟩
    have H1 := Lib.hid (And.intro (H0.out.1.hnob.trans hT1) h1)
    clear hT1 h1
    gi_wp2
    exact ⟨.tuple #[.int .i64 V, .int .i64 0], by simp [results, Tryz.f123, go_sem], rfl, H1.out⟩
end Go.Proofs.YtnobempbcdkoaaaGreatDoor
namespace Go.Proofs.YtnobempbcdkoaaaGreatDoor
open Go.RowKit

variable {S : HS}
theorem sub_len : ∀ (l1 l2 : List Int), l1.Nodup → (∀ x ∈ l1, x ∈ l2) → l1.length ≤ l2.length
  | [], _, _, _ => Nat.zero_le _
  | x :: t, l2, hn, hs => by
    obtain ⟨h1, h2⟩ := List.nodup_cons.1 hn
    have hx := hs x (List.mem_cons_self ..)
    have := sub_len t (l2.erase x) h2 (fun y hy => (List.mem_erase_of_ne (fun e => by subst e; exact h1 hy)).2 (hs y (List.mem_cons_of_mem _ hy)))
    rw [List.length_erase_of_mem hx] at this
    have hp : 0 < l2.length := List.length_pos_of_mem hx
    simp only [List.length_cons]
    omega
theorem mem_objs {a : Int} : a ∈ S.objs ↔ S.obj a = true := by
  unfold HS.objs HS.obj hasB
  rw [List.mem_map]
  constructor
  · rintro ⟨x, hx, rfl⟩
    obtain ⟨h1, h2⟩ := mem_elems.1 hx
    unfold mayB
    rw [decide_eq_true (show (0 : Int) ≤ (x : Int) by omega), decide_eq_true (show (x : Int) < ((S.s.ws.length + 1 : Nat) : Int) by omega), Int.toNat_natCast, h2]
    rfl
  · intro h
    rw [Bool.and_eq_true] at h
    obtain ⟨x, rfl, hx⟩ := may_nat h.1
    have h2 := h.2
    rw [Int.toNat_natCast] at h2
    exact ⟨x, mem_elems.2 ⟨hx, h2⟩, rfl⟩
theorem asc_ext : ∀ (l1 l2 : List Int), l1.Pairwise (· < ·) → l2.Pairwise (· < ·) → (∀ x, x ∈ l1 ↔ x ∈ l2) → l1 = l2
  | [], [], _, _, _ => rfl
  | [], y :: l2, _, _, h => absurd ((h y).2 (List.mem_cons_self ..)) (by simp)
  | x :: l1, [], _, _, h => absurd ((h x).1 (List.mem_cons_self ..)) (by simp)
  | x :: l1, y :: l2, h1, h2, h => by
    obtain ⟨a1, b1⟩ := List.pairwise_cons.1 h1
    obtain ⟨a2, b2⟩ := List.pairwise_cons.1 h2
    have e : x = y := by
      rcases List.mem_cons.1 ((h x).1 (List.mem_cons_self ..)) with e | hx
      · exact e
      · rcases List.mem_cons.1 ((h y).2 (List.mem_cons_self ..)) with e | hy
        · exact e.symm
        · have := a1 y hy
          have := a2 x hx
          omega
    subst e
    congr 1
    refine asc_ext l1 l2 b1 b2 fun z => ?_
    constructor
    · intro hz
      rcases List.mem_cons.1 ((h z).1 (List.mem_cons_of_mem _ hz)) with e | hz'
      · have := a1 z hz
        omega
      · exact hz'
    · intro hz
      rcases List.mem_cons.1 ((h z).2 (List.mem_cons_of_mem _ hz)) with e | hz'
      · have := a2 z hz
        omega
      · exact hz'
theorem objs_asc : S.objs.Pairwise (· < ·) := by
  unfold HS.objs elems
  exact List.Pairwise.map _ (fun i j (hij : i < j) => by omega) (List.pairwise_lt_range.filter _)
end Go.Proofs.YtnobempbcdkoaaaGreatDoor
