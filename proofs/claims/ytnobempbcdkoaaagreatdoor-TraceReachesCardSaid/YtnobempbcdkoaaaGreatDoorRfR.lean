/- What is reached, by the document: ref16.Reach and But, walked. Conditions: none beyond what each says. -/
import Derived.Test.YtnobempbcdkoaaaGreatDoorOf
import Derived.Test.YtnobempbcdkoaaaGreatDoorIn
namespace Go.Proofs.YtnobempbcdkoaaaGreatDoor
open Go.RowKit Go.Shelf
attribute [local go_sem] Oper.semAt_some
attribute [local go_sem ↓ high] builtin_appd

variable {w w' : World} {c : Cf} {S : HS} {rt : List Int}
/-- Of each address its place, and 1. -/
structure AtR (zs : List Int) (j : Nat) (l : List Int) (top : Nat) : Prop where
  len : l.length = top + 1
  has : ∀ i, i < j → l.getD (zs.getD i 0).toNat 0 = (i : Int) + 1
  no : ∀ k, k ≤ top → (∀ i, i < j → zs.getD i 0 ≠ (k : Int)) → l.getD k 0 = 0
theorem AtR.start (zs : List Int) (top : Nat) : AtR zs 0 (kint [] (top + 1)) top :=
  ⟨by unfold kint; simp, fun i hi => by omega, fun k hk _ => by unfold kint; simp [List.getD_eq_getElem?_getD, show k < top + 1 by omega]⟩
theorem AtR.step {zs : List Int} {j : Nat} {l : List Int} {top : Nat} (h : AtR zs j l top) (hj : j < zs.length) (ha : zs.Pairwise (· < ·)) (hb : ∀ x ∈ zs, 1 ≤ x ∧ x ≤ top) : AtR zs (j + 1) (l.set (zs.getD j 0).toNat ((j : Int) + 1)) top := by
  have mem : ∀ i, i < zs.length → zs.getD i 0 ∈ zs := fun i hi => by
    rw [List.getD_eq_getElem?_getD, List.getElem?_eq_getElem hi]; exact List.getElem_mem hi
  have lt : ∀ i, i < j → zs.getD i 0 < zs.getD j 0 := fun i hi => by
    have h1 : i < zs.length := by omega
    rw [List.getD_eq_getElem?_getD, List.getElem?_eq_getElem h1, List.getD_eq_getElem?_getD, List.getElem?_eq_getElem hj]
    exact (List.pairwise_iff_getElem.1 ha) i j h1 hj hi
  have bj := hb _ (mem j hj)
  refine ⟨by rw [List.length_set]; exact h.len, fun i hi => ?_, fun k hk hn => ?_⟩
  · by_cases hij : i = j
    · subst hij
      rw [getD_set_eq (by rw [h.len]; omega)]
    · have h1 : i < j := by omega
      have bi := hb _ (mem i (by omega))
      have := lt i h1
      rw [getD_set_ne (by omega)]
      exact h.has i h1
  · have h1 := hn j (by omega)
    rw [getD_set_ne (by omega)]
    exact h.no k hk fun i hi => hn i (by omega)
theorem AtR.done {zs : List Int} {l : List Int} {top : Nat} (h : AtR zs zs.length l top) {a : Int} (ha : 1 ≤ a ∧ a ≤ top) : (l.getD a.toNat 0 = 0 ∧ a ∉ zs) ∨ ∃ i, i < zs.length ∧ zs.getD i 0 = a ∧ l.getD a.toNat 0 = (i : Int) + 1 := by
  by_cases hm : a ∈ zs
  · right
    obtain ⟨i, hi, rfl⟩ := List.getElem_of_mem hm
    have e : zs.getD i 0 = zs[i] := by rw [List.getD_eq_getElem?_getD, List.getElem?_eq_getElem hi]; rfl
    refine ⟨i, hi, e, ?_⟩
    rw [← e]
    exact h.has i hi
  · left
    refine ⟨h.no _ (by omega) fun i hi e => hm ?_, hm⟩
    rw [show a = zs.getD i 0 by omega, List.getD_eq_getElem?_getD, List.getElem?_eq_getElem hi]
    exact List.getElem_mem hi
set_option maxRecDepth 10000 in
/-- append, of a row of one's own and what is nil, or another row. -/
theorem run_app {base B : Nat} {v v2 : Value} {xs zs : List Int} (hown : Ow w base v xs) (hx : Ow w B v2 zs) (h63 : xs.length + zs.length ≤ 2000000) (hb : base ≤ w.heap.size) :
    ∃ v' w', (Appd #[28, 28] 28 #[v, v2]).run Tryz.prog w = .ok v' w' ∧ Ow w' base v' (xs ++ zs) ∧ w.grownBy w' v.ownBlock := by
  obtain ⟨i0, hi, hz0, hz1, hz2⟩ := info_parts info_int2
  rcases hx.shape with ⟨e, e2⟩ | ⟨g, cap, e⟩
  · subst e e2
    refine ⟨v, w, run_append_owned_none (P := Tryz.prog) (w := w) base 28 28 3 i0 1 Tryz.underlying28 hi v xs.length _ hown, by rw [List.append_nil]; exact hown, grown_refl w _⟩
  · subst e
    have hn : ∀ j u, (zs.map (Value.int .i64))[j]? = some u → w.cell? ((⟨g, 0, none⟩ : Addr).add j) = some u := fun j u hj => by
      obtain ⟨hl, rfl⟩ := List.getElem?_eq_some_iff.1 hj
      simp only [List.length_map] at hl
      obtain ⟨b, o, cp, e, _, hc⟩ := hx.ints.at hl
      injection e with e1 e2 e3
      cases e1
      rw [Addr.add_lit, hc]
      simp [List.getD_eq_getElem?_getD, hl]
    obtain ⟨v1, w3, hrun, h1, h2, _, _⟩ := run_append_own_at (P := Tryz.prog) (w := w) base 28 28 3 i0 (.int .i64 0) 1 8 Tryz.underlying28 hi hz0 hz1 hz2 rfl (by decide) v xs.length _ hown ⟨g, 0, none⟩ zs.length cap (zs.map (.int .i64)) (by simp) hn (ints_oneCell _ zs) (by unfold maxLen; omega) (by omega) hb
    refine ⟨v1, w3, hrun, ?_, h2⟩
    unfold Ow
    rw [List.length_append, List.map_append]
    exact h1
/-- What lies in memory while it is sought. -/
structure RsI (S : HS) (c : Cf) (rt : List Int) (W0 : World) (q1 q2 B3 t n : Nat) (l : List Int) (M : Int → Bool) (td : List Int) (v : Value) (wr : World) : Prop where
  rc : RcI S c rt M td
  tt : Touch nob W0 wr
  r1 : RowAt wr q1 3 (t + 1) (l.map (.int .i64))
  r2 : RowAt wr q2 4 n ((S.objs.map M).map Value.bool)
  ow : Ow wr B3 v td
  mb : 257 * unseen S M + td.length ≤ 1000000
  lo : W0.heap.size ≤ q1 ∧ q1 < q2 ∧ q2 < B3
theorem RsI.turn {W0 : World} {q1 q2 B3 t n : Nat} {l : List Int} {M : Int → Bool} {td td' : List Int} {v v' : Value} {wr w2 : World} (h : RsI S c rt W0 q1 q2 B3 t n l M td v wr) (ht : Touch (fun k => B3 ≤ k) wr w2) (ho : Ow w2 B3 v' td') (hr : RcI S c rt M td') (hm : 257 * unseen S M + td'.length ≤ 1000000) : RsI S c rt W0 q1 q2 B3 t n l M td' v' w2 := by
  have lo := h.lo
  exact ⟨hr, h.tt.step ht (fun k hk => .inr (by omega)), h.r1.touch ht (by omega), h.r2.touch ht (by omega), ho, hm, lo⟩
theorem map_seeM {l : List Int} {M : Int → Bool} {i : Nat} {x : Int} (hd : l.Nodup) (hi : l[i]? = some x) : (l.map M).set i true = l.map (seeM M x) := by
  apply List.ext_getElem?
  intro k
  obtain ⟨hil, hx⟩ := List.getElem?_eq_some_iff.1 hi
  rw [List.getElem?_set, List.getElem?_map, List.getElem?_map]
  by_cases hk : i = k
  · subst hk
    rw [if_pos rfl, if_pos (by simpa using hil), hi]
    simp [seeM]
  · rw [if_neg hk]
    by_cases hkl : k < l.length
    · rw [List.getElem?_eq_getElem hkl]
      have hne : l[k] ≠ x := fun e => hk (by
        rw [← hx] at e
        exact ((List.getElem_inj hd).1 e).symm)
      simp [seeM, hne]
    · rw [List.getElem?_eq_none (by omega)]; rfl
set_option maxRecDepth 20000 in
set_option maxHeartbeats 4000000 in
theorem ref16_Reach {B : Nat} {va vt : Value} {tvs : List Value} (rv : Value) (h : EgAt w B va vt S.objs (S.objs.map (edT S c)) tvs) (hbd : ∀ x ∈ S.objs, 1 ≤ x ∧ x ≤ 1048576) (hr : Sy w rv rt) (hb : rt.length + 257 * S.objs.length ≤ 1000000) :
    Calls Tryz.prog 21 #[.agg #[va, vt], rv] w fun e w' => ∃ v, e = .returned v ∧ Touch nob w w' ∧ Ow w' w.heap.size v (rchL S c rt) := by
  obtain ⟨aA, cA, eA⟩ := h.a.ints.shape
  obtain ⟨aT, cT, eT⟩ := own_shape h.t
  obtain ⟨n, hn⟩ : ∃ n, S.objs.length = n := ⟨_, rfl⟩
  obtain ⟨aR, cR, eR⟩ : ∃ aR cR, rv = .slice aR rt.length cR := by
    rcases hr with ⟨rfl, rfl⟩ | ⟨a, cp, rfl, _⟩
    · exact ⟨_, _, rfl⟩
    · exact ⟨_, _, rfl⟩
  obtain ⟨R, hR⟩ : ∃ R, rt.length = R := ⟨_, rfl⟩
  rw [hn] at eA eT
  rw [hR] at eR
  subst eA eT eR
  obtain ⟨W0, hW0⟩ : ∃ W0, W0 = w.alloc (Obj.cells #[.slice aA n cA, .slice aT n cT] 41) := ⟨_, rfl⟩
  have t0 : Touch nob w W0 := by rw [hW0]; (repeat (first | with_reducible exact Touch.refl _ _ | with_reducible assumption | with_reducible apply Touch.alloc | with_reducible apply Touch.drewN | with_reducible apply Touch.drew | with_reducible refine Touch.setCell ?_ (.inr (by first | omega | (simp; done) | (simp; omega))) _))
  have b0 : W0.heap[w.heap.size]? = some (Obj.cells #[.slice aA n cA, .slice aT n cT] 41) := by rw [hW0]; exact World.alloc_heap_new w _
  have hn2 : n ≤ 4000 := by rw [hn] at hb; omega
  have HH := Lib.hid (And.intro h (And.intro hbd (And.intro hr (And.intro hb (And.intro hn hR)))))
  have H0 := Lib.hid (And.intro t0 b0)
  have HA : Hid (∀ wr, Touch nob w wr → ∀ j, j < n → ∃ g, aA = some ⟨g, 0, none⟩ ∧ n ≤ cA ∧ wr.cell? ⟨g, j, none⟩ = some (.int .i64 (S.objs.getD j 0))) := fun wr ht j hj => own_at (h.a.touch ht (fun _ _ x => x)) rfl hn hj
  clear h hbd hr hb hn hR t0 b0
  go_enter Tryz.func21, Tryz.ntmps21
  go_wp2_with fail
  obtain ⟨b, hbb⟩ : ∃ b, b = w.heap.size := ⟨_, rfl⟩
  rw [← hW0, ← hbb]
  have HB := Lib.hid hbb
  have H1 : Hid (Touch nob w W0 ∧ W0.heap[b]? = some (Obj.cells #[.slice aA n cA, .slice aT n cT] 41)) := by rw [hbb]; exact H0.out
  clear hW0 hbb H0
  go_loopw [5, 6] (fun tv iv wr => ∃ j t : Nat, j ≤ n ∧ tv = .int .i64 t ∧ iv = .int .i64 j ∧ W0 = wr ∧ Hid ((∀ x ∈ S.objs.take j, x ≤ t) ∧ (t = 0 ∨ (t : Int) ∈ S.objs.take j))) (fun _ iv _ => n - (intOf iv).toNat)
  case atStart => exact ⟨0, 0, Nat.zero_le _, rfl, rfl, rfl, fun x hx => by simp at hx, .inl rfl⟩
  case round =>
    obtain ⟨j, t, hj, rfl, rfl, rfl, HI⟩ := hrel
    obtain ⟨x0, x1, -, -⟩ := box2 H1.out.2
    by_cases hlt : j < n
    · have hb0 : (j : Int) < (n : Int) := by omega
      obtain ⟨g, rfl, hcap, hcell⟩ := HA.out _ H1.out.1 j hlt
      obtain ⟨x, hx⟩ : ∃ x, S.objs.getD j 0 = x := ⟨_, rfl⟩
      rw [hx] at hcell
      have hjl : j < S.objs.length := by rw [HH.out.2.2.2.2.1]; exact hlt
      have hxm : x ∈ S.objs := by rw [← hx, List.getD_eq_getElem?_getD, List.getElem?_eq_getElem hjl]; exact List.getElem_mem hjl
      have hxb := HH.out.2.1 x hxm
      have htk : S.objs.take (j + 1) = S.objs.take j ++ [x] := by rw [take_succ_getD hjl, hx]
      have htx : (t : Int) < x := by
        rcases HI.out.2 with h0 | h0
        · omega
        · obtain ⟨i, hi, e⟩ := List.mem_take_iff_getElem.1 h0
          have h1 : S.objs[i]'(by omega) < S.objs[j]'hjl := (List.pairwise_iff_getElem.1 objs_asc) i j (by omega) hjl (by omega)
          rw [List.getD_eq_getElem?_getD, List.getElem?_eq_getElem hjl] at hx
          simp only [Option.getD_some] at hx
          omega
      obtain ⟨y, rfl⟩ := Int.eq_ofNat_of_zero_le (show 0 ≤ x by omega)
      have hmx : (if (t : Int) < (y : Int) then (y : Int) else (t : Int)) = (y : Int) := if_pos htx
      have HK : Hid ((∀ z ∈ S.objs.take (j + 1), z ≤ (y : Int)) ∧ (y = 0 ∨ (y : Int) ∈ S.objs.take (j + 1))) := by
        refine ⟨fun z hz => ?_, .inr (by rw [htk]; simp)⟩
        rw [htk] at hz
        rcases List.mem_append.1 hz with hz | hz
        · have := HI.out.1 z hz; omega
        · have : z = y := by simpa using hz
          omega
      clear hx hjl hxm hxb htk HI
      go_wp2
      go_roundw
      case rel => exact ⟨j + 1, y, by omega, rfl, by go_num, by first | rfl | trivial, HK⟩
      case measure => simp [intOf]; omega
    · obtain rfl : j = n := by omega
      have hb0 : ¬ (j : Int) < (j : Int) := by omega
      have HT : Hid ((∀ x ∈ S.objs, 1 ≤ x ∧ x ≤ t) ∧ t ≤ 1048576) := by
        obtain ⟨h1, h2⟩ := HI.out
        rw [List.take_of_length_le (Nat.le_of_eq HH.out.2.2.2.2.1)] at h1 h2
        refine ⟨fun x hx => ⟨(HH.out.2.1 x hx).1, h1 x hx⟩, ?_⟩
        rcases h2 with h2 | h2
        · omega
        · have := (HH.out.2.1 _ h2).2; omega
      have ht2 := HT.out.2
      obtain ⟨i0, hi, hz0, hz1, hz2⟩ := info_parts info_int2
      clear HI
      go_wp2_with (at_make; refine wpList_make_full _ rfl _ _ 28 rfl W0.heap.size 3 i0 (.int .i64 0) 1 Tryz.underlying28 hi hz0 hz1 .i64 .i64 _ _ (t + 1) rfl rfl (by omega) (by omega) (by rw [hz2]; omega) (by unfold maxLen; omega) (Nat.le_refl _) ?_; intro w5 hown hgrow; have HX := Lib.hid (And.intro hown hgrow); clear hown hgrow)
      have H5 : Hid (Touch nob W0 w5 ∧ RowAt w5 W0.heap.size 3 (t + 1) ((kint [] (t + 1)).map (.int .i64))) := by
        obtain ⟨h1, h2⟩ := HX.out
        rw [made_ints] at h1
        exact ⟨(Touch.refl nob W0).grown h2 (fun _ h => by cases h), (RowAt.of_owns h1).1⟩
      obtain ⟨q1, hq1⟩ : ∃ q, q = W0.heap.size := ⟨_, rfl⟩
      have hq1s : b < q1 := by rw [hq1]; exact blk_lt H1.out.2
      rw [← hq1] at H5 ⊢
      have HQ := Lib.hid (And.intro hq1 hq1s)
      clear HX hq1 hq1s
      go_loopw [8] (fun iv wr => ∃ i : Nat, i ≤ j ∧ iv = .int .i64 i ∧ Hid (∃ l, Touch nob W0 wr ∧ RowAt wr q1 3 (t + 1) (l.map (.int .i64)) ∧ AtR S.objs i l t)) (fun iv _ => j - (intOf iv).toNat)
      case atStart => exact ⟨0, Nat.zero_le _, rfl, _, H5.out.1, H5.out.2, AtR.start _ _⟩
      case round =>
        obtain ⟨i, hij, rfl, HI⟩ := hrel
        obtain ⟨l, r1, r2, r3⟩ := HI.out
        obtain ⟨x0, x1, -, -⟩ := box2 (blk_touch H1.out.2 r1 (fun x => x))
        by_cases hlt : i < j
        · have hb1 : (i : Int) < (j : Int) := by omega
          obtain ⟨g, rfl, hcap, hcell⟩ := HA.out _ (H1.out.1.trans r1) i hlt
          obtain ⟨x, hx⟩ : ∃ x, S.objs.getD i 0 = x := ⟨_, rfl⟩
          rw [hx] at hcell
          have hjl : i < S.objs.length := by rw [HH.out.2.2.2.2.1]; exact hlt
          have hxm : x ∈ S.objs := by rw [← hx, List.getD_eq_getElem?_getD, List.getElem?_eq_getElem hjl]; exact List.getElem_mem hjl
          have hxb := HT.out.1 x hxm
          have hst := r3.step hjl objs_asc HT.out.1
          rw [hx] at hst
          obtain ⟨y, rfl⟩ := Int.eq_ofNat_of_zero_le (show 0 ≤ x by omega)
          rw [Int.toNat_natCast] at hst
          have hyt : y ≤ t := by omega
          have hll : l.length = t + 1 := r3.len
          obtain ⟨old, hoc⟩ : ∃ old, wr.cell? ⟨q1, y, none⟩ = some old := ⟨_, r2.cell (j := y) (by rw [List.length_map, hll]; omega)⟩
          have hof := r2.free y
          have hset := r2.set y (.int .i64 ((i : Int) + 1))
          rw [← List.map_set] at hset
          have HS := Lib.hid (And.intro r1 (And.intro hset hst))
          clear r1 r2 r3 hx hjl hxm hxb hst hset HI
          go_wp2
          go_roundw
          case rel => exact ⟨i + 1, by omega, by go_num, _, HS.out.1.step (touch_set _ q1 y _) (fun k hk => .inr (by have hk : k = q1 := hk; have := HQ.out.1; omega)), HS.out.2.1, HS.out.2.2⟩
          case measure => simp [intOf]; omega
        · obtain rfl : i = j := by omega
          have hb1 : ¬ (i : Int) < (i : Int) := by omega
          obtain ⟨i1, hj1, hy0, hys, hyb⟩ := info_parts info_bool
          have HI2 := Lib.hid (And.intro r1 (And.intro r2 r3))
          clear r1 r2 r3 HI
          have HM : Hid (∀ w6 : World, Hid (Ow (w6.alloc (Obj.cells #[] 3)) w6.heap.size (.slice (some ⟨w6.heap.size, 0, none⟩) 0 0) [])) := fun w6 => World.ownsRow_made (size := 1) w6 #[] 0 (Nat.le_refl _) (by unfold maxLen; omega) rfl
          have HG : Hid (∀ w6 : World, wr.grownBy w6 none → Touch nob wr (w6.alloc (Obj.cells #[] 3))) := fun w6 hg => ((Touch.refl nob wr).grown hg (fun _ h => by cases h)).alloc _
          have HYr : Hid (∀ w7, Touch nob wr w7 → Hid (Sy w7 (.slice aR R cR) rt)) := fun w7 ht => by have := HH.out.2.2.1.old ((H1.out.1.trans HI2.out.1).trans ht); exact this
          go_wp2_with (first
            | (at_builtin; refine wpList_append_sy rfl _ _ rfl w6.heap.size _ _ [] rt rfl HO.out rfl HY1.out (by have := HH.out.2.2.2.1; simp; omega) (by simp) ?_; intro v7 w7 hown hgrow hat; have H7 := Lib.hid (And.intro hown (And.intro (Touch.grown (S := nob) HT67.out hgrow (fun k hk => by cases hk; exact .inr HS6.out)) hgrow)); clear hown hgrow hat)
            | (at_make; refine wpList_make_full _ rfl _ _ 110 rfl wr.heap.size 4 i1 (.bool false) 1 Tryz.underlying110 hj1 hy0 hys .i64 .i64 _ _ i rfl rfl rfl rfl (by rw [hyb]; omega) (by unfold maxLen; omega) (Nat.le_refl _) ?_; intro w6 hown hgrow; go_loud (have HX := Lib.hid (And.intro hown hgrow); have HO := HM.out w6; have HS6 : Hid (wr.heap.size ≤ w6.heap.size) := hgrow.size; have t67 := HG.out w6 hgrow; have HY1 := HYr.out _ t67; have HT67 := Lib.hid t67; clear hown hgrow t67)))
          obtain ⟨q2, hq2⟩ : ∃ q, q = wr.heap.size := ⟨_, rfl⟩
          obtain ⟨B3, hB3⟩ : ∃ q, q = w6.heap.size := ⟨_, rfl⟩
          have H8 : Hid (RsI S c rt W0 q1 q2 B3 t i l (fun _ => false) rt v7 w7) := by
            obtain ⟨h1, h2⟩ := HX.out
            rw [made_bools] at h1
            have t67 : Touch nob w6 w7 := Touch.grown ((Touch.refl nob w6).alloc _) H7.out.2.2 (fun k e => by cases e; exact .inr (Nat.le_refl _))
            have hrow := (RowAt.of_owns h1).1
            have hbl : bools (fun _ => false) i = (S.objs.map fun _ => false).map Value.bool := by
              rw [← HH.out.2.2.2.2.1]
              apply List.ext_getElem?
              intro k
              by_cases hk : k < S.objs.length
              · simp [hk]
              · simp [hk]
            rw [hbl] at hrow
            rw [hq2, hB3]
            have hq1 := HQ.out
            have hs1 := HI2.out.1.size
            have hrl := HI2.out.2.1.lt
            refine ⟨RcI.start, HI2.out.1.trans H7.out.2.1, HI2.out.2.1.touch H7.out.2.1 (fun x => x), hrow.touch t67 (fun x => x), ?_, ?_, by omega, hrl, ?_⟩
            · have := H7.out.1
              rwa [List.nil_append] at this
            · have h3 := HH.out.2.2.2.1
              have h4 : unseen S (fun _ => false) ≤ S.objs.length := List.length_filter_le _ _
              omega
            · have := (World.ownsRow.lt h1 wr.heap.size rfl).2
              exact this
          rw [← hq2]
          have HAt := Lib.hid HI2.out.2.2
          have HB3 : Hid (w.heap.size ≤ B3) := by
            show w.heap.size ≤ B3
            have h1 := H1.out.1.size; have h2 := HI2.out.1.size; have h5 := HS6.out; omega
          clear hq2 hB3 HX H7 HO HY1 HT67 HS6 HM HG HYr HI2
          clear H5
          go_loopg [10, 11] (257 * unseen S (fun _ => false) + rt.length) (fun g v3 _ wr2 => Hid (∃ M td, RsI S c rt W0 q1 q2 B3 t i l M td v3 wr2 ∧ 257 * unseen S M + td.length ≤ g))
          case atStart => exact ⟨_, _, H8.out, Nat.le_refl _⟩
          case round =>
            clear H8
            obtain ⟨M, td, hI, hg⟩ := hrel.out
            rcases List.eq_nil_or_concat td with rfl | ⟨td, x, rfl⟩
            · obtain ⟨ao, cp, e10⟩ := own_shape hI.ow
              have e11 : u10 = .slice ao 0 cp := e10
              clear e10
              subst e11
              have HI := Lib.hid hI
              clear hI hrel hg
              obtain ⟨W9, rfl⟩ : ∃ W9, W9 = wr := ⟨_, rfl⟩
              go_wp2_with fail
              go_loopw [12, 13] (fun ov kv wr2 => ∃ k : Nat, k ≤ i ∧ kv = .int .i64 k ∧ Hid (Touch nob W9 wr2 ∧ Ow wr2 W9.heap.size ov ((S.objs.take k).filter M))) (fun _ kv _ => i - (intOf kv).toNat)
              case atStart => exact ⟨0, Nat.zero_le _, rfl, Touch.refl _ _, World.ownsRow_nil _ _ _ _⟩
              case round =>
                obtain ⟨k, hk, rfl, HK⟩ := hrel
                obtain ⟨x0, x1, -, -⟩ := box2 (blk_touch (blk_touch H1.out.2 HI.out.tt (fun x => x)) HK.out.1 (fun x => x))
                by_cases hlt : k < i
                · have hb2 : (k : Int) < (i : Int) := by omega
                  have hr2 := HI.out.r2.touch HK.out.1 (fun x => x)
                  have hkl : k < S.objs.length := by rw [HH.out.2.2.2.2.1]; exact hlt
                  obtain ⟨x, hx⟩ : ∃ x, S.objs.getD k 0 = x := ⟨_, rfl⟩
                  have hxe : S.objs[k] = x := by rw [← hx, List.getD_eq_getElem?_getD, List.getElem?_eq_getElem hkl]; rfl
                  have hic := hr2.cell (j := k) (by rw [List.length_map, List.length_map]; exact hkl)
                  rw [List.getElem_map, List.getElem_map, hxe] at hic
                  obtain ⟨g, rfl, hcap, hcell⟩ := HA.out _ (H1.out.1.trans (HI.out.tt.trans HK.out.1)) k hlt
                  rw [hx] at hcell
                  have htk : S.objs.take (k + 1) = S.objs.take k ++ [x] := by rw [take_succ_getD hkl, hx]
                  have hcq : k < i := hlt
                  clear hr2 hkl hx hxe
                  cases hM : M x with
                  | false =>
                    rw [hM] at hic
                    have HK2 : Hid ((S.objs.take (k + 1)).filter M = (S.objs.take k).filter M) := by
                      show _ = _
                      rw [htk, List.filter_append]
                      simp [hM]
                    clear hM htk
                    go_wp2
                    go_roundw
                    case rel => exact ⟨k + 1, by omega, by go_num, HK.out.1, by rw [HK2.out]; exact HK.out.2⟩
                    case measure => simp [intOf]; omega
                  | true =>
                    rw [hM] at hic
                    have HK2 : Hid ((S.objs.take (k + 1)).filter M = (S.objs.take k).filter M ++ [x]) := by
                      show _ = _
                      rw [htk, List.filter_append]
                      simp [hM]
                    obtain ⟨z, hz⟩ : ∃ z, ((S.objs.take k).filter M).length = z := ⟨_, rfl⟩
                    have hzl : z ≤ 4000 := by
                      have h1 := List.length_filter_le M (S.objs.take k)
                      rw [List.length_take] at h1
                      omega
                    have hown : wr.ownsRow W9.heap.size 3 1 u12 z (((S.objs.take k).filter M).map (.int .i64)) := by
                      have h9 := HK.out.2
                      unfold Ow at h9
                      rwa [hz] at h9
                    have HOw := Lib.hid (And.intro hown hz)
                    have hsz : Hid (W9.heap.size ≤ wr.heap.size) := HK.out.1.size
                    clear hM htk hown hz
                    go_wp2_with (at_builtin; refine wpList_append_own _ rfl _ _ 28 rfl W9.heap.size 3 i0 (.int .i64 0) 1 8 Tryz.underlying28 hi hz0 hz1 hz2 rfl (by decide) _ z _ rfl (HOw.out.1.alloc _) ⟨wr.heap.size, 0, none⟩ 1 1 [.int .i64 x] rfl rfl (World.news_of_block (World.alloc_heap_new _ _)) (ints_oneCell _ [x]) (by unfold maxLen; omega) (by omega) (by have := hsz.out; simp; omega) ?_; intro v5 w5 hown hgrow _; have HW5 := Lib.hid (And.intro hown hgrow); clear hown hgrow)
                    go_roundw
                    case rel =>
                      refine ⟨k + 1, by omega, by go_num, Touch.grown (HK.out.1.alloc _) HW5.out.2 (fun b hb => .inr (World.ownsRow.lt HOw.out.1 b hb).1), ?_⟩
                      rw [HK2.out]
                      show Ow _ _ _ _
                      unfold Ow
                      rw [List.length_append, HOw.out.2, List.map_append]
                      exact HW5.out.1
                    case measure => simp [intOf]; omega
                · obtain rfl : k = i := by omega
                  have hb2 : ¬ (k : Int) < (k : Int) := by omega
                  obtain ⟨h1, h2⟩ := HK.out
                  rw [List.take_of_length_le (Nat.le_of_eq HH.out.2.2.2.2.1)] at h2
                  have hrl : S.objs.filter M = rchL S c rt := by
                    unfold rchL
                    apply List.filter_congr
                    intro x _
                    rw [rchB_of (fun y => HI.out.rc.done)]
                  rw [hrl] at h2
                  obtain ⟨ao2, cp2, e12⟩ := h2.ints.shape
                  subst e12
                  have HE := Lib.hid (And.intro h1 h2)
                  clear h1 h2 hrl HK
                  go_wp2
                  go_ret
                  have hW9 := HI.out.tt.size
                  have hW0 := H1.out.1.size
                  exact ⟨_, rfl, (H1.out.1.trans HI.out.tt).trans HE.out.1, HE.out.2.base (by omega)⟩
            · rw [List.concat_eq_append] at hI hg
              obtain ⟨g, cap, e10, hcp, hcell, how⟩ := ow_last hI.ow
              subst e10
              obtain ⟨k, hk⟩ : ∃ k, td.length = k := ⟨_, rfl⟩
              have hkb : k ≤ 1000000 := by have := hI.mb; rw [List.length_append] at this; omega
              have hgk : 257 * unseen S M + k + 1 ≤ gk := by rw [List.length_append, hk] at hg; simp at hg; omega
              have hmb : 257 * unseen S M + k + 1 ≤ 1000000 := by have := hI.mb; rw [List.length_append, hk] at this; simp at this; omega
              have HI := Lib.hid (And.intro hI (And.intro how (And.intro hk (And.intro hgk hmb))))
              rw [hk] at hcp hcell ⊢
              obtain ⟨r1, r2⟩ := And.intro hI.r1 hI.r2
              clear hI how hk hrel hg hgk hmb
              have HSk : Hid (S.obj x = false ∨ M x = true → ∃ M' td', RsI S c rt W0 q1 q2 B3 t i l M' td' (.slice (some ⟨g, 0, none⟩) k cap) wr ∧ 257 * unseen S M' + td'.length ≤ gk - 1) := fun h => by
                obtain ⟨h1, h2, h3, h4, h5⟩ := HI.out
                refine ⟨M, td, h1.turn (Touch.refl _ _) (by rw [← h3]; exact h2) (h1.rc.skip h) (by omega), by omega⟩
              by_cases hx1 : x < 1
              · have HK := HSk.out (.inl (by
                  cases ho : S.obj x with
                  | false => rfl
                  | true => have := HT.out.1 x (mem_objs.2 ho); omega))
                have HK := Lib.hid HK
                clear r1 r2
                go_wp2
                go_roundg (gk - 1)
                case measure => have := HI.out.2.2.2.1; omega
                case rel => exact HK
              · by_cases hxt : (t : Int) < x
                · have HK := HSk.out (.inl (by
                    cases ho : S.obj x with
                    | false => rfl
                    | true => have := HT.out.1 x (mem_objs.2 ho); omega))
                  have HK := Lib.hid HK
                  clear r1 r2
                  go_wp2
                  go_roundg (gk - 1)
                  case measure => have := HI.out.2.2.2.1; omega
                  case rel => exact HK
                · obtain ⟨y, rfl⟩ := Int.eq_ofNat_of_zero_le (show 0 ≤ x by omega)
                  have hat : AtR S.objs S.objs.length l t := by rw [HH.out.2.2.2.2.1]; exact HAt.out
                  have hll := hat.len
                  have hyl : y < l.length := by rw [hll]; omega
                  have hac := int_cell r1 hyl
                  have hyt : y < t + 1 := by omega
                  rcases hat.done (a := (y : Int)) (by omega) with ⟨h0, hno⟩ | ⟨m, hm, he, hv⟩
                  · rw [Int.toNat_natCast] at h0
                    rw [h0] at hac
                    have HK := HSk.out (.inl (by
                      cases ho : S.obj (y : Int) with
                      | false => rfl
                      | true => exact absurd (mem_objs.2 ho) hno))
                    have HK := Lib.hid HK
                    clear r1 r2 hat hll hyl h0 hno
                    go_wp2
                    go_roundg (gk - 1)
                    case measure => have := HI.out.2.2.2.1; omega
                    case rel => exact HK
                  · rw [Int.toNat_natCast] at hv
                    rw [hv] at hac
                    have hmi : m < i := by rw [← HH.out.2.2.2.2.1]; exact hm
                    have hxe : S.objs[m] = (y : Int) := by rw [← he, List.getD_eq_getElem?_getD, List.getElem?_eq_getElem hm]; rfl
                    have ho : S.obj (y : Int) = true := mem_objs.1 (by rw [← hxe]; exact List.getElem_mem hm)
                    have hic := r2.cell (j := m) (by rw [List.length_map, List.length_map]; exact hm)
                    rw [List.getElem_map, List.getElem_map, hxe] at hic
                    have hif := r2.free m
                    have hne : ((m : Int) + 1 == 0) = false := by simp; omega
                    cases hM : M (y : Int) with
                    | true =>
                      rw [hM] at hic
                      have HK := HSk.out (.inr hM)
                      have HK := Lib.hid HK
                      clear r1 r2 hat hll hyl hv hxe he hM
                      go_wp2
                      go_roundg (gk - 1)
                      case measure => have := HI.out.2.2.2.1; omega
                      case rel => exact HK
                    | false =>
                      rw [hM] at hic
                      obtain ⟨W6, hW6⟩ : ∃ W6, W6 = wr.setCell ⟨q2, m, none⟩ (.bool true) := ⟨_, rfl⟩
                      obtain ⟨h1, h2, h3, h4, h5⟩ := HI.out
                      have lo := h1.lo
                      have t6 : Touch (fun k => k = q2) wr W6 := by rw [hW6]; exact touch_set _ _ _ _
                      have hbq := HQ.out
                      have hbx := blk_touch H1.out.2 h1.tt (fun x => x)
                      have hbx6 := blk_touch hbx t6 (by omega)
                      obtain ⟨x0, x1, -, -⟩ := box2 hbx6
                      have hr1 := r1.touch t6 (by omega)
                      have hac6 := int_cell hr1 hyl
                      rw [hv] at hac6
                      have hr2 := r2.set m (.bool true)
                      rw [← List.map_set, map_seeM (objs_asc.imp fun h e => by omega) (by rw [List.getElem?_eq_getElem hm, hxe]), ← hW6] at hr2
                      have heg := HH.out.1.touch (T := nob) (H1.out.1.trans h1.tt |>.step t6 (fun k hk => .inr (by have hk : k = q2 := hk; have := H1.out.1.size; omega))) (fun _ x => x.elim)
                      have hte := heg.e m (by rw [List.length_map]; exact hm)
                      have hed : (S.objs.map (edT S c)).getD m [] = edT S c (y : Int) := by rw [List.getD_eq_getElem?_getD, List.getElem?_map, List.getElem?_eq_getElem hm, hxe]; rfl
                      rw [hed] at hte
                      have htl : tvs.length = i := by rw [heg.vl, HH.out.2.2.2.2.1]
                      have hot := heg.t
                      rw [HH.out.2.2.2.2.1] at hot
                      obtain ⟨gT, cT', eT, -, hrT, -, -⟩ := RowAt.of_owns_some hot (by omega)
                      injection eT with eT1 eT2 eT3
                      subst eT1 eT3
                      have htc := hrT.cell (j := m) (by omega)
                      have htg : tvs[m]'(by omega) = tvs.getD m .nilFunc := by rw [List.getD_eq_getElem?_getD, List.getElem?_eq_getElem (by omega)]; rfl
                      rw [htg] at htc
                      have hcT : i ≤ cT := by
                        obtain ⟨_, _, _, h, _⟩ := hrT
                        omega
                      obtain ⟨tv, htv⟩ : ∃ tv, tvs.getD m .nilFunc = tv := ⟨_, rfl⟩
                      rw [htv] at hte htc
                      obtain ⟨aE, cE, eE⟩ := hte.ints.shape
                      obtain ⟨mE, hmE⟩ : ∃ mE, (edT S c (y : Int)).length = mE := ⟨_, rfl⟩
                      have hel := edT_len S c (y : Int)
                      rw [hmE] at eE
                      subst eE
                      have hoT : Ow W6 B3 (.slice (some ⟨g, 0, none⟩) k cap) td := by
                        have h9 := h2.touch t6 (fun gg hg e => by
                          have := h2.new gg hg
                          have e : gg = q2 := e
                          omega)
                        rwa [h3] at h9
                      obtain ⟨v8, w8, hrun, hown8, hgrow8⟩ := run_app (w := W6.drew) (hoT.touch ((Touch.refl nob _).drew) (fun _ _ x => x)) (hte.touch ((Touch.refl nob _).drew) (fun _ _ x => x)) (by omega) (by have := (World.ownsRow.lt hoT g rfl); have h8 := this.1; have h9 := this.2; show B3 ≤ W6.heap.size; omega)
                      have HR8 : Hid (RsI S c rt W0 q1 q2 B3 t i l (seeM M (y : Int)) (td ++ edT S c (y : Int)) v8 w8 ∧ 257 * unseen S (seeM M (y : Int)) + (td ++ edT S c (y : Int)).length ≤ gk - 1) := by
                        have hun := unseen_see ho hM
                        have h68 : Touch (fun b => B3 ≤ b) W6 w8 := Touch.grown ((Touch.refl _ W6).drew) hgrow8 (fun b hb => .inl (by cases hb; exact (World.ownsRow.lt hoT g rfl).1))
                        refine ⟨⟨h1.rc.see ho, (h1.tt.step t6 (fun b hb => .inr (by have hb : b = q2 := hb; omega))).step h68 (fun b hb => .inr (by omega)), hr1.touch h68 (by omega), hr2.touch h68 (by omega), hown8, ?_, lo⟩, ?_⟩
                        · rw [List.length_append]; omega
                        · rw [List.length_append]; omega
                      clear htg hbq lo
                      clear h1 h2 h3 h4 h5 t6 hbx hbx6 hr1 hr2 heg hte hot hrT hoT hown8 hgrow8 r1 r2 hat hll hyl hv hxe he hM ho hed
                      change (Appd _ _ _).run _ _ = _ at hrun
                      go_wp2_with fail
                      rw [← hW6]
                      clear hac hic hif hcell hW6
                      go_region
                      go_wp2
                      go_roundg (gk - 1)
                      case measure => have := HI.out.2.2.2.1; omega
                      case rel => exact ⟨_, _, HR8.out⟩
theorem in_ints_of {v : Value} {xs : List Int} (h : IntsIn w v xs) (x : Int) (hl : xs.length ≤ 1048576) : Calls Tryz.prog 16 #[v, .int .i64 x] w fun e w' => e = .returned (.bool (decide (x ∈ xs))) ∧ Touch nob w w' := ref01_In v xs x h hl
set_option maxRecDepth 20000 in
set_option maxHeartbeats 4000000 in
theorem ref16_But {B : Nat} {va vt : Value} {tvs : List Value} (rv : Value) (h : EgAt w B va vt S.objs (S.objs.map (edT S c)) tvs) (hbd : ∀ x ∈ S.objs, 1 ≤ x ∧ x ≤ 1048576) (hr : Sy w rv rt) (hb : rt.length + 257 * S.objs.length ≤ 1000000) :
    Calls Tryz.prog 22 #[.agg #[va, vt], rv] w fun e w' => ∃ v, e = .returned v ∧ Touch nob w w' ∧ Ow w' w.heap.size v (S.objs.filter fun x => !rchB S c rt x) := by
  obtain ⟨aA, cA, eA⟩ := h.a.ints.shape
  obtain ⟨aT, cT, eT⟩ := own_shape h.t
  obtain ⟨n, hn⟩ : ∃ n, S.objs.length = n := ⟨_, rfl⟩
  rw [hn] at eA eT
  subst eA eT
  obtain ⟨W0, hW0⟩ : ∃ W0, W0 = w.alloc (Obj.cells #[.slice aA n cA, .slice aT n cT] 41) := ⟨_, rfl⟩
  have t0 : Touch nob w W0 := by rw [hW0]; (repeat (first | with_reducible exact Touch.refl _ _ | with_reducible assumption | with_reducible apply Touch.alloc | with_reducible apply Touch.drewN | with_reducible apply Touch.drew | with_reducible refine Touch.setCell ?_ (.inr (by first | omega | (simp; done) | (simp; omega))) _))
  have b0 : W0.heap[w.heap.size]? = some (Obj.cells #[.slice aA n cA, .slice aT n cT] 41) := by rw [hW0]; exact World.alloc_heap_new w _
  have hn2 : n ≤ 4000 := by rw [hn] at hb; omega
  obtain ⟨b, hbb⟩ : ∃ b, b = w.heap.size := ⟨_, rfl⟩
  rw [← hbb] at b0
  obtain ⟨x0, x1, -, -⟩ := box2 b0
  have HR := Lib.hid (ref16_Reach (c := c) rv (h.touch (T := nob) t0 (fun _ x => x.elim)) hbd (hr.old t0) hb)
  have HH := Lib.hid (And.intro h (And.intro hn hbb))
  have H0 := Lib.hid (And.intro t0 b0)
  have HA : Hid (∀ wr, Touch nob w wr → ∀ j, j < n → ∃ g, aA = some ⟨g, 0, none⟩ ∧ n ≤ cA ∧ wr.cell? ⟨g, j, none⟩ = some (.int .i64 (S.objs.getD j 0))) := fun wr ht j hj => own_at (h.a.touch ht (fun _ _ x => x)) rfl hn hj
  clear h hbd hr hb hn t0 b0
  rw [hW0] at x0 x1
  go_enter Tryz.func22, Tryz.ntmps22
  go_wp2_with (go_at_call 21; fail)
  rw [← hW0, ← hbb]
  clear hW0 hbb x0 x1
  refine HR.out.mono ?_
  rintro e w1 ⟨v1, rfl, t1, o1⟩
  have hrl : (rchL S c rt).length ≤ 4000 := Nat.le_trans rchL_len (by rw [HH.out.2.1]; exact hn2)
  obtain ⟨ao1, cp1, e1⟩ := o1.ints.shape
  subst e1
  obtain ⟨r, hrr⟩ : ∃ r, (rchL S c rt).length = r := ⟨_, rfl⟩
  have HL := Lib.hid o1.ints
  have HLl : Hid ((rchL S c rt).length ≤ 1048576) := Nat.le_trans hrl (by omega)
  rw [hrr] at HL ⊢
  have H1 := Lib.hid (And.intro (H0.out.1.trans t1) (blk_touch H0.out.2 t1 (fun x => x)))
  clear t1 o1 hrl hrr
  obtain ⟨i0, hi, hz0, hz1, hz2⟩ := info_parts info_int2
  go_wp2_with fail
  go_loopw [6, 7] (fun ov kv wr => ∃ k : Nat, k ≤ n ∧ kv = .int .i64 k ∧ Hid (Touch nob w1 wr ∧ Ow wr w1.heap.size ov ((S.objs.take k).filter fun x => !rchB S c rt x))) (fun _ kv _ => n - (intOf kv).toNat)
  case atStart => exact ⟨0, Nat.zero_le _, rfl, Touch.refl _ _, World.ownsRow_nil _ _ _ _⟩
  case round =>
    obtain ⟨k, hk, rfl, HK⟩ := hrel
    have hbx := blk_touch H1.out.2 HK.out.1 (fun x => x)
    obtain ⟨x0, x1, -, -⟩ := box2 hbx
    by_cases hlt : k < n
    · have hb2 : (k : Int) < (n : Int) := by omega
      have hkl : k < S.objs.length := by rw [HH.out.2.1]; exact hlt
      obtain ⟨x, hx⟩ : ∃ x, S.objs.getD k 0 = x := ⟨_, rfl⟩
      have hxm : x ∈ S.objs := by rw [← hx, List.getD_eq_getElem?_getD, List.getElem?_eq_getElem hkl]; exact List.getElem_mem hkl
      obtain ⟨g, rfl, hcap, hcell⟩ := HA.out _ (H1.out.1.trans HK.out.1) k hlt
      rw [hx] at hcell
      have htk : S.objs.take (k + 1) = S.objs.take k ++ [x] := by rw [take_succ_getD hkl, hx]
      have hin := in_ints_of (HL.out.old HK.out.1) x HLl.out
      have hmr : decide (x ∈ rchL S c rt) = rchB S c rt x := by
        rw [Bool.eq_iff_iff, decide_eq_true_iff, mem_rchL, rchB_iff]
      rw [hmr] at hin
      have HIn := Lib.hid (And.intro hin htk)
      clear hkl hx hxm htk hin hmr
      go_wp2_with (go_at_call 16; fail)
      refine HIn.out.1.mono ?_
      rintro e w2 ⟨rfl, t2⟩
      obtain ⟨x0', x1', -, -⟩ := box2 (blk_touch hbx t2 (fun x => x))
      have hcell2 := (t2.cell (cell_lt hcell) (fun x => x)).trans hcell
      have HK2 := Lib.hid (And.intro (HK.out.1.trans t2) (HK.out.2.touch t2 (fun _ _ x => x)))
      clear t2 x0 x1 hcell hbx
      cases hR : rchB S c rt x with
      | true =>
        have HK3 : Hid ((S.objs.take (k + 1)).filter (fun x => !rchB S c rt x) = (S.objs.take k).filter fun x => !rchB S c rt x) := by
          show _ = _
          rw [HIn.out.2, List.filter_append]
          simp [hR]
        clear hR
        go_wp2
        go_roundw
        case rel => exact ⟨k + 1, by omega, by go_num, HK2.out.1, by rw [HK3.out]; exact HK2.out.2⟩
        case measure => simp [intOf]; omega
      | false =>
        have HK3 : Hid ((S.objs.take (k + 1)).filter (fun x => !rchB S c rt x) = ((S.objs.take k).filter fun x => !rchB S c rt x) ++ [x]) := by
          show _ = _
          rw [HIn.out.2, List.filter_append]
          simp [hR]
        obtain ⟨z, hz⟩ : ∃ z, ((S.objs.take k).filter fun x => !rchB S c rt x).length = z := ⟨_, rfl⟩
        have hzl : z ≤ 4000 := by
          have h1 := List.length_filter_le (fun x => !rchB S c rt x) (S.objs.take k)
          rw [List.length_take] at h1
          omega
        have hown : w2.ownsRow w1.heap.size 3 1 u6 z (((S.objs.take k).filter fun x => !rchB S c rt x).map (.int .i64)) := by
          have h9 := HK2.out.2
          unfold Ow at h9
          rwa [hz] at h9
        have HOw := Lib.hid (And.intro hown hz)
        have hsz : Hid (w1.heap.size ≤ w2.heap.size) := HK2.out.1.size
        clear hR hown hz
        go_wp2_with (at_builtin; refine wpList_append_own _ rfl _ _ 28 rfl w1.heap.size 3 i0 (.int .i64 0) 1 8 Tryz.underlying28 hi hz0 hz1 hz2 rfl (by decide) _ z _ rfl (HOw.out.1.alloc _) ⟨w2.heap.size, 0, none⟩ 1 1 [.int .i64 x] rfl rfl (World.news_of_block (World.alloc_heap_new _ _)) (ints_oneCell _ [x]) (by unfold maxLen; omega) (by omega) (by have := hsz.out; simp; omega) ?_; intro v5 w5 hown hgrow _; have HW5 := Lib.hid (And.intro hown hgrow); clear hown hgrow)
        go_roundw
        case rel =>
          refine ⟨k + 1, by omega, by go_num, Touch.grown (HK2.out.1.alloc _) HW5.out.2 (fun b hb => .inr (World.ownsRow.lt HOw.out.1 b hb).1), ?_⟩
          rw [HK3.out]
          show Ow _ _ _ _
          unfold Ow
          rw [List.length_append, HOw.out.2, List.map_append]
          exact HW5.out.1
        case measure => simp [intOf]; omega
    · obtain rfl : k = n := by omega
      have hb2 : ¬ (k : Int) < (k : Int) := by omega
      obtain ⟨h1, h2⟩ := HK.out
      rw [List.take_of_length_le (Nat.le_of_eq HH.out.2.1)] at h2
      obtain ⟨ao2, cp2, e12⟩ := h2.ints.shape
      subst e12
      have HE := Lib.hid (And.intro (H1.out.1.trans h1) (h2.base H1.out.1.size))
      clear h1 h2 HK hbx
      go_wp2
      go_ret
      exact ⟨_, rfl, HE.out⟩
end Go.Proofs.YtnobempbcdkoaaaGreatDoor
