/- What there is more than asked of; TraceGrows, walked. Conditions: the tables of limits, of sizes and of de Bruijn's bits read as laid. -/
import Derived.Test.YtnobempbcdkoaaaGreatDoorGr
import Derived.Test.YtnobempbcdkoaaaGreatDoorApp
namespace Go.Proofs.YtnobempbcdkoaaaGreatDoor
open Go.RowKit

variable {w : World}
abbrev GrV (c : Cf) (th fv : Value) : Value := .agg #[.int .i64 c.c0, .int .i64 c.c1, .int .i64 c.c2, .int .i64 c.c3, .int .i64 c.c4, .int .i64 c.c5, .int .i64 c.c6, th, fv]
theorem law16_great (c : Cf) (w : World) (at1 af ar : Option Addr) (N c1 M c2 R c3 : Nat) :
    Calls Tryz.prog 12 #[GrV c (.slice at1 N c1) (.slice af M c2), .slice ar R c3] w fun e w' => e = .returned (.bool (decide (40 < N) || decide (200 < M) || decide (40 < R))) ∧ Touch nob w w' := by
  have hT : Touch nob w (w.alloc (Obj.cells #[.int .i64 c.c0, .int .i64 c.c1, .int .i64 c.c2, .int .i64 c.c3, .int .i64 c.c4, .int .i64 c.c5, .int .i64 c.c6, .slice at1 N c1, .slice af M c2] 27)) := (Touch.refl _ _).alloc _
  have HT' := Lib.hid hT
  clear hT
  by_cases h1 : 40 < N
  · have hb1 : (40 : Int) < (N : Int) := by omega
    go_enter Tryz.func12, Tryz.ntmps12
    go_wp2
    go_ret
    exact ⟨ret_b (by rw [decide_eq_true h1]; rfl), HT'.out⟩
  · have hb1 : ¬ (40 : Int) < (N : Int) := by omega
    by_cases h2 : 200 < M
    · have hb2 : (200 : Int) < (M : Int) := by omega
      go_enter Tryz.func12, Tryz.ntmps12
      go_wp2
      go_ret
      exact ⟨rfl, HT'.out⟩
    · have hb2 : ¬ (200 : Int) < (M : Int) := by omega
      by_cases h3 : 40 < R
      · have hb3 : (40 : Int) < (R : Int) := by omega
        go_enter Tryz.func12, Tryz.ntmps12
        go_wp2
        go_ret
        exact ⟨rfl, HT'.out⟩
      · have hb3 : ¬ (40 : Int) < (R : Int) := by omega
        go_enter Tryz.func12, Tryz.ntmps12
        go_wp2
        go_ret
        exact ⟨rfl, HT'.out⟩
/-- What came in, of a graph. -/
structure GIn (w : World) (th fv : Value) (ths : List (Int × Int × Bool)) (fs : List Int) : Prop where
  th : ThIn w th ths
  fv : KIn .u16 w fv fs
  fb : ∀ j, j < fs.length → 0 ≤ fs.getD j 0 ∧ fs.getD j 0 < 65536
theorem GIn.old {w' : World} {th fv : Value} {ths : List (Int × Int × Bool)} {fs : List Int} (h : GIn w th fv ths fs) (ht : Touch nob w w') : GIn w' th fv ths fs := ⟨h.th.old ht, h.fv.old ht, h.fb⟩
theorem GIn.of {th fv : Value} {r1 r2 : List (List Value)} (h1 : IsSlice w th [some .u8, some .u8, none] r1) (h2 : IsSlice w fv [some .u16] r2) : ∃ ths fs, GIn w th fv ths fs := by
  obtain ⟨N, hI, -⟩ := rows_of_slice h1 (by simp)
  obtain ⟨ths, -, hth⟩ := ThIn.of_rows hI
  obtain ⟨fs, hf, -, hb⟩ := k_of_slice h2
  refine ⟨ths, fs, hth, hf, fun j hj => ?_⟩
  have := hb j hj
  have := bounds_u16 this
  omega
theorem box9 {w : World} {b : Nat} {v0 v1 v2 v3 v4 v5 v6 v7 v8 : Value} {t : TypeId} (h : w.heap[b]? = some (.cells #[v0, v1, v2, v3, v4, v5, v6, v7, v8] t)) :
    w.cell? ⟨b, 0, none⟩ = some v0 ∧ w.cell? ⟨b, 1, none⟩ = some v1 ∧ w.cell? ⟨b, 2, none⟩ = some v2 ∧ w.cell? ⟨b, 3, none⟩ = some v3 ∧ w.cell? ⟨b, 4, none⟩ = some v4 ∧ w.cell? ⟨b, 5, none⟩ = some v5 ∧ w.cell? ⟨b, 6, none⟩ = some v6 ∧ w.cell? ⟨b, 7, none⟩ = some v7 ∧ w.cell? ⟨b, 8, none⟩ = some v8 := by
  simp [World.cell?, h]
/-- Reached and garbage part the objects. -/
theorem part_len {α : Type} (l : List α) (p : α → Bool) : (l.filter p).length + (l.filter fun x => !p x).length = l.length := by
  induction l with
  | nil => rfl
  | cons a l ih =>
    simp only [List.filter_cons]
    cases p a <;> simp <;> omega
theorem rchL_idem {S : HS} {c : Cf} {rt : List Int} : rchL S c (rchL S c rt) = rchL S c rt := by
  unfold rchL
  apply List.filter_congr
  intro x _
  rw [Bool.eq_iff_iff, rchB_iff, rchB_iff]
  exact Rch.idem fun y => mem_rchL
theorem ow_hp {w w' : World} {A : HA} {B : Nat} {v : Value} {xs : List Int} (h : Ow w B v xs) (ht : Touch (HT A) w w') (hA : ∀ b ∈ A.all, b < B) : Ow w' B v xs :=
  h.touch ht (fun g hg hm => by
    have h1 := hA g hm
    have h2 := h.new g hg
    omega)
/-- A heap, and some rows beside it. -/
structure HRs (W : World) (A : HA) (c : Cf) (S : HS) (H : Nat → List Nat) (B : Nat) (l : List (Value × List Int)) (wr : World) : Prop where
  hp : HpI W wr A c S H
  lo : ∀ b ∈ A.all, b < B
  sz : B ≤ wr.heap.size
  ow : ∀ p ∈ l, Ow wr B p.1 p.2
theorem HRs.heap {W w w' : World} {A : HA} {c : Cf} {S S' : HS} {H H' : Nat → List Nat} {B : Nat} {l : List (Value × List Int)} (h : HRs W A c S H B l w) (ht : Touch (HT A) w w') (hp : HpI W w' A c S' H') : HRs W A c S' H' B l w' :=
  ⟨hp, h.lo, Nat.le_trans h.sz ht.size, fun p hm => ow_hp (h.ow p hm) ht h.lo⟩
theorem HRs.old {W w w' : World} {A : HA} {c : Cf} {S : HS} {H : Nat → List Nat} {B : Nat} {l : List (Value × List Int)} (h : HRs W A c S H B l w) (ht : Touch nob w w') : HRs W A c S H B l w' := h.heap ht.hnob (h.hp.old ht)
theorem HRs.more {W w : World} {A : HA} {c : Cf} {S : HS} {H : Nat → List Nat} {B B' : Nat} {l : List (Value × List Int)} {v : Value} {xs : List Int} (h : HRs W A c S H B l w) (ho : Ow w B' v xs) (hb : B ≤ B') : HRs W A c S H B ((v, xs) :: l) w :=
  ⟨h.hp, h.lo, h.sz, fun p hm => by
    rcases List.mem_cons.1 hm with rfl | hm
    · exact ho.base hb
    · exact h.ow p hm⟩
theorem HRs.get {W w : World} {A : HA} {c : Cf} {S : HS} {H : Nat → List Nat} {B : Nat} {l : List (Value × List Int)} (h : HRs W A c S H B l w) (i : Nat) {v : Value} {xs : List Int} (hi : l[i]? = some (v, xs)) : Ow w B v xs := h.ow _ (List.mem_of_getElem? hi)
set_option maxRecDepth 20000 in
set_option maxHeartbeats 4000000 in
theorem law_TraceGrows {w : World} (a0 : Int) (_ : (Lit.int .i64 a0).wf = true) (a1 : Int) (_ : (Lit.int .i64 a1).wf = true) (a2 : Int) (_ : (Lit.int .i64 a2).wf = true) (a3 : Int) (_ : (Lit.int .i64 a3).wf = true) (a4 : Int) (_ : (Lit.int .i64 a4).wf = true) (a5 : Int) (_ : (Lit.int .i64 a5).wf = true) (a6 : Int) (_ : (Lit.int .i64 a6).wf = true)
    (th : Value) (r1 : List (List Value)) (s1 : IsSlice w th [some .u8, some .u8, none] r1) (fv : Value) (r2 : List (List Value)) (s2 : IsSlice w fv [some .u16] r2) (rv : Value) (r3 : List (List Value)) (s3 : IsSlice w rv [some .i64] r3) (mv : Value) (r4 : List (List Value)) (s4 : IsSlice w mv [some .i64] r4) (hTab : Tab w) (hLim : Limits w) (hS : Sizes w) :
    Calls Tryz.prog 3 #[GrV ⟨a0, a1, a2, a3, a4, a5, a6⟩ th fv, rv, mv] w fun e w' => e = .returned (.bool true) ∧ Below w.heap.size w w' := by
  obtain ⟨ths, fs, hG⟩ := GIn.of s1 s2
  obtain ⟨rt, i3, y3, -⟩ := sy_of_slice s3
  obtain ⟨mt, i4, y4, -⟩ := sy_of_slice s4
  obtain ⟨at1, c1, rfl, -⟩ := id hG.th
  obtain ⟨af, c2, rfl⟩ := hG.fv.shape
  obtain ⟨ar, c3, rfl⟩ := i3.shape
  obtain ⟨am, c4, rfl⟩ := i4.shape
  obtain ⟨N, hN⟩ : ∃ N, ths.length = N := ⟨_, rfl⟩
  obtain ⟨M, hM⟩ : ∃ M, fs.length = M := ⟨_, rfl⟩
  obtain ⟨R, hR⟩ : ∃ R, rt.length = R := ⟨_, rfl⟩
  obtain ⟨Q, hQ⟩ : ∃ Q, mt.length = Q := ⟨_, rfl⟩
  have HG := Lib.hid (And.intro hG (And.intro i3 (And.intro y3 (And.intro i4 y4))))
  have HLn := Lib.hid (And.intro hN (And.intro hM (And.intro hR hQ)))
  have HL := Lib.hid (And.intro (Laid.mk hLim hS) hTab)
  rw [hN, hM, hR, hQ]
  clear hG i3 i4 y3 y4 s1 s2 s3 s4 hLim hS hTab hN hM hR hQ
  go_enter Tryz.func3, Tryz.ntmps3
  go_wp2_with fail
  obtain ⟨W0, hW⟩ : ∃ W, W = w.alloc (Obj.cells #[.int .i64 a0, .int .i64 a1, .int .i64 a2, .int .i64 a3, .int .i64 a4, .int .i64 a5, .int .i64 a6, .slice at1 N c1, .slice af M c2] 27) := ⟨_, rfl⟩
  have hT : Touch nob w W0 := by rw [hW]; (repeat (first | with_reducible exact Touch.refl _ _ | with_reducible assumption | with_reducible apply Touch.alloc | with_reducible apply Touch.drewN | with_reducible apply Touch.drew | with_reducible refine Touch.setCell ?_ (.inr (by first | omega | (simp; done) | (simp; omega))) _))
  obtain ⟨b0, hb0⟩ : ∃ b, b = w.heap.size := ⟨_, rfl⟩
  rw [← hW, ← hb0]
  have hbx : W0.heap[b0]? = some (Obj.cells #[.int .i64 a0, .int .i64 a1, .int .i64 a2, .int .i64 a3, .int .i64 a4, .int .i64 a5, .int .i64 a6, .slice at1 N c1, .slice af M c2] 27) := by rw [hW, hb0]; exact World.alloc_heap_new w _
  have HB := Lib.hid (And.intro hT hbx)
  clear hW hb0 hT hbx
  go_wp2_with (go_at_call 12; fail)
  refine (law16_great ⟨a0, a1, a2, a3, a4, a5, a6⟩ W0 at1 af ar N c1 M c2 R c3).mono ?_
  rintro e w1 ⟨rfl, t1⟩
  have H1 := Lib.hid (HB.out.1.trans t1)
  have HB1 := Lib.hid (blk_touch HB.out.2 t1 (fun x => x))
  clear t1 HB
  cases hgt : (decide (40 < N) || decide (200 < M) || decide (40 < R)) with
  | true =>
    go_wp2_with (go_at_call 13; fail)
    refine (law16_awake w1 (HL.out.1.old H1.out) (HL.out.2.touch H1.out (fun x => x))).mono ?_
    rintro e w2 ⟨rfl, t2⟩
    have H2 := Lib.hid ((H1.out.trans t2).below)
    clear t2
    go_wp2
    go_ret
    exact ⟨rfl, H2.out⟩
  | false =>
    by_cases hq : 40 < Q
    · have hqb : (40 : Int) < (Q : Int) := by omega
      go_wp2_with (go_at_call 13; fail)
      refine (law16_awake w1 (HL.out.1.old H1.out) (HL.out.2.touch H1.out (fun x => x))).mono ?_
      rintro e w2 ⟨rfl, t2⟩
      have H2 := Lib.hid ((H1.out.trans t2).below)
      clear t2
      go_wp2
      go_ret
      exact ⟨rfl, H2.out⟩
    · have hqb : ¬ (40 : Int) < (Q : Int) := by omega
      simp only [Bool.or_eq_false_iff, decide_eq_false_iff_not] at hgt
      have HBd := Lib.hid (And.intro hgt (show Q ≤ 40 by omega))
      clear hgt hq
      go_wp2_with (go_at_call 13; fail)
      refine (law16_awake w1 (HL.out.1.old H1.out) (HL.out.2.touch H1.out (fun x => x))).mono ?_
      rintro e w2 ⟨rfl, t2⟩
      have H2 := Lib.hid (H1.out.trans t2)
      obtain ⟨y0, y1, y2, y3, y4, y5, y6, y7, y8⟩ := box9 (blk_touch HB1.out t2 (fun x => x))
      clear t2
      go_wp2_with (go_at_call 14; fail)
      obtain ⟨c, hc⟩ : ∃ c, little ⟨a0, a1, a2, a3, a4, a5, a6⟩ = c := ⟨_, rfl⟩
      have hgi := HG.out.1.old H2.out
      rw [HLn.out.1, HLn.out.2.1] at hgi
      refine (law16_Made ⟨a0, a1, a2, a3, a4, a5, a6⟩ c hc _ ths _ fs hgi.fb (by have h1 := HBd.out.1.1.2; have h2 := HLn.out.2.1; omega) w2 (HL.out.1.old H2.out) (HL.out.2.touch H2.out (fun x => x)) hgi.th hgi.fv).mono ?_
      rintro e w3 ⟨A, rfl, W1, S, H, t3, hp, -, z, -, -, -, hz, hz2, -, -⟩
      have hol : S.objs.length ≤ 145 := by have := @objs_len S; omega
      have H3 := Lib.hid (And.intro (H2.out.trans t3) (And.intro hp (And.intro hol ((HL.out.2.touch H2.out (fun x => x)).touch t3 (fun x => x)))))
      clear t3 hp hz hz2 hol hgi hc y0 y1 y2 y3 y4 y5 y6 y7 y8
      go_wp2_with (go_at_call 15; fail)
      refine (tr_Reach (rt := rt) _ H3.out.2.1 H3.out.2.2.2 (by have := HG.out.2.1.old (H3.out.1.trans H3.out.2.1.at'.base); rwa [HLn.out.2.2.1] at this) (by have h1 := HBd.out.1.2; have h2 := HLn.out.2.2.1; have h3 := H3.out.2.2.1; omega)).mono ?_
      rintro e w4 ⟨v4, rfl, t4, h4, o4⟩
      obtain ⟨ao4, cp4, e4⟩ := o4.ints.shape
      subst e4
      have hrl : (rchL S c rt).length ≤ 145 := Nat.le_trans rchL_len H3.out.2.2.1
      obtain ⟨la, hla⟩ : ∃ la, rchL S c rt = la := ⟨_, rfl⟩
      rw [hla] at o4 hrl ⊢
      obtain ⟨na, hna⟩ : ∃ na, la.length = na := ⟨_, rfl⟩
      rw [hna] at o4 hrl ⊢
      have H4 := Lib.hid (And.intro h4 (And.intro hla hna))
      have HR4 : Hid (HRs W1 A c S H w3.heap.size [(.slice ao4 na cp4, la)] w4) := ⟨h4, H3.out.2.1.at'.lt, t4.size, fun p hm => by rw [List.mem_singleton.1 hm]; exact o4⟩
      have HB4 : Hid (w3.heap.size ≤ w4.heap.size) := t4.size
      clear t4 h4 o4 hla hna
      have HO : Hid (Ow (w4.alloc (Obj.cells #[] 3)) w4.heap.size (.slice (some ⟨w4.heap.size, 0, none⟩) 0 0) []) := World.ownsRow_made (size := 1) w4 #[] 0 (Nat.le_refl _) (by unfold maxLen; omega) rfl
      have hw4 : Touch nob w w4 := H3.out.1.trans H4.out.1.at'.base
      have hq2 : mt.length ≤ 40 := by rw [HLn.out.2.2.2]; exact HBd.out.2
      have hq1 : rt.length ≤ 40 := by rw [HLn.out.2.2.1]; have := HBd.out.1.2; omega
      have HX1 : Hid (Sy (w4.alloc (Obj.cells #[] 3)) (.slice ar R c3) rt) := by have := HG.out.2.2.1.old (hw4.alloc (Obj.cells #[] 3)); rwa [HLn.out.2.2.1] at this
      have HX2 : Hid (∀ w5, Touch nob w4 w5 → Sy w5 (.slice am Q c4) mt) := fun w5 ht => by have := HG.out.2.2.2.2.old (hw4.trans ht); rwa [HLn.out.2.2.2] at this
      have HG5 : Hid (∀ w5 row, (w4.alloc (Obj.cells #[] 3)).grownBy w5 row → (∀ k, row = some k → w4.heap.size ≤ k) → Touch nob w4 w5) := fun w5 row hg hr => Touch.grown ((Touch.refl nob w4).alloc _) hg (fun k hk => .inr (hr k hk))
      clear hw4
      go_wp2_with (first
        | (at_builtin; refine wpList_append_sy rfl _ _ rfl w4.heap.size _ _ _ mt rfl H5.out.1 rfl H5.out.2.1 (by rw [List.length_append, List.length_nil]; omega) H5.out.2.2.size ?_; intro v6 w6 hown hgrow hat; have H6 := Lib.hid (And.intro hown (Touch.grown (S := nob) H5.out.2.2 hgrow (fun k hk => .inr (H5.out.1.new k hk)))); obtain ⟨ao6, cp6, rfl⟩ := hown.ints.shape; clear hown hgrow hat)
        | (at_builtin; refine wpList_append_sy rfl _ _ rfl w4.heap.size _ _ [] rt rfl HO.out rfl HX1.out (by rw [List.length_nil]; omega) (by simp) ?_; intro v5 w5 hown hgrow hat; have h5t := HG5.out w5 _ hgrow (fun k hk => by cases hk; exact Nat.le_refl _); have H5 : Hid (Ow w5 w4.heap.size v5 ([] ++ rt) ∧ Sy w5 (.slice am Q c4) mt ∧ Touch nob w4 w5) := ⟨hown, HX2.out w5 h5t, h5t⟩; obtain ⟨ao5, cp5, rfl⟩ := hown.ints.shape; clear hown hgrow hat h5t)
        | (go_at_call 15; fail))
      have H6' : Hid (IntsIn w6 (.slice ao6 (rt.length + mt.length) cp6) (rt ++ mt) ∧ Touch nob w4 w6) := by
        have := H6.out.1.ints
        simp only [List.nil_append, List.length_append] at this
        exact ⟨this, H6.out.2⟩
      clear H6 HG5 HX2 HX1 HO H5
      refine (tr_Reach (rt := rt ++ mt) _ (H4.out.1.old H6'.out.2) H3.out.2.2.2 H6'.out.1 (by rw [List.length_append]; have h3 := H3.out.2.2.1; omega)).mono ?_
      rintro e w7 ⟨v7, rfl, t7, h7, o7⟩
      obtain ⟨ao7, cp7, e7⟩ := o7.ints.shape
      subst e7
      have hbl : (rchL S c (rt ++ mt)).length ≤ 145 := Nat.le_trans rchL_len H3.out.2.2.1
      have hsub : ∀ x ∈ rchL S c rt, x ∈ rchL S c (rt ++ mt) := fun x hx => mem_rchL.2 ((mem_rchL.1 hx).mono fun y hy => List.mem_append_left _ hy)
      obtain ⟨lb, hlb⟩ : ∃ lb, rchL S c (rt ++ mt) = lb := ⟨_, rfl⟩
      rw [H4.out.2.1, hlb] at hsub
      rw [hlb] at o7 hbl ⊢
      obtain ⟨nb, hnb⟩ : ∃ nb, lb.length = nb := ⟨_, rfl⟩
      rw [hnb] at o7 hbl ⊢
      have HR7 : Hid (HRs W1 A c S H w3.heap.size [(.slice ao7 nb cp7, lb), (.slice ao4 na cp4, la)] w7) := ((HR4.out.old H6'.out.2).heap t7 h7).more o7 (Nat.le_trans HB4.out H6'.out.2.size)
      have HS7 := Lib.hid (And.intro hsub hnb)
      clear t7 h7 o7 hsub hlb hnb hq1 hq2
      go_wp2_with fail
      go_loopw [10] (fun i wr => ∃ j : Nat, j ≤ na ∧ i = .int .i64 j ∧ Hid (HRs W1 A c S H w3.heap.size [(.slice ao7 nb cp7, lb), (.slice ao4 na cp4, la)] wr)) (fun i _ => na - (intOf i).toNat)
      case atStart => exact ⟨0, Nat.zero_le _, rfl, HR7⟩
      case round =>
        obtain ⟨j, hj, rfl, HR⟩ := hrel
        clear HR7
        by_cases hlt : j < na
        · have hb : (j : Int) < (na : Int) := by omega
          obtain ⟨g, rfl, hcap, hcell⟩ := own_at (HR.out.get 1 rfl) rfl H4.out.2.2 hlt
          obtain ⟨x, hx⟩ : ∃ x, la.getD j 0 = x := ⟨_, rfl⟩
          rw [hx] at hcell
          have hxm : x ∈ la := by
            have hj' : j < la.length := by rw [H4.out.2.2]; exact hlt
            rw [← hx, List.getD_eq_getElem?_getD, List.getElem?_eq_getElem hj']
            exact List.getElem_mem hj'
          have hxb := HS7.out.1 x hxm
          have HXm := Lib.hid hxb
          clear hx hxm hxb
          go_wp2_with (go_at_call 16; fail)
          refine (ref01_In _ lb x (by have := (HR.out.get 0 rfl).ints; exact this) (by rw [HS7.out.2]; omega)).mono ?_
          rintro e w8 ⟨rfl, t8⟩
          rw [decide_eq_true HXm.out]
          have H8 := Lib.hid (HR.out.old t8)
          clear t8 hcell
          go_wp2_with fail
          go_roundw
          case rel => exact ⟨j + 1, by omega, by go_num, H8⟩
          case measure => simp [intOf]; omega
        · obtain rfl : j = na := by omega
          have hb : ¬ (j : Int) < (j : Int) := by omega
          go_wp2_with (go_at_call 17; fail)
          refine (tr_Garbage (rt := rt) _ HR.out.hp H3.out.2.2.2 (by have := HG.out.2.1.old (H3.out.1.trans HR.out.hp.at'.base); rwa [HLn.out.2.2.1] at this) (by have h1 := HBd.out.1.2; have h2 := HLn.out.2.2.1; have h3 := H3.out.2.2.1; omega)).mono ?_
          rintro e w9 ⟨v9, rfl, t9, h9, o9⟩
          obtain ⟨ao9, cp9, e9⟩ := o9.ints.shape
          subst e9
          have hlen : (rchL S c rt).length + (S.objs.filter fun x => !rchB S c rt x).length = S.objs.length := part_len _ _
          rw [H4.out.2.1, H4.out.2.2] at hlen
          have hnot : ∀ x ∈ (S.objs.filter fun x => !rchB S c rt x), x ∉ la := fun x hx hm => by
            have h1 := (List.mem_filter.1 hx).2
            rw [← H4.out.2.1] at hm
            rw [rchB_iff.2 (mem_rchL.1 hm)] at h1
            cases h1
          obtain ⟨lo, hlo⟩ : ∃ lo, (S.objs.filter fun x => !rchB S c rt x) = lo := ⟨_, rfl⟩
          rw [hlo] at o9 hlen hnot ⊢
          obtain ⟨no, hno⟩ : ∃ no, lo.length = no := ⟨_, rfl⟩
          rw [hno] at o9 hlen ⊢
          have HR9 : Hid (HRs W1 A c S H w3.heap.size [(.slice ao9 no cp9, lo), (.slice ao7 nb cp7, lb), (.slice ao4 j cp4, la)] w9) := (HR.out.heap t9 h9).more o9 HR.out.sz
          have hno145 : no ≤ 145 := by have := H3.out.2.2.1; omega
          have HS9 := Lib.hid (And.intro hnot (And.intro hno hlen))
          clear t9 h9 o9 hnot hlo hno hlen HR
          go_wp2_with fail
          go_loopw [12] (fun i wr => ∃ k : Nat, k ≤ no ∧ i = .int .i64 k ∧ Hid (HRs W1 A c S H w3.heap.size [(.slice ao9 no cp9, lo), (.slice ao7 nb cp7, lb), (.slice ao4 j cp4, la)] wr)) (fun i _ => no - (intOf i).toNat)
          case atStart => exact ⟨0, Nat.zero_le _, rfl, HR9⟩
          case round =>
            obtain ⟨k, hk, rfl, HR⟩ := hrel
            clear HR9
            by_cases hlt : k < no
            · have hb : (k : Int) < (no : Int) := by omega
              obtain ⟨g, rfl, hcap, hcell⟩ := own_at (HR.out.get 0 rfl) rfl HS9.out.2.1 hlt
              obtain ⟨x, hx⟩ : ∃ x, lo.getD k 0 = x := ⟨_, rfl⟩
              rw [hx] at hcell
              have hxm : x ∈ lo := by
                have hj' : k < lo.length := by rw [HS9.out.2.1]; exact hlt
                rw [← hx, List.getD_eq_getElem?_getD, List.getElem?_eq_getElem hj']
                exact List.getElem_mem hj'
              have HXm := Lib.hid (HS9.out.1 x hxm)
              clear hx hxm
              go_wp2_with (go_at_call 16; fail)
              refine (ref01_In _ la x (by have := (HR.out.get 2 rfl).ints; exact this) (by rw [H4.out.2.2]; omega)).mono ?_
              rintro e w10 ⟨rfl, t10⟩
              rw [decide_eq_false HXm.out]
              have H10 := Lib.hid (HR.out.old t10)
              clear t10 hcell
              go_wp2_with fail
              go_roundw
              case rel => exact ⟨k + 1, by omega, by go_num, H10⟩
              case measure => simp [intOf]; omega
            · obtain rfl : k = no := by omega
              have hb : ¬ (k : Int) < (k : Int) := by omega
              go_wp2_with (go_at_call 15; fail)
              refine (tr_Reach (rt := la) _ HR.out.hp H3.out.2.2.2 (by have := (HR.out.get 2 rfl).ints; exact this) (by have h2 := H4.out.2.2; have h3 := H3.out.2.2.1; omega)).mono ?_
              rintro e w11 ⟨v11, rfl, t11, h11, o11⟩
              have hid : rchL S c la = la := by rw [← H4.out.2.1]; exact rchL_idem
              rw [hid] at o11
              obtain ⟨ao11, cp11, e11⟩ := o11.ints.shape
              subst e11
              have H11 := Lib.hid (And.intro (HR.out.heap t11 h11) o11.ints)
              clear t11 h11 o11 hid HR
              go_wp2_with (go_at_call 18; fail)
              refine (ref01_Same _ _ la w11 H11.out.2 (by have := (H11.out.1.get 2 rfl).ints; exact this) (by rw [H4.out.2.2]; omega)).mono ?_
              rintro e w12 ⟨rfl, t12⟩
              have H12 := Lib.hid (H11.out.1.old t12)
              clear t12
              go_wp2_with (go_at_call 19; fail)
              refine (hp_Objects H12.out.hp (H3.out.2.2.2.touch H12.out.hp.at'.base (fun x => x))).mono ?_
              rintro e w13 ⟨v13, rfl, t13, h13, o13⟩
              obtain ⟨ao13, cp13, e13⟩ := o13.ints.shape
              subst e13
              have hln := HS9.out.2.2
              obtain ⟨n13, hn13⟩ : ∃ n, S.objs.length = n := ⟨_, rfl⟩
              rw [hn13] at hln ⊢
              have hn145 : n13 ≤ 290 := by omega
              have hsum : ((j : Int) + (k : Int) == (n13 : Int)) = true := by rw [beq_iff_eq]; omega
              have hwr : IntKind.i64.wrap ((j : Int) + (k : Int)) = (j : Int) + (k : Int) := IntWalk.i64_in _ (by omega)
              have H13 := Lib.hid ((H3.out.1.trans h13.at'.base).below)
              clear t13 h13 o13 hn13 hln
              go_wp2
              go_ret
              exact ⟨rfl, H13.out⟩
end Go.Proofs.YtnobempbcdkoaaaGreatDoor
