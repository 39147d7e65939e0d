/- NoteKeeps, walked. Conditions: the tables of limits, of sizes and of de Bruijn's bits read as laid. -/
import Derived.Test.YtnobempbcdkoaaaGreatDoorNoq
import Derived.Test.YtnobempbcdkoaaaGreatDoorLaws19k
import Derived.BigQuiet
import Derived.Maps.AppendAt
import Derived.Deep.LoopGhost
namespace Go.Proofs.YtnobempbcdkoaaaGreatDoor
open Go.RowKit Go.Sort

variable {w : World}
set_option maxRecDepth 20000 in
set_option maxHeartbeats 4000000 in
theorem nkeeps_big {w : World} (a0 a1 a2 a3 a4 a5 a6 : Int) (th : Value) (r1 : List (List Value)) (s1 : IsSlice w th [some .u8, some .u8, none] r1) (bf : Value) (r2 : List (List Value)) (s2 : IsSlice w bf [some .u8] r2) (bx : Value) (r3 : List (List Value)) (s3 : IsSlice w bx [some .u8] r3) (rm : Int) (hq0 : (Lit.int .u8 rm).wf = true) (up : Bool) (av : Option Addr) (V cv : Nat) (hvb : (40 : Int) < (V : Int)) (hTab : Tab w) (hLim : Limits w) (hS : Sizes w) :
    Calls Tryz.prog 5 #[CsV ⟨a0, a1, a2, a3, a4, a5, a6⟩ th bf bx rm up, .slice av V cv] w fun e w' => e = .returned (.bool true) ∧ Below w.heap.size w w' := by
  obtain ⟨N0, hI0, -⟩ := rows_of_slice s1 (by simp)
  obtain ⟨ths, -, hth⟩ := ThIn.of_rows hI0
  obtain ⟨ks, hbf, -, hkb⟩ := k_of_slice s2
  obtain ⟨ls, hbx, -, hlb⟩ := k_of_slice s3
  have hrm := bounds_u8 hq0
  obtain ⟨at1, c1, rfl, -⟩ := id hth
  obtain ⟨af, c2, rfl⟩ := hbf.shape
  obtain ⟨ar, c3, rfl⟩ := hbx.shape
  obtain ⟨N, hN⟩ : ∃ N, ths.length = N := ⟨_, rfl⟩
  obtain ⟨M, hM⟩ : ∃ M, ks.length = M := ⟨_, rfl⟩
  obtain ⟨R, hR⟩ : ∃ R, ls.length = R := ⟨_, rfl⟩
  have HG := Lib.hid (And.intro hth (And.intro hbf (And.intro hbx (And.intro hkb (And.intro hlb hrm)))))
  have HLn := Lib.hid (And.intro hN (And.intro hM hR))
  have HL := Lib.hid (And.intro (Laid.mk hLim hS) hTab)
  rw [hN, hM, hR]
  clear hth hbf hbx hkb hlb hI0 s1 s2 s3 hLim hS hTab hN hM hR hq0 hrm
  go_enter Tryz.func5, Tryz.ntmps5
  go_wp2_with fail
  obtain ⟨W0, hW⟩ : ∃ W, W = w.alloc (Obj.cells (CsR ⟨a0, a1, a2, a3, a4, a5, a6⟩ (.slice at1 N c1) (.slice af M c2) (.slice ar R c3) rm up) 54) := ⟨_, rfl⟩
  have hT : Touch nob w W0 := by rw [hW]; (repeat (first | with_reducible exact Touch.refl _ _ | with_reducible assumption | with_reducible apply Touch.alloc | with_reducible apply Touch.drewN | with_reducible apply Touch.drew | with_reducible refine Touch.setCell ?_ (.inr (by first | omega | (simp; done) | (simp; omega))) _))
  obtain ⟨b0, hb0⟩ : ∃ b, b = w.heap.size := ⟨_, rfl⟩
  rw [← hW, ← hb0]
  have hbx : W0.heap[b0]? = some (Obj.cells (CsR ⟨a0, a1, a2, a3, a4, a5, a6⟩ (.slice at1 N c1) (.slice af M c2) (.slice ar R c3) rm up) 54) := by rw [hW, hb0]; exact World.alloc_heap_new w _
  have HB := Lib.hid (And.intro hT hbx)
  clear hW hb0 hT hbx
  obtain ⟨y0, y1, y2, y3, y4, y5, y6, y7, y8, y9, ya, yb⟩ := box12 HB.out.2
  go_wp2_with (go_at_call 26; fail)
  refine (law19_great ⟨a0, a1, a2, a3, a4, a5, a6⟩ W0 at1 af ar N c1 M c2 R c3 rm up).mono ?_
  rintro e w1 ⟨rfl, t1⟩
  have H1 := Lib.hid (And.intro (HB.out.1.trans t1) (blk_touch HB.out.2 t1 (fun x => x)))
  clear t1 HB y0 y1 y2 y3 y4 y5 y6 y7 y8 y9 ya yb
  cases hgt : (decide (30 < N) || decide (40 < M) || decide (40 < R))
  all_goals
    go_wp2_with (go_at_call 27; fail)
    refine (law19_awake w1 (HL.out.1.old H1.out.1)).mono ?_
    rintro e w2 ⟨rfl, t2⟩
    have H2 := Lib.hid ((H1.out.1.trans t2).below)
    clear t2
    go_wp2
    go_ret
    exact ⟨rfl, H2.out⟩
/-- Between two values that are noted. -/
structure KpS (W1 w5 : World) (A : HA) (c : Cf) (H : Nat → List Nat) (n p q f : Nat) (r6 : Int) (S : HS) (vh : Value) (had : List Int) (w : World) : Prop where
  st : ∃ S' bs xs up, NtI (fun b => vh.ownBlock = some b) W1 A c H n p q f (1 + r6) S' bs xs up w ∧ (∀ z, S'.obj z = S.obj z) ∧ (∀ z, z ∈ bs → S.obj z = true) ∧ ∀ y, y ∈ had → S.obj y = true ∧ Known (S', bs, xs, up) y
  oh : Ow w w5.heap.size vh had
  tw : Touch (NoT A p q f) w5 w
/-- While the box is emptied. -/
structure NxI (W1 w5 w8 : World) (A : HA) (c : Cf) (H : Nat → List Nat) (q : Nat) (S' : HS) (vh : Value) (had : List Int) (vk : Value) (kn xr : List Int) (w : World) : Prop where
  hp : HpI W1 w A c S' H
  bx : ∃ y, BoxAt w q y xr ∧ ∀ b, y.ownBlock = some b → b ∉ A.all ∧ vk.ownBlock ≠ some b
  oh : Ow w w5.heap.size vh had
  ok : Ow w w8.heap.size vk kn
  sz : w8.heap.size ≤ w.heap.size
  hq : q ∉ A.all ∧ W1.heap.size ≤ q ∧ q < w5.heap.size ∧ w5.heap.size ≤ w8.heap.size
  ha : ∀ b ∈ A.all, b < w8.heap.size
  hh : ∀ b, vh.ownBlock = some b → b < w8.heap.size
section
variable {W1 w5 w8 w w' : World} {A : HA} {c : Cf} {H : Nat → List Nat} {q : Nat} {S' : HS} {vh vk : Value} {had kn xr : List Int}
theorem NxI.next (h : NxI W1 w5 w8 A c H q S' vh had vk kn xr w) : Calls Tryz.prog 34 #[pt q] w fun e w' => ∃ a ok xr', e = .returned (.tuple #[.int .i64 a, .bool ok]) ∧ NxI W1 w5 w8 A c H q S' vh had vk kn xr' w' ∧ ((ok = false ∧ xr = [] ∧ xr' = []) ∨ (ok = true ∧ xr = a :: xr')) := by
  obtain ⟨y, h1, h2⟩ := h.bx
  cases xr with
  | nil =>
    refine (box_Next_no h1).mono ?_
    rintro e w1 ⟨rfl, rfl⟩
    exact ⟨0, false, [], rfl, h, .inl ⟨rfl, rfl, rfl⟩⟩
  | cons x xr =>
    refine (box_Next_ok h1).mono ?_
    rintro e w1 ⟨rfl, t1, v1, hb1, hs1⟩
    refine ⟨x, true, xr, rfl, ⟨h.hp.touch (h.hp.at'.base.step t1 (fun b hb => .inr ((show b = q from hb) ▸ h.hq.2.1))) t1 (fun b hb e => h.hq.1 ((show b = q from e) ▸ hb)), ⟨v1, hb1, fun b hb => (hs1 b hb).elim (h2 b) (fun hge => ⟨fun hm => ?_, fun e => ?_⟩)⟩, h.oh.touch t1 (fun g hg e => ?_), h.ok.touch t1 (fun g hg e => ?_), Nat.le_trans h.sz t1.size, h.hq, h.ha, h.hh⟩, .inr ⟨rfl, rfl⟩⟩
    · have := h.hp.at'.lt b hm; omega
    · have := h.ok.old b e; omega
    · have h3 := h.oh.new g hg
      have h4 := h.hq
      have h5 : g = q := e
      omega
    · have h3 := h.ok.new g hg
      have h4 := h.hq
      have h5 : g = q := e
      omega
theorem NxI.add (h : NxI W1 w5 w8 A c H q S' vh had vk kn xr w) (ht : Touch (fun b => vk.ownBlock = some b) w w') {vk' : Value} {kn' : List Int} (hk : Ow w' w8.heap.size vk' kn') (hn : ∀ b, vk'.ownBlock = some b → vk.ownBlock = some b ∨ w.heap.size ≤ b) : NxI W1 w5 w8 A c H q S' vh had vk' kn' xr w' := by
  obtain ⟨y, h1, h2⟩ := h.bx
  have hg : ∀ b, vk.ownBlock = some b → w8.heap.size ≤ b := h.ok.new
  have hq := h.hq
  refine ⟨h.hp.touch (h.hp.at'.base.step ht (fun b hb => .inr ?_)) ht (fun b hb e => ?_), ⟨y, h1.touchT ht (fun e => ?_) (fun b hb => (h2 b hb).2), fun b hb => ⟨(h2 b hb).1, fun e => (hn b e).elim (h2 b hb).2 (fun hge => ?_)⟩⟩, h.oh.touch ht (fun g hg' e => ?_), hk, Nat.le_trans h.sz ht.size, hq, h.ha, h.hh⟩
  · have := hg b hb; omega
  · have h3 := hg b e; have h4 := h.ha b hb; omega
  · have := hg q e; omega
  · have := h1.row.lt b hb; omega
  · have h3 := hg g e; have h4 := h.hh g hg'; omega
end
theorem obj_ne0 {W w : World} {A : HA} {c : Cf} {S : HS} {H : Nat → List Nat} {v : Int} (h : HpI W w A c S H) (hv : S.obj v = true) : v ≠ 0 := by
  rintro rfl
  unfold HS.obj hasB at hv
  obtain ⟨j, e, -⟩ := h.inv.ob _ (Bool.and_eq_true_iff.1 hv).2
  simp at e
set_option maxRecDepth 20000 in
set_option maxHeartbeats 4000000 in
theorem nkeeps {w : World} (a0 a1 a2 a3 a4 a5 a6 : Int) (th : Value) (r1 : List (List Value)) (s1 : IsSlice w th [some .u8, some .u8, none] r1) (bf : Value) (r2 : List (List Value)) (s2 : IsSlice w bf [some .u8] r2) (bx : Value) (r3 : List (List Value)) (s3 : IsSlice w bx [some .u8] r3) (rm : Int) (hq0 : (Lit.int .u8 rm).wf = true) (up : Bool) (av : Option Addr) (V cv : Nat) (vs : List Int) (hv : Hid (KIn .u8 w (.slice av V cv) vs ∧ vs.length = V ∧ ∀ j, j < vs.length → 0 ≤ vs.getD j 0 ∧ vs.getD j 0 ≤ 255)) (hvb : ¬ (40 : Int) < (V : Int)) (hTab : Tab w) (hLim : Limits w) (hS : Sizes w) :
    Calls Tryz.prog 5 #[CsV ⟨a0, a1, a2, a3, a4, a5, a6⟩ th bf bx rm up, .slice av V cv] w fun e w' => e = .returned (.bool true) ∧ Below w.heap.size w w' := by
  obtain ⟨N0, hI0, -⟩ := rows_of_slice s1 (by simp)
  obtain ⟨ths, -, hth⟩ := ThIn.of_rows hI0
  obtain ⟨ks, hbf, -, hkb⟩ := k_of_slice s2
  obtain ⟨ls, hbx, -, hlb⟩ := k_of_slice s3
  have hrm := bounds_u8 hq0
  obtain ⟨at1, c1, rfl, -⟩ := id hth
  obtain ⟨af, c2, rfl⟩ := hbf.shape
  obtain ⟨ar, c3, rfl⟩ := hbx.shape
  obtain ⟨N, hN⟩ : ∃ N, ths.length = N := ⟨_, rfl⟩
  obtain ⟨M, hM⟩ : ∃ M, ks.length = M := ⟨_, rfl⟩
  obtain ⟨R, hR⟩ : ∃ R, ls.length = R := ⟨_, rfl⟩
  have HG := Lib.hid (And.intro hth (And.intro hbf (And.intro hbx (And.intro hkb (And.intro hlb hrm)))))
  have HLn := Lib.hid (And.intro hN (And.intro hM hR))
  have HL := Lib.hid (And.intro (Laid.mk hLim hS) hTab)
  rw [hN, hM, hR]
  clear hth hbf hbx hkb hlb hI0 s1 s2 s3 hLim hS hTab hN hM hR hq0 hrm
  go_enter Tryz.func5, Tryz.ntmps5
  go_wp2_with fail
  obtain ⟨W0, hW⟩ : ∃ W, W = w.alloc (Obj.cells (CsR ⟨a0, a1, a2, a3, a4, a5, a6⟩ (.slice at1 N c1) (.slice af M c2) (.slice ar R c3) rm up) 54) := ⟨_, rfl⟩
  have hT : Touch nob w W0 := by rw [hW]; (repeat (first | with_reducible exact Touch.refl _ _ | with_reducible assumption | with_reducible apply Touch.alloc | with_reducible apply Touch.drewN | with_reducible apply Touch.drew | with_reducible refine Touch.setCell ?_ (.inr (by first | omega | (simp; done) | (simp; omega))) _))
  obtain ⟨b0, hb0⟩ : ∃ b, b = w.heap.size := ⟨_, rfl⟩
  rw [← hW, ← hb0]
  have hbx : W0.heap[b0]? = some (Obj.cells (CsR ⟨a0, a1, a2, a3, a4, a5, a6⟩ (.slice at1 N c1) (.slice af M c2) (.slice ar R c3) rm up) 54) := by rw [hW, hb0]; exact World.alloc_heap_new w _
  have HB := Lib.hid (And.intro hT hbx)
  clear hW hb0 hT hbx
  obtain ⟨y0, y1, y2, y3, y4, y5, y6, y7, y8, y9, ya, yb⟩ := box12 HB.out.2
  go_wp2_with (go_at_call 26; fail)
  refine (law19_great ⟨a0, a1, a2, a3, a4, a5, a6⟩ W0 at1 af ar N c1 M c2 R c3 rm up).mono ?_
  rintro e w1 ⟨rfl, t1⟩
  have H1 := Lib.hid (And.intro (HB.out.1.trans t1) (blk_touch HB.out.2 t1 (fun x => x)))
  clear t1 HB y0 y1 y2 y3 y4 y5 y6 y7 y8 y9 ya yb
  cases hgt : (decide (30 < N) || decide (40 < M) || decide (40 < R)) with
  | true =>
    go_wp2_with (go_at_call 27; fail)
    refine (law19_awake w1 (HL.out.1.old H1.out.1)).mono ?_
    rintro e w2 ⟨rfl, t2⟩
    have H2 := Lib.hid ((H1.out.1.trans t2).below)
    clear t2
    go_wp2
    go_ret
    exact ⟨rfl, H2.out⟩
  | false =>
    simp only [Bool.or_eq_false_iff, decide_eq_false_iff_not] at hgt
    have HBd := Lib.hid hgt
    clear hgt
    go_wp2_with (go_at_call 27; fail)
    refine (law19_awake w1 (HL.out.1.old H1.out.1)).mono ?_
    rintro e w2 ⟨rfl, t2⟩
    have H2 := Lib.hid (And.intro (H1.out.1.trans t2) (blk_touch H1.out.2 t2 (fun x => x)))
    obtain ⟨y0, y1, y2, y3, y4, y5, y6, y7, y8, y9, ya, yb⟩ := box12 H2.out.2
    clear t2
    go_wp2_with (go_at_call 28; fail)
    obtain ⟨c, hc⟩ : ∃ c, little ⟨a0, a1, a2, a3, a4, a5, a6⟩ = c := ⟨_, rfl⟩
    have hpt := law19_parts ⟨a0, a1, a2, a3, a4, a5, a6⟩ c hc _ _ _ ths ks ls rm up w2 (HL.out.1.old H2.out.1) (HL.out.2.touch H2.out.1 (fun x => x)) (HG.out.1.old H2.out.1) (HG.out.2.1.old H2.out.1) (HG.out.2.2.1.old H2.out.1) (fun j hj => bounds_u8 (HG.out.2.2.2.1 j hj)) (fun j hj => bounds_u8 (HG.out.2.2.2.2.1 j hj)) (by have h1 := HBd.out; have h2 := HLn.out.2.1; omega) (by have h1 := HBd.out; have h2 := HLn.out.2.2; omega) HG.out.2.2.2.2.2
    rw [HLn.out.1, HLn.out.2.1, HLn.out.2.2] at hpt
    refine hpt.mono ?_
    rintro e w3 ⟨A, p, q, f, rfl, W1, S, H, bs, xs, t3, hP, hbm, hxm, hxl, hol⟩
    obtain ⟨r6, hr6⟩ : ∃ r, rm % 6 = r := ⟨_, rfl⟩
    rw [hr6] at hP
    have HR6 := Lib.hid (And.intro hr6 HG.out.2.2.2.2.2)
    have H3 := Lib.hid (And.intro (H2.out.1.trans t3) (And.intro hP (And.intro hbm (And.intro hxm (And.intro hxl (And.intro hol ((HL.out.2.touch H2.out.1 (fun x => x)).touch t3 (fun x => x))))))))
    have HBX : Hid (∀ wr, Touch nob W1 wr → wr.heap[b0]? = some (Obj.cells (CsR ⟨a0, a1, a2, a3, a4, a5, a6⟩ (.slice at1 N c1) (.slice af M c2) (.slice ar R c3) rm up) 54)) := fun wr ht => blk_touch H2.out.2 (t3.trans ht) (fun x => x)
    clear t3 hP hbm hxm hxl hol hc hpt hr6 y0 y1 y2 y3 y4 y5 y6 y7 y8 y9 ya yb
    go_wp2_with (go_at_call 29; fail)
    refine (note_New_ok A.h p q f w3).mono ?_
    rintro e w4 ⟨n, rfl, hn4, t4, hb4⟩
    have HN4 := Lib.hid (H3.out.2.1.nt t4 hn4 hb4)
    clear hn4 t4 hb4
    go_wp2_with (go_at_call 19; fail)
    refine (hp_Objects HN4.out.hp (H3.out.2.2.2.2.2.2.touch HN4.out.hp.at'.base (fun x => x))).mono ?_
    rintro e w5 ⟨va, rfl, t5, h5, oa⟩
    have HN5 := Lib.hid (HN4.out.heap t5 h5)
    obtain ⟨a5', c5', rfl⟩ := oa.ints.shape
    obtain ⟨all, hall⟩ : ∃ all, S.objs = all := ⟨_, rfl⟩
    obtain ⟨na, hna⟩ : ∃ n, all.length = n := ⟨_, rfl⟩
    have hol := H3.out.2.2.2.2.2.1
    rw [hall] at oa hol ⊢
    rw [hna] at oa hol ⊢
    have HO5 := Lib.hid (And.intro oa (And.intro hall (And.intro hna t5.size)))
    clear t5 h5 oa hall hna
    by_cases hna0 : na = 0
    · subst hna0
      go_wp2
      go_ret
      exact ⟨rfl, (H3.out.1.trans HN5.out.hp.at'.base).below⟩
    · have hna1 : ((na : Int) == 0) = false := by simp; omega
      go_wp2_with (go_at_call 30; fail)
      obtain ⟨u5, hb5, -⟩ := HN5.out.buf
      refine (buf_All3 hb5).mono ?_
      rintro e w6 ⟨v6, rfl, t6, o6⟩
      have hbl : bs.length ≤ 6 := by have h1 := HN5.out.ln; have h2 := HR6.out; omega
      have HK6 : Hid (∃ had, KpS W1 w5 A c H n p q f r6 S v6 had w6 ∧ had.length ≤ 6 + 0) := ⟨bs, ⟨⟨S, bs, xs, up, HN5.out.row t6 (fun b hb => hb.elim) (fun b hb => ⟨.inr (o6.new b hb), o6.old b hb⟩), fun _ => rfl, fun z hz => mem_objs.1 (H3.out.2.2.1 z hz), fun y hy => ⟨mem_objs.1 (H3.out.2.2.1 y hy), .inr (.inl hy)⟩⟩, o6, t6.mono fun b _ e => e.elim⟩, hbl⟩
      clear t6 o6 hb5 hbl
      obtain ⟨i0, hi, hz0, hz1', hz2⟩ := info_parts info_int2
      have ht6 : 0 ≤ rm.tmod 6 ∧ rm.tmod 6 < 6 ∧ rm.tmod 6 = r6 := by
        have h1 := HR6.out
        rw [Int.tmod_eq_emod_of_nonneg h1.2.1]
        omega
      obtain ⟨ht60, ht61, ht62⟩ := ht6
      have HT6 := Lib.hid ht62
      clear ht62
      go_wp2_with fail
      go_loopw [12, 13] (fun vh iv wr => ∃ j : Nat, j ≤ V ∧ iv = .int .i64 j ∧ Hid (∃ had, KpS W1 w5 A c H n p q f r6 S vh had wr ∧ had.length ≤ 6 + j)) (fun _ iv _ => V - (intOf iv).toNat)
      case atStart => exact ⟨0, Nat.zero_le _, rfl, HK6.out⟩
      case round =>
        clear HK6
        obtain ⟨j, hj, rfl, HI⟩ := hrel
        by_cases hlt : j < V
        · have hb : (j : Int) < (V : Int) := by omega
          obtain ⟨had, hK, hhl⟩ := HI.out
          obtain ⟨S', bs', xs', up', hN, ho', hb', hk'⟩ := hK.st
          obtain ⟨g1, o1, p1, e1, hcap1, hcell1⟩ := (hv.out.1.old (H3.out.1.trans hN.hp.at'.base)).at (j := j) (by rw [hv.out.2.1]; exact hlt)
          rw [hv.out.2.1] at e1 hcap1
          injection e1 with x1 x2 x3
          subst x1 x3
          have hkb := hv.out.2.2 j (by rw [hv.out.2.1]; exact hlt)
          obtain ⟨x, hx⟩ : ∃ x, vs.getD j 0 = x := ⟨_, rfl⟩
          rw [hx] at hcell1 hkb
          obtain ⟨hx0, hx1⟩ := hkb
          have hn1 : ¬ (na : Int) = 0 := by omega
          have hmm : ¬ (na : Int) = -1 := by omega
          obtain ⟨r, hr⟩ : ∃ r : Nat, x % na = r := ⟨(x % na).toNat, by have := Int.emod_nonneg x hn1; omega⟩
          have hrm : r < na := by have := Int.emod_lt_of_pos x (show (0 : Int) < na by omega); omega
          have hrt : x.tmod na = r := by rw [Int.tmod_eq_emod_of_nonneg hx0]; exact hr
          have hrb : (r : Int) < (na : Int) := by omega
          have hwx : IntKind.i64.wrap x = x := IntWalk.i64_in _ (by omega)
          have hoa : Ow wr w4.heap.size (.slice a5' na c5') all := HO5.out.1.touch hK.tw (fun g hg => nt_keep HN4.out (HO5.out.1.new g hg))
          obtain ⟨g2, hg2, -, hvc⟩ := own_at hoa rfl HO5.out.2.2.1 hrm
          have hym : all.getD r 0 ∈ all := by
            rw [List.getD_eq_getElem?_getD, List.getElem?_eq_getElem (by rw [HO5.out.2.2.1]; exact hrm)]
            exact List.getElem_mem _
          obtain ⟨y, hy⟩ : ∃ y, all.getD r 0 = y := ⟨_, rfl⟩
          rw [hy] at hvc hym
          subst hg2
          rw [← HO5.out.2.1] at hym
          have hyo : S.obj y = true := mem_objs.1 hym
          have hni := note_inv (room := 1 + r6) (xs := xs') (up := up') (v := y) ((ho' y).trans hyo) (obj_ne0 HN5.out.hp hyo) (fun z hz => (ho' z).trans (hb' z hz))
          have HKK := Lib.hid (And.intro hN (And.intro ho' (And.intro hb' (And.intro hk' (And.intro hK.oh (And.intro hK.tw (And.intro hhl (And.intro hyo hni))))))))
          clear hoa hy hym hK hN ho' hb' hk' hhl hyo hni hx hr x2 HI
          go_wp2_with (go_at_call 32; fail)
          refine (does_note (m := 0) (I := fun _ => True) (Q := fun w' => NtR (fun b => u12.ownBlock = some b) W1 A c H n p q f (1 + r6) (noteR S' y 1 (1 + r6) bs' xs' up') w' ∧ Touch (NoT A p q f) wr w') (.inl rfl) HKK.out.1 (fun _ _ _ => trivial) (fun w' ht hN' => ⟨rfl, trivial, hN', ht⟩)).mono ?_
          rintro e w9 ⟨sv, rfl, t9, hD⟩
          have HD := Lib.hid hD
          clear t9 hD
          go_wp2_with (go_at_call 31; fail)
          have hKb : 0 + noteK S' y 1 (1 + r6) bs' xs' ≤ 1000 ∧ ((0 + noteK S' y 1 (1 + r6) bs' xs' : Nat) : Int) ≤ 5 + r6 := by
            have h1 := HKK.out.1.ln
            have h2 := @noteK_le S' (1 + r6) y bs' xs'
            omega
          refine (note_Run (0 + noteK S' y 1 (1 + r6) bs' xs') 1000 sv HD.out (by omega)).mono ?_
          rintro e w10 ⟨T, rfl, hT, -, hQ⟩
          obtain rfl : T = 0 + noteK S' y 1 (1 + r6) bs' xs' := by omega
          rw [decide_eq_true rfl]
          obtain ⟨hN10, t10⟩ := hQ rfl
          obtain ⟨T, hT2⟩ : ∃ T, 0 + noteK S' y 1 (1 + r6) bs' xs' = T := ⟨_, rfl⟩
          rw [hT2] at hKb ⊢
          obtain ⟨R1, hR1⟩ : ∃ R1, noteR S' y 1 (1 + r6) bs' xs' up' = R1 := ⟨_, rfl⟩
          rw [hR1] at hN10
          obtain ⟨Lb, hLb⟩ : ∃ L, R1.2.1.length = L := ⟨_, rfl⟩
          have hln := hN10.ln
          rw [hLb] at hln
          have hTb : ¬ (5 + rm.tmod 6 < (T : Int)) := by rw [HT6.out]; omega
          have hLb2 : ¬ (1 + rm.tmod 6 < (Lb : Int)) := by rw [HT6.out]; omega
          have HTL := Lib.hid (And.intro hTb hLb2)
          clear hTb hLb2
          have hkn : R1.1.obj = S.obj ∧ (∀ z, z ∈ R1.2.1 → S.obj z = true) ∧ Known R1 y ∧ ∀ z, S.obj z = true → Known (S', bs', xs', up') z → Known R1 z := by
            have h1 := HKK.out.2.2.2.2.2.2.2.2
            rw [hR1] at h1
            refine ⟨?_, fun z hz => (HKK.out.2.1 z).symm.trans (h1.2.1 z hz), h1.2.2.1, fun z hz => h1.2.2.2 z ((HKK.out.2.1 z).trans hz)⟩
            funext z
            exact (h1.1 z).trans (HKK.out.2.1 z)
          have H10 := Lib.hid (And.intro hN10 (And.intro t10 (And.intro hkn hLb)))
          clear hKb hT hQ hN10 t10 hT2 hR1 hLb hln hkn
          have hoh : Ow w10 w5.heap.size u12 had := HKK.out.2.2.2.2.1.touch H10.out.2.1 (fun g hg => nt_keep HN5.out (HKK.out.2.2.2.2.1.new g hg))
          have HOH := Lib.hid hoh
          clear hoh
          have k10 := cell_regrown (box12 (HBX.out w10 H10.out.1.hp.at'.base)).2.2.2.2.2.2.2.2.2.2.1
          have HLb : Hid (∀ wr, Touch nob w10 wr → Calls Tryz.prog 33 #[pt p] wr fun e w' => e = .returned (.int .i64 Lb) ∧ wr = w') := fun wr ht => by
            obtain ⟨u, h1, -⟩ := (H10.out.1.old ht).buf
            have h2 := buf_Len h1
            rwa [H10.out.2.2.2] at h2
          have d3 := fun d os => Calls.regrown_of ((HLb.out (grow (redrawn w10 d) os) (Touch.of_below (S := nob) (below_regrown w10 d os))).mono fun _ _ h => ⟨h.1, h.2 ▸ (Touch.refl nob _).below⟩)
          go_wp2_with fail
          refine wp_region_quiet_below (by kernel_rfl) (by kernel_rfl) ?_
          iterate 10 (go_big_quiet_step (first | (go_at_call 33; exact d3 _ _)))
          rw [decide_eq_false (show ¬ (5 + rm.tmod 6 < (T : Int)) by have := HTL.out.1; omega)]
          iterate 10 (go_big_quiet_step (first | (go_at_call 33; exact d3 _ _)))
          rw [decide_eq_false (show ¬ (1 + rm.tmod 6 < (Lb : Int)) by have := HTL.out.2; omega)]
          go_big_quiet_step (fail)
          refine wpQuiet_nil ?_
          intro w12 hw'
          obtain ⟨⟨dr, osr⟩, hw''⟩ := hw'
          simp only at hw''
          have HP : Hid (Touch nob w10 w12) := by show Touch nob w10 w12; rw [hw'']; exact Touch.of_below (below_regrown w10 dr osr)
          clear hw'' d3 k10
          obtain ⟨l, hl⟩ : ∃ l, had.length = l := ⟨_, rfl⟩
          have hll : l ≤ 6 + j := by rw [← hl]; exact HKK.out.2.2.2.2.2.2.1
          have hfo : w12.ownsRow w5.heap.size 3 1 u12 l (had.map (.int .i64)) := by
            have h9 : Ow w12 w5.heap.size u12 had := HOH.out.touch HP.out (fun _ _ x => x)
            unfold Ow at h9
            rwa [hl] at h9
          have HFO := Lib.hid (And.intro hfo hl)
          have HS6 : Hid (w5.heap.size ≤ w12.heap.size) := Nat.le_trans HKK.out.2.2.2.2.2.1.size (Nat.le_trans H10.out.2.1.size HP.out.size)
          clear hfo hl
          go_wp2_with (at_builtin; go_loud (refine wpList_append_own_at _ rfl _ _ 28 rfl w5.heap.size 3 i0 (.int .i64 0) 1 8 Tryz.underlying28 hi hz0 hz1' hz2 rfl (by decide) _ l _ rfl (HFO.out.1.alloc _) ⟨w12.heap.size, 0, none⟩ 1 1 [.int .i64 y] rfl rfl (World.news_of_block (World.alloc_heap_new _ _)) (ints_oneCell _ [y]) (by unfold maxLen; omega) (by omega) (by have := HS6.out; simp; omega) ?_); intro v3 w7 hown hgrow _ hat; have HW3 := Lib.hid (And.intro hown (And.intro hgrow hat)); clear hown hgrow hat)
          go_roundw
          case rel =>
            refine ⟨j + 1, by omega, by go_num, had ++ [y], ⟨⟨R1.1, R1.2.1, R1.2.2.1, R1.2.2.2, ?_, fun z => by rw [H10.out.2.2.1.1], H10.out.2.2.1.2.1, fun z hz => ?_⟩, ?_, ?_⟩, ?_⟩
            · refine (NtI.old H10.out.1 HP.out).row (Touch.grown ((Touch.refl _ _).alloc _) HW3.out.2.1 (fun k hk => .inl hk)) (fun b hb => ?_) (fun b hb => ⟨?_, (World.ownsRow.lt HW3.out.1 b hb).2⟩)
              · have hnew := HKK.out.2.2.2.2.1.new b hb
                exact ⟨nt_keep HN5.out hnew, fun e => Nat.lt_irrefl _ (Nat.lt_of_lt_of_le (blk_lt HN5.out.nt) (e ▸ hnew)), Nat.le_trans HN5.out.hp.at'.base.size hnew⟩
              · rcases HW3.out.2.2 with e | e
                · exact .inl (e ▸ hb)
                · refine .inr ?_
                  rw [e] at hb
                  cases hb
                  simp
            · rcases List.mem_append.1 hz with h | h
              · have h1 := HKK.out.2.2.2.1 z h
                exact ⟨h1.1, H10.out.2.2.1.2.2.2 z h1.1 h1.2⟩
              · rw [List.mem_singleton.1 h]
                exact ⟨HKK.out.2.2.2.2.2.2.2.1, H10.out.2.2.1.2.2.1⟩
            · unfold Ow
              rw [List.length_append, HFO.out.2, List.map_append]
              exact HW3.out.1
            · exact Touch.grown (((HKK.out.2.2.2.2.2.1.trans H10.out.2.1).trans (HP.out.mono fun _ _ e => e.elim)).alloc _) HW3.out.2.1 (fun k hk => .inr (HKK.out.2.2.2.2.1.new k hk))
            · rw [List.length_append, HFO.out.2, List.length_singleton]
              omega
          case measure => simp [intOf]; omega
        · obtain rfl : j = V := by omega
          have hb : ¬ (j : Int) < (j : Int) := by omega
          obtain ⟨w8, rfl⟩ : ∃ w8, w8 = wr := ⟨wr, rfl⟩
          obtain ⟨had, hK, hhl⟩ := HI.out
          obtain ⟨S', bs', xs', up', hN, ho', hb', hk'⟩ := hK.st
          have HKK := Lib.hid (And.intro hN (And.intro ho' (And.intro hk' (And.intro hK.oh (And.intro hK.tw (show had.length ≤ 46 by omega))))))
          clear hN ho' hb' hk' hK hhl HI
          go_wp2_with (go_at_call 30; fail)
          obtain ⟨ub, hbb, -⟩ := HKK.out.1.buf
          refine (buf_All3 hbb).mono ?_
          rintro e w9 ⟨v9, rfl, t9, o9⟩
          have hx1 : BoxAt w9 q (Classical.choose HKK.out.1.box) xs' := (Classical.choose_spec HKK.out.1.box).1.old t9
          have HN9 : Hid (NxI W1 w5 w8 A c H q S' u12 had v9 bs' xs' w9) := by
            obtain ⟨y, h1, h2⟩ := HKK.out.1.box
            obtain ⟨u, hu, -⟩ := HN5.out.box
            exact ⟨HKK.out.1.hp.old t9, ⟨y, h1.old t9, fun b hb => ⟨(h2 b hb).1, fun e => Nat.lt_irrefl _ (Nat.lt_of_lt_of_le (h1.row.lt b hb) (o9.new b e))⟩⟩, HKK.out.2.2.2.1.touch t9 (fun _ _ x => x), o9, t9.size, ⟨(HKK.out.1.no q (.inr (.inr (.inl rfl)))).1, (HKK.out.1.no q (.inr (.inr (.inl rfl)))).2, blk_lt hu.box, HKK.out.2.2.2.2.1.size⟩, HKK.out.1.hp.at'.lt, HKK.out.2.2.2.1.old⟩
          have HXl := Lib.hid (And.intro HKK.out.1.ln hx1.len)
          clear hx1 t9 o9
          go_wp2_with (go_at_call 34; fail)
          refine HN9.out.next.mono ?_
          rintro e wa ⟨a, ok, xr, rfl, hNa, hcs⟩
          have HNa : Hid (∃ kn xr, NxI W1 w5 w8 A c H q S' u12 had v9 kn xr wa ∧ (∀ y, y ∈ had → S'.obj y = true ∧ (S'.colV y = 1 ∨ y ∈ kn ∨ (ok = true ∧ y = a) ∨ y ∈ xr)) ∧ (ok = false → xr = []) ∧ xr.length + ok.toNat ≤ 4096 ∧ kn.length + xr.length + ok.toNat ≤ 5000) := by
            refine ⟨bs', xr, hNa, fun y hy => ⟨(HKK.out.2.1 y).trans (HKK.out.2.2.1 y hy).1, ?_⟩, ?_, ?_, ?_⟩
            · rcases (HKK.out.2.2.1 y hy).2 with h | h | h
              · exact .inl h
              · exact .inr (.inl h)
              · rcases hcs with ⟨-, e, -⟩ | ⟨e1, e2⟩
                · rw [show xs' = [] from e] at h; cases h
                · rw [show xs' = a :: xr from e2] at h
                  exact (List.mem_cons.1 h).elim (fun h => .inr (.inr (.inl ⟨e1, h⟩))) (fun h => .inr (.inr (.inr h)))
            · rcases hcs with ⟨-, -, e⟩ | ⟨e1, -⟩
              · exact fun _ => e
              · rw [e1]; exact fun h => by cases h
            · have h1 := HXl.out
              rcases hcs with ⟨e0, e, e1⟩ | ⟨e1, e2⟩
              · rw [e0, e1]; simp
              · rw [e2] at h1; rw [e1]; simp at h1 ⊢; omega
            · have h1 := HXl.out
              rcases hcs with ⟨e0, e, e1⟩ | ⟨e1, e2⟩
              · rw [e0, e1]; simp; omega
              · rw [e2] at h1; rw [e1]; simp at h1 ⊢; omega
          clear hNa hcs
          go_wp2_with fail
          go_loopg [17, 18, 19] 4096 (fun g vk av ov w2 => ∃ a : Int, ∃ ok : Bool, av = .int .i64 a ∧ ov = .bool ok ∧ Hid (∃ kn xr, NxI W1 w5 w8 A c H q S' u12 had vk kn xr w2 ∧ (∀ y, y ∈ had → S'.obj y = true ∧ (S'.colV y = 1 ∨ y ∈ kn ∨ (ok = true ∧ y = a) ∨ y ∈ xr)) ∧ (ok = false → xr = []) ∧ xr.length + ok.toNat ≤ g ∧ kn.length + xr.length + ok.toNat ≤ 5000))
          case atStart => exact ⟨a, ok, rfl, rfl, HNa.out⟩
          case round =>
            clear HNa
            obtain ⟨a, ok, rfl, rfl, HI⟩ := hrel
            cases ok with
            | true =>
              obtain ⟨kn, xr, hX, hkn, -, hg, hb5⟩ := HI.out
              obtain ⟨l, hl⟩ : ∃ l, kn.length = l := ⟨_, rfl⟩
              have hl5 : l ≤ 5000 := by rw [← hl]; omega
              have hg1 : xr.length + 1 ≤ gk := hg
              have hfo : wr.ownsRow w8.heap.size 3 1 u17 l (kn.map (.int .i64)) := by
                have h9 := hX.ok
                unfold Ow at h9
                rwa [hl] at h9
              have HX2 := Lib.hid (And.intro hX (And.intro hkn (And.intro hg1 (And.intro (show kn.length + xr.length + 1 ≤ 5000 from hb5) (And.intro hfo hl)))))
              have HS6 : Hid (w8.heap.size ≤ wr.heap.size) := hX.sz
              clear hX hkn hg hb5 hl hg1 hfo HI
              go_wp2_with (at_builtin; go_loud (refine wpList_append_own_at _ rfl _ _ 28 rfl w8.heap.size 3 i0 (.int .i64 0) 1 8 Tryz.underlying28 hi hz0 hz1' hz2 rfl (by decide) _ l _ rfl (HX2.out.2.2.2.2.1.alloc _) ⟨wr.heap.size, 0, none⟩ 1 1 [.int .i64 a] rfl rfl (World.news_of_block (World.alloc_heap_new _ _)) (ints_oneCell _ [a]) (by unfold maxLen; omega) (by omega) (by have := HS6.out; simp; omega) ?_); intro v3 w7 hown hgrow _ hat; have HW3 := Lib.hid (And.intro hown (And.intro hgrow hat)); clear hown hgrow hat)
              have h3 : NxI W1 w5 w8 A c H q S' u12 had v3 (kn ++ [a]) xr w7 := by
                refine HX2.out.1.add (Touch.grown ((Touch.refl _ _).alloc _) HW3.out.2.1 (fun k hk => .inl hk)) ?_ (fun b hb => ?_)
                · unfold Ow
                  rw [List.length_append, HX2.out.2.2.2.2.2, List.map_append]
                  exact HW3.out.1
                · rcases HW3.out.2.2 with e | e
                  · exact .inl (e ▸ hb)
                  · refine .inr ?_
                    rw [e] at hb
                    cases hb
                    simp
              refine h3.next.mono ?_
              rintro e w4' ⟨a2, ok2, xr2, rfl, h4, hcs⟩
              have HZ : Hid (∃ kn xr, NxI W1 w5 w8 A c H q S' u12 had v3 kn xr w4' ∧ (∀ y, y ∈ had → S'.obj y = true ∧ (S'.colV y = 1 ∨ y ∈ kn ∨ (ok2 = true ∧ y = a2) ∨ y ∈ xr)) ∧ (ok2 = false → xr = []) ∧ xr.length + ok2.toNat ≤ gk - 1 ∧ kn.length + xr.length + ok2.toNat ≤ 5000) := by
                have hg1 := HX2.out.2.2.1
                have hb5 := HX2.out.2.2.2.1
                refine ⟨kn ++ [a], xr2, h4, fun y hy => ⟨(HX2.out.2.1 y hy).1, ?_⟩, ?_, ?_, ?_⟩
                · rcases (HX2.out.2.1 y hy).2 with h | h | ⟨-, h⟩ | h
                  · exact .inl h
                  · exact .inr (.inl (List.mem_append_left _ h))
                  · exact .inr (.inl (List.mem_append_right _ (List.mem_singleton.2 h)))
                  · rcases hcs with ⟨-, e, -⟩ | ⟨e1, e2⟩
                    · rw [e] at h; cases h
                    · rw [e2] at h
                      exact (List.mem_cons.1 h).elim (fun h => .inr (.inr (.inl ⟨e1, h⟩))) (fun h => .inr (.inr (.inr h)))
                · rcases hcs with ⟨-, -, e⟩ | ⟨e1, -⟩
                  · exact fun _ => e
                  · rw [e1]; exact fun h => by cases h
                · rcases hcs with ⟨e0, e, e1⟩ | ⟨e1, e2⟩
                  · rw [e0, e1]; simp
                  · rw [e2] at hg1; rw [e1]; simp at hg1 ⊢; omega
                · rw [List.length_append, List.length_singleton]
                  rcases hcs with ⟨e0, e, e1⟩ | ⟨e1, e2⟩
                  · rw [e] at hb5; rw [e0, e1]; simp at hb5 ⊢; omega
                  · rw [e2] at hb5; rw [e1]; simp at hb5 ⊢; omega
              have HGk : Hid (1 ≤ gk) := by have := HX2.out.2.2.1; show 1 ≤ gk; omega
              clear h3 h4 hcs
              go_wp2
              go_roundg (gk - 1)
              case measure => have := HGk.out; omega
              case rel => exact ⟨a2, ok2, rfl, rfl, HZ.out⟩
            | false =>
              obtain ⟨wz, rfl⟩ : ∃ wz, wz = wr := ⟨wr, rfl⟩
              obtain ⟨kn, xr, hX, hkn, hxr, -, hb5⟩ := HI.out
              have hxr := hxr rfl
              subst hxr
              obtain ⟨l, hl⟩ : ∃ l, had.length = l := ⟨_, rfl⟩
              obtain ⟨a12, c12, e12⟩ := hX.oh.ints.shape
              rw [hl] at e12
              have hl46 : l ≤ 46 := by rw [← hl]; exact HKK.out.2.2.2.2.2
              subst e12
              have HX2 := Lib.hid (And.intro hX (And.intro (fun y hy => show S'.obj y = true ∧ (S'.colV y = 1 ∨ y ∈ kn) from ⟨(hkn y hy).1, (hkn y hy).2.imp_right (fun h => h.elim id (fun h => h.elim (fun h => absurd h.1 (by simp)) (fun h => by cases h)))⟩) (And.intro hl (show kn.length ≤ 5000 by omega))))
              clear hX hkn hb5 hl HI
              go_wp2_with fail
              go_loopw [20] (fun iv w3 => ∃ j : Nat, j ≤ l ∧ iv = .int .i64 j ∧ Hid (Touch nob wz w3)) (fun iv _ => l - (intOf iv).toNat)
              case atStart => exact ⟨0, Nat.zero_le _, rfl, Touch.refl _ _⟩
              case round =>
                obtain ⟨j, hj, rfl, HT1⟩ := hrel
                by_cases hlt : j < l
                · have hb : (j : Int) < (l : Int) := by omega
                  obtain ⟨g, rfl, hcap, hcell⟩ := own_at (HX2.out.1.oh.touch HT1.out (fun _ _ x => x)) rfl HX2.out.2.2.1 hlt
                  have hym : had.getD j 0 ∈ had := by
                    rw [List.getD_eq_getElem?_getD, List.getElem?_eq_getElem (by rw [HX2.out.2.2.1]; exact hlt)]
                    exact List.getElem_mem _
                  obtain ⟨y, hy⟩ : ∃ y, had.getD j 0 = y := ⟨_, rfl⟩
                  rw [hy] at hcell hym
                  have hyk := HX2.out.2.1 y hym
                  have hcol := hp_ColorE y (HX2.out.1.hp.old HT1.out)
                  rw [show S'.colE y = 0 by unfold HS.colE; rw [if_pos hyk.1]] at hcol
                  obtain ⟨C1, hC1⟩ : ∃ C1, S'.colV y = C1 := ⟨_, rfl⟩
                  rw [hC1] at hcol hyk
                  have HY := Lib.hid (And.intro hcol hyk.2)
                  clear hcol hyk hC1 hy hym
                  go_wp2_with (go_at_call 35; fail)
                  refine HY.out.1.mono ?_
                  rintro e wb ⟨rfl, rfl⟩
                  by_cases hc1 : C1 = 1
                  · subst hc1
                    go_wp2_with fail
                    go_roundw
                    case rel => exact ⟨j + 1, by omega, by go_num, HT1.out⟩
                    case measure => simp [intOf]; omega
                  · have hc2 : (C1 == 1) = false := by simpa using hc1
                    have hyn : Hid (y ∈ kn) := HY.out.2.resolve_left hc1
                    go_wp2_with (go_at_call 16; fail)
                    refine (ref01_In _ kn y (HX2.out.1.ok.touch HT1.out (fun _ _ x => x)).ints (by have := HX2.out.2.2.2; omega)).mono ?_
                    rintro e wb ⟨rfl, tb⟩
                    rw [decide_eq_true hyn.out]
                    have HTb := Lib.hid (HT1.out.trans tb)
                    clear tb
                    go_wp2_with fail
                    go_roundw
                    case rel => exact ⟨j + 1, by omega, by go_num, HTb.out⟩
                    case measure => simp [intOf]; omega
                · obtain rfl : j = l := by omega
                  have hb : ¬ (j : Int) < (j : Int) := by omega
                  go_wp2
                  go_ret
                  exact ⟨rfl, (H3.out.1.trans (HX2.out.1.hp.at'.base.trans HT1.out)).below⟩
theorem law_NoteKeeps {w : World} (a0 : Int) (_ : (Lit.int .i64 a0).wf = true) (a1 : Int) (_ : (Lit.int .i64 a1).wf = true) (a2 : Int) (_ : (Lit.int .i64 a2).wf = true) (a3 : Int) (_ : (Lit.int .i64 a3).wf = true) (a4 : Int) (_ : (Lit.int .i64 a4).wf = true) (a5 : Int) (_ : (Lit.int .i64 a5).wf = true) (a6 : Int) (_ : (Lit.int .i64 a6).wf = true) (th : Value) (r1 : List (List Value)) (s1 : IsSlice w th [some .u8, some .u8, none] r1) (bf : Value) (r2 : List (List Value)) (s2 : IsSlice w bf [some .u8] r2) (bx : Value) (r3 : List (List Value)) (s3 : IsSlice w bx [some .u8] r3) (rm : Int) (hq0 : (Lit.int .u8 rm).wf = true) (up : Bool) (vv : Value) (r4 : List (List Value)) (s4 : IsSlice w vv [some .u8] r4) (hTab : Tab w) (hLim : Limits w) (hS : Sizes w) :
    Calls Tryz.prog 5 #[CsV ⟨a0, a1, a2, a3, a4, a5, a6⟩ th bf bx rm up, vv] w fun e w' => e = .returned (.bool true) ∧ Below w.heap.size w w' := by
  obtain ⟨vs, hvs, -, hvb⟩ := k_of_slice s4
  obtain ⟨av, cv, e⟩ := hvs.shape
  subst e
  by_cases h40 : 40 < vs.length
  · exact nkeeps_big a0 a1 a2 a3 a4 a5 a6 th r1 s1 bf r2 s2 bx r3 s3 rm hq0 up av vs.length cv (by omega) hTab hLim hS
  · exact nkeeps a0 a1 a2 a3 a4 a5 a6 th r1 s1 bf r2 s2 bx r3 s3 rm hq0 up av vs.length cv vs ⟨hvs, rfl, fun j hj => bounds_u8 (hvb j hj)⟩ (by omega) hTab hLim hS
end Go.Proofs.YtnobempbcdkoaaaGreatDoor
