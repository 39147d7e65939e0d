/- The law BlockPlays, walked. Conditions: the tables of limits and of sizes read as laid. -/
import Derived.Test.YtjbmpdibjfcafaaDoorOwn2
import Derived.Test.YtjbmpdibjfcafaaDoorSame
import Derived.Test.YtjbmpdibjfcafaaDoorRef01b
import Derived.Maps.AppendAt
namespace Go.Proofs.YtjbmpdibjfcafaaDoor
open Go.RowKit

variable {W w wr : World} {p q cap n B : Nat} {c : Cf} {ks : List Int} {v va vl : Value}
/-- A table that is new, and a row of its own of the classes. -/
structure BP (W : World) (B p q n : Nat) (c : Cf) (ks : List Int) (v : Value) (wr : World) : Prop where
  one : OneB W wr p q n n c ks
  pB : p < B
  qB : q < B
  Bs : B ≤ wr.heap.size
  row : wr.ownsRow B 3 1 v ks.length (ks.map (.int .i64))
theorem OneB.hi {w' : World} (h : OneB W wr p q cap n c ks) (hp : p < B) (hq : q < B) (ht : Touch (fun k => B ≤ k) wr w') : OneB W w' p q cap n c ks :=
  ⟨h.touch.step ht (fun i hi => .inr (by have := h.hp; omega)), h.hp, h.hq, h.blk.touch ht (by omega) (by omega)⟩
theorem owns_touch {S : Nat → Prop} {w' : World} {b n : Nat} {e : TypeId} {zs : List Value} (h : wr.ownsRow b e 1 v n zs) (ht : Touch S wr w') (hs : ∀ k, v.ownBlock = some k → ¬ S k) : w'.ownsRow b e 1 v n zs :=
  owns_at h (fun k hk hl => ht.block k hl (hs k hk))
theorem BP.step {w' : World} (h : BP W B p q n c ks v wr) (ht : Touch nob wr w') : BP W B p q n c ks v w' :=
  ⟨h.one.step ht, h.pB, h.qB, Nat.le_trans h.Bs ht.size, owns_touch h.row ht (fun _ _ x => x)⟩
theorem bp_Assign (k : Int) (h : BP W B p q n c ks v wr) (hk : isCls k = true) (hf : ks.length < n) :
    Calls Tryd.prog 33 #[.pointer (some ⟨p, 0, none⟩), .int .i64 k] wr fun e w' => e = .returned (.tuple #[.int .i64 ks.length, .int .i64 0]) ∧ OneB W w' p q n n c (ks ++ [k]) ∧ B ≤ w'.heap.size ∧ w'.ownsRow B 3 1 v ks.length (ks.map (.int .i64)) :=
  (blk_Assign_ok k h.one.blk hk hf).mono fun _ _ ⟨g1, g2, g3⟩ => ⟨g1, ⟨h.one.touch.step g2 (fun i hi => .inr (by rw [hi]; exact h.one.hq)), h.one.hp, h.one.hq, g3⟩, Nat.le_trans h.Bs g2.size, owns_touch h.row g2 (fun g hg e => by
    have := (h.row.lt g hg).1
    have := h.qB
    omega)⟩
/-- Behind the loop over the blocks: what was gathered. -/
structure BQ (W : World) (B p q n : Nat) (c : Cf) (ks : List Int) (v va vl : Value) (b : Nat) (wr : World) : Prop where
  one : OneB W wr p q n n c ks
  pB : p < B
  qB : q < B
  Bs : B ≤ wr.heap.size
  row : wr.ownsRow 0 3 1 v ks.length (ks.map (.int .i64))
  low : ∀ k, v.ownBlock = some k → k < B
  all : wr.ownsRow B 3 1 va (allSl c ks b).length ((allSl c ks b).map (.int .i64))
  left : wr.ownsRow B 3 1 vl (elems (fun j : Nat => decide (ks.length ≤ j)) b).length ((elems (fun j : Nat => decide (ks.length ≤ j)) b).map fun (x : Nat) => Value.int .i64 (x : Int))
  ap : ∀ k, va.ownBlock = some k → vl.ownBlock ≠ some k
theorem BQ.step {w' : World} {b : Nat} (h : BQ W B p q n c ks v va vl b wr) (ht : Touch nob wr w') : BQ W B p q n c ks v va vl b w' :=
  ⟨h.one.step ht, h.pB, h.qB, Nat.le_trans h.Bs ht.size, owns_touch h.row ht (fun _ _ x => x), h.low, owns_touch h.all ht (fun _ _ x => x), owns_touch h.left ht (fun _ _ x => x), h.ap⟩
theorem ownsRow_zero {w : World} {b n : Nat} {e : TypeId} {zs : List Value} (h : w.ownsRow b e 1 v n zs) : w.ownsRow 0 e 1 v n zs := by
  obtain ⟨h1, h2⟩ := h
  refine ⟨h1, ?_⟩
  rcases h2 with h2 | ⟨g, cap, cur, rfl, hg, r⟩
  · exact .inl h2
  · exact .inr ⟨g, cap, cur, rfl, Nat.zero_le _, r⟩
theorem BP.toQ (h : BP W B p q n c ks v wr) : BQ W wr.heap.size p q n c ks v (.slice none 0 0) (.slice none 0 0) 0 wr :=
  ⟨h.one, Nat.lt_of_lt_of_le h.pB h.Bs, Nat.lt_of_lt_of_le h.qB h.Bs, Nat.le_refl _, ownsRow_zero h.row, fun k hk => (h.row.lt k hk).2, World.ownsRow_nil _ _ _ _, World.ownsRow_nil _ _ _ _, fun _ hk => by cases hk⟩
theorem own_round {b : Nat} (h : BQ W B p q n c ks v va vl b wr) (hc : c.ok = true) (hb : b < ks.length) (hbc : (b : Int) < c.c0) (hn : b < n) :
    atK ks b = ks.getD b 0 ∧ atB ks b = true ∧ isCls (ks.getD b 0) = true ∧ slAt c ks b = sl c (ks.getD b 0) b ∧ (1 ≤ (sl c (ks.getD b 0) b).length ∧ (sl c (ks.getD b 0) b).length ≤ 128) ∧ allSl c ks (b + 1) = allSl c ks b ++ sl c (ks.getD b 0) b ∧
      elems (fun j : Nat => decide (ks.length ≤ j)) (b + 1) = elems (fun j : Nat => decide (ks.length ≤ j)) b ∧ (∀ a, ownTo c ks a (b + 1) = if a ∈ sl c (ks.getD b 0) b then ((b : Int), ks.getD b 0, true) else ownTo c ks a b) ∧
      (b : Int) ∈ (elems (fun j : Nat => decide (j < ks.length) && (ks.getD j 0 == ks.getD b 0)) n).map (fun (x : Nat) => (x : Int)) := by
  have hk := h.one.blk.cls b hb
  have hs : slAt c ks b = sl c (ks.getD b 0) b := by unfold slAt; rw [if_pos hb]
  refine ⟨?_, ?_, hk, hs, ⟨?_, sl_le⟩, ?_, ?_, fun a => ?_, ?_⟩
  · unfold atK; rw [if_pos ⟨by omega, by simpa using hb⟩]; rfl
  · unfold atB; exact decide_eq_true ⟨by omega, by simpa using hb⟩
  · rw [sl_len hc hk (by omega) hbc]
    have := (per_cls hc hk).1
    omega
  · show allSl c ks b ++ slAt c ks b = _
    rw [hs]
  · rw [elems_succ]
    simp; omega
  · show (if b < ks.length ∧ a ∈ sl c (ks.getD b 0) b then _ else _) = _
    by_cases ha : a ∈ sl c (ks.getD b 0) b
    · rw [if_pos ⟨hb, ha⟩, if_pos ha]
    · rw [if_neg (fun x => ha x.2), if_neg ha]
  · refine List.mem_map.2 ⟨b, mem_elems.2 ⟨hn, ?_⟩, rfl⟩
    rw [decide_eq_true hb]
    simp
theorem own_round_no {b : Nat} (hb : ks.length ≤ b) :
    atK ks b = 0 ∧ atB ks b = false ∧ slAt c ks b = [] ∧ allSl c ks (b + 1) = allSl c ks b ∧
      elems (fun j : Nat => decide (ks.length ≤ j)) (b + 1) = elems (fun j : Nat => decide (ks.length ≤ j)) b ++ [b] ∧ (∀ a, ownTo c ks a (b + 1) = ownTo c ks a b) := by
  have hs : slAt c ks b = [] := by unfold slAt; rw [if_neg (by omega)]
  refine ⟨?_, ?_, hs, ?_, ?_, fun a => ?_⟩
  · unfold atK; rw [if_neg (fun x => by have := x.2; simp at this; omega)]
  · unfold atB; exact decide_eq_false (fun x => by have := x.2; simp at this; omega)
  · show allSl c ks b ++ slAt c ks b = _
    rw [hs, List.append_nil]
  · rw [elems_succ]
    simp [hb]
  · show (if b < ks.length ∧ a ∈ sl c (ks.getD b 0) b then _ else _) = _
    rw [if_neg (fun x => by omega)]
theorem slots_shape {Z : List Int} {z : Nat} (b k : Int) (hc : c.ok = true) (hk : isCls k = true) (b0 : 0 ≤ b) (b1 : b < c.c0) (hZ : sl c k b = Z) (hz : Z.length = z) (h1 : 1 ≤ z) (w : World) :
    Calls Tryd.prog 46 #[c.V, .int .i64 b, .int .i64 k] w fun e w' => ∃ g o cp, e = .returned (.slice (some ⟨g, o, none⟩) z cp) ∧ Touch nob w w' ∧ IntsIn w' (.slice (some ⟨g, o, none⟩) z cp) Z :=
  (law07_slots b k hc hk b0 b1 w).mono fun e w' ⟨v, g1, g2, g3⟩ => by
    rw [hZ] at g3
    obtain ⟨g, o, cp, hv, -, -⟩ := g3.at (k := 0) (by omega)
    rw [hz] at hv
    exact ⟨g, o, cp, by rw [g1, hv], g2, by rw [← hv]; exact g3⟩
theorem ints_news {g o z cp : Nat} {Z : List Int} (h : IntsIn w (.slice (some ⟨g, o, none⟩) z cp) Z) : ∀ j u, (Z.map (Value.int .i64))[j]? = some u → w.cell? ((⟨g, o, none⟩ : Addr).add j) = some u := by
  intro j u hj
  obtain ⟨hl, rfl⟩ := List.getElem?_eq_some_iff.1 hj
  simp only [List.length_map] at hl
  obtain ⟨b', o', cp', hv, -, hc⟩ := h.at hl
  simp only [Value.slice.injEq, Option.some.injEq] at hv
  obtain ⟨e, -, -⟩ := hv
  cases e
  rw [Addr.add_lit]
  simpa [List.getD_eq_getElem?_getD, hl] using hc
theorem bq_all {b za : Nat} {A : List Int} (h : BQ W B p q n c ks v va vl b wr) (hA : allSl c ks b = A) (hz : A.length = za) : wr.ownsRow B 3 1 va za (A.map (.int .i64)) := by
  have := h.all
  rwa [hA, hz] at this
theorem bq_left {b zl : Nat} {M : List Nat} (h : BQ W B p q n c ks v va vl b wr) (hM : elems (fun j : Nat => decide (ks.length ≤ j)) b = M) (hz : M.length = zl) : wr.ownsRow B 3 1 vl zl (M.map fun (x : Nat) => Value.int .i64 (x : Int)) := by
  have := h.left
  rwa [hM, hz] at this
theorem bq_all_next {b za z : Nat} {A Z : List Int} {v3 : Value} {w3 : World} (h : BQ W B p q n c ks v va vl b wr) (hA : allSl c ks b = A) (hza : A.length = za) (hz : Z.length = z) (hA' : allSl c ks (b + 1) = allSl c ks b ++ Z)
    (hM' : elems (fun j : Nat => decide (ks.length ≤ j)) (b + 1) = elems (fun j : Nat => decide (ks.length ≤ j)) b) (hown : w3.ownsRow B 3 1 v3 (za + z) (A.map (.int .i64) ++ Z.map (.int .i64))) (hg : wr.grownBy w3 va.ownBlock) (hat : v3.ownBlock = va.ownBlock ∨ v3.ownBlock = some wr.heap.size) :
    BQ W B p q n c ks v v3 vl (b + 1) w3 := by
  have hT : Touch (fun j => va.ownBlock = some j) wr w3 := Touch.grown (Touch.refl _ _) hg (fun j hj => .inl hj)
  have hT2 : Touch (fun j => B ≤ j) wr w3 := hT.mono fun j _ hj => (h.all.lt j hj).1
  refine ⟨h.one.hi h.pB h.qB hT2, h.pB, h.qB, Nat.le_trans h.Bs hT.size, owns_touch h.row hT2 (fun k hk hb => by have := h.low k hk; omega), h.low, ?_, ?_, fun k hk => ?_⟩
  · rw [hA', hA, List.length_append, hza, hz, List.map_append]
    exact hown
  · rw [hM']
    exact owns_touch h.left hT (fun k hk e => h.ap k e hk)
  · rcases hat with e | e
    · rw [e] at hk; exact h.ap k hk
    · rw [e] at hk
      cases hk
      intro hl
      have := (h.left.lt _ hl).2
      omega
theorem bq_left_next {b zl : Nat} {M : List Nat} {v3 : Value} {w3 : World} {o : Obj} (h : BQ W B p q n c ks v va vl b wr) (hM : elems (fun j : Nat => decide (ks.length ≤ j)) b = M) (hzl : M.length = zl) (hA' : allSl c ks (b + 1) = allSl c ks b)
    (hM' : elems (fun j : Nat => decide (ks.length ≤ j)) (b + 1) = elems (fun j : Nat => decide (ks.length ≤ j)) b ++ [b]) (hown : w3.ownsRow B 3 1 v3 (zl + 1) (M.map (fun (x : Nat) => Value.int .i64 (x : Int)) ++ [Value.int .i64 (b : Int)])) (hg : (wr.alloc o).grownBy w3 vl.ownBlock) (hat : v3.ownBlock = vl.ownBlock ∨ v3.ownBlock = some (wr.alloc o).heap.size) :
    BQ W B p q n c ks v va v3 (b + 1) w3 := by
  have hT : Touch (fun j => vl.ownBlock = some j) wr w3 := Touch.grown ((Touch.refl _ _).alloc _) hg (fun j hj => .inl hj)
  have hT2 : Touch (fun j => B ≤ j) wr w3 := hT.mono fun j _ hj => (h.left.lt j hj).1
  refine ⟨h.one.hi h.pB h.qB hT2, h.pB, h.qB, Nat.le_trans h.Bs hT.size, owns_touch h.row hT2 (fun k hk hb => by have := h.low k hk; omega), h.low, ?_, ?_, fun k hk => ?_⟩
  · rw [hA']
    exact owns_touch h.all hT (fun k hk e => h.ap k hk e)
  · rw [hM', hM, List.length_append, hzl, List.map_append]
    exact hown
  · rcases hat with e | e
    · rw [e]; exact h.ap k hk
    · rw [e]
      intro e2
      have := (h.all.lt _ hk).2
      simp at e2
      omega
theorem of_len (k : Int) (h : BlkAt wr p q cap n c ks) :
    Calls Tryd.prog 47 #[.pointer (some ⟨p, 0, none⟩), .int .i64 k] wr fun e w' => ∃ ao cp, e = .returned (.slice ao (cntK ks k n) cp) ∧ Touch nob wr w' :=
  (blk_Of k h).mono fun e w' ⟨v, g1, g2, g3⟩ => by
    obtain ⟨ao, cp, hv⟩ := g3.shape
    rw [List.length_map, elems_len] at hv
    exact ⟨ao, cp, by rw [g1, hv]; rfl, g2⟩
set_option maxRecDepth 20000 in
set_option maxHeartbeats 8000000 in
theorem law_BlockPlays {w : World} (a0 : Int) (_ : (Lit.int .i64 a0).wf = true) (a1 : Int) (_ : (Lit.int .i64 a1).wf = true) (a2 : Int) (_ : (Lit.int .i64 a2).wf = true) (a3 : Int) (_ : (Lit.int .i64 a3).wf = true) (a4 : Int) (_ : (Lit.int .i64 a4).wf = true) (a5 : Int) (_ : (Lit.int .i64 a5).wf = true) (a6 : Int) (_ : (Lit.int .i64 a6).wf = true) (l : Value) (rows : List (List Value)) (hl : IsSlice w l [some .i64] rows) (a : Int) (_ : (Lit.int .i64 a).wf = true) (hLim : Limits w) (hS : Sizes w) :
    Calls Tryd.prog 10 #[CfgV a0 a1 a2 a3 a4 a5 a6, l, .int .i64 a] w fun e w' => e = .returned (.bool true) ∧ Below w.heap.size w w' := by
  obtain ⟨xs, hI, -, hwf⟩ := ints_of_slice hl
  obtain ⟨N, hN⟩ : ∃ N, xs.length = N := ⟨_, rfl⟩
  obtain ⟨ao, cap, rfl⟩ := hI.shape
  rw [hN] at hI ⊢
  have HI := Lib.hid (And.intro hI hN)
  have HL := Lib.hid (Laid.mk hLim hS)
  clear hl hI hLim hS hN hwf
  obtain ⟨n, hn, hn1, hn4⟩ := little_n a0 a1 a2 a3 a4 a5 a6
  obtain ⟨c, hc⟩ : ∃ c, little ⟨a0, a1, a2, a3, a4, a5, a6⟩ = c := ⟨_, rfl⟩
  have hok : c.ok = true := by rw [← hc]; exact little_ok _
  have hlit := ref02_Little ⟨a0, a1, a2, a3, a4, a5, a6⟩
  rw [hc] at hn hlit
  have HC := Lib.hid (And.intro hn (And.intro hok hlit))
  clear hn hok hlit hc
  obtain ⟨i0, hi, hz0, hz1, hz2⟩ := info_parts info_int2
  go_enter Tryd.func10, Tryd.ntmps10
  go_wp2_with fail
  obtain ⟨W, hW⟩ : ∃ W, W = w.alloc (Obj.cells (CfgRow a0 a1 a2 a3 a4 a5 a6) 49) := ⟨_, rfl⟩
  have hT : Touch nob w W := by rw [hW]; repeat (first | with_reducible exact Touch.refl _ _ | with_reducible assumption | with_reducible apply Touch.alloc | with_reducible apply Touch.drewN | with_reducible apply Touch.drew | with_reducible refine Touch.setCell ?_ (.inr (by first | omega | (simp; done) | (simp; omega))) _)
  have hbx : W.heap[w.heap.size]? = some (Obj.cells (CfgRow a0 a1 a2 a3 a4 a5 a6) 49) := by rw [hW]; exact World.alloc_heap_new w _
  obtain ⟨b0, hb0⟩ : ∃ b, b = w.heap.size := ⟨_, rfl⟩
  rw [← hW, ← hb0]
  rw [← hb0] at hbx
  refine (HC.out.2.2 W).mono ?_
  rintro e w1 ⟨rfl, hT1⟩
  have hb1 := blk_touch hbx hT1 (fun x => x)
  obtain ⟨y0, y1, y2, y3, y4, y5, y6⟩ := cfg_box hb1 (Touch.refl _ _)
  have f0 : ∀ j, w1.frozen? ⟨b0, j, none⟩ = false := fun j => by simp [World.frozen?, hb1]
  have g0 := f0 0; have g1 := f0 1; have g2 := f0 2; have g3 := f0 3; have g4 := f0 4; have g5 := f0 5; have g6 := f0 6
  obtain ⟨W3, hW3⟩ : ∃ W3, W3 = set7 w1 b0 (.int .i64 c.c0) (.int .i64 c.c1) (.int .i64 c.c2) (.int .i64 c.c3) (.int .i64 c.c4) (.int .i64 c.c5) (.int .i64 c.c6) := ⟨_, rfl⟩
  have hc3 : W3.heap[b0]? = some (Obj.cells (CfgRow c.c0 c.c1 c.c2 c.c3 c.c4 c.c5 c.c6) 49) := by rw [hW3]; exact set7_at _ _ _ _ _ _ _ _ hb1
  have hT3 : Touch nob w W3 := by rw [hW3]; exact set7_touch _ _ _ _ _ _ _ (by omega) (hT.trans hT1)
  have H3 := Lib.hid (And.intro hT3 hc3)
  clear hT hbx hT1 hb1 f0 hc3 hT3 hW hb0
  by_cases h30 : N ≤ 30
  · go_wp2_with fail
    simp only [set7] at hW3
    rw [← hW3]
    clear hW3 y0 y1 y2 y3 y4 y5 y6 g0 g1 g2 g3 g4 g5 g6
    have HB := Lib.hid (fun wr (ht : Touch nob W3 wr) => show Touch nob w wr ∧ wr.cell? ⟨b0, 0, none⟩ = some (.int .i64 n) from ⟨H3.out.1.trans ht, by rw [HC.out.1]; exact (cfg_box H3.out.2 ht).1⟩)
    have HB7 := Lib.hid (fun wr (ht : Touch nob W3 wr) => cfg_box H3.out.2 ht)
    have HL3 := Lib.hid (HL.out.old H3.out.1)
    refine (oneb_New c W3 W3 (Touch.refl _ _) HL3.out HC.out.2.1 n HC.out.1).mono ?_
    rintro e w4 ⟨p, q, rfl, h4⟩
    have hT4 := h4.touch
    have H4 := Lib.hid h4
    clear h4
    have hne := run_cfg_neq c.c0 c.c1 c.c2 c.c3 c.c4 c.c5 c.c6 c.c0 c.c1 c.c2 c.c3 c.c4 c.c5 c.c6
    rw [cfgSame_self] at hne
    go_wp2_with fail
    go_region_held3 (fun w' => w'.cell? ⟨b0, 0, none⟩ = some (.int .i64 c.c0) ∧ w'.cell? ⟨b0, 1, none⟩ = some (.int .i64 c.c1) ∧ w'.cell? ⟨b0, 2, none⟩ = some (.int .i64 c.c2) ∧ w'.cell? ⟨b0, 3, none⟩ = some (.int .i64 c.c3) ∧ w'.cell? ⟨b0, 4, none⟩ = some (.int .i64 c.c4) ∧ w'.cell? ⟨b0, 5, none⟩ = some (.int .i64 c.c5) ∧ w'.cell? ⟨b0, 6, none⟩ = some (.int .i64 c.c6)) (first | exact HB7.out _ (by first | assumption | exact hT4.drew)) (first
      | (go_at_call 44; refine (blk_Config (H4.out.step (Touch.drew (Touch.refl _ _))).blk).mono ?_; rintro e w5 ⟨rfl, hT5'⟩; have hT5 := (H4.out.step (Touch.drew (Touch.refl _ _))).touch.trans hT5'; have H5 := Lib.hid (H4.out.step ((Touch.drew (Touch.refl _ _)).trans hT5')); clear hT5'))
    clear hne
    have HP : Hid (BP W3 w5.heap.size p q n c [] (.slice none 0 0) w5) := ⟨H5.out, blk_lt H5.out.blk.box, H5.out.blk.row.lt, Nat.le_refl _, World.ownsRow_nil _ _ _ _⟩
    clear H5 hT5 H4 hT4
    obtain ⟨B, hB⟩ : ∃ B, w5.heap.size = B := ⟨_, rfl⟩
    rw [hB] at HP
    clear hB
    go_wp2_with fail
    go_loopw [9, 10] (fun v i wr => ∃ k : Nat, ∃ ks : List Int, k ≤ N ∧ i = .int .i64 k ∧ Hid (BP W3 B p q n c ks v wr)) (fun _ i _ => N - (intOf i).toNat)
    case atStart => exact ⟨0, [], by omega, rfl, HP⟩
    case round =>
      obtain ⟨k, ks, hk, rfl, H⟩ := hrel
      clear HP
      obtain ⟨_, c0⟩ := HB.out _ H.out.one.touch
      obtain ⟨av, cv, rfl⟩ := own_shape H.out.row
      have hkn := H.out.one.blk.le
      obtain ⟨L, hL⟩ : ∃ L, ks.length = L := ⟨_, rfl⟩
      rw [hL] at hkn H ⊢
      by_cases hlt : k < N
      · obtain ⟨bx, o, cp, hv, hcap, hcell⟩ := HI.out.1.at (k := k) (by rw [HI.out.2]; exact hlt)
        rw [HI.out.2] at hv hcap
        injection hv with hv1 hv2 hv3
        subst hv1 hv3
        obtain ⟨x, hx⟩ : ∃ x, xs.getD k 0 = x := ⟨_, rfl⟩
        rw [hx] at hcell
        have HCL := Lib.hid (fun wr (ht : Touch nob W3 wr) => ((H3.out.1.trans ht).cell (cell_lt hcell) (fun x => x)).trans hcell)
        have hcl := HCL.out _ H.out.one.touch
        have hbk : (k : Int) < (N : Int) := by omega
        clear hv2 hcell hx
        cases hc : isCls x
        · have HX := Lib.hid hc
          clear hc
          go_wp2_with (go_at_call 33; fail)
          refine (blk_Assign_arg x H.out.one.blk HX.out).mono ?_
          rintro e w6 ⟨rfl, rfl⟩
          go_wp2_with (go_at_call 45; fail)
          refine (ref03_Is x _).mono ?_
          rintro e w6 ⟨rfl, rfl⟩
          rw [HX.out]
          go_wp2
          go_roundw
          case rel => exact ⟨k + 1, ks, by omega, by go_num, H⟩
          case measure => simp [intOf]; omega
        · have HX := Lib.hid hc
          clear hc
          by_cases hf : L = n
          · have HF := Lib.hid (hL.trans hf)
            have hfe : ((L : Int) == (n : Int)) = true := by simp; omega
            clear hL hf
            go_wp2_with (go_at_call 33; fail)
            refine (blk_Assign_full x H.out.one.blk HX.out HF.out).mono ?_
            rintro e w6 ⟨rfl, hT6⟩
            have H6 := Lib.hid (H.out.step hT6)
            obtain ⟨_, c1⟩ := HB.out _ H6.out.one.touch
            have hcl1 := HCL.out _ H6.out.one.touch
            clear hT6 H c0 hcl
            go_wp2_with (go_at_call 45; fail)
            refine (ref03_Is x _).mono ?_
            rintro e w7 ⟨rfl, rfl⟩
            rw [HX.out]
            go_wp2
            go_roundw
            case rel => exact ⟨k + 1, ks, by omega, by go_num, H6⟩
            case measure => simp [intOf]; omega
          · have HF := Lib.hid (show ks.length < n by omega)
            have hfe : ((L : Int) == (n : Int)) = false := by simp; omega
            have hle : ((L : Int) != (L : Int)) = false := by simp
            have HLL := Lib.hid hL
            have hLn : (L : Int) < (n : Int) := by omega
            clear hL hf
            go_wp2_with (go_at_call 33; fail)
            refine (bp_Assign x H.out HX.out HF.out).mono ?_
            rintro e w6 ⟨rfl, h6, hB6, hr6⟩
            rw [HLL.out] at hr6 ⊢
            obtain ⟨_, c1⟩ := HB.out _ h6.touch
            have hcl1 := HCL.out _ h6.touch
            have H6 := Lib.hid (And.intro h6 (And.intro hB6 (And.intro hr6 (And.intro H.out.pB H.out.qB))))
            clear h6 hB6 hr6 H c0 hcl
            go_wp2_with (go_at_call 45; fail)
            refine (ref03_Is x _).mono ?_
            rintro e w7 ⟨rfl, rfl⟩
            rw [HX.out]
            go_wp2_with (at_builtin; refine wpList_append_own _ rfl _ _ 23 rfl B 3 i0 (.int .i64 0) 1 8 Tryd.underlying23 hi hz0 hz1 hz2 rfl (by decide) _ L _ rfl (H6.out.2.2.1.alloc _) ⟨w6.heap.size, 0, none⟩ 1 1 [.int .i64 x] rfl rfl (World.news_of_block (World.alloc_heap_new _ _)) (ints_oneCell _ [x]) (by unfold maxLen; omega) (by omega) (by have := H6.out.2.1; simp; omega) ?_; intro v3 w3 hown hgrow _; have HW3 := Lib.hid (And.intro hown hgrow); clear hown hgrow)
            go_roundw
            case rel =>
              refine ⟨k + 1, ks ++ [x], by omega, by go_num, ?_⟩
              have hT : Touch (fun j => B ≤ j) w6 w3 := Touch.grown ((Touch.refl _ _).alloc _) HW3.out.2 (fun j hj => .inl (H6.out.2.2.1.lt j hj).1)
              refine ⟨H6.out.1.hi H6.out.2.2.2.1 H6.out.2.2.2.2 hT, H6.out.2.2.2.1, H6.out.2.2.2.2, Nat.le_trans H6.out.2.1 hT.size, ?_⟩
              rw [List.length_append, HLL.out, List.map_append]
              exact HW3.out.1
            case measure => simp [intOf]; omega
      · have HQ : Hid (BQ W3 wr.heap.size p q n c ks (.slice av L cv) (.slice none 0 0) (.slice none 0 0) 0 wr) := H.out.toQ
        have HLL := Lib.hid hL
        obtain rfl : k = N := by omega
        clear H hL hlt
        obtain ⟨B2, hB2⟩ : ∃ B, wr.heap.size = B := ⟨_, rfl⟩
        rw [hB2] at HQ
        clear hB2
        go_wp2_with fail
        go_loopw [13, 14, 15, 16, 17, 18] (fun va vl o kd is i wr => ∃ b : Nat, b ≤ n ∧ i = .int .i64 b ∧ o = .int .i64 (ownTo c ks a b).1 ∧ kd = .int .i64 (ownTo c ks a b).2.1 ∧ is = .bool (ownTo c ks a b).2.2 ∧ Hid (BQ W3 B2 p q n c ks (.slice av L cv) va vl b wr)) (fun _ _ _ _ _ i _ => n - (intOf i).toNat)
        case atStart => exact ⟨0, by omega, rfl, rfl, rfl, rfl, HQ⟩
        case round =>
          obtain ⟨b, hb, rfl, rfl, rfl, rfl, H⟩ := hrel
          clear HQ c0
          obtain ⟨_, c0⟩ := HB.out _ H.out.one.touch
          obtain ⟨t1, ht1⟩ : ∃ t, (ownTo c ks a b).1 = t := ⟨_, rfl⟩
          obtain ⟨t2, ht2⟩ : ∃ t, (ownTo c ks a b).2.1 = t := ⟨_, rfl⟩
          obtain ⟨t3, ht3⟩ : ∃ t, (ownTo c ks a b).2.2 = t := ⟨_, rfl⟩
          have HTT := Lib.hid (show ownTo c ks a b = (t1, t2, t3) by rw [← ht1, ← ht2, ← ht3])
          rw [ht1, ht2, ht3]
          clear ht1 ht2 ht3
          obtain ⟨aa, ca, rfl⟩ := own_shape H.out.all
          obtain ⟨al, cl, rfl⟩ := own_shape H.out.left
          have hAb := allSl_le (c := c) (ks := ks) b
          have hLb : (elems (fun j : Nat => decide (ks.length ≤ j)) b).length ≤ b := by rw [elems_len]; exact cnt_le _ _
          obtain ⟨A, hA⟩ : ∃ A, allSl c ks b = A := ⟨_, rfl⟩
          obtain ⟨M, hM⟩ : ∃ M, elems (fun j : Nat => decide (ks.length ≤ j)) b = M := ⟨_, rfl⟩
          obtain ⟨za, hza⟩ : ∃ z, A.length = z := ⟨_, rfl⟩
          obtain ⟨zl, hzl⟩ : ∃ z, M.length = z := ⟨_, rfl⟩
          have HAM := Lib.hid (And.intro hA (And.intro hM (And.intro hza hzl)))
          rw [hA, hza] at H hAb
          rw [hM, hzl] at H hLb
          rw [hA, hM, hza, hzl]
          by_cases hbn : b < n
          · have hbi : (b : Int) < (n : Int) := by omega
            by_cases hbl : b < L
            · have hbL : (b : Int) < (L : Int) := by omega
              have HF := Lib.hid (own_round (b := b) H.out HC.out.2.1 (by rw [HLL.out]; exact hbl) (by rw [← HC.out.1]; exact hbi) hbn)
              obtain ⟨bh, oh, ch, hvh, -, hhc⟩ := (ints_of_ownZ H.out.row).at (k := b) (by rw [HLL.out]; exact hbl)
              rw [HLL.out] at hvh
              injection hvh with hv1 hv2 hv3
              subst hv1 hv3
              obtain ⟨K, hK⟩ : ∃ K, ks.getD b 0 = K := ⟨_, rfl⟩
              rw [hK] at hhc HF
              have HHC := Lib.hid hhc
              clear hv2 hK hhc
              go_wp2_with (go_at_call 41; fail)
              refine (blk_Class b H.out.one.blk).mono ?_
              rintro e w6 ⟨rfl, rfl⟩
              rw [HF.out.1, HF.out.2.1]
              have HBC : Hid ((b : Int) < c.c0) := by show _ < _; rw [← HC.out.1]; exact hbi
              have HS := Lib.hid (fun wr' (ht : Touch nob wr wr') => show (wr'.cell? ⟨b0, 0, none⟩ = some (.int .i64 c.c0) ∧ wr'.cell? ⟨b0, 1, none⟩ = some (.int .i64 c.c1) ∧ wr'.cell? ⟨b0, 2, none⟩ = some (.int .i64 c.c2) ∧ wr'.cell? ⟨b0, 3, none⟩ = some (.int .i64 c.c3) ∧ wr'.cell? ⟨b0, 4, none⟩ = some (.int .i64 c.c4) ∧ wr'.cell? ⟨b0, 5, none⟩ = some (.int .i64 c.c5) ∧ wr'.cell? ⟨b0, 6, none⟩ = some (.int .i64 c.c6)) ∧ wr'.cell? ⟨bh, oh + b, none⟩ = some (.int .i64 K) from
                ⟨HB7.out _ (H.out.one.touch.trans ht), (ht.cell (cell_lt HHC.out) (fun x => x)).trans HHC.out⟩)
              obtain ⟨Z, hZ⟩ : ∃ Z, sl c K b = Z := ⟨_, rfl⟩
              rw [hZ] at HF
              obtain ⟨z, hz⟩ : ∃ z, Z.length = z := ⟨_, rfl⟩
              have hzlo : 1 ≤ z := by rw [← hz]; exact HF.out.2.2.2.2.1.1
              have hzhi : z ≤ 128 := by rw [← hz]; exact HF.out.2.2.2.2.1.2
              have HZ := Lib.hid (And.intro hZ hz)
              clear hZ hz
              have hKK : (K != K) = false := by simp
              have hT6 := Touch.refl nob wr
              go_wp2_with fail
              go_region_held3 (fun wr' => (wr'.cell? ⟨b0, 0, none⟩ = some (.int .i64 c.c0) ∧ wr'.cell? ⟨b0, 1, none⟩ = some (.int .i64 c.c1) ∧ wr'.cell? ⟨b0, 2, none⟩ = some (.int .i64 c.c2) ∧ wr'.cell? ⟨b0, 3, none⟩ = some (.int .i64 c.c3) ∧ wr'.cell? ⟨b0, 4, none⟩ = some (.int .i64 c.c4) ∧ wr'.cell? ⟨b0, 5, none⟩ = some (.int .i64 c.c5) ∧ wr'.cell? ⟨b0, 6, none⟩ = some (.int .i64 c.c6)) ∧ wr'.cell? ⟨bh, oh + b, none⟩ = some (.int .i64 K)) (first | exact HS.out _ (by first | assumption | exact hT6.drew)) (first
                | (go_at_call 46; refine (slots_shape b K HC.out.2.1 HF.out.2.2.1 (by omega) HBC.out HZ.out.1 HZ.out.2 hzlo _).mono ?_; rintro e w7 ⟨g7, o7, cp7, rfl, hT7', hI7⟩; have hT7 := hT6.drew.trans hT7'; have HI7 := Lib.hid hI7; clear hT7' hI7))
              have H7 := Lib.hid (H.out.step hT7)
              have hh7 := (HS.out _ hT7).2
              clear hT7 H hT6 c0
              go_wp2_with (go_at_call 40; fail)
              refine (blk_Slots b H7.out.one.blk (HL3.out.old H7.out.one.touch).lim (HL3.out.old H7.out.one.touch).siz).mono ?_
              rintro e w8 ⟨v8, rfl, hT8, hI8, -⟩
              rw [HF.out.2.2.2.1] at hI8
              obtain ⟨ao8, cap8, hv8⟩ := hI8.shape
              rw [HZ.out.2] at hv8
              subst hv8
              have H8 := Lib.hid (H7.out.step hT8)
              have HI8 := Lib.hid (HI7.out.old hT8)
              clear hT8 H7 HI7 hh7
              go_wp2_with (go_at_call 28; fail)
              refine (ref01_Same _ _ Z _ hI8 HI8.out (by rw [HZ.out.2]; omega)).mono ?_
              rintro e w9 ⟨rfl, hT9⟩
              have H9 := Lib.hid (H8.out.step hT9)
              have HI9 := Lib.hid (HI8.out.old hT9)
              clear hT9 H8 HI8 hI8
              go_wp2_with (go_at_call 47; fail)
              refine (blk_Of K H9.out.one.blk).mono ?_
              rintro e w10 ⟨v10, rfl, hT10, hI10⟩
              obtain ⟨ao10, cap10, hv10⟩ := hI10.shape
              obtain ⟨z10, hz10⟩ : ∃ z, ((elems (fun j : Nat => decide (j < ks.length) && (ks.getD j 0 == K)) n).map fun (x : Nat) => (x : Int)).length = z := ⟨_, rfl⟩
              have hz10' : z10 ≤ n := by rw [← hz10, List.length_map, elems_len]; exact cnt_le _ _
              rw [hz10] at hv10
              subst hv10
              have H10 := Lib.hid (H9.out.step hT10)
              have HI10 := Lib.hid (HI9.out.old hT10)
              clear hT10 H9 HI9
              go_wp2_with (go_at_call 30; fail)
              refine (ref01_In _ _ b hI10 (by rw [hz10]; omega)).mono ?_
              rintro e w11 ⟨rfl, hT11⟩
              rw [decide_eq_true HF.out.2.2.2.2.2.2.2.2]
              have H11 := Lib.hid (H10.out.step hT11)
              have HI11 := Lib.hid (HI10.out.old hT11)
              clear hT11 H10 HI10 hI10 hz10 hz10'
              go_wp2_with (go_at_call 30; fail)
              refine (ref01_In _ _ a HI11.out (by rw [HZ.out.2]; omega)).mono ?_
              rintro e w12 ⟨rfl, hT12⟩
              have H12 := Lib.hid (H11.out.step hT12)
              have HI12 := Lib.hid (HI11.out.old hT12)
              obtain ⟨_, c1⟩ := HB.out _ H12.out.one.touch
              clear hT12 H11 HI11
              by_cases ha : a ∈ Z
              · rw [decide_eq_true ha]
                have HO := Lib.hid ((HF.out.2.2.2.2.2.2.2.1 a).trans (if_pos ha))
                clear ha
                go_wp2_with (at_builtin; go_loud (refine wpList_append_own_at _ rfl _ _ 23 rfl B2 3 i0 (.int .i64 0) 1 8 Tryd.underlying23 hi hz0 hz1 hz2 rfl (by decide) _ za (A.map (.int .i64)) rfl (bq_all H12.out HAM.out.1 HAM.out.2.2.1) ⟨g7, o7, none⟩ z cp7 (Z.map (.int .i64)) rfl (by rw [List.length_map, HZ.out.2]; omega) (ints_news HI12.out) (ints_oneCell _ Z) (by unfold maxLen; omega) (by omega) H12.out.Bs ?_); intro v3 w3 hown hgrow _ hat; have HW3 := Lib.hid (And.intro hown (And.intro hgrow hat)); clear hown hgrow hat)
                go_roundw
                case rel => exact ⟨b + 1, hbn, by go_num, by rw [HO.out], by rw [HO.out], by rw [HO.out], bq_all_next H12.out HAM.out.1 HAM.out.2.2.1 HZ.out.2 HF.out.2.2.2.2.2.1 HF.out.2.2.2.2.2.2.1 HW3.out.1 HW3.out.2.1 HW3.out.2.2⟩
                case measure => simp [intOf]; omega
              · rw [decide_eq_false ha]
                have HO := Lib.hid (((HF.out.2.2.2.2.2.2.2.1 a).trans (if_neg ha)).trans HTT.out)
                clear ha
                go_wp2_with (at_builtin; refine wpList_append_own_at _ rfl _ _ 23 rfl B2 3 i0 (.int .i64 0) 1 8 Tryd.underlying23 hi hz0 hz1 hz2 rfl (by decide) _ za (A.map (.int .i64)) rfl (bq_all H12.out HAM.out.1 HAM.out.2.2.1) ⟨g7, o7, none⟩ z cp7 (Z.map (.int .i64)) rfl (by rw [List.length_map, HZ.out.2]; omega) (ints_news HI12.out) (ints_oneCell _ Z) (by unfold maxLen; omega) (by omega) H12.out.Bs ?_; intro v3 w3 hown hgrow _ hat; have HW3 := Lib.hid (And.intro hown (And.intro hgrow hat)); clear hown hgrow hat)
                go_roundw
                case rel => exact ⟨b + 1, hbn, by go_num, by rw [HO.out], by rw [HO.out], by rw [HO.out], bq_all_next H12.out HAM.out.1 HAM.out.2.2.1 HZ.out.2 HF.out.2.2.2.2.2.1 HF.out.2.2.2.2.2.2.1 HW3.out.1 HW3.out.2.1 HW3.out.2.2⟩
                case measure => simp [intOf]; omega
            · have hbL : (L : Int) ≤ (b : Int) := by omega
              have HF := Lib.hid (own_round_no (c := c) (ks := ks) (b := b) (by rw [HLL.out]; omega))
              go_wp2_with (go_at_call 41; fail)
              refine (blk_Class b H.out.one.blk).mono ?_
              rintro e w6 ⟨rfl, rfl⟩
              rw [HF.out.1, HF.out.2.1]
              have HO := Lib.hid ((HF.out.2.2.2.2.2 a).trans HTT.out)
              go_wp2_with (at_builtin; refine wpList_append_own_at _ rfl _ _ 23 rfl B2 3 i0 (.int .i64 0) 1 8 Tryd.underlying23 hi hz0 hz1 hz2 rfl (by decide) _ zl (M.map fun (x : Nat) => Value.int .i64 (x : Int)) rfl ((bq_left H.out HAM.out.2.1 HAM.out.2.2.2).alloc _) ⟨wr.heap.size, 0, none⟩ 1 1 [.int .i64 (b : Int)] rfl rfl (World.news_of_block (World.alloc_heap_new _ _)) (ints_oneCell _ [(b : Int)]) (by unfold maxLen; omega) (by omega) (by have := H.out.Bs; simp; omega) ?_; intro v3 w3 hown hgrow _ hat; have HW3 : Hid (BQ W3 B2 p q n c ks (.slice av L cv) (.slice aa za ca) v3 (b + 1) w3) := bq_left_next H.out HAM.out.2.1 HAM.out.2.2.2 HF.out.2.2.2.1 HF.out.2.2.2.2.1 hown hgrow hat; clear hown hgrow hat)
              have hT := HW3.out.one.touch
              have HX := Lib.hid (And.intro HF.out.2.2.1 HW3.out)
              clear HW3 hT H
              go_wp2_with (go_at_call 40; fail)
              refine (blk_Slots b HX.out.2.one.blk (HL3.out.old HX.out.2.one.touch).lim (HL3.out.old HX.out.2.one.touch).siz).mono ?_
              rintro e w8 ⟨v8, rfl, hT8, hI8, -⟩
              rw [HX.out.1] at hI8
              obtain ⟨ao8, cap8, hv8⟩ := hI8.shape
              rw [List.length_nil] at hv8
              subst hv8
              have H8 := Lib.hid (HX.out.2.step hT8)
              obtain ⟨_, c1⟩ := HB.out _ H8.out.one.touch
              clear hT8 hI8 HX c0
              go_wp2
              go_roundw
              case rel => exact ⟨b + 1, hbn, by go_num, by rw [HO.out], by rw [HO.out], by rw [HO.out], H8.out⟩
              case measure => simp [intOf]; omega
          · obtain rfl : b = n := by omega
            have HE := Lib.hid (ownTo_end (a := a) HC.out.2.1 HC.out.1 H.out.one.blk.le H.out.one.blk.cls)
            go_wp2_with (go_at_call 42; fail)
            refine (blk_Owner a H.out.one.blk (HL3.out.old H.out.one.touch).lim (HL3.out.old H.out.one.touch).siz).mono ?_
            rintro e w6 ⟨rfl, hT6⟩
            rw [HE.out, HTT.out, show triV (t1, t2, t3) = .tuple #[.int .i64 t1, .int .i64 t2, .bool t3] from rfl]
            have H6 := Lib.hid (H.out.step hT6)
            clear hT6 H c0 HE
            go_wp2_with (go_at_call 36; fail)
            refine (blk_Unassigned H6.out.one.blk).mono ?_
            rintro e w7 ⟨v7, rfl, hT7, hI7⟩
            rw [HAM.out.2.1] at hI7
            obtain ⟨ao7, cap7, hv7⟩ := hI7.shape
            rw [List.length_map, HAM.out.2.2.2] at hv7
            subst hv7
            have H7 := Lib.hid (H6.out.step hT7)
            clear hT7 H6
            go_wp2_with (go_at_call 28; fail)
            refine (ref01_Same _ _ (M.map fun (x : Nat) => (x : Int)) _ hI7 (ints_of_own (bq_left H7.out HAM.out.2.1 HAM.out.2.2.2)) (by rw [List.length_map, HAM.out.2.2.2]; omega)).mono ?_
            rintro e w8 ⟨rfl, hT8⟩
            have H8 := Lib.hid (H7.out.step hT8)
            clear hT8 H7 hI7
            go_wp2_with (go_at_call 35; fail)
            refine (law07_list 10000 H8.out.one.blk (HL3.out.old H8.out.one.touch)).mono ?_
            rintro e w9 ⟨v9, rfl, hT9, hI9⟩
            rw [HAM.out.1, List.take_of_length_le (by rw [HAM.out.2.2.1]; omega)] at hI9
            obtain ⟨ao9, cap9, hv9⟩ := hI9.shape
            rw [HAM.out.2.2.1] at hv9
            subst hv9
            have H9 := Lib.hid (H8.out.step hT9)
            clear hT9 H8
            go_wp2_with (go_at_call 28; fail)
            refine (ref01_Same _ _ A _ hI9 (ints_of_ownZ (bq_all H9.out HAM.out.1 HAM.out.2.2.1)) (by rw [HAM.out.2.2.1]; omega)).mono ?_
            rintro e w10 ⟨rfl, hT10⟩
            have H10 := Lib.hid (H9.out.step hT10)
            clear hT10 H9 hI9
            have h11 : (t1 == t1) = true := by simp
            have h12 : (t2 == t2) = true := by simp
            have h13 : (t3 == t3) = true := by simp
            have hsum := cntK_all (n := b) H10.out.one.blk.cls H10.out.one.blk.le
            rw [HLL.out] at hsum
            have hs0 := cntK_le (ks := ks) 0 b
            have hs1 := cntK_le (ks := ks) 1 b
            have hs2 := cntK_le (ks := ks) 2 b
            have hs3 := cntK_le (ks := ks) 3 b
            have HN4 := Lib.hid (cntK_none (k := 4) H10.out.one.blk.cls (by decide) b)
            have HN5 := Lib.hid (cntK_none (k := -1) H10.out.one.blk.cls (by decide) b)
            go_wp2_with (go_at_call 47; fail)
            refine (of_len (0) H10.out.one.blk).mono ?_
            rintro e w11 ⟨ao11, cap11, rfl, hT11⟩
            have H11 := Lib.hid (H10.out.step hT11)
            clear hT11 H10
            go_wp2_with (go_at_call 47; fail)
            refine (of_len (1) H11.out.one.blk).mono ?_
            rintro e w12 ⟨ao12, cap12, rfl, hT12⟩
            have H12 := Lib.hid (H11.out.step hT12)
            clear hT12 H11
            go_wp2_with (go_at_call 47; fail)
            refine (of_len (2) H12.out.one.blk).mono ?_
            rintro e w13 ⟨ao13, cap13, rfl, hT13⟩
            have H13 := Lib.hid (H12.out.step hT13)
            clear hT13 H12
            go_wp2_with (go_at_call 47; fail)
            refine (of_len (3) H13.out.one.blk).mono ?_
            rintro e w14 ⟨ao14, cap14, rfl, hT14⟩
            have H14 := Lib.hid (H13.out.step hT14)
            clear hT14 H13
            obtain ⟨s0, hs0'⟩ : ∃ s, cntK ks 0 b = s := ⟨_, rfl⟩
            obtain ⟨s1, hs1'⟩ : ∃ s, cntK ks 1 b = s := ⟨_, rfl⟩
            obtain ⟨s2, hs2'⟩ : ∃ s, cntK ks 2 b = s := ⟨_, rfl⟩
            obtain ⟨s3, hs3'⟩ : ∃ s, cntK ks 3 b = s := ⟨_, rfl⟩
            rw [hs0', hs1', hs2', hs3'] at hsum
            rw [hs0'] at hs0
            rw [hs1'] at hs1
            rw [hs2'] at hs2
            rw [hs3'] at hs3
            rw [hs0', hs1', hs2', hs3']
            have hse : ((s0 : Int) + (s1 : Int) + (s2 : Int) + (s3 : Int) == (L : Int)) = true := by simp; omega
            clear hs0' hs1' hs2' hs3' hsum
            go_wp2_with (go_at_call 47; fail)
            refine (of_len (4) H14.out.one.blk).mono ?_
            rintro e w15 ⟨ao15, cap15, rfl, hT15⟩
            have H15 := Lib.hid (H14.out.step hT15)
            clear hT15 H14
            rw [HN4.out]
            go_wp2_with (go_at_call 47; fail)
            refine (of_len (-1) H15.out.one.blk).mono ?_
            rintro e w16 ⟨ao16, cap16, rfl, hT16⟩
            have H16 := Lib.hid (H15.out.step hT16)
            clear hT16 H15
            rw [HN5.out]
            go_wp2_with (go_at_call 37; fail)
            refine (law07_awake _ (HL3.out.old H16.out.one.touch)).mono ?_
            rintro e w17 ⟨rfl, hT17⟩
            have H17 := Lib.hid (H3.out.1.trans (H16.out.one.touch.trans hT17))
            clear hT17
            go_wp2
            go_ret
            exact ⟨rfl, H17.out.below⟩
  · go_wp2_with (go_at_call 37; fail)
    simp only [set7] at hW3
    rw [← hW3]
    clear hW3 y0 y1 y2 y3 y4 y5 y6 g0 g1 g2 g3 g4 g5 g6
    refine (law07_awake W3 (HL.out.old H3.out.1)).mono ?_
    rintro e w4 ⟨rfl, hT4⟩
    have H4 := Lib.hid (H3.out.1.trans hT4)
    clear hT4
    go_wp2
    go_ret
    exact ⟨rfl, H4.out.below⟩
end Go.Proofs.YtjbmpdibjfcafaaDoor
