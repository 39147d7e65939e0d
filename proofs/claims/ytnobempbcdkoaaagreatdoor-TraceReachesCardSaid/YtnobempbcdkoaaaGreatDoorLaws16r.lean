/- TraceReaches, walked. Conditions: the tables of limits, of sizes and of de Bruijn's bits read as laid. -/
import Derived.Test.YtnobempbcdkoaaaGreatDoorLaws16m
import Derived.Deep.RegionHeld3
namespace Go.Proofs.YtnobempbcdkoaaaGreatDoor
open Go.RowKit
attribute [local go_sem] Oper.semAt_some

variable {w : World}
theorem alloc3 (w : World) (o0 o1 o2 : Obj) : (((w.alloc o0).alloc o1).alloc o2).heap[w.heap.size]? = some o0 ∧ (((w.alloc o0).alloc o1).alloc o2).heap[w.heap.size + 1]? = some o1 ∧ (((w.alloc o0).alloc o1).alloc o2).heap[w.heap.size + 1 + 1]? = some o2 := by
  refine ⟨(Below.heap_alloc _ _ _ (by simp; omega)).trans (alloc2_0 w o0 o1), (Below.heap_alloc _ _ _ (by simp)).trans (alloc2_1 w o0 o1), ?_⟩
  have := World.alloc_heap_new ((w.alloc o0).alloc o1) o2
  rwa [World.size_alloc, World.size_alloc] at this
/-- A heap, its edges, and the boxes of what the law holds. -/
structure TrX (W : World) (A : HA) (c : Cf) (S : HS) (H : Nat → List Nat) (B : Nat) (va vt : Value) (tvs : List Value) (b7 b8 bq br : Nat) (q0 q1 : Int) (wr : World) : Prop where
  hp : HpI W wr A c S H
  eg : EgAt wr B va vt S.objs (S.objs.map (edT S c)) tvs
  c7 : wr.heap[b7]? = some (Obj.cells #[.pointer (some ⟨A.h, 0, none⟩)] 31)
  c8 : wr.heap[b8]? = some (Obj.cells #[va, vt] 41)
  cq : wr.heap[bq]? = some (Obj.cells #[.int .i64 q0, .int .i64 q1] 38)
  cr : wr.heap[br]? = some (Obj.cells #[.bool false] 4)
  lo : B ≤ wr.heap.size
  n : ∀ b ∈ A.all, b < B ∧ b ≠ b7 ∧ b ≠ b8 ∧ b ≠ bq ∧ b ≠ br
variable {W w' : World} {A : HA} {c : Cf} {S : HS} {H : Nat → List Nat} {B : Nat} {va vt : Value} {tvs : List Value} {b7 b8 bq br : Nat} {q0 q1 : Int}
theorem TrX.heap (h : TrX W A c S H B va vt tvs b7 b8 bq br q0 q1 w) (ht : Touch (HT A) w w') (hp : HpI W w' A c S H) : TrX W A c S H B va vt tvs b7 b8 bq br q0 q1 w' :=
  ⟨hp, h.eg.touch ht (fun b hb => (h.n b hb).1), blk_touch h.c7 ht (fun x => (h.n _ x).2.1 rfl), blk_touch h.c8 ht (fun x => (h.n _ x).2.2.1 rfl), blk_touch h.cq ht (fun x => (h.n _ x).2.2.2.1 rfl), blk_touch h.cr ht (fun x => (h.n _ x).2.2.2.2 rfl), Nat.le_trans h.lo ht.size, h.n⟩
theorem TrX.old (h : TrX W A c S H B va vt tvs b7 b8 bq br q0 q1 w) (ht : Touch nob w w') : TrX W A c S H B va vt tvs b7 b8 bq br q0 q1 w' := h.heap ht.hnob (h.hp.old ht)
theorem TrX.cells (h : TrX W A c S H B va vt tvs b7 b8 bq br q0 q1 w) : w.cell? ⟨b7, 0, none⟩ = some (.pointer (some ⟨A.h, 0, none⟩)) ∧ w.cell? ⟨b8, 0, none⟩ = some va ∧ w.cell? ⟨b8, 1, none⟩ = some vt ∧ w.cell? ⟨bq, 0, none⟩ = some (.int .i64 q0) ∧ w.cell? ⟨bq, 1, none⟩ = some (.int .i64 q1) := by
  have h7 := h.c7
  have h8 := h.c8
  have hq := h.cq
  simp [World.cell?, h7, h8, hq]
theorem TrX.cells3 (h : TrX W A c S H B va vt tvs b7 b8 bq br q0 q1 w) : w.cell? ⟨b7, 0, none⟩ = some (.pointer (some ⟨A.h, 0, none⟩)) ∧ w.cell? ⟨b8, 0, none⟩ = some va ∧ w.cell? ⟨b8, 1, none⟩ = some vt := ⟨h.cells.1, h.cells.2.1, h.cells.2.2.1⟩
theorem sy_blk {b : Nat} {x : Int} (h : w.heap[b]? = some (Obj.cells #[.int .i64 x] 3)) : Sy w (.slice (some ⟨b, 0, none⟩) 1 1) [x] := by
  refine .inr ⟨⟨b, 0, none⟩, 1, rfl, fun j u hj => ?_⟩
  obtain ⟨hl, rfl⟩ := List.getElem?_eq_some_iff.1 hj
  have h0 : j = 0 := by simpa using hl
  subst h0
  exact one_cell h
theorem ow_new {v : Value} {xs : List Int} (h : Ow w B v xs) (hA : ∀ b ∈ A.all, b < B) (ht : Touch (HT A) w w') : Ow w' B v xs :=
  h.touch ht (fun g hg x => by have h1 := (World.ownsRow.lt h g hg).1; have h2 := hA g x; omega)
theorem EgAt.touch2 {T : Nat → Prop} {zs : List Int} {ts : List (List Int)} (h : EgAt w B va vt zs ts tvs) (ht : Touch T w w') (hT : ∀ b, B ≤ b → b < w.heap.size → ¬ T b) : EgAt w' B va vt zs ts tvs :=
  have hn : ∀ {v : Value} {n : Nat} {vs : List Value} {t : TypeId}, w.ownsRow B t 1 v n vs → ∀ g, v.ownBlock = some g → ¬ T g := fun h g hg => hT g (World.ownsRow.lt h g hg).1 (World.ownsRow.lt h g hg).2
  ⟨h.a.touch ht (fun g hg => hn h.a g hg), h.tl, h.vl, owns_touch h.t ht (hn h.t), fun j hj => (h.e j hj).touch ht (fun g hg => hn (h.e j hj) g hg), h.d⟩
/-- The last edge's field that was told. -/
def lastI (pre : List (Int × Int)) : Int := (pre.map Prod.fst).getLastD (-1)
theorem lastI_app {pre : List (Int × Int)} {p : Int × Int} : lastI (pre ++ [p]) = p.1 := by simp [lastI]
theorem edR_asc (S : HS) (c : Cf) (a : Int) (n : Nat) : (edR S c a n).Pairwise (fun x y => x.1 < y.1) := by
  unfold edR
  refine List.Pairwise.filter _ ?_
  rw [List.pairwise_map]
  exact List.pairwise_lt_range.imp fun h => by show ((_ : Nat) : Int) < _; omega
theorem ed_next {a : Int} {pre : List (Int × Int)} {p : Int × Int} (h : pre ++ [p] <+: edL S c a) : lastI pre < p.1 ∧ S.obj a = true ∧ 0 ≤ p.1 ∧ p.1 < S.fldV c a ∧ p.2 = S.ldV c a p.1 := by
  unfold edL at h
  by_cases ho : S.obj a = true
  · rw [if_pos ho] at h
    have hm : p ∈ edR S c a (S.fldV c a).toNat := h.subset (by simp)
    have hpw := (edR_asc S c a (S.fldV c a).toNat).sublist h.sublist
    have hp : 0 ≤ p.1 ∧ p.1 < S.fldV c a ∧ p.2 = S.ldV c a p.1 := by
      unfold edR at hm
      rw [List.mem_filter, List.mem_map] at hm
      obtain ⟨⟨i, hi, rfl⟩, -⟩ := hm
      rw [List.mem_range] at hi
      exact ⟨by simp, by show (i : Int) < _; omega, rfl⟩
    refine ⟨?_, ho, hp⟩
    rcases List.eq_nil_or_concat pre with rfl | ⟨l, q, rfl⟩
    · show (-1 : Int) < _
      have := hp.1
      omega
    · rw [List.concat_eq_append, lastI_app]
      rw [List.concat_eq_append] at hpw
      exact (List.pairwise_append.1 hpw).2.2 q (by simp) p (by simp)
  · rw [if_neg ho] at h
    exact absurd (List.prefix_nil.1 h) (by simp)
/-- In a round of the range over an object's edges. -/
def TgI (W : World) (A : HA) (c : Cf) (S : HS) (H : Nat → List Nat) (w0 : World) (bg bl : Nat) (pre : List (Int × Int)) (O : Nat → Prop) (X : World) : Prop :=
  ∃ v, (∀ j, O j ↔ (HT A j ∨ j = bg ∨ j = bl ∨ v.ownBlock = some j)) ∧ HpI W X A c S H ∧ Touch (fun b => w0.heap.size ≤ b ∨ HT A b) w0 X ∧ X.heap[bg]? = some (Obj.cells #[v] 28) ∧ X.heap[bl]? = some (Obj.cells #[.int .i64 (lastI pre)] 3) ∧ Ow X w0.heap.size v (pre.map Prod.snd) ∧ ∀ g, v.ownBlock = some g → g ≠ bg ∧ g ≠ bl
variable {w0 X Y : World} {bg bl m : Nat} {pre : List (Int × Int)} {O : Nat → Prop}
theorem TgI.ab (hA : ∀ b ∈ A.all, b < w0.heap.size) (hb : w0.heap.size ≤ bg ∧ w0.heap.size ≤ bl) (hW : W.heap.size ≤ w0.heap.size) (hn : w0.heap.size ≤ m) (h : TgI W A c S H w0 bg bl pre O X) (hab : AbE W A c S H m O X Y) : TgI W A c S H w0 bg bl pre O Y := by
  obtain ⟨v, h1, h2, h3, h4, h5, h6, h7⟩ := h
  have hT : ∀ b, w0.heap.size ≤ b → O b → ¬ ((m ≤ b ∧ ¬ O b) ∨ HT A b) := fun b hb h x => by
    rcases x with ⟨_, y⟩ | x
    · exact y h
    · have := hA b x; omega
  exact ⟨v, h1, hab.2 (Nat.le_trans hW hn) (fun b hb => Nat.lt_of_lt_of_le (hA b hb) hn) S.K h2, h3.step hab.1 (fun b hb => hb.elim (fun x => .inr (Nat.le_trans hn x.1)) (fun x => .inl (.inr x))), blk_touch h4 hab.1 (hT bg hb.1 ((h1 _).2 (.inr (.inl rfl)))), blk_touch h5 hab.1 (hT bl hb.2 ((h1 _).2 (.inr (.inr (.inl rfl))))), h6.touch hab.1 (fun g hg => hT g (h6.new g hg) ((h1 _).2 (.inr (.inr (.inr hg))))), h7⟩
/-- A round: the field's value is loaded, the field is kept, the value is appended. -/
theorem TgI.app {X2 w1 : World} {v v' : Value} {fi y : Int} (hA : ∀ b ∈ A.all, b < w0.heap.size) (hb : w0.heap.size ≤ bg ∧ w0.heap.size ≤ bl ∧ bg ≠ bl) (hW : W.heap.size ≤ w0.heap.size) (h1 : ∀ j, O j ↔ (HT A j ∨ j = bg ∨ j = bl ∨ v.ownBlock = some j)) (h3 : Touch (fun b => w0.heap.size ≤ b ∨ HT A b) w0 X) (h4 : X.heap[bg]? = some (Obj.cells #[v] 28)) (h5 : X.heap[bl]? = some (Obj.cells #[.int .i64 (lastI pre)] 3)) (h6 : Ow X w0.heap.size v (pre.map Prod.snd)) (h7 : ∀ g, v.ownBlock = some g → g ≠ bg ∧ g ≠ bl)
    (t2 : Touch (HT A) X X2) (hp2 : HpI W X2 A c S H) (hown : Ow w1 w0.heap.size v' (pre.map Prod.snd ++ [y])) (hgrow : ((X2.setCell ⟨bl, 0, none⟩ (.int .i64 fi)).alloc (Obj.cells #[.int .i64 y] 3)).grownBy w1 v.ownBlock) (hat : v'.ownBlock = v.ownBlock ∨ v'.ownBlock = some ((X2.setCell ⟨bl, 0, none⟩ (.int .i64 fi)).alloc (Obj.cells #[.int .i64 y] 3)).heap.size) :
    ∃ O', Touch O X (w1.setCell ⟨bg, 0, none⟩ v') ∧ (∀ b, O' b → O b ∨ (X.heap.size ≤ b ∧ b < (w1.setCell ⟨bg, 0, none⟩ v').heap.size)) ∧ KpE W A c S H X (w1.setCell ⟨bg, 0, none⟩ v') ∧ TgI W A c S H w0 bg bl (pre ++ [(fi, y)]) O' (w1.setCell ⟨bg, 0, none⟩ v') := by
  have nA : ∀ b, w0.heap.size ≤ b → ¬ HT A b := fun b h x => by have := hA b x; omega
  obtain ⟨X3, hX3⟩ : ∃ X3, X2.setCell ⟨bl, 0, none⟩ (.int .i64 fi) = X3 := ⟨_, rfl⟩
  rw [hX3] at hgrow hat
  have t3 : Touch (fun b => b = bl) X2 X3 := by rw [← hX3]; exact touch_set _ _ _ _
  have t1 : Touch (fun b => v.ownBlock = some b) X3 w1 := Touch.grown ((Touch.refl _ X3).alloc _) hgrow (fun k hk => .inl hk)
  have t4 : Touch (fun b => b = bg) w1 (w1.setCell ⟨bg, 0, none⟩ v') := touch_set _ _ _ _
  have tX3 : Touch O X X3 := (t2.mono fun b _ x => (h1 b).2 (.inl x)).trans (t3.mono fun b _ x => (h1 b).2 (.inr (.inr (.inl x))))
  have tX1 : Touch O X w1 := tX3.trans (t1.mono fun b _ x => (h1 b).2 (.inr (.inr (.inr x))))
  have tX4 : Touch O X (w1.setCell ⟨bg, 0, none⟩ v') := tX1.trans (t4.mono fun b _ x => (h1 b).2 (.inr (.inl x)))
  have k4 := blk_touch (blk_touch (blk_touch h4 t2 (nA _ hb.1)) t3 hb.2.2) t1 (fun e => (h7 _ e).1 rfl)
  have k5 : X3.heap[bl]? = some (Obj.cells #[.int .i64 fi] 3) := by rw [← hX3]; exact set_one _ (blk_touch h5 t2 (nA _ hb.2.1))
  have k5' := blk_touch (blk_touch k5 t1 (fun e => (h7 _ e).2 rfl)) t4 (fun e => hb.2.2 e.symm)
  have hlt := hown.old
  have hg : ∀ g, v'.ownBlock = some g → v.ownBlock = some g ∨ (X.heap.size ≤ g ∧ g < w1.heap.size) := fun g e => by
    rcases hat with h | h
    · exact .inl (h ▸ e)
    · right
      rw [h] at e
      have e' := Option.some.inj e
      rw [World.size_alloc] at e'
      have := tX3.size
      exact ⟨by omega, hlt g (h.trans e)⟩
  have hn : ∀ g, v'.ownBlock = some g → g ≠ bg ∧ g ≠ bl := fun g e => by
    rcases hg g e with h | h
    · exact h7 g h
    · have l4 := blk_lt h4
      have l5 := blk_lt h5
      omega
  have hsz : (w1.setCell ⟨bg, 0, none⟩ v').heap.size = w1.heap.size := by simp [World.setCell]
  have hp1 : HpI W w1 A c S H := hp2.touch (hp2.at'.base.step (t3.trans (Touch.refl _ _)) (fun b e => .inr (by have : b = bl := e; have := hb.2.1; omega)) |>.step t1 (fun b e => .inr (Nat.le_trans hW (h6.new b e)))) (((t3.mono (fun b _ e => (.inl e : b = bl ∨ v.ownBlock = some b))).trans (t1.mono (fun b _ e => .inr e)))) (fun b hm e => by
    rcases e with e | e
    · have : b = bl := e; have h8 := hA b hm; have := hb.2.1; omega
    · have h8 := hA b hm; have := h6.new b e; omega)
  refine ⟨fun j => HT A j ∨ j = bg ∨ j = bl ∨ v'.ownBlock = some j, tX4, ?_, fun K _ => ⟨S.K, ?_⟩, v', fun j => Iff.rfl, ?_, ?_, set_one _ k4, ?_, ?_, hn⟩
  · rintro b (h | h | h | h)
    · exact .inl ((h1 b).2 (.inl h))
    · exact .inl ((h1 b).2 (.inr (.inl h)))
    · exact .inl ((h1 b).2 (.inr (.inr (.inl h))))
    · rcases hg b h with h | h
      · exact .inl ((h1 b).2 (.inr (.inr (.inr h))))
      · exact .inr (by rw [hsz]; exact h)
  · exact hp1.touch (hp1.at'.base.step t4 (fun b e => .inr (by have : b = bg := e; have := hb.1; omega))) t4 (fun b hm e => by have : b = bg := e; have h8 := hA b hm; have := hb.1; omega)
  · exact hp1.touch (hp1.at'.base.step t4 (fun b e => .inr (by have : b = bg := e; have := hb.1; omega))) t4 (fun b hm e => by have : b = bg := e; have h8 := hA b hm; have := hb.1; omega)
  · refine h3.step tX4 (fun b x => ?_)
    rcases (h1 b).1 x with h | h | h | h
    · exact .inl (.inr h)
    · exact .inr (by have := hb.1; omega)
    · exact .inr (by have := hb.2.1; omega)
    · exact .inr (h6.new b h)
  · rw [lastI_app]
    exact k5'
  · rw [List.map_append]
    exact hown.touch t4 (fun g e x => (hn g e).1 x)
set_option maxRecDepth 20000 in
set_option maxHeartbeats 4000000 in
theorem law_TraceReaches {w : World} (a0 : Int) (_ : (Lit.int .i64 a0).wf = true) (a1 : Int) (_ : (Lit.int .i64 a1).wf = true) (a2 : Int) (_ : (Lit.int .i64 a2).wf = true) (a3 : Int) (_ : (Lit.int .i64 a3).wf = true) (a4 : Int) (_ : (Lit.int .i64 a4).wf = true) (a5 : Int) (_ : (Lit.int .i64 a5).wf = true) (a6 : Int) (_ : (Lit.int .i64 a6).wf = true)
    (th : Value) (r1 : List (List Value)) (s1 : IsSlice w th [some .u8, some .u8, none] r1) (fv : Value) (r2 : List (List Value)) (s2 : IsSlice w fv [some .u16] r2) (rv : Value) (r3 : List (List Value)) (s3 : IsSlice w rv [some .i64] r3) (q0 : Int) (_ : (Lit.int .i64 q0).wf = true) (q1 : Int) (_ : (Lit.int .i64 q1).wf = true) (hTab : Tab w) (hLim : Limits w) (hS : Sizes w) :
    Calls Tryz.prog 4 #[GrV ⟨a0, a1, a2, a3, a4, a5, a6⟩ th fv, rv, .agg #[.int .i64 q0, .int .i64 q1]] w fun e w' => e = .returned (.bool true) ∧ Below w.heap.size w w' := by
  obtain ⟨ths, fs, hG⟩ := GIn.of s1 s2
  obtain ⟨rt, i3, y3, -⟩ := sy_of_slice s3
  obtain ⟨at1, c1, rfl, -⟩ := id hG.th
  obtain ⟨af, c2, rfl⟩ := hG.fv.shape
  obtain ⟨ar, c3, rfl⟩ := i3.shape
  obtain ⟨N, hN⟩ : ∃ N, ths.length = N := ⟨_, rfl⟩
  obtain ⟨M, hM⟩ : ∃ M, fs.length = M := ⟨_, rfl⟩
  obtain ⟨R, hR⟩ : ∃ R, rt.length = R := ⟨_, rfl⟩
  have HG := Lib.hid (And.intro hG (And.intro i3 y3))
  have HLn := Lib.hid (And.intro hN (And.intro hM hR))
  have HL := Lib.hid (And.intro (Laid.mk hLim hS) hTab)
  rw [hN, hM, hR]
  clear hG i3 y3 s1 s2 s3 hLim hS hTab hN hM hR
  refine (callsIn_wide (n := 0)).1 (callsIn_of_wp_marks Tryz.func4 rfl trivial ?_ rfl)
  simp only [Tryz.ntmps4, List.size_toArray, List.length_cons, List.length_nil, Nat.reduceAdd, Nat.reduceSub, Array.replicate_succ, Array.replicate_zero, List.push_toArray, List.append_toArray, List.nil_append, List.cons_append]
  refine wpIn_wide.2 ?_
  go_wp2_with fail
  obtain ⟨W0, hW⟩ : ∃ W, W = ((w.alloc (Obj.cells #[.int .i64 a0, .int .i64 a1, .int .i64 a2, .int .i64 a3, .int .i64 a4, .int .i64 a5, .int .i64 a6, .slice at1 N c1, .slice af M c2] 27)).alloc (Obj.cells #[.int .i64 q0, .int .i64 q1] 38)).alloc (Obj.cells #[.bool false] 4) := ⟨_, rfl⟩
  have hT : Touch nob w W0 := by rw [hW]; (repeat (first | with_reducible exact Touch.refl _ _ | with_reducible assumption | with_reducible apply Touch.alloc | with_reducible apply Touch.drewN | with_reducible apply Touch.drew | with_reducible refine Touch.setCell ?_ (.inr (by first | omega | (simp; done) | (simp; omega))) _))
  obtain ⟨b0, hb0⟩ : ∃ b, b = w.heap.size := ⟨_, rfl⟩
  rw [← hW, ← hb0]
  have hbx : W0.heap[b0]? = some (Obj.cells #[.int .i64 a0, .int .i64 a1, .int .i64 a2, .int .i64 a3, .int .i64 a4, .int .i64 a5, .int .i64 a6, .slice at1 N c1, .slice af M c2] 27) := by rw [hW, hb0]; exact (alloc3 w _ _ _).1
  have hby : W0.heap[b0 + 1]? = some (Obj.cells #[.int .i64 q0, .int .i64 q1] 38) := by rw [hW, hb0]; exact (alloc3 w _ _ _).2.1
  have hbr : W0.heap[b0 + 1 + 1]? = some (Obj.cells #[.bool false] 4) := by rw [hW, hb0]; exact (alloc3 w _ _ _).2.2
  have HB := Lib.hid (And.intro hT (And.intro hbx (And.intro hby hbr)))
  have HBW : Hid (b0 + 1 < W0.heap.size ∧ w.heap.size ≤ b0) := ⟨Nat.lt_trans (Nat.lt_succ_self _) (blk_lt hbr), Nat.le_of_eq hb0.symm⟩
  clear hW hb0 hT hbx hby hbr
  go_wp2_with (go_at_call 12; fail)
  refine (law16_great ⟨a0, a1, a2, a3, a4, a5, a6⟩ W0 at1 af ar N c1 M c2 R c3).mono ?_
  rintro e w1 ⟨rfl, t1⟩
  have H1 := Lib.hid (HB.out.1.trans t1)
  have HB1 := Lib.hid (And.intro (blk_touch HB.out.2.1 t1 (fun x => x)) (And.intro (blk_touch HB.out.2.2.1 t1 (fun x => x)) (And.intro (blk_touch HB.out.2.2.2 t1 (fun x => x)) (Nat.lt_of_lt_of_le HBW.out.1 t1.size))))
  clear t1 HB
  cases hgt : (decide (40 < N) || decide (200 < M) || decide (40 < R)) with
  | true =>
    go_wp2_with (go_at_call 13; fail)
    refine (law16_awake w1 (HL.out.1.old H1.out) (HL.out.2.touch H1.out (fun x => x))).mono ?_
    rintro e w2 ⟨rfl, t2⟩
    have hb2 := blk_touch HB1.out.2.2.1 t2 (fun x => x)
    obtain ⟨cr, fr⟩ := box1 hb2
    have H2 := Lib.hid (And.intro (H1.out.trans t2) hb2)
    clear t2 hb2
    go_wp2
    have hb3 := one_cell (set_one (.bool true) H2.out.2)
    exact ⟨.bool true, by simp [results, Tryz.f4, go_sem, hb3], rfl, (H2.out.1.setCell (.inr (show w.heap.size ≤ b0 + 1 + 1 by have := HBW.out.2; omega)) _).below⟩
  | false =>
    simp only [Bool.or_eq_false_iff, decide_eq_false_iff_not] at hgt
    have HBd := Lib.hid hgt
    clear hgt
    go_wp2_with (go_at_call 13; fail)
    refine (law16_awake w1 (HL.out.1.old H1.out) (HL.out.2.touch H1.out (fun x => x))).mono ?_
    rintro e w2 ⟨rfl, t2⟩
    have H2 := Lib.hid (And.intro (H1.out.trans t2) (And.intro (blk_touch HB1.out.2.1 t2 (fun x => x)) (And.intro (blk_touch HB1.out.2.2.1 t2 (fun x => x)) (Nat.lt_of_lt_of_le HB1.out.2.2.2 t2.size))))
    obtain ⟨y0, y1, y2, y3, y4, y5, y6, y7, y8⟩ := box9 (blk_touch HB1.out.1 t2 (fun x => x))
    clear t2
    go_wp2_with (go_at_call 14; fail)
    obtain ⟨c, hc⟩ : ∃ c, little ⟨a0, a1, a2, a3, a4, a5, a6⟩ = c := ⟨_, rfl⟩
    have hgi := HG.out.1.old H2.out.1
    rw [HLn.out.1, HLn.out.2.1] at hgi
    refine (law16_Made ⟨a0, a1, a2, a3, a4, a5, a6⟩ c hc _ ths _ fs hgi.fb (by have h1 := HBd.out.1.2; have h2 := HLn.out.2.1; omega) w2 (HL.out.1.old H2.out.1) (HL.out.2.touch H2.out.1 (fun x => x)) hgi.th hgi.fv).mono ?_
    rintro e w3 ⟨A, rfl, W1, S, H, t3, hp, -, z, -, -, -, hz, hz2, -, -⟩
    have hol : S.objs.length ≤ 145 := by have := @objs_len S; omega
    have hrl : R ≤ 40 := by have := HBd.out.2; omega
    have hbb : W1.heap.size ≤ w3.heap.size := hp.at'.base.size
    have H3 := Lib.hid (And.intro (H2.out.1.trans t3) (And.intro hp (And.intro hol (And.intro ((HL.out.2.touch H2.out.1 (fun x => x)).touch t3 (fun x => x)) (And.intro (And.intro (blk_touch H2.out.2.1 (t3.trans hp.at'.base) (fun x => x)) (blk_touch H2.out.2.2.1 (t3.trans hp.at'.base) (fun x => x))) (show ∀ b, b < w2.heap.size → ¬ HT A b from fun b hb hm => by have := hp.at'.hi b hm; have := t3.size; omega))))))
    have HRt : Hid (∀ w', Touch nob w w' → Sy w' (.slice ar R c3) rt) := fun w' ht => by have := HG.out.2.2.old ht; rwa [HLn.out.2.2] at this
    clear t3 hp hz hz2 hol hgi hc y0 y1 y2 y3 y4 y5 y6 y7 y8 hbb
    have hq : ∀ (caps : Array Value) (w : World), (binOp .eql 46 (.func (.func 56) #[] caps) .nilFunc).run Tryz.prog w = .ok (.bool false) w := fun _ _ => rfl
    go_wp2_with (go_at_call 20; fail)
    obtain ⟨w3b, hw3⟩ : ∃ x, w3.alloc (Obj.cells #[.pointer (some ⟨A.h, 0, none⟩)] 31) = x := ⟨_, rfl⟩
    have t3 : Touch nob w3 w3b := by rw [← hw3]; exact (Touch.refl nob _).alloc _
    have h7 : w3b.heap[w3.heap.size]? = some (Obj.cells #[.pointer (some ⟨A.h, 0, none⟩)] 31) := by rw [← hw3]; exact World.alloc_heap_new w3 _
    obtain ⟨b7, hb7⟩ : ∃ b, w3.heap.size = b := ⟨_, rfl⟩
    rw [hb7] at h7
    rw [hw3]
    try rw [hb7]
    clear hw3
    refine (law16_Of (H3.out.2.1.old t3) H3.out.2.2.2.1 (Nat.le_trans H3.out.2.2.1 (by decide))).mono ?_
    rintro e w4 ⟨va, vt, tvs, rfl, t4, hp4, eg4⟩
    obtain ⟨aA, cA, eA⟩ := eg4.a.ints.shape
    obtain ⟨aT, cT, eT⟩ := own_shape eg4.t
    obtain ⟨n, hn⟩ : ∃ n, S.objs.length = n := ⟨_, rfl⟩
    rw [hn] at eA eT
    subst eA eT
    have HNn := Lib.hid hn
    clear hn
    have hA3 := H3.out.2.1.at'.lt
    have hn7 : ¬ HT A b7 := fun x => by have := hA3 b7 x; omega
    have hA4 : ∀ b ∈ A.all, b < w3b.heap.size := fun b hb => Nat.lt_of_lt_of_le (hA3 b hb) t3.size
    have hA5 : ∀ b ∈ A.all, b < w4.heap.size := fun b hb => Nat.lt_of_lt_of_le (hA4 b hb) t4.size
    have H4 := Lib.hid (And.intro hp4 (And.intro eg4 (And.intro (blk_touch h7 t4 hn7) (And.intro (blk_touch (blk_touch H3.out.2.2.2.2.1.1 t3 (fun x => x)) t4 (H3.out.2.2.2.2.2 _ (Nat.lt_trans (Nat.lt_succ_self _) (blk_lt H2.out.2.2.1)))) (And.intro (blk_touch (blk_touch H3.out.2.2.2.2.1.2 t3 (fun x => x)) t4 (H3.out.2.2.2.2.2 _ (blk_lt H2.out.2.2.1))) (fun b (hb : b ∈ A.all) => (⟨hA4 b hb, fun e => hn7 (e ▸ hb), Nat.ne_of_lt (hA5 b hb), fun e => H3.out.2.2.2.2.2 _ (Nat.lt_trans (Nat.lt_succ_self _) (blk_lt H2.out.2.2.1)) (e ▸ hb), fun e => H3.out.2.2.2.2.2 _ (blk_lt H2.out.2.2.1) (e ▸ hb)⟩ : b < w3b.heap.size ∧ b ≠ b7 ∧ b ≠ w4.heap.size ∧ b ≠ b0 + 1 ∧ b ≠ b0 + 1 + 1)))))))
    have H4s := Lib.hid t4.size
    clear t3 t4 h7 hp4 eg4 hA3 hn7 hA4 hA5 hb7
    go_wp2_with fail
    obtain ⟨w5, hw5⟩ : ∃ x, w4.alloc (Obj.cells #[.slice aA n cA, .slice aT n cT] 41) = x := ⟨_, rfl⟩
    obtain ⟨B, hB⟩ : ∃ x, w3b.heap.size = x := ⟨_, rfl⟩
    have t5 : Touch nob w4 w5 := by rw [← hw5]; exact (Touch.refl nob _).alloc _
    have h8 : w5.heap[w4.heap.size]? = some (Obj.cells #[.slice aA n cA, .slice aT n cT] 41) := by rw [← hw5]; exact World.alloc_heap_new w4 _
    obtain ⟨b8, hb8⟩ : ∃ b, w4.heap.size = b := ⟨_, rfl⟩
    have h4 := H4.out
    have h4s := H4s.out
    rw [hb8] at h8 h4
    rw [hB] at h4 h4s
    rw [hw5, hb8]
    clear hw5 hb8 hB H4
    have HX5 : Hid (TrX W1 A c S H B (.slice aA n cA) (.slice aT n cT) tvs b7 b8 (b0 + 1) (b0 + 1 + 1) q0 q1 w5) := ⟨h4.1.old t5, h4.2.1.touch t5 (fun _ x => x.elim), blk_touch h4.2.2.1 t5 (fun x => x), h8, blk_touch h4.2.2.2.1 t5 (fun x => x), blk_touch h4.2.2.2.2.1 t5 (fun x => x), Nat.le_trans h4s t5.size, h4.2.2.2.2.2⟩
    have HX5d : Hid (TrX W1 A c S H B (.slice aA n cA) (.slice aT n cT) tvs b7 b8 (b0 + 1) (b0 + 1 + 1) q0 q1 w5.drew) := HX5.out.old (Touch.drew (Touch.refl _ _))
    clear t5 h8 h4 h4s H4s
    have hA : ∀ b ∈ A.all, b < B := fun b hb => (HX5.out.n b hb).1
    have HAB := Lib.hid hA
    have HC5 := Lib.hid HX5.out.cells3
    have HC5d := Lib.hid HX5d.out.cells3
    have HRi : Hid (∀ wr, HpI W1 wr A c S H → IntsIn wr (.slice ar R c3) rt) := fun wr hp => by have := HG.out.2.1.old (H3.out.1.trans hp.at'.base); rwa [HLn.out.2.2] at this
    have HRy : Hid (∀ wr, HpI W1 wr A c S H → Sy wr (.slice ar R c3) rt) := fun wr hp => HRt.out _ (H3.out.1.trans hp.at'.base)
    have HRb : Hid (rt.length + 257 * S.objs.length ≤ 1000000) := by have h1 := H3.out.2.2.1; have h2 := HLn.out.2.2; show _ ≤ _; omega
    have hbd : ∀ x ∈ S.objs, 1 ≤ x ∧ x ≤ 1048576 := fun x hx => by
      have h1 := HX5.out.hp.inv.obj_bd (mem_objs.1 hx)
      have h2 := HS.len_le HX5.out.hp.at'
      omega
    have HBd2 := Lib.hid hbd
    clear hbd hA
    have HRc : Hid (∀ wr, TrX W1 A c S H B (.slice aA n cA) (.slice aT n cT) tvs b7 b8 (b0 + 1) (b0 + 1 + 1) q0 q1 wr → Calls Tryz.prog 15 #[.pointer (some ⟨A.h, 0, none⟩), .slice ar R c3] wr fun e w' => ∃ v, e = .returned v ∧ Touch (HT A) wr w' ∧ TrX W1 A c S H B (.slice aA n cA) (.slice aT n cT) tvs b7 b8 (b0 + 1) (b0 + 1 + 1) q0 q1 w' ∧ Ow w' B v (rchL S c rt)) := fun wr hx => by
      refine (tr_Reach _ hx.hp H3.out.2.2.2.1 (HRi.out _ hx.hp) HRb.out).mono ?_
      rintro e w' ⟨v, rfl, t, hp, o⟩
      exact ⟨v, rfl, t, hx.heap t hp, o.base hx.lo⟩
    have HGc : Hid (∀ wr, TrX W1 A c S H B (.slice aA n cA) (.slice aT n cT) tvs b7 b8 (b0 + 1) (b0 + 1 + 1) q0 q1 wr → Calls Tryz.prog 17 #[.pointer (some ⟨A.h, 0, none⟩), .slice ar R c3] wr fun e w' => ∃ v, e = .returned v ∧ Touch (HT A) wr w' ∧ TrX W1 A c S H B (.slice aA n cA) (.slice aT n cT) tvs b7 b8 (b0 + 1) (b0 + 1 + 1) q0 q1 w' ∧ Ow w' B v (S.objs.filter fun x => !rchB S c rt x)) := fun wr hx => by
      refine (tr_Garbage _ hx.hp H3.out.2.2.2.1 (HRi.out _ hx.hp) HRb.out).mono ?_
      rintro e w' ⟨v, rfl, t, hp, o⟩
      exact ⟨v, rfl, t, hx.heap t hp, o.base hx.lo⟩
    have HFc : Hid (∀ wr, TrX W1 A c S H B (.slice aA n cA) (.slice aT n cT) tvs b7 b8 (b0 + 1) (b0 + 1 + 1) q0 q1 wr → Calls Tryz.prog 21 #[.agg #[.slice aA n cA, .slice aT n cT], .slice ar R c3] wr fun e w' => ∃ v, e = .returned v ∧ Touch (HT A) wr w' ∧ TrX W1 A c S H B (.slice aA n cA) (.slice aT n cT) tvs b7 b8 (b0 + 1) (b0 + 1 + 1) q0 q1 w' ∧ Ow w' B v (rchL S c rt)) := fun wr hx => by
      refine (ref16_Reach _ hx.eg HBd2.out (HRy.out _ hx.hp) HRb.out).mono ?_
      rintro e w' ⟨v, rfl, t, o⟩
      exact ⟨v, rfl, t.hnob, hx.old t, o.base hx.lo⟩
    have HBc : Hid (∀ wr, TrX W1 A c S H B (.slice aA n cA) (.slice aT n cT) tvs b7 b8 (b0 + 1) (b0 + 1 + 1) q0 q1 wr → Calls Tryz.prog 22 #[.agg #[.slice aA n cA, .slice aT n cT], .slice ar R c3] wr fun e w' => ∃ v, e = .returned v ∧ Touch (HT A) wr w' ∧ TrX W1 A c S H B (.slice aA n cA) (.slice aT n cT) tvs b7 b8 (b0 + 1) (b0 + 1 + 1) q0 q1 w' ∧ Ow w' B v (S.objs.filter fun x => !rchB S c rt x)) := fun wr hx => by
      refine (ref16_But _ hx.eg HBd2.out (HRy.out _ hx.hp) HRb.out).mono ?_
      rintro e w' ⟨v, rfl, t, o⟩
      exact ⟨v, rfl, t.hnob, hx.old t, o.base hx.lo⟩
    have HKp : Hid (∀ (wr : World) (v : Value) (xs : List Int) (w2 : World), Ow wr B v xs → Touch (HT A) wr w2 → Ow w2 B v xs) := fun _ _ _ _ h ht => ow_new h HAB.out ht
    have hL1 : (rchL S c rt).length ≤ 1048576 := by have h1 := @rchL_len c S rt; have h2 := H3.out.2.2.1; omega
    have hL2 : (S.objs.filter fun x => !rchB S c rt x).length ≤ 1048576 := by have h1 := List.length_filter_le (fun x => !rchB S c rt x) S.objs; have h2 := H3.out.2.2.1; omega
    have HL12 := Lib.hid (And.intro hL1 hL2)
    clear hL1 hL2
    go_region_held3 (fun w1 => w1.cell? ⟨b7, 0, none⟩ = some (.pointer (some ⟨A.h, 0, none⟩)) ∧ w1.cell? ⟨b8, 0, none⟩ = some (.slice aA n cA) ∧ w1.cell? ⟨b8, 1, none⟩ = some (.slice aT n cT)) (first | exact HC12.out | exact HC11.out | exact HC10.out | exact HC9.out | exact HC8.out | exact HC7.out | exact HC5.out | exact HC5d.out) (first
      | (go_at_call 18; refine (ref01_Same _ _ _ _ H11.out.2.1 H11.out.2.2 HL12.out.2).mono ?_; rintro e w12 ⟨rfl, t12⟩; have H12 := Lib.hid (H11.out.1.old t12); have HC12 := Lib.hid H12.out.cells3; clear t12)
      | (go_at_call 22; refine (HBc.out _ H10.out.1).mono ?_; rintro e w11 ⟨v11, rfl, t11, x11, o11⟩; have H11 := Lib.hid (And.intro x11 (And.intro (HKp.out _ _ _ _ H10.out.2 t11).ints o11.ints)); have HC11 := Lib.hid H11.out.1.cells3; clear t11 x11 o11)
      | (go_at_call 17; refine (HGc.out _ H9.out).mono ?_; rintro e w10 ⟨v10, rfl, t10, x10, o10⟩; have H10 := Lib.hid (And.intro x10 o10); have HC10 := Lib.hid H10.out.1.cells3; clear t10 x10 o10)
      | (go_at_call 18; refine (ref01_Same _ _ _ _ H8.out.2.1 H8.out.2.2 HL12.out.1).mono ?_; rintro e w9 ⟨rfl, t9⟩; have H9 := Lib.hid (H8.out.1.old t9); have HC9 := Lib.hid H9.out.cells3; clear t9)
      | (go_at_call 21; refine (HFc.out _ H7.out.1).mono ?_; rintro e w8 ⟨v8, rfl, t8, x8, o8⟩; have H8 := Lib.hid (And.intro x8 (And.intro (HKp.out _ _ _ _ H7.out.2 t8).ints o8.ints)); have HC8 := Lib.hid H8.out.1.cells3; clear t8 x8 o8)
      | (go_at_call 15; refine (HRc.out _ HX5d.out).mono ?_; rintro e w7 ⟨v7, rfl, t7, x7, o7⟩; have H7 := Lib.hid (And.intro x7 o7); have HC7 := Lib.hid H7.out.1.cells3; clear t7 x7 o7))
    rename_i hheld
    clear hheld HC7 HC8 HC9 HC10 HC11 HC12 HC5 HC5d HX5 HX5d H7 H8 H9 H10 H11 HRc HGc HFc HBc HRi HRy HRb HL12
    have HZ : Hid (Touch nob w12 (w12.alloc (Obj.cells #[.int .i64 q0] 3)).drew) := Touch.drew (Touch.alloc (Touch.refl _ _) _)
    have HZb : Hid ((w12.alloc (Obj.cells #[.int .i64 q0] 3)).drew.heap[w12.heap.size]? = some (Obj.cells #[.int .i64 q0] 3)) := blk_touch (World.alloc_heap_new w12 _) (Touch.drew (Touch.refl nob _)) (fun x => x)
    have HZn : Hid (¬ HT A w12.heap.size) := fun x => Nat.lt_irrefl _ (H12.out.hp.at'.lt _ x)
    have HX12d : Hid (TrX W1 A c S H B (.slice aA n cA) (.slice aT n cT) tvs b7 b8 (b0 + 1) (b0 + 1 + 1) q0 q1 (w12.alloc (Obj.cells #[.int .i64 q0] 3)).drew) := H12.out.old HZ.out
    have HC12 := Lib.hid H12.out.cells
    have HC12d := Lib.hid HX12d.out.cells
    obtain ⟨G, hG⟩ : ∃ G, rchB S c [q0] q1 = G := ⟨_, rfl⟩
    have HRs : Hid (∀ wr, TrX W1 A c S H B (.slice aA n cA) (.slice aT n cT) tvs b7 b8 (b0 + 1) (b0 + 1 + 1) q0 q1 wr → Calls Tryz.prog 23 #[.pointer (some ⟨A.h, 0, none⟩), .int .i64 q0, .int .i64 q1] wr fun e w' => e = .returned (.bool G) ∧ Touch (HT A) wr w' ∧ TrX W1 A c S H B (.slice aA n cA) (.slice aT n cT) tvs b7 b8 (b0 + 1) (b0 + 1 + 1) q0 q1 w') := fun wr hx => by
      refine (tr_Reaches q0 q1 hx.hp (Nat.le_trans H3.out.2.2.1 (by decide))).mono ?_
      rintro e w' ⟨rfl, t, hp⟩
      exact ⟨by rw [hG], t, hx.heap t hp⟩
    have HRf : Hid (∀ (wr : World) (v : Value), TrX W1 A c S H B (.slice aA n cA) (.slice aT n cT) tvs b7 b8 (b0 + 1) (b0 + 1 + 1) q0 q1 wr → Sy wr v [q0] → Calls Tryz.prog 21 #[.agg #[.slice aA n cA, .slice aT n cT], v] wr fun e w' => ∃ v, e = .returned v ∧ TrX W1 A c S H B (.slice aA n cA) (.slice aT n cT) tvs b7 b8 (b0 + 1) (b0 + 1 + 1) q0 q1 w' ∧ IntsIn w' v (rchL S c [q0])) := fun wr v hx hy => by
      refine (ref16_Reach _ hx.eg HBd2.out hy (by have h1 := H3.out.2.2.1; show 1 + _ ≤ _; omega)).mono ?_
      rintro e w' ⟨v, rfl, t, o⟩
      exact ⟨v, rfl, hx.old t, o.ints⟩
    have HIn : Hid (∀ (wr : World) (v : Value), TrX W1 A c S H B (.slice aA n cA) (.slice aT n cT) tvs b7 b8 (b0 + 1) (b0 + 1 + 1) q0 q1 wr → IntsIn wr v (rchL S c [q0]) → Calls Tryz.prog 16 #[v, .int .i64 q1] wr fun e w' => e = .returned (.bool G) ∧ TrX W1 A c S H B (.slice aA n cA) (.slice aT n cT) tvs b7 b8 (b0 + 1) (b0 + 1 + 1) q0 q1 w') := fun wr v hx hi => by
      refine (in_ints_of hi q1 (by have h1 := @rchL_len c S [q0]; have h2 := H3.out.2.2.1; omega)).mono ?_
      rintro e w' ⟨rfl, t⟩
      exact ⟨by rw [show decide (q1 ∈ rchL S c [q0]) = G by rw [← hG, Bool.eq_iff_iff, decide_eq_true_iff, mem_rchL, rchB_iff]], hx.old t⟩
    have hGG : (G != G) = false := by simp
    clear hG
    go_wp2_with fail
    go_region_held3 (fun w1 => w1.cell? ⟨b7, 0, none⟩ = some (.pointer (some ⟨A.h, 0, none⟩)) ∧ w1.cell? ⟨b8, 0, none⟩ = some (.slice aA n cA) ∧ w1.cell? ⟨b8, 1, none⟩ = some (.slice aT n cT) ∧ w1.cell? ⟨b0 + 1, 0, none⟩ = some (.int .i64 q0) ∧ w1.cell? ⟨b0 + 1, 1, none⟩ = some (.int .i64 q1)) (first | exact HC15.out | exact HC14.out | exact HC13.out | exact HC12.out | exact HC12d.out | exact (H13b.out.old (by (repeat (first | with_reducible exact Touch.refl _ _ | with_reducible assumption | with_reducible apply Touch.alloc | with_reducible apply Touch.drewN | with_reducible apply Touch.drew | with_reducible refine Touch.setCell ?_ (.inr (by first | omega | (simp; done) | (simp; omega))) _)); done)).cells | exact (H12.out.old (by (repeat (first | with_reducible exact Touch.refl _ _ | with_reducible assumption | with_reducible apply Touch.alloc | with_reducible apply Touch.drewN | with_reducible apply Touch.drew | with_reducible refine Touch.setCell ?_ (.inr (by first | omega | (simp; done) | (simp; omega))) _)); done)).cells) (first
      | (go_at_call 16; refine (HIn.out _ _ H14.out.1 H14.out.2).mono ?_; rintro e w15 ⟨rfl, x15⟩; have H15 := Lib.hid x15; have HC15 := Lib.hid H15.out.cells; clear x15)
      | (go_at_call 21; refine (HRf.out _ _ H13.out.1 H13.out.2).mono ?_; rintro e w14 ⟨v14, rfl, x14, i14⟩; have H14 := Lib.hid (And.intro x14 i14); have HC14 := Lib.hid H14.out.1.cells; clear x14 i14)
      | (go_at_call 23; refine (HRs.out _ HX12d.out).mono ?_; rintro e w13 ⟨rfl, t13, x13⟩; have H13 := Lib.hid (And.intro x13 (sy_blk (blk_touch HZb.out t13 HZn.out))); have HC13 := Lib.hid H13.out.1.cells; clear t13 x13)
      | (go_at_call 23; refine (HRs.out _ (H12.out.old (Touch.drew (Touch.refl _ _)))).mono ?_; rintro e w13 ⟨rfl, t13, x13⟩; have H13b := Lib.hid x13; have HC13 := Lib.hid x13.cells; clear t13 x13)
      | (go_at_call 21; refine (HRf.out _ _ (H13b.out.old (Touch.alloc (Touch.refl nob _) _)) (sy_blk (World.alloc_heap_new _ _))).mono ?_; rintro e w14 ⟨v14, rfl, x14, i14⟩; have H14 := Lib.hid (And.intro x14 i14); have HC14 := Lib.hid H14.out.1.cells; clear x14 i14))
    all_goals
      rename_i hheld
      clear hheld
      try clear HC13
      try clear H13
      try clear H13b
      clear HC14 HC15 HC12 HC12d H14 HRs HRf HIn HZ HZb HZn HX12d
      obtain ⟨xc7, xc8, xc9, xcq, xcr⟩ := H15.out.cells
      go_wp2_with (go_at_call 24; fail)
      clear xc7 xc8 xc9 xcq xcr
      refine (trace_Edges w15 _ q0).mono ?_
      rintro e w16 ⟨be, rfl, t16, hbe, e1, e2⟩
      have H16 := Lib.hid (And.intro (H15.out.old t16) (And.intro hbe (And.intro e1 e2)))
      clear t16 hbe e1 e2
      go_wp2_with fail
      obtain ⟨w17, hw17⟩ : ∃ x, (w16.alloc (Obj.cells #[.slice none 0 0] 28)).alloc (Obj.cells #[.int .i64 (-1)] 3) = x := ⟨_, rfl⟩
      have t17 : Touch nob w16 w17 := by rw [← hw17]; (repeat (first | with_reducible exact Touch.refl _ _ | with_reducible assumption | with_reducible apply Touch.alloc | with_reducible apply Touch.drewN | with_reducible apply Touch.drew | with_reducible refine Touch.setCell ?_ (.inr (by first | omega | (simp; done) | (simp; omega))) _))
      have g17 : w17.heap[w16.heap.size]? = some (Obj.cells #[.slice none 0 0] 28) := by rw [← hw17]; exact alloc2_0 w16 _ _
      have l17 : w17.heap[w16.heap.size + 1]? = some (Obj.cells #[.int .i64 (-1)] 3) := by rw [← hw17]; exact alloc2_1 w16 _ _
      obtain ⟨bg, hbg⟩ : ∃ b, w16.heap.size = b := ⟨_, rfl⟩
      rw [hbg] at g17 l17
      rw [hw17, hbg]
      have HG17 := Lib.hid (And.intro t17 (And.intro g17 (And.intro l17 hbg)))
      clear hw17 t17 g17 l17 hbg
      have hA16 : ∀ b ∈ A.all, b < w16.heap.size := H16.out.1.hp.at'.lt
      have HA16 := Lib.hid hA16
      have hA17 : ∀ b ∈ A.all, b < w17.heap.size := fun b hb => Nat.lt_of_lt_of_le (hA16 b hb) HG17.out.1.size
      have HA17 := Lib.hid hA17
      have HB17 : Hid (w16.heap.size ≤ bg ∧ w16.heap.size ≤ bg + 1 ∧ bg ≠ bg + 1) := ⟨Nat.le_of_eq HG17.out.2.2.2, by have := HG17.out.2.2.2; omega, by omega⟩
      have HW17 : Hid (W1.heap.size ≤ w16.heap.size) := H16.out.1.hp.at'.base.size
      have hbe : be ∉ A.all ∧ be + 1 ∉ A.all := ⟨fun x => by have := H15.out.hp.at'.lt be x; have := H16.out.2.1; omega, fun x => by have := H15.out.hp.at'.lt (be + 1) x; have := H16.out.2.1; omega⟩
      have HIt := Lib.hid (ed_iter be (be + 1) q0 (H16.out.1.hp.old HG17.out.1) (blk_touch H16.out.2.2.1 HG17.out.1 (fun x => x)) (blk_touch H16.out.2.2.2 HG17.out.1 (fun x => x)) hbe)
      have HBe := Lib.hid hbe
      have HT16 : Hid (∀ b, b < w16.heap.size → b ∉ A.all → ¬ (w16.heap.size ≤ b ∨ HT A b)) := fun b h1 h2 x => x.elim (fun y => Nat.lt_irrefl _ (Nat.lt_of_lt_of_le h1 y)) h2
      have HX16 : Hid (∀ X, Touch (fun b => w16.heap.size ≤ b ∨ HT A b) w16 X → EgAt X B (.slice aA n cA) (.slice aT n cT) S.objs (S.objs.map (edT S c)) tvs ∧ X.heap[b7]? = some (Obj.cells #[.pointer (some ⟨A.h, 0, none⟩)] 31) ∧ X.heap[b8]? = some (Obj.cells #[.slice aA n cA, .slice aT n cT] 41) ∧ X.heap[b0 + 1]? = some (Obj.cells #[.int .i64 q0, .int .i64 q1] 38) ∧ X.heap[b0 + 1 + 1]? = some (Obj.cells #[.bool false] 4)) := fun X ht => by
        have h := H16.out.1
        have hh : ∀ b, b < w16.heap.size → b ∉ A.all → ¬ (w16.heap.size ≤ b ∨ HT A b) := HT16.out
        exact ⟨h.eg.touch2 ht (fun b h1 h2 => hh b h2 (fun x => by have := (h.n b x).1; omega)), blk_touch h.c7 ht (hh _ (blk_lt h.c7) (fun x => (h.n _ x).2.1 rfl)), blk_touch h.c8 ht (hh _ (blk_lt h.c8) (fun x => (h.n _ x).2.2.1 rfl)), blk_touch h.cq ht (hh _ (blk_lt h.cq) (fun x => (h.n _ x).2.2.2.1 rfl)), blk_touch h.cr ht (hh _ (blk_lt h.cr) (fun x => (h.n _ x).2.2.2.2 rfl))⟩
      clear hA16 hA17 hbe
      obtain ⟨i0, hi, hz0, hz1', hz2⟩ := info_parts info_int2
      refine (wpIn_wide (n := 0)).1 ?_
      refine rf_law1G ?_ (O₀ := fun j => HT A j ∨ j = bg ∨ j = bg + 1 ∨ (Value.slice none 0 0).ownBlock = some j) rfl (enters_of Tryz.func56 (by kernel_rfl) rfl) HIt.out (fun _ => rfl) (fun n O X Y _ => abE_T n O X Y) abE_M (abE_O HA17.out) (kpE_K (Nat.le_trans HW17.out HG17.out.1.size) HA17.out) (TgI W1 A c S H w16 bg (bg + 1)) (fun _ _ _ _ => False) ?_ ?_ ?_ (fun _ _ _ _ _ h _ => h) ?_ ?_ ?_ ?_ ?_
      rotate_left
      · have l1 := blk_lt (blk_touch H16.out.2.2.1 HG17.out.1 (fun x => x))
        have l2 := blk_lt (blk_touch H16.out.2.2.2 HG17.out.1 (fun x => x))
        have l3 := blk_lt H16.out.2.2.1
        have l4 := blk_lt H16.out.2.2.2
        have l5 := HG17.out.2.2.2
        rintro b (rfl | rfl)
        · exact ⟨l1, fun x => x.elim (fun e => HBe.out.1 e) (fun x => x.elim (fun e => by omega) (fun x => x.elim (fun e => by omega) (fun e => by cases e)))⟩
        · exact ⟨l2, fun x => x.elim (fun e => HBe.out.2 e) (fun x => x.elim (fun e => by omega) (fun x => x.elim (fun e => by omega) (fun e => by cases e)))⟩
      · have l1 := blk_lt HG17.out.2.1
        have l2 := blk_lt HG17.out.2.2.1
        rintro b (h | rfl | rfl | h)
        · exact HA17.out b h
        · exact l1
        · exact l2
        · cases h
      · intro pre O X Y h hab
        exact h.ab HA16.out ⟨HB17.out.1, HB17.out.2.1⟩ HW17.out HG17.out.1.size hab
      · exact ⟨.slice none 0 0, fun j => Iff.rfl, H16.out.1.hp.old HG17.out.1, HG17.out.1.mono (fun _ _ x => x.elim), HG17.out.2.1, HG17.out.2.2.1, World.ownsRow_nil _ _ _ _, fun g hg => by cases hg⟩
      · intro l x2 X K hK
        gi_wp2
        exact hK
      · rintro l pre ⟨fi, y⟩ O X ⟨v', i0, i1, i2, i3, i4, i5, i6⟩ hpre
        obtain ⟨g1, g2, g3, g4, g5⟩ := ed_next hpre
        replace g1 : lastI pre < fi := g1
        replace g5 : y = S.ldV c q0 fi := g5
        replace g3 : 0 ≤ fi := g3
        replace g4 : fi < S.fldV c q0 := g4
        have hel : pre.length ≤ 255 := by
          have h1 := hpre.length_le
          have h2 := edT_len S c q0
          unfold edT at h2
          rw [List.length_map] at h2
          rw [List.length_append] at h1
          omega
        have hld := hp_Load q0 fi i1
        rw [← g5, ldE_obj i1.inv g2 ⟨g3, by rw [← (fldV_obj i1.inv g2).2]; exact g4⟩] at hld
        obtain ⟨-, x7, -, xq, -⟩ := HX16.out X i2
        have xc7 := one_cell x7
        obtain ⟨xcq, -, -, -⟩ := box2 xq
        obtain ⟨ao', capv, e5⟩ := own_shape i5
        rw [List.length_map] at e5
        obtain ⟨m, hm⟩ : ∃ m, pre.length = m := ⟨_, rfl⟩
        obtain ⟨lst, hlst⟩ : ∃ z, lastI pre = z := ⟨_, rfl⟩
        rw [hm] at e5 hel
        subst e5
        have hle : ¬ fi ≤ lst := by omega
        have hyy : (y != y) = false := by simp
        have HB := Lib.hid (And.intro i0 (And.intro i1 (And.intro i2 (And.intro i3 (And.intro i4 (And.intro i5 (And.intro i6 (And.intro hm hlst))))))))
        have HL2 := Lib.hid hld
        clear i0 i1 i2 i3 i4 i5 i6 g1 g2 g3 g4 g5 hld hm hlst hpre x7 xq
        gi_wp2_with fail
        refine ⟨trivial, rfl, ?_⟩
        refine (CallsIn.inRound l (callsIn_wide.2 HL2.out)).mono ?_
        rintro e X2 ⟨rfl, t2, h2⟩
        have H2x := Lib.hid (And.intro t2 h2)
        clear t2 h2 xc7 xcq
        have nA : ∀ b, w16.heap.size ≤ b → ¬ HT A b := fun b h x => Nat.lt_irrefl _ (Nat.lt_of_lt_of_le (HA16.out b x) h)
        have k4 := blk_touch HB.out.2.2.2.1 H2x.out.1 (nA _ HB17.out.1)
        have k5 := blk_touch HB.out.2.2.2.2.1 H2x.out.1 (nA _ HB17.out.2.1)
        rw [HB.out.2.2.2.2.2.2.2.2] at k5
        obtain ⟨xl, xf⟩ := box1 k5
        have k4s : (X2.setCell ⟨bg + 1, 0, none⟩ (.int .i64 fi)).heap[bg]? = some (Obj.cells #[.slice ao' m capv] 28) := blk_touch k4 (touch_set _ _ _ _) HB17.out.2.2
        have xg := one_cell k4s
        have hown : (X2.setCell ⟨bg + 1, 0, none⟩ (.int .i64 fi)).ownsRow w16.heap.size 3 1 (.slice ao' m capv) m ((pre.map Prod.snd).map (.int .i64)) := by
          have h9 : Ow (X2.setCell ⟨bg + 1, 0, none⟩ (.int .i64 fi)) w16.heap.size (.slice ao' m capv) (pre.map Prod.snd) := (HB.out.2.2.2.2.2.1.touch H2x.out.1 (fun g hg => nA g (HB.out.2.2.2.2.2.1.new g hg))).touch (touch_set _ _ _ _) (fun g hg e => (HB.out.2.2.2.2.2.2.1 g hg).2 e)
          unfold Ow at h9
          rwa [List.length_map, HB.out.2.2.2.2.2.2.2.1] at h9
        have HO2 := Lib.hid hown
        have HC1 : Hid (((X2.setCell ⟨bg + 1, 0, none⟩ (.int .i64 fi)).alloc (Obj.cells #[.int .i64 y] 3)).heap[bg]? = some (Obj.cells #[.slice ao' m capv] 28) ∧ (Value.slice ao' m capv).ownBlock ≠ some bg) :=
          ⟨(Below.heap_alloc _ _ _ (blk_lt k4s)).trans k4s, fun e => (HB.out.2.2.2.2.2.2.1 _ e).1 rfl⟩
        have HS2 : Hid (w16.heap.size ≤ X2.heap.size) := by
          have h1 := HB.out.2.2.1.size
          have h2 := H2x.out.1.size
          exact Nat.le_trans h1 h2
        have HNw : Hid (∀ j u, [Value.int .i64 y][j]? = some u → ((X2.setCell ⟨bg + 1, 0, none⟩ (.int .i64 fi)).alloc (Obj.cells #[.int .i64 y] 3)).cell? ((⟨X2.heap.size, 0, none⟩ : Addr).add j) = some u) := fun j u h => by
          have hs : (X2.setCell ⟨bg + 1, 0, none⟩ (.int .i64 fi)).heap.size = X2.heap.size := by simp [World.setCell]
          have h1 := cell_one_new (X2.setCell ⟨bg + 1, 0, none⟩ (.int .i64 fi)) (.int .i64 y) 3 j u h
          rwa [hs] at h1
        clear k4 k5 k4s hown nA
        gi_wp2_with (gi_at_builtin; go_loud (refine wpListIn_append_own_at _ rfl _ _ 28 rfl w16.heap.size 3 i0 (.int .i64 0) 1 8 Tryz.underlying28 hi hz0 hz1' hz2 rfl (by decide) _ m _ rfl (HO2.out.alloc _) ⟨X2.heap.size, 0, none⟩ 1 1 [.int .i64 y] rfl rfl HNw.out (by simp [Value.oneCell']) (by unfold maxLen; omega) (by omega) (by have := HS2.out; simp [World.setCell]; omega) ?_; intro v' w1 hown' hgrow _ hat; have HXx := Lib.hid (And.intro hown' (And.intro hgrow hat)); have b1' := grown_box hgrow HC1.out.1 HC1.out.2; have c1' := one_cell b1'; have f1' := one_free b1'; obtain ⟨g', cap', rfl⟩ := ownsRow_succ hown'; clear hown' hgrow hat b1'))
        obtain ⟨hown', hgrow, hat⟩ := HXx.out
        exact TgI.app HA16.out HB17.out HW17.out HB.out.1 HB.out.2.2.1 HB.out.2.2.2.1 HB.out.2.2.2.2.1 HB.out.2.2.2.2.2.1 HB.out.2.2.2.2.2.2.1 H2x.out.1 H2x.out.2 (by
          unfold Ow
          rw [List.length_append, List.length_map, HB.out.2.2.2.2.2.2.2.1, List.map_append]
          exact hown') hgrow hat
      · rintro D O X hD hO ⟨v', j0, j1, j2, j3, j4, j5, j6⟩ hK
        obtain ⟨ao', capv, e5⟩ := own_shape j5
        obtain ⟨m, hm⟩ : ∃ m, ((edL S c q0).map Prod.snd).length = m := ⟨_, rfl⟩
        rw [hm] at e5
        subst e5
        have hnD : ¬ HT A D := fun x => hO ((j0 D).2 (.inl x))
        have hDg : D ≠ bg := fun e => hO ((j0 D).2 (.inr (.inl e)))
        have HD := Lib.hid (And.intro j1 (And.intro j2 (And.intro j3 (And.intro (show Ow X w16.heap.size (.slice ao' m capv) (edT S c q0) from j5) (And.intro hK (And.intro (show w16.heap.size ≤ D from Nat.le_trans HG17.out.1.size hD) (And.intro hnD hDg)))))))
        have HE : Hid (∀ wr, Touch nob X wr → EgAt wr B (.slice aA n cA) (.slice aT n cT) S.objs (S.objs.map (edT S c)) tvs ∧ wr.heap[b8]? = some (Obj.cells #[.slice aA n cA, .slice aT n cT] 41) ∧ wr.heap[b0 + 1]? = some (Obj.cells #[.int .i64 q0, .int .i64 q1] 38) ∧ wr.heap[b0 + 1 + 1]? = some (Obj.cells #[.bool false] 4) ∧ wr.heap[bg]? = some (Obj.cells #[.slice ao' m capv] 28)) := fun wr ht => by
          obtain ⟨h1, h2, h3, h4, h5⟩ := HX16.out X HD.out.2.1
          exact ⟨h1.touch ht (fun _ x => x.elim), blk_touch h3 ht (fun x => x), blk_touch h4 ht (fun x => x), blk_touch h5 ht (fun x => x), blk_touch HD.out.2.2.1 ht (fun x => x)⟩
        clear j0 j1 j2 j3 j4 j5 j6 hK hnD hDg hD hO hm
        have hnb : n ≤ 145 := by have h1 := H3.out.2.2.1; have h2 := HNn.out; omega
        go_wp2_with fail
        go_loopw [16, 17] (fun uv iv wr => ∃ j : Nat, j ≤ n ∧ iv = .int .i64 j ∧ ∃ zs, Hid (Touch nob X wr ∧ IntsIn wr uv zs ∧ ((q0 ∈ S.objs.take j → zs = edT S c q0) ∧ (q0 ∉ S.objs.take j → zs = [])))) (fun _ iv _ => n - (intOf iv).toNat)
        case atStart => exact ⟨0, Nat.zero_le _, rfl, [], Touch.refl _ _, ⟨none, 0, rfl, .inl rfl⟩, fun h => by simp at h, fun _ => rfl⟩
        case round =>
          obtain ⟨j, hj, rfl, zs, HI⟩ := hrel
          by_cases hlt : j < n
          · have hb : (j : Int) < (n : Int) := by omega
            obtain ⟨heg, h8, hq8, -, -⟩ := HE.out wr HI.out.1
            obtain ⟨y8, -, -, -⟩ := box2 h8
            obtain ⟨yq, -, -, -⟩ := box2 hq8
            obtain ⟨gA, rfl, hcap, hcell⟩ := own_at heg.a rfl HNn.out hlt
            have htk : S.objs.take (j + 1) = S.objs.take j ++ [S.objs.getD j 0] := take_succ_getD (by rw [HNn.out]; exact hlt)
            have hxe : (S.objs.map (edT S c)).getD j [] = edT S c (S.objs.getD j 0) := by
              rw [List.getD_eq_getElem?_getD, List.getElem?_map, List.getD_eq_getElem?_getD, List.getElem?_eq_getElem (by rw [HNn.out]; exact hlt)]
              rfl
            obtain ⟨x, hx⟩ : ∃ x, S.objs.getD j 0 = x := ⟨_, rfl⟩
            rw [hx] at hcell htk hxe
            have HTk := Lib.hid (And.intro htk hxe)
            clear htk hxe hx heg h8 hq8
            by_cases hxq : x = q0
            · subst hxq
              have hbx : (x == x) = true := by simp
              go_wp2_with fail
              go_quiet (fail)
              obtain ⟨W3, hW3⟩ : ∃ W3, wr.drewN nq = W3 := ⟨_, rfl⟩
              have t3 : Touch nob wr W3 := by rw [← hW3]; exact (Touch.refl nob _).drewN _
              rw [hW3]
              clear hW3 y8 yq hcell
              obtain ⟨heg, h8, -, -, -⟩ := HE.out W3 (HI.out.1.trans t3)
              obtain ⟨-, y8, -, -⟩ := box2 h8
              have hot := heg.t
              rw [HNn.out] at hot
              obtain ⟨gT, cT', eT, -, hrT, -, -⟩ := RowAt.of_owns_some hot (by omega)
              injection eT with eT1 eT2 eT3
              subst eT1 eT3
              have htl : tvs.length = n := by rw [heg.vl, HNn.out]
              have htc := hrT.cell (j := j) (by omega)
              have htg : tvs[j]'(by omega) = tvs.getD j .nilFunc := by rw [List.getD_eq_getElem?_getD, List.getElem?_eq_getElem (by omega)]; rfl
              rw [htg] at htc
              have hcT : n ≤ cT := by
                obtain ⟨_, _, _, h, _⟩ := hrT
                omega
              have hte := (heg.e j (by rw [List.length_map, HNn.out]; exact hlt)).ints
              rw [HTk.out.2] at hte
              obtain ⟨tv, htv⟩ : ∃ tv, tvs.getD j .nilFunc = tv := ⟨_, rfl⟩
              rw [htv] at hte htc
              obtain ⟨aE, cE, eE⟩ := hte.shape
              obtain ⟨mE, hmE⟩ : ∃ mE, (edT S c x).length = mE := ⟨_, rfl⟩
              rw [hmE] at eE
              subst eE
              have H3x := Lib.hid (And.intro (HI.out.1.trans t3) hte)
              clear t3 hot hrT htl htg hte htv hmE heg h8 eT2
              go_wp2_with fail
              go_roundw
              case rel => exact ⟨j + 1, by omega, by go_num, edT S c x, H3x.out.1, H3x.out.2, fun _ => rfl, fun h => absurd (by rw [HTk.out.1]; simp) h⟩
              case measure => simp [intOf]; omega
            · have hbx : (x == q0) = false := by simpa using hxq
              go_wp2_with fail
              go_quiet (fail)
              obtain ⟨W3, hW3⟩ : ∃ W3, wr.drewN nq = W3 := ⟨_, rfl⟩
              have t3 : Touch nob wr W3 := by rw [← hW3]; exact (Touch.refl nob _).drewN _
              rw [hW3]
              have H3x := Lib.hid (And.intro (HI.out.1.trans t3) (HI.out.2.1.old t3))
              clear hW3 t3 y8 yq hcell
              have hmem : q0 ∈ S.objs.take (j + 1) ↔ q0 ∈ S.objs.take j := by
                rw [HTk.out.1, List.mem_append, List.mem_singleton]
                exact ⟨fun h => h.resolve_right (fun e => hxq e.symm), .inl⟩
              have HM3 := Lib.hid hmem
              clear hmem
              go_wp2_with fail
              go_roundw
              case rel => exact ⟨j + 1, by omega, by go_num, zs, H3x.out.1, H3x.out.2, fun h => HI.out.2.2.1 (HM3.out.1 h), fun h => HI.out.2.2.2 (fun g => h (HM3.out.2 g))⟩
              case measure => simp [intOf]; omega
          · obtain rfl : j = n := by omega
            have hb : ¬ (j : Int) < (j : Int) := by omega
            obtain ⟨-, h8, -, hbr, hgg⟩ := HE.out wr HI.out.1
            obtain ⟨y8, -, -, -⟩ := box2 h8
            have ygg := one_cell hgg
            have hzs : zs = edT S c q0 := by
              have h1 := HI.out.2.2
              rw [List.take_of_length_le (Nat.le_of_eq HNn.out)] at h1
              by_cases hm : q0 ∈ S.objs
              · exact h1.1 hm
              · rw [h1.2 hm]
                unfold edT edL
                rw [if_neg (fun h => hm (mem_objs.2 h))]
                rfl
            subst hzs
            have HSa := Lib.hid (ref01_Same (.slice ao' m capv) _ (edT S c q0) wr (HD.out.2.2.2.1.touch HI.out.1 (fun _ _ x => x)).ints HI.out.2.1 (Nat.le_trans (edT_len S c q0) (by decide)))
            have HBr := Lib.hid hbr
            clear h8 hbr hgg
            go_wp2_with (go_at_call 18; fail)
            refine HSa.out.mono ?_
            rintro e w18 ⟨rfl, t18⟩
            have hbr2 := blk_touch HBr.out t18 (fun x => x)
            obtain ⟨cbr, fbr⟩ := box1 hbr2
            have H18 := Lib.hid (And.intro (HI.out.1.trans t18) hbr2)
            clear t18 hbr2 y8 ygg
            go_wp2
            have hDb : D ≠ b0 + 1 + 1 := fun e => by
              have h1 := HD.out.2.2.2.2.1
              rw [e] at h1
              have h2 := h1.symm.trans (HE.out X (Touch.refl _ _)).2.2.2.1
              simp at h2
            have hb9 := set_one (.bool true) H18.out.2
            have hD9 : (w18.setCell ⟨b0 + 1 + 1, 0, none⟩ (.bool true)).heap[D]? = some (.deferred (some [])) := (set_other _ hDb).trans (blk_touch HD.out.2.2.2.2.1 H18.out.1 (fun x => x))
            refine ⟨by simp, .inl ⟨_, _, rfl, run_takeDeferred hD9, ?_⟩⟩
            have hb10 := one_cell ((World.putObj_heap_other (o := .deferred none) (fun e => hDb e.symm)).trans hb9)
            refine ⟨.bool true, by simp [results, Tryz.f4, go_sem, hb10], rfl, ?_⟩
            have h1 : Touch nob w w18 := (H3.out.1.trans HD.out.1.at'.base).trans H18.out.1
            have h16 : w.heap.size ≤ w16.heap.size := (H3.out.1.trans H16.out.1.hp.at'.base).size
            exact ((h1.setCell (.inr (show w.heap.size ≤ b0 + 1 + 1 by have := HBW.out.2; omega)) _).putObj (.inr (Nat.le_trans h16 HD.out.2.2.2.2.2.1)) _).below
      · rintro D c pre O X hD hO hpre h hK
        exact h.elim
end Go.Proofs.YtnobempbcdkoaaaGreatDoor
