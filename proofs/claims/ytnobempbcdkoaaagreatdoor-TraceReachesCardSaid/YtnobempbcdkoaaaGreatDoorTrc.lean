/- What is reached from roots, walked. Conditions: the tables of limits and of sizes read as laid. What is reached, and what isn't, as lists: trace.Reach, Garbage, Reaches, walked. Conditions: the tables read as laid. -/
import Derived.Test.YtnobempbcdkoaaaGreatDoorEdg
import Derived.Test.YtnobempbcdkoaaaGreatDoorSla
import Derived.Test.YtnobempbcdkoaaaGreatDoorHpF
import Derived.Test.YtnobempbcdkoaaaGreatDoorApp
import Derived.Test.YtnobempbcdkoaaaGreatDoorDel
namespace Go.Proofs.YtnobempbcdkoaaaGreatDoor
open Go.RowKit Go.Shelf
attribute [local go_sem] Oper.semAt_some

variable {W w w' : World} {A : HA} {c : Cf} {S : HS} {H : Nat → List Nat} {rt td : List Int} {M : Int → Bool}
/-- While what is reached is sought: where all lies. -/
structure ReI (W : World) (A : HA) (c : Cf) (S : HS) (H : Nat → List Nat) (w0 : World) (p q bt : Nat) (M : Int → Bool) (td : List Int) (v : Value) (ds : List Deferred) (wr : World) : Prop where
  hp : HpI W wr A c S H
  se : ∃ cap ws, SetAt wr p q cap ws (S.s.ws.length + 1) (fun n => M (n : Int))
  bx : wr.heap[bt]? = some (Obj.cells #[v] 28)
  ow : Ow wr w0.heap.size v td
  ms : Marks w0.heap.size ds wr
  t0 : Touch (HT A) w0 wr
/-- Where blocks lie that do not turn. -/
structure ReF (W : World) (A : HA) (w0 : World) (p q bt : Nat) : Prop where
  lo : W.heap.size ≤ w0.heap.size
  al : ∀ b ∈ A.all, b < w0.heap.size
  p : w0.heap.size ≤ p
  q : w0.heap.size ≤ q
  bt : w0.heap.size ≤ bt
variable {p q bt : Nat} {v : Value} {ds : List Deferred} {w0 wr w2 : World}
theorem ReF.nA (f : ReF W A w0 p q bt) {b : Nat} (h : w0.heap.size ≤ b) : b ∉ A.all := fun x => Nat.lt_irrefl _ (Nat.lt_of_lt_of_le (f.al b x) h)
/-- What may be turned and keeps all. -/
theorem ReI.touch {T : Nat → Prop} (h : ReI W A c S H w0 p q bt M td v ds wr) (f : ReF W A w0 p q bt) (ht : Touch T wr w2) (hT : ∀ b, T b → w0.heap.size ≤ b) (h1 : ¬ T p) (h2 : ¬ T q) (h3 : ¬ T bt) (h4 : ∀ g, v.ownBlock = some g → ¬ T g) (h5 : ∀ D, w0.heap.size ≤ D → wr.heap[D]? = some (.deferred (some [])) → ¬ T D) : ReI W A c S H w0 p q bt M td v ds w2 := by
  obtain ⟨cap, ws, hs⟩ := h.se
  exact ⟨h.hp.touch (h.hp.at'.base.step ht (fun b hb => .inr (Nat.le_trans f.lo (hT b hb)))) ht (fun b hb x => f.nA (hT b x) hb), ⟨cap, ws, hs.touch ht h1 h2⟩, blk_touch h.bx ht h3, h.ow.touch ht h4, h.ms.touch ht h5, h.t0.step ht (fun b hb => .inr (hT b hb))⟩
theorem ReI.old (h : ReI W A c S H w0 p q bt M td v ds wr) (f : ReF W A w0 p q bt) (ht : Touch nob wr w2) : ReI W A c S H w0 p q bt M td v ds w2 :=
  h.touch f ht (fun _ x => x.elim) (fun x => x) (fun x => x) (fun x => x) (fun _ _ x => x) (fun _ _ _ x => x)
/-- The kinds of blocks: none is another one. -/
theorem ReI.kinds (h : ReI W A c S H w0 p q bt M td v ds wr) : p ≠ q ∧ bt ≠ p ∧ bt ≠ q ∧ (∀ g, v.ownBlock = some g → g ≠ p ∧ g ≠ q ∧ g ≠ bt) ∧ (∀ D, wr.heap[D]? = some (.deferred (some [])) → D ≠ p ∧ D ≠ q ∧ D ≠ bt ∧ v.ownBlock ≠ some D) := by
  obtain ⟨cap, ws, hs⟩ := h.se
  have hb := hs.box
  obtain ⟨cur, hr, _⟩ := hs.row
  have hx := h.bx
  refine ⟨fun e => ?_, fun e => ?_, fun e => ?_, fun g hg => ?_, fun D hD => ?_⟩
  · rw [e] at hb; have := hb.symm.trans hr; simp at this
  · rw [e] at hx; have := hx.symm.trans hb; simp at this
  · rw [e] at hx; have := hx.symm.trans hr; simp at this
  · obtain ⟨_, ⟨e, _⟩ | ⟨g', cap', cur', e, _, hh, _⟩⟩ := h.ow
    · rw [e] at hg; cases hg
    · rw [e] at hg
      obtain rfl : g' = g := by cases hg; rfl
      refine ⟨fun e => ?_, fun e => ?_, fun e => ?_⟩
      · rw [e] at hh; have := hh.symm.trans hb; simp at this
      · rw [e] at hh; have := hh.symm.trans hr; simp at this
      · rw [e] at hh; have := hh.symm.trans hx; simp at this
  · refine ⟨fun e => ?_, fun e => ?_, fun e => ?_, fun e => ?_⟩
    · rw [e] at hD; have := hD.symm.trans hb; simp at this
    · rw [e] at hD; have := hD.symm.trans hr; simp at this
    · rw [e] at hD; have := hD.symm.trans hx; simp at this
    · obtain ⟨_, ⟨e', _⟩ | ⟨g', cap', cur', e', _, hh, _⟩⟩ := h.ow
      · rw [e'] at e; cases e
      · rw [e'] at e
        obtain rfl : g' = D := by cases e; rfl
        have := hD.symm.trans hh
        simp at this
theorem ow_last {B : Nat} {x : Int} (h : Ow w B v (td ++ [x])) : ∃ g cap, v = .slice (some ⟨g, 0, none⟩) (td.length + 1) cap ∧ td.length + 1 ≤ cap ∧ w.cell? ⟨g, td.length, none⟩ = some (.int .i64 x) ∧ Ow w B (.slice (some ⟨g, 0, none⟩) td.length cap) td := by
  have hl : (td ++ [x]).length = td.length + 1 := by simp
  rcases h.shape with ⟨_, e⟩ | ⟨g, cap, e⟩
  · simp at e
  · rw [hl] at e
    subst e
    obtain ⟨bl, ob, cp, hv, hcp, hcell⟩ := h.ints.at (k := td.length) (by omega)
    rw [hl] at hv hcp
    injection hv with e1 e2 e3
    cases e1
    subst e3
    rw [Nat.zero_add, show (td ++ [x]).getD td.length 0 = x by simp [List.getD_eq_getElem?_getD]] at hcell
    refine ⟨g, cap, rfl, hcp, hcell, ?_⟩
    have h1 : w.ownsRow B 3 1 (.slice (some ⟨g, 0, none⟩) (td.length + 1) cap) (td.length + 1) ((td ++ [x]).map (.int .i64)) := by
      have h2 := h
      unfold Ow at h2
      rwa [hl] at h2
    have h3 := owns_take h1 (k := td.length) (by omega)
    rw [List.map_append, List.take_left' (by simp)] at h3
    exact h3
/-- The list that is to be done is laid anew. -/
theorem ReI.turn {T : Nat → Prop} {td' : List Int} {v' : Value} {w1 : World} (h : ReI W A c S H w0 p q bt M td v ds wr) (f : ReF W A w0 p q bt) (ht : Touch T wr w1) (hT : ∀ b, T b → w0.heap.size ≤ b) (h1 : ¬ T p) (h2 : ¬ T q) (h3 : ¬ T bt) (h5 : ∀ D, w0.heap.size ≤ D → wr.heap[D]? = some (.deferred (some [])) → ¬ T D) (ho : Ow w1 w0.heap.size v' td') : ReI W A c S H w0 p q bt M td' v' ds (w1.setCell ⟨bt, 0, none⟩ v') := by
  obtain ⟨k1, k2, k3, k4, k5⟩ := h.kinds
  have hb1 := blk_touch h.bx ht h3
  have hne : ∀ g, v'.ownBlock = some g → g ≠ bt := fun g hg e => by
    obtain ⟨_, ⟨e', _⟩ | ⟨g', cap', cur', e', _, hh, _⟩⟩ := ho
    · rw [e'] at hg; cases hg
    · rw [e'] at hg
      obtain rfl : g' = g := by cases hg; rfl
      rw [e] at hh
      have := hh.symm.trans hb1
      simp at this
  have t2 : Touch (fun b => b = bt) w1 (w1.setCell ⟨bt, 0, none⟩ v') := Touch.setCell (S := fun b => b = bt) (Touch.refl _ _) (.inl rfl) _
  have t3 : Touch (fun b => T b ∨ b = bt) wr (w1.setCell ⟨bt, 0, none⟩ v') := (ht.mono fun _ _ x => .inl x).trans (t2.mono fun _ _ x => .inr x)
  have hlo : ∀ b, (T b ∨ b = bt) → w0.heap.size ≤ b := fun b hb => hb.elim (hT b) (fun e => e ▸ f.bt)
  obtain ⟨cp, ws, hs⟩ := h.se
  exact ⟨h.hp.touch (h.hp.at'.base.step t3 (fun b hb => .inr (Nat.le_trans f.lo (hlo b hb)))) t3 (fun b hb x => f.nA (hlo b x) hb), ⟨cp, ws, hs.touch t3 (fun x => x.elim h1 (fun e => k2 e.symm)) (fun x => x.elim h2 (fun e => k3 e.symm))⟩, set_one _ hb1, ho.touch t2 hne, h.ms.touch t3 (fun D hD hd x => x.elim (h5 D hD hd) (k5 D hd).2.2.1), h.t0.step t3 (fun b hb => .inr (hlo b hb))⟩
/-- One is taken off. -/
theorem ReI.pop {x : Int} {g cap : Nat} (h : ReI W A c S H w0 p q bt M (td ++ [x]) v ds wr) (f : ReF W A w0 p q bt) (ho : Ow wr w0.heap.size (.slice (some ⟨g, 0, none⟩) td.length cap) td) : ReI W A c S H w0 p q bt M td (.slice (some ⟨g, 0, none⟩) td.length cap) ds (wr.setCell ⟨bt, 0, none⟩ (.slice (some ⟨g, 0, none⟩) td.length cap)) :=
  h.turn f (Touch.refl nob _) (fun _ x => x.elim) (fun x => x) (fun x => x) (fun x => x) (fun _ _ _ x => x) ho
/-- One is seen. -/
theorem seeM_put {z : Nat} {x : Int} (hz : 1 ≤ x ∧ x ≤ z) : putM (fun (n : Nat) => M (n : Int)) (z + 1) x true = fun (n : Nat) => seeM M x (n : Int) := by
  funext n
  unfold putM seeM mayB
  rw [decide_eq_true (show 0 ≤ x by omega), decide_eq_true (show x < ((z + 1 : Nat) : Int) by omega)]
  by_cases hn : n = x.toNat
  · rw [if_pos ⟨rfl, hn⟩, if_pos (by omega)]
  · rw [if_neg (fun e => hn e.2), if_neg (by omega)]
theorem ReI.see {x : Int} (h : ReI W A c S H w0 p q bt M td v ds wr) (f : ReF W A w0 p q bt) (ht : Touch (fun k => k = q) wr w2) (hs : ∃ cap ws, SetAt w2 p q cap ws (S.s.ws.length + 1) (fun n => seeM M x (n : Int))) : ReI W A c S H w0 p q bt (seeM M x) td v ds w2 := by
  obtain ⟨k1, k2, k3, k4, k5⟩ := h.kinds
  exact ⟨h.hp.touch (h.hp.at'.base.step ht (fun b hb => .inr (by have := f.lo; have := f.q; have hb : b = q := hb; omega))) ht (fun b hb x => f.nA f.q ((show b = q from x) ▸ hb)), hs, blk_touch h.bx ht k3, h.ow.touch ht (fun g hg e => (k4 g hg).2.1 e), h.ms.touch ht (fun D _ hD e => (k5 D hD).2.1 e), h.t0.step ht (fun b hb => .inr ((show b = q from hb) ▸ f.q))⟩
/-- In a round of the range over what leads from x. -/
def RgI (W : World) (A : HA) (c : Cf) (S : HS) (H : Nat → List Nat) (w0 : World) (p q bt : Nat) (M : Int → Bool) (td : List Int) (ds : List Deferred) (pre : List (Int × Int)) (O : Nat → Prop) (X : World) : Prop :=
  ∃ v, (∀ j, O j ↔ (j = bt ∨ v.ownBlock = some j)) ∧ ReI W A c S H w0 p q bt M (td ++ pre.map Prod.snd) v ds X
theorem RgI.ab {n : Nat} {pre : List (Int × Int)} {O : Nat → Prop} {X Y : World} (f : ReF W A w0 p q bt) (hp2 : p < n ∧ q < n) (hm : ∀ D, ({ target := .collected D, args := #[] } : Deferred) ∈ ds → D < n) (hw : w0.heap.size ≤ n) (h : RgI W A c S H w0 p q bt M td ds pre O X) (hab : AbE W A c S H n O X Y) : RgI W A c S H w0 p q bt M td ds pre O Y := by
  obtain ⟨v, h1, h2⟩ := h
  have hT : ∀ b, w0.heap.size ≤ b → (b < n ∨ O b) → ¬ ((n ≤ b ∧ ¬ O b) ∨ HT A b) := fun b hb h x => by
    rcases x with ⟨x, y⟩ | x
    · rcases h with h | h
      · omega
      · exact y h
    · exact f.nA hb x
  obtain ⟨cap, ws, hs⟩ := h2.se
  refine ⟨v, h1, ⟨hab.2 (Nat.le_trans f.lo hw) (fun b hb => Nat.lt_of_lt_of_le (f.al b hb) hw) S.K h2.hp, ⟨cap, ws, hs.touch hab.1 (hT p f.p (.inl hp2.1)) (hT q f.q (.inl hp2.2))⟩, blk_touch h2.bx hab.1 (hT bt f.bt (.inr ((h1 _).2 (.inl rfl)))), h2.ow.touch hab.1 (fun g hg => hT g (h2.ow.new g hg) (.inr ((h1 _).2 (.inr hg)))), ?_, h2.t0.step hab.1 (fun b hb => hb.elim (fun x => .inr (Nat.le_trans hw x.1)) .inl)⟩⟩
  obtain ⟨Ds, e1, e2, e3⟩ := h2.ms
  refine ⟨Ds, e1, e2, fun D hD => ⟨(e3 D hD).1, ?_⟩⟩
  exact (hab.1.block D (Array.getElem?_eq_some_iff.1 (e3 D hD).2).1 (hT D (e3 D hD).1 (.inl (hm D (by rw [e2]; exact List.mem_map.2 ⟨D, hD, rfl⟩))))).trans (e3 D hD).2
/-- One more is to be done. -/
theorem RgI.app {X w1 : World} {pre : List (Int × Int)} {O : Nat → Prop} {v' : Value} {fi y : Int} {g' cap' n : Nat} (f : ReF W A w0 p q bt) (h1 : ∀ j, O j ↔ (j = bt ∨ v'.ownBlock = some j)) (h2 : ReI W A c S H w0 p q bt M (td ++ pre.map Prod.snd) v' ds X)
    (hown : Ow w1 w0.heap.size (.slice (some ⟨g', 0, none⟩) (n + 1) cap') ((td ++ pre.map Prod.snd) ++ [y])) (hgrow : (X.alloc (Obj.cells #[.int .i64 y] 3)).grownBy w1 v'.ownBlock) (hat : some g' = v'.ownBlock ∨ some g' = some (X.alloc (Obj.cells #[.int .i64 y] 3)).heap.size) :
    ∃ O', Touch O X (w1.setCell ⟨bt, 0, none⟩ (.slice (some ⟨g', 0, none⟩) (n + 1) cap')) ∧ (∀ b, O' b → O b ∨ (X.heap.size ≤ b ∧ b < (w1.setCell ⟨bt, 0, none⟩ (.slice (some ⟨g', 0, none⟩) (n + 1) cap')).heap.size)) ∧ KpE W A c S H X (w1.setCell ⟨bt, 0, none⟩ (.slice (some ⟨g', 0, none⟩) (n + 1) cap')) ∧ RgI W A c S H w0 p q bt M td ds (pre ++ [(fi, y)]) O' (w1.setCell ⟨bt, 0, none⟩ (.slice (some ⟨g', 0, none⟩) (n + 1) cap')) := by
  obtain ⟨k1, k2, k3, k4, k5⟩ := h2.kinds
  have ht : Touch (fun j => v'.ownBlock = some j) X w1 := Touch.grown ((Touch.refl _ X).alloc _) hgrow (fun k hk => .inl hk)
  have hr := h2.turn f ht (fun b hb => h2.ow.new b hb) (fun x => (k4 p x).1 rfl) (fun x => (k4 q x).2.1 rfl) (fun x => (k4 bt x).2.2 rfl) (fun D _ hD x => (k5 D hD).2.2.2 x) hown
  have hglt : g' < (w1.setCell ⟨bt, 0, none⟩ (.slice (some ⟨g', 0, none⟩) (n + 1) cap')).heap.size := by
    have := hown.old g' rfl
    simpa [World.setCell] using this
  refine ⟨fun j => j = bt ∨ j = g', ?_, ?_, ?_, .slice (some ⟨g', 0, none⟩) (n + 1) cap', fun j => by simp [Value.ownBlock, eq_comm], ?_⟩
  · exact (ht.mono fun b _ x => (h1 b).2 (.inr x)).setCell (.inl ((h1 _).2 (.inl rfl))) _
  · rintro j (rfl | rfl)
    · exact .inl ((h1 _).2 (.inl rfl))
    · rcases hat with h | h
      · exact .inl ((h1 _).2 (.inr h.symm))
      · right
        have : j = (X.alloc (Obj.cells #[.int .i64 y] 3)).heap.size := Option.some.inj h
        rw [World.size_alloc] at this
        exact ⟨by omega, hglt⟩
  · exact fun K _ => ⟨S.K, hr.hp⟩
  · rw [List.map_append, ← List.append_assoc]
    exact hr
theorem HInv.obj_bd {a : Int} (h : HInv c S H) (ho : S.obj a = true) : 1 ≤ a ∧ a ≤ S.s.ws.length := by
  unfold HS.obj hasB at ho
  simp only [Bool.and_eq_true] at ho
  obtain ⟨x, rfl, hx⟩ := may_nat ho.1
  obtain ⟨j, h1, h2, h3, h4, h5⟩ := h.ob _ ho.2
  rw [Int.toNat_natCast] at h1
  omega
set_option maxRecDepth 20000 in
set_option maxHeartbeats 4000000 in
theorem tr_reached (roots : Value) (h : HpI W w A c S H) (hr : IntsIn w roots rt) (hb : rt.length + 257 * S.objs.length ≤ 1000000) :
    Calls Tryz.prog 52 #[.pointer (some ⟨A.h, 0, none⟩), roots] w fun e w' => ∃ p q, ∃ M : Int → Bool, e = .returned (.pointer (some ⟨p, 0, none⟩)) ∧ Touch (HT A) w w' ∧ HpI W w' A c S H ∧ w.heap.size ≤ p ∧ w.heap.size ≤ q ∧ (∃ cap ws, SetAt w' p q cap ws (S.s.ws.length + 1) (fun n => M (n : Int))) ∧ ∀ x, M x = true ↔ Rch S c rt x := by
  refine (callsIn_wide (n := 0)).1 (callsIn_of_wp_marks Tryz.func52 rfl trivial ?_ rfl)
  simp only [Tryz.ntmps52, List.size_toArray, List.length_cons, List.length_nil, Nat.reduceAdd, Nat.reduceSub, Array.replicate_succ, Array.replicate_zero, List.push_toArray, List.append_toArray, List.nil_append, List.cons_append]
  have hz := h.inv.len
  have hok := h.inv.ok
  have hz1 := HS.len_le h.at'
  have hwd : ifOk (cfgOk c.c0 c.c1 c.c2 c.c3 c.c4 c.c5 c.c6) (cfgWords c.c0 c.c1) = (S.s.ws.length : Int) := by
    rw [show cfgOk c.c0 c.c1 c.c2 c.c3 c.c4 c.c5 c.c6 = true from hok, hz]
    rfl
  obtain ⟨z, hzz⟩ : ∃ z, S.s.ws.length = z := ⟨_, rfl⟩
  rw [hzz] at hwd hz1
  have HP := Lib.hid h
  have HR := Lib.hid hr
  have HB := Lib.hid hb
  have HZ := Lib.hid (And.intro hzz hwd)
  clear h hr hz hok hzz hwd hb
  gi_wp2_with fail
  refine wpIn_wide.2 (wp_scope_straight ((wpIn_wide (n := 0)).1 ?_))
  gi_wp2_with fail
  refine ⟨trivial, rfl, ?_⟩
  refine (callsIn_wide.2 (hp_Config HP.out)).mono ?_
  rintro e w1 ⟨rfl, t1⟩
  have H1 := Lib.hid t1
  clear t1
  gi_wp2_with fail
  refine ⟨trivial, rfl, ?_⟩
  refine (callsIn_wide.2 (config_Words c.c0 c.c1 c.c2 c.c3 c.c4 c.c5 c.c6 w1 (HP.out.lay.old H1.out).lim)).mono ?_
  rintro e w2 ⟨rfl, t2⟩
  rw [HZ.out.2]
  have hw1 : IntKind.i64.wrap ((z : Int) + 1) = ((z + 1 : Nat) : Int) := by rw [IntWalk.i64_in _ (by omega)]; omega
  have H2 := Lib.hid (H1.out.trans (Touch.of_below t2))
  clear t2
  gi_wp2_with fail
  refine ⟨trivial, rfl, ?_⟩
  refine (callsIn_wide.2 (bits_New_ok (z + 1) (by omega) w2)).mono ?_
  rintro e w3 ⟨p, q, cap, ws, rfl, t3, hp3, hq3, s3⟩
  have H3 := Lib.hid (And.intro (H2.out.trans t3) (And.intro (Nat.le_trans H2.out.size hp3) (And.intro (Nat.le_trans H2.out.size hq3) s3)))
  clear t3 hp3 hq3 s3
  gi_wp2_with fail
  refine ⟨trivial, rfl, ?_⟩
  refine (callsIn_wide.2 (clone_ints roots rt w3 (HR.out.old H3.out.1) (by have := HB.out; omega))).mono ?_
  rintro e w4 ⟨v4, rfl, t4, o4⟩
  obtain ⟨ao, cp, rfl⟩ := own_shape o4
  have H4 := Lib.hid (And.intro t4 o4)
  clear t4 o4
  gi_wp2_with fail
  obtain ⟨bt, hbt⟩ : ∃ bt, bt = w4.heap.size := ⟨_, rfl⟩
  obtain ⟨W5, hW5⟩ : ∃ W5, W5 = w4.alloc (Obj.cells #[.slice ao rt.length cp] 28) := ⟨_, rfl⟩
  rw [← hbt, ← hW5]
  have H5 : Hid (ReF W A w p q bt ∧ ReI W A c S H w p q bt (fun _ => false) rt (.slice ao rt.length cp) [] W5) := by
    have t5 : Touch nob w4 W5 := by rw [hW5]; exact (Touch.refl _ _).alloc _
    have t45 := H4.out.1.trans t5
    have ss := H3.out.2.2.2
    rw [← HZ.out.1] at ss
    have b5 : W5.heap[bt]? = some (Obj.cells #[.slice ao rt.length cp] 28) := by rw [hW5, hbt]; exact World.alloc_heap_new w4 _
    exact ⟨⟨HP.out.at'.base.size, HP.out.at'.lt, H3.out.2.1, H3.out.2.2.1, by rw [hbt]; exact (H3.out.1.trans H4.out.1).size⟩,
      ⟨HP.out.old (H3.out.1.trans t45), ⟨_, _, ss.touch t45 (fun x => x) (fun x => x)⟩, b5, (H4.out.2.base H3.out.1.size).touch t5 (fun _ _ x => x), Marks.nil, (H3.out.1.trans t45).hnob⟩⟩
  have HF := Lib.hid H5.out.1
  clear hbt hW5
  refine wpIn_label ?_
  gi_wp2_with fail
  refine wpIn_loop_g (G := (Int → Bool) × List Int) (fun g a wr => ∃ (v : Value) (ds : List Deferred), ∃ u1 u2 u3 u4 u6 u8 u9 u10 u11 u12 u13 u14 u15 u16 u17 u18 u19 u20 u21 u22 u23 u24 u25 u26 u27 u28 u29 u30 u31 u32 u33 u34 u35 u36 u37 u38 u39 u40 u41 u42 u43 u44 u45 u46 u47 u48 u49 u50 u51 u52 u53 u54 : Value, a = { tmps := #[.pointer (some ⟨A.h, 0, none⟩), u1, u2, u3, u4, .pointer (some ⟨p, 0, none⟩), u6, .pointer (some ⟨bt, 0, none⟩), u8, u9, u10, u11, u12, u13, u14, u15, u16, u17, u18, u19, u20, u21, u22, u23, u24, u25, u26, u27, u28, u29, u30, u31, u32, u33, u34, u35, u36, u37, u38, u39, u40, u41, u42, u43, u44, u45, u46, u47, u48, u49, u50, u51, u52, u53, u54], defers := ds } ∧ Hid (RcI S c rt g.1 g.2 ∧ ReI W A c S H w p q bt g.1 g.2 v ds wr ∧ 257 * unseen S g.1 + g.2.length ≤ 1000000)) (fun g => 257 * unseen S g.1 + g.2.length) (fun _ => false, rt) ⟨_, _, _, _, _, _, _, _, _, _, _, _, _, _, _, _, _, _, _, _, _, _, _, _, _, _, _, _, _, _, _, _, _, _, _, _, _, _, _, _, _, _, _, _, _, _, _, _, _, _, _, _, _, _, rfl, RcI.start, H5.out.2, ?_⟩ ?_
  · have h1 := HB.out
    have h2 : unseen S (fun _ => false) ≤ S.objs.length := List.length_filter_le _ _
    show 257 * unseen S (fun _ => false) + rt.length ≤ 1000000
    omega
  rintro ⟨M, td⟩ a wr ⟨v, ds, u1, u2, u3, u4, u6, u8, u9, u10, u11, u12, u13, u14, u15, u16, u17, u18, u19, u20, u21, u22, u23, u24, u25, u26, u27, u28, u29, u30, u31, u32, u33, u34, u35, u36, u37, u38, u39, u40, u41, u42, u43, u44, u45, u46, u47, u48, u49, u50, u51, u52, u53, u54, rfl, HI⟩
  have HI : Hid (RcI S c rt M td ∧ ReI W A c S H w p q bt M td v ds wr ∧ 257 * unseen S M + td.length ≤ 1000000) := HI
  have hms : (257 * unseen S ((M, td) : (Int → Bool) × List Int).1 + ((M, td) : (Int → Bool) × List Int).2.length) = 257 * unseen S M + td.length := rfl
  rw [hms]
  clear H5 H4 H3 H2 H1 hms
  rcases List.eq_nil_or_concat td with rfl | ⟨td, x, rfl⟩
  · obtain ⟨ao', cp', rfl⟩ := own_shape HI.out.2.1.ow
    obtain ⟨cb, fb⟩ := box1 HI.out.2.1.bx
    gi_wp2_with fail
    have hT : ∀ b, (w.heap.size ≤ b ∧ ({ target := .collected b, args := #[] } : Deferred) ∈ ds) → wr.heap[b]? = some (.deferred (some [])) := fun b hb => (HI.out.2.1.ms.at hb.2).2
    obtain ⟨-, -, -, -, hk⟩ := HI.out.2.1.kinds
    refine leaves_marks (n0 := w.heap.size) ds wr HI.out.2.1.ms fun w' ht => ⟨.pointer (some ⟨p, 0, none⟩), by simp [results, Tryz.f52, go_sem], p, q, M, rfl, HI.out.2.1.t0.step ht (fun b hb => .inr hb.1), ?_, HF.out.p, HF.out.q, ?_, fun x => HI.out.1.done⟩
    · exact HI.out.2.1.hp.touch (HI.out.2.1.hp.at'.base.step ht (fun b hb => .inr (Nat.le_trans HF.out.lo hb.1))) ht (fun b hb x => HF.out.nA x.1 hb)
    · obtain ⟨cap, ws, hs⟩ := HI.out.2.1.se
      exact ⟨cap, ws, hs.touch ht (fun x => (hk p (hT p x)).1 rfl) (fun x => (hk q (hT q x)).2.1 rfl)⟩
  · rw [List.concat_eq_append] at HI ⊢
    obtain ⟨g, cap, rfl, hcp, hcell, how⟩ := ow_last HI.out.2.1.ow
    obtain ⟨cb, fb⟩ := box1 HI.out.2.1.bx
    obtain ⟨k, hk⟩ : ∃ k, td.length = k := ⟨_, rfl⟩
    have hkb : k ≤ 1000000 := by have := HI.out.2.2; rw [List.length_append] at this; omega
    have HW := Lib.hid (And.intro how hk)
    rw [hk] at cb hcp hcell
    clear how hk
    gi_wp2_with fail
    obtain ⟨W6, hW6⟩ : ∃ W6, W6 = wr.setCell ⟨bt, 0, none⟩ (.slice (some ⟨g, 0, none⟩) k cap) := ⟨_, rfl⟩
    rw [← hW6]
    have h6 : ReI W A c S H w p q bt M td (.slice (some ⟨g, 0, none⟩) k cap) ds W6 := by
      have := HI.out.2.1.pop HF.out HW.out.1
      rwa [HW.out.2, ← hW6] at this
    have H6 := Lib.hid h6
    clear h6 hW6 cb fb hcell
    refine ⟨trivial, rfl, ?_⟩
    refine (callsIn_wide.2 (heap_Is x H6.out.hp.at')).mono ?_
    rintro e w7 ⟨rfl, rfl⟩
    by_cases ho : S.obj x = true
    · rw [ho]
      have HO := Lib.hid ho
      have hxz : 1 ≤ x ∧ x ≤ S.s.ws.length := H6.out.hp.inv.obj_bd ho
      have hxn : ((x.toNat : Nat) : Int) = x := by omega
      obtain ⟨cap5, ws5, hs5⟩ := H6.out.se
      have hput := set_Put x true hs5
      rw [seeM_put hxz] at hput
      have hpb : putB (fun (n : Nat) => M (n : Int)) (S.s.ws.length + 1) x true = !M x := by
        unfold putB mayB
        rw [decide_eq_true (show 0 ≤ x by omega), decide_eq_true (show x < ((S.s.ws.length + 1 : Nat) : Int) by omega)]
        show (true && true && (M (x.toNat : Int) != true)) = !M x
        rw [hxn]
        cases M x <;> rfl
      rw [hpb] at hput
      have HPu := Lib.hid hput
      clear ho hxz hxn hs5 hput hpb
      gi_wp2_with fail
      refine ⟨trivial, rfl, ?_⟩
      refine (callsIn_wide.2 HPu.out).mono ?_
      rintro e w8 ⟨ws8, rfl, t8, s8⟩
      have H8 := Lib.hid (H6.out.see HF.out t8 ⟨_, _, s8⟩)
      clear t8 s8 HPu
      cases hM : M x
      · have HM := Lib.hid hM
        clear hM
        gi_wp2_with fail
        refine ⟨trivial, rfl, ?_⟩
        refine (callsIn_wide.2 (trace_Edges w8 _ x)).mono ?_
        rintro e w9 ⟨be, rfl, t9, hbe, e1, e2⟩
        have h9 := H8.out.old HF.out t9
        have hle : w.heap.size ≤ w8.heap.size := H8.out.t0.size
        have hit := ed_iter be (be + 1) x h9.hp e1 e2 ⟨HF.out.nA (Nat.le_trans hle hbe), HF.out.nA (by omega)⟩
        have H9 := Lib.hid (And.intro h9 (And.intro hit (And.intro (show w.heap.size ≤ w9.heap.size from Nat.le_trans hle t9.size) (And.intro hbe (And.intro (blk_lt e1) (blk_lt e2))))))
        clear t9 hbe e1 e2 h9 hit hle
        obtain ⟨i0, hi, hz0, hz1', hz2⟩ := info_parts info_int2
        gi_wp2_with fail
        refine rf_law1G ?a1 (O₀ := fun j => j = bt ∨ (Value.slice (some ⟨g, 0, none⟩) k cap).ownBlock = some j) rfl (enters_of Tryz.func56 (by kernel_rfl) rfl) H9.out.2.1 (fun _ => rfl) (fun n O X Y _ => abE_T n O X Y) abE_M (abE_O (fun b hb => Nat.lt_of_lt_of_le (HF.out.al b hb) H9.out.2.2.1)) (kpE_K (Nat.le_trans HF.out.lo H9.out.2.2.1) (fun b hb => Nat.lt_of_lt_of_le (HF.out.al b hb) H9.out.2.2.1)) (RgI W A c S H w p q bt (seeM M x) td ds) (fun _ _ _ _ => False) ?pr ?o0 ?hI (fun _ _ _ _ _ h _ => h) ?h0 ?assign ?body ?done ?stop
        case pr =>
          have l1 := blk_lt H8.out.bx
          have l2 := H8.out.ow.old g rfl
          obtain ⟨l3, l4, l5⟩ := H9.out.2.2.2
          rintro b (rfl | rfl)
          · exact ⟨l4, fun x => x.elim (fun e => by omega) (fun e => by have e' : some g = some b := e; have := Option.some.inj e'; omega)⟩
          · exact ⟨l5, fun x => x.elim (fun e => by omega) (fun e => by have e' : some g = some (be + 1) := e; have := Option.some.inj e'; omega)⟩
        case o0 =>
          have l1 := blk_lt H9.out.1.bx
          rintro b (rfl | e)
          · exact l1
          · exact H9.out.1.ow.old b e
        case hI =>
          intro pre O X Y h hab
          obtain ⟨_, _, hs⟩ := H9.out.1.se
          exact h.ab HF.out ⟨blk_lt hs.box, hs.row.lt⟩ (fun D hD => H9.out.1.ms.lt hD) H9.out.2.2.1 hab
        case h0 => exact ⟨_, fun j => Iff.rfl, by rw [List.map_nil, List.append_nil]; exact H9.out.1⟩
        case assign =>
          intro l x2 X K hK
          gi_wp2
          exact hK
        case body =>
          rintro l pre ⟨fi, y⟩ O X ⟨v', i1, i2⟩ hpre
          obtain ⟨ao', capv, rfl⟩ := own_shape i2.ow
          obtain ⟨n, hn⟩ : ∃ n, (td ++ pre.map Prod.snd).length = n := ⟨_, rfl⟩
          have hnb : n ≤ 1048000 := by
            have h1 := hpre.length_le
            have h2 := edT_len S c x
            unfold edT at h2
            rw [List.length_map] at h2
            have h3 := HW.out.2
            rw [List.length_append, List.length_map] at hn
            rw [List.length_append] at h1
            omega
          have c1 := one_cell i2.bx
          have f1 := one_free i2.bx
          have hXs : w.heap.size ≤ X.heap.size := i2.t0.size
          have HBx := Lib.hid (And.intro i1 (And.intro i2 hXs))
          have hown : X.ownsRow w.heap.size 3 1 (.slice ao' n capv) n ((td ++ pre.map Prod.snd).map (.int .i64)) := by
            have := i2.ow
            unfold Ow at this
            rwa [hn] at this
          have HO2 := Lib.hid hown
          have hne : (Value.slice ao' n capv).ownBlock ≠ some bt := fun e => by
            obtain ⟨-, -, -, k4, -⟩ := i2.kinds
            rw [hn] at k4
            exact (k4 bt e).2.2 rfl
          have HC1 : Hid ((X.alloc (Obj.cells #[.int .i64 y] 3)).heap[bt]? = some (Obj.cells #[.slice ao' n capv] 28) ∧ (Value.slice ao' n capv).ownBlock ≠ some bt) := by
            have := i2.bx
            rw [hn] at this
            exact ⟨(Below.heap_alloc _ _ _ (blk_lt this)).trans this, hne⟩
          rw [hn] at c1
          clear i1 i2 hpre hown hne hXs
          gi_wp2_with (gi_at_builtin; go_loud (refine wpListIn_append_own_at _ rfl _ _ 28 rfl w.heap.size 3 i0 (.int .i64 0) 1 8 Tryz.underlying28 hi hz0 hz1' hz2 rfl (by decide) _ n _ rfl (HO2.out.alloc _) ⟨X.heap.size, 0, none⟩ 1 1 [.int .i64 y] rfl rfl (cell_one_new _ _ _) (by simp [Value.oneCell']) (by unfold maxLen; omega) (by omega) (by have := HBx.out.2.2; simp; omega) ?_; intro v' w1 hown' hgrow _ hat; have HX := Lib.hid (And.intro hown' (And.intro hgrow hat)); have b1' := grown_box hgrow HC1.out.1 HC1.out.2; have c1' := one_cell b1'; have f1' := one_free b1'; obtain ⟨g', cap', rfl⟩ := ownsRow_succ hown'; clear hown' hgrow hat b1'))
          obtain ⟨hown', hgrow, hat⟩ := HX.out
          have i2 := HBx.out.2.1
          have i1 := HBx.out.1
          rw [hn] at i1 i2
          exact RgI.app HF.out i1 i2 (by
            unfold Ow
            rw [List.length_append, hn, List.map_append]
            exact hown') hgrow hat
        case done =>
          rintro D O X hD hO ⟨v', i1, i2⟩ hK
          have hms := i2.ms.cons hK (Nat.le_trans H9.out.2.2.1 hD) (fun E hE e => by have := H9.out.1.ms.lt hE; omega)
          have hrc := HI.out.1.see HO.out
          have hun := unseen_see HO.out HM.out
          have hel := edT_len S c x
          have hbd := HI.out.2.2
          rw [List.length_append] at hbd
          have hE : Hid (RcI S c rt (seeM M x) (td ++ edT S c x) ∧ ReI W A c S H w p q bt (seeM M x) (td ++ edT S c x) v' ({ target := .collected D, args := #[] } :: ds) X ∧ 257 * unseen S (seeM M x) + (td ++ edT S c x).length ≤ 1000000) :=
            ⟨hrc, ⟨i2.hp, i2.se, i2.bx, i2.ow, hms, i2.t0⟩, by rw [List.length_append]; simp at hbd; omega⟩
          have hmu : 257 * unseen S (seeM M x) + (td ++ edT S c x).length < 257 * unseen S M + (td ++ [x]).length := by
            rw [List.length_append, List.length_append]
            simp
            omega
          exact ⟨(seeM M x, td ++ edT S c x), ⟨_, _, _, _, _, _, _, _, _, _, _, _, _, _, _, _, _, _, _, _, _, _, _, _, _, _, _, _, _, _, _, _, _, _, _, _, _, _, _, _, _, _, _, _, _, _, _, _, _, _, _, _, _, _, rfl, hE⟩, hmu⟩
        case stop =>
          rintro D c pre O X hD hO hpre h hK
          exact h.elim
      · have HM : Hid (seeM M x = M) := by
          funext y
          unfold seeM
          by_cases hy : y = x
          · rw [if_pos hy, hy, hM]
          · rw [if_neg hy]
        have hskip := HI.out.1.skip (.inr hM)
        have hE : Hid (RcI S c rt M td ∧ ReI W A c S H w p q bt M td (.slice (some ⟨g, 0, none⟩) k cap) ds w8 ∧ 257 * unseen S M + td.length ≤ 1000000) :=
          ⟨hskip, by have := H8.out; rwa [HM.out] at this, by have := HI.out.2.2; rw [List.length_append] at this; omega⟩
        have hmu : 257 * unseen S M + td.length < 257 * unseen S M + (td ++ [x]).length := by rw [List.length_append]; simp
        have HMU := Lib.hid hmu
        clear hM hskip hmu
        gi_wp2_with fail
        exact ⟨(M, td), ⟨_, _, _, _, _, _, _, _, _, _, _, _, _, _, _, _, _, _, _, _, _, _, _, _, _, _, _, _, _, _, _, _, _, _, _, _, _, _, _, _, _, _, _, _, _, _, _, _, _, _, _, _, _, _, rfl, hE⟩, HMU.out⟩
    · rw [Bool.not_eq_true] at ho
      rw [ho]
      have HO := Lib.hid ho
      clear ho
      gi_wp2_with fail
      refine ⟨trivial, ?_⟩
      have hskip := HI.out.1.skip (.inl HO.out)
      have hE : Hid (RcI S c rt M td ∧ ReI W A c S H w p q bt M td (.slice (some ⟨g, 0, none⟩) k cap) ds W6 ∧ 257 * unseen S M + td.length ≤ 1000000) :=
        ⟨hskip, H6.out, by have := HI.out.2.2; rw [List.length_append] at this; omega⟩
      have hmu : 257 * unseen S M + td.length < 257 * unseen S M + (td ++ [x]).length := by rw [List.length_append]; simp
      have HMU := Lib.hid hmu
      clear hskip hmu
      gi_wp2_with fail
      exact ⟨(M, td), ⟨_, _, _, _, _, _, _, _, _, _, _, _, _, _, _, _, _, _, _, _, _, _, _, _, _, _, _, _, _, _, _, _, _, _, _, _, _, _, _, _, _, _, _, _, _, _, _, _, _, _, _, _, _, _, rfl, hE⟩, HMU.out⟩
end Go.Proofs.YtnobempbcdkoaaaGreatDoor
namespace Go.Proofs.YtnobempbcdkoaaaGreatDoor
open Go.RowKit Go.Shelf
attribute [local go_sem] Oper.semAt_some

variable {W w w' : World} {A : HA} {c : Cf} {S : HS} {H : Nat → List Nat} {rt : List Int}
/-- Is it reached? -/
noncomputable def rchB (S : HS) (c : Cf) (rt : List Int) (x : Int) : Bool := @decide (Rch S c rt x) (Classical.propDecidable _)
theorem rchB_iff {x : Int} : rchB S c rt x = true ↔ Rch S c rt x := by
  unfold rchB
  exact @decide_eq_true_iff _ (Classical.propDecidable _)
/-- What is reached, rising. -/
noncomputable def rchL (S : HS) (c : Cf) (rt : List Int) : List Int := S.objs.filter (rchB S c rt)
theorem mem_rchL {x : Int} : x ∈ rchL S c rt ↔ Rch S c rt x := by
  unfold rchL
  rw [List.mem_filter, mem_objs, rchB_iff]
  exact ⟨fun h => h.2, fun h => ⟨h.obj, h⟩⟩
theorem rchB_of {M : Int → Bool} (hM : ∀ x, M x = true ↔ Rch S c rt x) (x : Int) : rchB S c rt x = M x := by
  rw [Bool.eq_iff_iff, rchB_iff]
  exact (hM _).symm
theorem rchL_of {M : Int → Bool} (hM : ∀ x, M x = true ↔ Rch S c rt x) : ((elems (fun (n : Nat) => M (n : Int)) (S.s.ws.length + 1)).map fun (x : Nat) => (x : Int)) = rchL S c rt := by
  unfold rchL HS.objs elems
  rw [List.filter_map, List.filter_filter]
  congr 1
  apply List.filter_congr
  intro x _
  show M (x : Int) = (rchB S c rt (x : Int) && S.B x)
  rw [rchB_of hM]
  cases hm : M (x : Int) with
  | false => rfl
  | true =>
    have := ((hM _).1 hm).obj
    unfold HS.obj hasB at this
    rw [Bool.and_eq_true] at this
    have h2 := this.2
    rw [Int.toNat_natCast] at h2
    rw [h2]
    rfl
theorem rchL_len : (rchL S c rt).length ≤ S.objs.length := by unfold rchL; exact List.length_filter_le _ _
theorem objs_len : S.objs.length ≤ S.s.ws.length + 1 := by unfold HS.objs; rw [List.length_map]; exact elems_le _ _
theorem tr_Reach (roots : Value) (h : HpI W w A c S H) (hT : Tab W) (hr : IntsIn w roots rt) (hb : rt.length + 257 * S.objs.length ≤ 1000000) :
    Calls Tryz.prog 15 #[.pointer (some ⟨A.h, 0, none⟩), roots] w fun e w' => ∃ v, e = .returned v ∧ Touch (HT A) w w' ∧ HpI W w' A c S H ∧ Ow w' w.heap.size v (rchL S c rt) := by
  have hlen := HS.len_le h.at'
  have hlt := h.at'.lt
  have HH := Lib.hid (And.intro (hT.touch h.at'.base (fun x => x)) (And.intro hlen (And.intro hlt hT)))
  have HR := Lib.hid (tr_reached roots h hr hb)
  clear h hT hr hb hlen hlt
  go_enter Tryz.func15, Tryz.ntmps15
  go_wp2_with (go_at_call 52; fail)
  refine HR.out.mono ?_
  rintro e w1 ⟨p, q, M, rfl, t1, h1, hp, hq, ⟨cap, ws, hs⟩, hM⟩
  have H1 := Lib.hid (And.intro t1 (And.intro h1 (And.intro hs hM)))
  clear t1 h1 hp hq hs hM
  go_wp2_with (go_at_call 53; fail)
  refine (set_All w1 _).mono ?_
  rintro e w2 ⟨b, rfl, hT1, hb, hbx⟩
  have H2 := Lib.hid (And.intro hT1 (And.intro hb hbx))
  clear hT1 hb hbx
  go_wp2_with (go_at_call 51; fail)
  refine (collect_any (pa := A.L.pa) (qa := A.L.qa) (ws := S.s.ws) (Pr := fun k => k = 0) 100 _ (enters_of Tryz.func100 (by kernel_rfl) rfl) (rchL S c rt) ?_ ?_ ?_ ?_ ?_).mono ?_
  · have h1 := @rchL_len c S rt
    have h2 := @objs_len S
    have h3 := HH.out.2.1
    omega
  · have h1 := H1.out.1.size
    have h2 := H2.out.1.size
    have h3 := HH.out.2.2.1 _ (all_at (A := A) 7)
    have h4 := HH.out.2.2.1 _ (all_at (A := A) 8)
    exact ⟨Nat.lt_of_lt_of_le h3 (Nat.le_trans h1 h2), Nat.lt_of_lt_of_le h4 (Nat.le_trans h1 h2)⟩
  · obtain ⟨ca, lo, st, ha⟩ := H1.out.2.1.at'.ars
    exact ⟨ca, lo, st, ha.touch H2.out.1 (fun x => x) (fun x => x)⟩
  · intro W' hW'
    have ht := H2.out.1.trans hW'
    have hi := (all1_iter b (H1.out.2.2.1.touch ht (fun x => x) (fun x => x)) ((HH.out.2.2.2.touch H1.out.2.1.at'.base (fun x => x)).touch ht (fun x => x)) (blk_touch H2.out.2.2 hW' (fun x => x))).ints (pa := A.L.pa) (qa := A.L.qa) (ws := S.s.ws) (fun k => k = 0) (fun _ h => h)
    rwa [rchL_of H1.out.2.2.2] at hi
  · rintro k rfl
    exact Nat.lt_of_lt_of_le HH.out.1.lt (Nat.le_trans H1.out.1.size H2.out.1.size)
  rintro e w3 ⟨v, rfl, hT2, ha, hI⟩
  obtain ⟨ao, cap, rfl⟩ := hI.ints.shape
  have h2 := (H1.out.2.1.old H2.out.1).loaded hT2 ha
  have H3 := Lib.hid (And.intro (H1.out.1.trans (H2.out.1.hnob.trans h2.1)) (And.intro h2.2 (hI.base (Nat.le_trans H1.out.1.size H2.out.1.size))))
  clear hT2 ha hI h2
  go_wp2
  go_ret
  exact ⟨_, rfl, H3.out⟩
theorem set_hasM {p q cap : Nat} {ws : List Nat} {M : Int → Bool} (hs : SetAt w p q cap ws (S.s.ws.length + 1) (fun n => M (n : Int))) (hM : ∀ x, M x = true ↔ Rch S c rt x) (hv : HInv c S H) (x : Int) :
    Calls Tryz.prog 55 #[.pointer (some ⟨p, 0, none⟩), .int .i64 x] w fun e w' => e = .returned (.bool (rchB S c rt x)) ∧ w = w' := by
  refine (set_Has x hs).mono ?_
  rintro e w' ⟨rfl, h⟩
  refine ⟨ret_b ?_, h⟩
  rw [rchB_of hM]
  unfold hasB mayB
  by_cases h0 : 0 ≤ x
  · obtain ⟨n, rfl⟩ := Int.eq_ofNat_of_zero_le h0
    by_cases h1 : n < S.s.ws.length + 1
    · rw [decide_eq_true h0, decide_eq_true (show ((n : Nat) : Int) < ((S.s.ws.length + 1 : Nat) : Int) by omega), Int.toNat_natCast]
      rfl
    · rw [decide_eq_false (show ¬ ((n : Nat) : Int) < ((S.s.ws.length + 1 : Nat) : Int) by omega)]
      cases hm : M (n : Int) with
      | false => simp
      | true =>
        have := hv.obj_bd ((hM _).1 hm).obj
        omega
  · rw [decide_eq_false h0]
    cases hm : M x with
    | false => simp
    | true =>
      have := hv.obj_bd ((hM _).1 hm).obj
      omega
theorem tr_Garbage (roots : Value) (h : HpI W w A c S H) (hT : Tab W) (hr : IntsIn w roots rt) (hb : rt.length + 257 * S.objs.length ≤ 1000000) :
    Calls Tryz.prog 17 #[.pointer (some ⟨A.h, 0, none⟩), roots] w fun e w' => ∃ v, e = .returned v ∧ Touch (HT A) w w' ∧ HpI W w' A c S H ∧ Ow w' w.heap.size v (S.objs.filter fun x => !rchB S c rt x) := by
  have HH := Lib.hid (And.intro hT (And.intro (show S.objs.length ≤ 4000 by omega) h.at'.lt))
  have HR := Lib.hid (tr_reached roots h hr hb)
  clear h hT hr hb
  go_enter Tryz.func17, Tryz.ntmps17
  go_wp2_with (go_at_call 52; fail)
  refine HR.out.mono ?_
  rintro e w1 ⟨p, q, M, rfl, t1, h1, hp, hq, ⟨cap, ws, hs⟩, hM⟩
  have H1 := Lib.hid (And.intro t1 (And.intro h1 (And.intro hs (And.intro hM (And.intro hp hq)))))
  clear t1 h1 hp hq hs hM
  go_wp2_with (go_at_call 19; fail)
  refine (hp_Objects H1.out.2.1 (HH.out.1.touch H1.out.2.1.at'.base (fun x => x))).mono ?_
  rintro e w2 ⟨v, rfl, t2, h2, o2⟩
  obtain ⟨ao, cp, rfl⟩ := o2.ints.shape
  have hpA : ∀ b, w.heap.size ≤ b → b ∉ A.all := fun b hb hm => Nat.lt_irrefl _ (Nat.lt_of_lt_of_le (HH.out.2.2 b hm) hb)
  have hs2 := H1.out.2.2.1.touch t2 (hpA p H1.out.2.2.2.2.1) (hpA q H1.out.2.2.2.2.2)
  have hl2 : S.objs.length ≤ 1048576 := by
    have h3 := HH.out.2.1
    omega
  have hpq : ∀ g, (Value.slice ao S.objs.length cp).ownBlock = some g → ¬ (p = g ∨ q = g) := fun g hg e => by
    have h1 := o2.new g hg
    have h3 := blk_lt H1.out.2.2.1.box
    have h4 := H1.out.2.2.1.row.lt
    omega
  have hdel := delete_func (p := rchB S c rt) w1.heap.size _ p o2 hl2 (fun W3 ht x => set_hasM (hs2.touch ht (fun x => hpq p x (.inl rfl)) (fun x => hpq q x (.inr rfl))) H1.out.2.2.2.1 h2.inv x)
  have hnew : ∀ g, (Value.slice ao S.objs.length cp).ownBlock = some g → w1.heap.size ≤ g := fun g hg => o2.new g hg
  have H2 := Lib.hid (And.intro t2 (And.intro h2 (And.intro hdel hnew)))
  clear t2 h2 o2 hs2 hl2 hpq hdel hpA hnew
  go_wp2_with (go_at_call 54; fail)
  refine H2.out.2.2.1.mono ?_
  rintro e w3 ⟨v3, rfl, t3, o3⟩
  obtain ⟨ao3, cp3, rfl⟩ := o3.ints.shape
  have H3 : Hid (Touch (HT A) w w3 ∧ HpI W w3 A c S H ∧ Ow w3 w.heap.size (.slice ao3 (S.objs.filter fun x => !rchB S c rt x).length cp3) (S.objs.filter fun x => !rchB S c rt x)) := by
    have hn : ∀ g, (Value.slice ao S.objs.length cp).ownBlock = some g → w.heap.size ≤ g := fun g hg => Nat.le_trans H1.out.1.size (H2.out.2.2.2 g hg)
    have hn2 : ∀ g, (Value.slice ao S.objs.length cp).ownBlock = some g → W.heap.size ≤ g := fun g hg => Nat.le_trans H1.out.2.1.at'.base.size (H2.out.2.2.2 g hg)
    exact ⟨(H1.out.1.trans H2.out.1).step t3 (fun b hb => .inr (hn b hb)), H2.out.2.1.touch (H2.out.2.1.at'.base.step t3 (fun b hb => .inr (hn2 b hb))) t3 (fun b hb x => Nat.lt_irrefl _ (Nat.lt_of_lt_of_le (H1.out.2.1.at'.lt b hb) (H2.out.2.2.2 b x))), o3.base H1.out.1.size⟩
  clear t3 o3
  go_wp2
  go_ret
  exact ⟨_, rfl, H3.out⟩
theorem tr_Reaches (a b : Int) (h : HpI W w A c S H) (hb : S.objs.length ≤ 3000) :
    Calls Tryz.prog 23 #[.pointer (some ⟨A.h, 0, none⟩), .int .i64 a, .int .i64 b] w fun e w' => e = .returned (.bool (rchB S c [a] b)) ∧ Touch (HT A) w w' ∧ HpI W w' A c S H := by
  have HH := Lib.hid (And.intro h hb)
  clear h hb
  go_enter Tryz.func23, Tryz.ntmps23
  go_wp2_with (go_at_call 52; fail)
  refine (tr_reached (rt := [a]) _ (HH.out.1.old ((Touch.refl _ _).alloc _)) ?_ (by have := HH.out.2; simp; omega)).mono ?_
  · exact ⟨_, _, rfl, .inr ⟨w.heap.size, 0, rfl, by simp, fun j hj => by
      obtain rfl : j = 0 := by simpa using hj
      exact one_cell (World.alloc_heap_new w _)⟩⟩
  rintro e w1 ⟨p, q, M, rfl, t1, h1, hp, hq, ⟨cap, ws, hs⟩, hM⟩
  have H1 := Lib.hid (And.intro ((((Touch.refl nob w).alloc _).hnob).trans t1) h1)
  have HS := Lib.hid (set_hasM hs hM h1.inv b)
  clear t1 h1 hp hq hs hM
  go_wp2_with (go_at_call 55; fail)
  refine HS.out.mono ?_
  rintro e w2 ⟨rfl, rfl⟩
  go_wp2
  go_ret
  exact ⟨rfl, H1.out⟩
end Go.Proofs.YtnobempbcdkoaaaGreatDoor
