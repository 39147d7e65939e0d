/- The notes' laws: what a case makes, walked. Conditions: the tables of limits, of sizes and of de Bruijn's bits read as laid. -/
import Derived.Test.YtnobempbcdkoaaaGreatDoorNop
import Derived.Handy
namespace Go.Proofs.YtnobempbcdkoaaaGreatDoor
open Go.RowKit

variable {W w w' : World} {A : HA} {c : Cf} {S : HS} {H : Nat → List Nat} {n p q f p2 B b0 b1 b2 b3 b4 m : Nat} {room v col : Int} {all bs xs : List Int} {up fr : Bool} {va tv : Value} {I Q : World → Prop} {T : Nat → Prop}
theorem results_four {fn : Func} {t u v x : Tmp} (h : fn.results = #[.tmp t, .tmp u, .tmp v, .tmp x]) (tmps : Array Value) (P : Program) (w : World) :
    (results fn tmps).run P w = .ok (.tuple #[tmps.getD t undef, tmps.getD u undef, tmps.getD v undef, tmps.getD x undef]) w := by
  simp [results, h]
/-- While the buffers are filled. -/
structure FiI (W : World) (A : HA) (c : Cf) (H : Nat → List Nat) (p p2 q : Nat) (room : Int) (S : HS) (B : Nat) (va : Value) (all bs xs : List Int) (w : World) : Prop where
  hp : HpI W w A c S H
  buf : ∃ u, BufAt w p room u bs ∧ ∀ b, u.ownBlock = some b → b ∉ A.all
  oth : ∃ u, BufAt w p2 256 u xs ∧ ∀ b, u.ownBlock = some b → b ∉ A.all
  box : BoxAt w q (.slice none 0 0) []
  oa : Ow w B va all
  lo : ∀ b, (b ∈ A.all ∨ b = p ∨ b = p2 ∨ b = q) → b < B
  no : ∀ b, (b = p ∨ b = p2 ∨ b = q) → b ∉ A.all ∧ W.heap.size ≤ b
  ne : p ≠ p2
  ln : bs.length ≤ room ∧ room ≤ 256 ∧ 1 ≤ room
  mb : (∀ y, y ∈ bs → y ∈ all) ∧ ∀ y, y ∈ xs → y ∈ all
theorem FiI.old (h : FiI W A c H p p2 q room S B va all bs xs w) (ht : Touch nob w w') : FiI W A c H p p2 q room S B va all bs xs w' := by
  obtain ⟨u, h1, h2⟩ := h.buf
  obtain ⟨y, h3, h4⟩ := h.oth
  exact ⟨h.hp.old ht, ⟨u, h1.old ht, h2⟩, ⟨y, h3.old ht, h4⟩, h.box.old ht, h.oa.touch ht (fun _ _ x => x), h.lo, h.no, h.ne, h.ln, h.mb⟩
def addL (room : Int) (bs : List Int) (x : Int) : List Int := if (((bs.length : Nat) : Int) == room) = true then bs else bs ++ [x]
theorem FiI.lt (h : FiI W A c H p p2 q room S B va all bs xs w) {b : Nat} (hb : w.heap.size ≤ b) : b ∉ A.all := fun hm => Nat.lt_irrefl _ (Nat.lt_of_lt_of_le (h.hp.at'.lt b hm) hb)
theorem FiI.own (h : FiI W A c H p p2 q room S B va all bs xs w) (ht : Touch T w w') (hT : ∀ b, T b → b = p ∨ b = p2 ∨ b = q) : HpI W w' A c S H ∧ Ow w' B va all := by
  refine ⟨h.hp.touch (h.hp.at'.base.step ht (fun b hb => .inr (h.no b (hT b hb)).2)) ht (fun b hb e => (h.no b (hT b e)).1 hb), h.oa.touch ht (fun g hg hm => ?_)⟩
  exact Nat.lt_irrefl _ (Nat.lt_of_lt_of_le (h.lo g (.inr (hT g hm))) (h.oa.new g hg))
theorem FiI.add1 (h : FiI W A c H p p2 q room S B va all bs xs w) (x : Int) (hx : x ∈ all) :
    Calls Tryz.prog 63 #[pt p, .int .i64 x] w fun e w' => ∃ t, e = .returned (.bool t) ∧ ∃ bs', FiI W A c H p p2 q room S B va all bs' xs w' := by
  obtain ⟨u, h1, h2⟩ := h.buf
  obtain ⟨y, h3, h4⟩ := h.oth
  have hln := h.ln
  cases hr : (((bs.length : Nat) : Int) == room) with
  | true =>
    refine (buf_Add_no h1 x hr).mono ?_
    rintro e w1 ⟨rfl, t1⟩
    exact ⟨false, rfl, bs, h.old t1⟩
  | false =>
    refine (buf_Add_ok h1 x hr (by omega)).mono ?_
    rintro e w1 ⟨rfl, t1, u', hb', hs'⟩
    have ho := h.own t1 (fun b e => .inl e)
    have hqp := buf_ne h1 h.box
    refine ⟨true, rfl, bs ++ [x], ho.1, ⟨u', hb', fun b hb => (hs' b hb).elim (h2 b) h.lt⟩, ⟨y, h3.touchT t1 (fun e => h.ne e.symm) (fun b hk => h3.row.ne h1.box h1.ty b hk), h4⟩, h.box.touchT t1 (fun e => hqp e.symm) (fun b hk => h.box.row.ne h1.box h1.ty b hk), ho.2, h.lo, h.no, h.ne, ⟨?_, hln.2⟩, ⟨fun z hz => ?_, h.mb.2⟩⟩
    · have : (bs.length : Int) ≠ room := by simpa using hr
      rw [List.length_append, List.length_singleton]
      omega
    · rw [List.mem_append, List.mem_singleton] at hz
      exact hz.elim (h.mb.1 z) (fun e => e ▸ hx)
theorem FiI.add2 (h : FiI W A c H p p2 q room S B va all bs xs w) (x : Int) (hx : x ∈ all) (hl : xs.length < 256) :
    Calls Tryz.prog 63 #[pt p2, .int .i64 x] w fun e w' => ∃ t, e = .returned (.bool t) ∧ FiI W A c H p p2 q room S B va all bs (xs ++ [x]) w' := by
  obtain ⟨u, h1, h2⟩ := h.buf
  obtain ⟨y, h3, h4⟩ := h.oth
  refine (buf_Add_ok h3 x (by simp; omega) (by omega)).mono ?_
  rintro e w1 ⟨rfl, t1, u', hb', hs'⟩
  have ho := h.own t1 (fun b e => .inr (.inl e))
  have hqp := buf_ne h3 h.box
  refine ⟨true, rfl, ho.1, ⟨u, h1.touchT t1 h.ne (fun b hk => h1.row.ne h3.box h3.ty b hk), h2⟩, ⟨u', hb', fun b hb => (hs' b hb).elim (h4 b) h.lt⟩, h.box.touchT t1 (fun e => hqp e.symm) (fun b hk => h.box.row.ne h3.box h3.ty b hk), ho.2, h.lo, h.no, h.ne, h.ln, ⟨h.mb.1, fun z hz => ?_⟩⟩
  rw [List.mem_append, List.mem_singleton] at hz
  exact hz.elim (h.mb.2 z) (fun e => e ▸ hx)
/-- The box is filled. -/
structure FxI (W : World) (A : HA) (c : Cf) (H : Nat → List Nat) (p q : Nat) (room : Int) (S : HS) (bs xs : List Int) (w : World) : Prop where
  hp : HpI W w A c S H
  buf : ∃ u, BufAt w p room u bs ∧ ∀ b, u.ownBlock = some b → b ∉ A.all
  box : ∃ u, BoxAt w q u xs ∧ ∀ b, u.ownBlock = some b → b ∉ A.all
  no : ∀ b, (b = p ∨ b = q) → b ∉ A.all ∧ W.heap.size ≤ b
  ln : bs.length ≤ room ∧ room ≤ 256 ∧ 1 ≤ room
theorem FiI.fx0 (h : FiI W A c H p p2 q room S B va all bs [] w) : FxI W A c H p q room S bs [] w :=
  ⟨h.hp, h.buf, ⟨_, h.box, fun b hb => (by cases hb)⟩, fun b hb => h.no b (hb.imp_right .inr), h.ln⟩
theorem FiI.fx1 (h : FiI W A c H p p2 q room S B va all bs xs w) (ht : Touch (fun b => b = p2 ∨ b = q) w w') {u : Value} (hx : BoxAt w' q u xs) (hu : SubB w u (.slice none 0 0)) : FxI W A c H p q room S bs xs w' := by
  have ho := h.own ht (fun b e => .inr e)
  obtain ⟨u1, h1, h2⟩ := h.buf
  obtain ⟨y, h3, h4⟩ := h.oth
  have hqp := buf_ne h1 h.box
  refine ⟨ho.1, ⟨u1, h1.touchT ht (fun e => e.elim h.ne hqp) (fun b hk e => e.elim (h1.row.ne h3.box h3.ty b hk) (h1.row.ne h.box.box h.box.ty b hk)), h2⟩, ⟨u, hx, fun b hb => (hu b hb).elim (fun e => (by cases e)) h.lt⟩, fun b hb => h.no b (hb.imp_right .inr), h.ln⟩
theorem FxI.flag {f : Nat} (h : FxI W A c H p q room S bs xs w) (ht : Touch nob w w') (hf : w.heap.size ≤ f) (hb : w'.heap[f]? = some (Obj.cells #[.bool up] 121)) : PgI W A c H p q f room S bs xs up w' := by
  obtain ⟨u1, h1, h2⟩ := h.buf
  obtain ⟨y, h3, h4⟩ := h.box
  refine ⟨h.hp.old ht, ⟨u1, h1.old ht, h2⟩, ⟨y, h3.old ht, h4⟩, hb, ?_, h.ln⟩
  rintro b (rfl | rfl | rfl)
  · exact h.no _ (.inl rfl)
  · exact h.no _ (.inr rfl)
  · exact ⟨fun hm => Nat.lt_irrefl _ (Nat.lt_of_lt_of_le (h.hp.at'.lt _ hm) hf), Nat.le_trans h.hp.at'.base.size hf⟩
theorem PgI.raise {f : Nat} {up' : Bool} (h : PgI W A c H p q f room S bs xs up w) (ht : Touch (fun b => b = f) w w') (hb : w'.heap[f]? = some (Obj.cells #[.bool up'] 121)) : PgI W A c H p q f room S bs xs up' w' := by
  obtain ⟨u1, h1, h2⟩ := h.buf
  obtain ⟨y, h3, h4⟩ := h.box
  have nf := h.no f (.inr (.inr rfl))
  have npf : ¬ p = f := fun e => by have := h1.box.symm.trans (e ▸ h.fl); simp at this
  have nqf : ¬ q = f := fun e => by have := h3.box.symm.trans (e ▸ h.fl); simp at this
  exact ⟨h.hp.touch (h.hp.at'.base.step ht (fun b hb => .inr ((show b = f from hb) ▸ nf.2))) ht (fun b hb e => nf.1 ((show b = f from e) ▸ hb)), ⟨u1, h1.touchT ht npf (fun b hk => h1.row.ne h.fl (by decide) b hk), h2⟩, ⟨y, h3.touchT ht nqf (fun b hk => h3.row.ne h.fl (by decide) b hk), h4⟩, hb, h.no, h.ln⟩
/-- What a case makes. -/
def CsM (w w' : World) (c : Cf) (rm : Int) (up : Bool) (A : HA) (p q f : Nat) : Prop :=
  ∃ W1 S H bs xs, Touch nob w W1 ∧ PgI W1 A c H p q f (1 + rm) S bs xs up w' ∧ (∀ y, y ∈ bs → y ∈ S.objs) ∧ (∀ y, y ∈ xs → y ∈ S.objs) ∧ xs.length ≤ 40 ∧ S.objs.length ≤ 145
set_option maxRecDepth 20000 in
set_option maxHeartbeats 4000000 in
theorem law19_parts (c0 c : Cf) (hlit : little c0 = c) (v bf bx : Value) (th : List (Int × Int × Bool)) (ks ls : List Int) (rm : Int) (up : Bool) (w : World) (hL : Laid w) (hTab : Tab w) (hth : ThIn w v th) (hbf : KIn .u8 w bf ks) (hbx : KIn .u8 w bx ls)
    (hkb : ∀ j, j < ks.length → 0 ≤ ks.getD j 0 ∧ ks.getD j 0 ≤ 255) (hlb : ∀ j, j < ls.length → 0 ≤ ls.getD j 0 ∧ ls.getD j 0 ≤ 255) (hkl : ks.length ≤ 40) (hll : ls.length ≤ 40) (hrm : 0 ≤ rm ∧ rm ≤ 255) :
    Calls Tryz.prog 28 #[CsV c0 v bf bx rm up] w fun e w' => ∃ A p q f, e = .returned (.tuple #[pt A.h, pt p, pt q, pt f]) ∧ CsM w w' c (rm % 6) up A p q f := by
  have hok : c.ok = true := by rw [← hlit]; exact little_ok _
  have hc4 : 0 ≤ c.c4 ∧ c.c4 ≤ 3 := by rw [← hlit]; simp only [little]; omega
  have hc01 : (0 ≤ c.c0 ∧ c.c0 ≤ 4) ∧ 0 ≤ c.c1 ∧ c.c1 ≤ 36 := by rw [← hlit]; simp only [little]; omega
  have hl := ref02_Little c0
  rw [hlit] at hl
  have hmb := mul_bd (a := c.c0) (b := c.c1) (A := 4) (B := 36) hc01.1.1 hc01.1.2 hc01.2.1 hc01.2.2
  obtain ⟨z, hz⟩ : ∃ z : Nat, (z : Int) = c.c0 * c.c1 := ⟨(c.c0 * c.c1).toNat, by omega⟩
  obtain ⟨n4, hn4⟩ : ∃ n4 : Nat, c.c4 = n4 := ⟨c.c4.toNat, by omega⟩
  have HC := Lib.hid (And.intro hok (And.intro hl (And.intro hz (And.intro (show z ≤ 144 by omega) (And.intro hn4 (show n4 ≤ 64 by omega))))))
  obtain ⟨ao, cap, rfl, -⟩ := id hth
  obtain ⟨N, hN⟩ : ∃ N, th.length = N := ⟨_, rfl⟩
  obtain ⟨af, cf, rfl⟩ := hbf.shape
  obtain ⟨ax, cx, rfl⟩ := hbx.shape
  obtain ⟨M, hM⟩ : ∃ M, ks.length = M := ⟨_, rfl⟩
  obtain ⟨R, hR⟩ : ∃ R, ls.length = R := ⟨_, rfl⟩
  have HTH := Lib.hid (And.intro hth hN)
  have HF := Lib.hid (And.intro hbf (And.intro hkb hM))
  have HX := Lib.hid (And.intro hbx (And.intro hlb hR))
  have HL := Lib.hid (And.intro hL hTab)
  rw [hN, hM, hR]
  rw [hM] at hkl
  rw [hR] at hll
  clear hok hc4 hc01 hl hz hn4 hmb hlit hth hbf hbx hkb hlb hN hM hR hL hTab
  go_enter Tryz.func28, Tryz.ntmps28
  go_wp2_with fail
  obtain ⟨W0, hW⟩ : ∃ W, W = w.alloc (Obj.cells (CsR c0 (.slice ao N cap) (.slice af M cf) (.slice ax R cx) rm up) 54) := ⟨_, rfl⟩
  have hT : Touch nob w W0 := by rw [hW]; (repeat (first | with_reducible exact Touch.refl _ _ | with_reducible assumption | with_reducible apply Touch.alloc | with_reducible apply Touch.drewN | with_reducible apply Touch.drew | with_reducible refine Touch.setCell ?_ (.inr (by first | omega | (simp; done) | (simp; omega))) _))
  have hbx : W0.heap[w.heap.size]? = some (Obj.cells (CsR c0 (.slice ao N cap) (.slice af M cf) (.slice ax R cx) rm up) 54) := by rw [hW]; exact World.alloc_heap_new w _
  obtain ⟨b0, hb0⟩ : ∃ b, b = w.heap.size := ⟨_, rfl⟩
  rw [← hW, ← hb0]
  rw [← hb0] at hbx
  have HB := Lib.hid hT
  have HBX : Hid (∀ wr, Touch nob W0 wr → (wr.cell? ⟨b0, 0, none⟩ = some (.int .i64 c0.c0) ∧ wr.cell? ⟨b0, 1, none⟩ = some (.int .i64 c0.c1) ∧ wr.cell? ⟨b0, 2, none⟩ = some (.int .i64 c0.c2) ∧ wr.cell? ⟨b0, 3, none⟩ = some (.int .i64 c0.c3) ∧ wr.cell? ⟨b0, 4, none⟩ = some (.int .i64 c0.c4) ∧ wr.cell? ⟨b0, 5, none⟩ = some (.int .i64 c0.c5) ∧ wr.cell? ⟨b0, 6, none⟩ = some (.int .i64 c0.c6) ∧ wr.cell? ⟨b0, 7, none⟩ = some (.slice ao N cap)) ∧ wr.cell? ⟨b0, 8, none⟩ = some (.slice af M cf) ∧ wr.cell? ⟨b0, 9, none⟩ = some (.slice ax R cx) ∧ wr.cell? ⟨b0, 10, none⟩ = some (.int .u8 rm) ∧ wr.cell? ⟨b0, 11, none⟩ = some (.bool up)) := fun wr ht => by
    obtain ⟨y0, y1, y2, y3, y4, y5, y6, y7, y8, y9, ya, yb⟩ := box12 (blk_touch hbx ht (fun x => x))
    exact ⟨⟨y0, y1, y2, y3, y4, y5, y6, y7⟩, y8, y9, ya, yb⟩
  clear hW hb0 hT hbx
  have HD : Hid (Touch nob W0 W0.drew) := Touch.drew (Touch.refl _ _)
  have hmd := fun w1 (ht : Touch nob w w1) => law15_Made c (.slice ao N cap) th z n4 HC.out.1 HC.out.2.2.1 (Nat.le_trans HC.out.2.2.2.1 (by decide)) HC.out.2.2.2.2.1 HC.out.2.2.2.2.2 w1 (HL.out.1.old ht) (by have := HTH.out.1.old ht; rwa [HTH.out.2] at this)
  have HMd := Lib.hid hmd
  clear hmd
  go_region_held3 (fun w1 => w1.cell? ⟨b0, 0, none⟩ = some (.int .i64 c0.c0) ∧ w1.cell? ⟨b0, 1, none⟩ = some (.int .i64 c0.c1) ∧ w1.cell? ⟨b0, 2, none⟩ = some (.int .i64 c0.c2) ∧ w1.cell? ⟨b0, 3, none⟩ = some (.int .i64 c0.c3) ∧ w1.cell? ⟨b0, 4, none⟩ = some (.int .i64 c0.c4) ∧ w1.cell? ⟨b0, 5, none⟩ = some (.int .i64 c0.c5) ∧ w1.cell? ⟨b0, 6, none⟩ = some (.int .i64 c0.c6) ∧ w1.cell? ⟨b0, 7, none⟩ = some (.slice ao N cap)) (first | exact (HBX.out _ HQ2.out.1).1 | exact (HBX.out _ HQ1.out).1 | exact (HBX.out _ HD.out).1) (first
    | (go_at_call 47; refine (HMd.out _ (HB.out.trans HQ1.out)).mono ?_; rintro e w2 ⟨W1, t1, A, m, rfl, hn, qx, O, h2, -⟩; have HQ2 : Hid (Touch nob W0 w2 ∧ Touch nob w W1 ∧ Touch nob W0 W1 ∧ ∃ S H, HpI W1 w2 A c S H) := ⟨(HQ1.out.trans t1).trans h2.hp.at'.base, (HB.out.trans HQ1.out).trans t1, HQ1.out.trans t1, _, _, h2.hp⟩; clear t1 hn h2)
    | (go_at_call 48; refine (HC.out.2.1 _).mono ?_; rintro e w1 ⟨rfl, t1⟩; have HQ1 : Hid (Touch nob W0 w1) := HD.out.trans t1; clear t1))
  rename_i hheld
  clear hheld
  obtain ⟨S, H, hp2⟩ := HQ2.out.2.2.2
  have hol : S.objs.length ≤ 145 := by
    have h0 := @objs_len S
    have h1 := hp2.inv.len
    have h2 := HC.out.2.2.1
    have h3 := HC.out.2.2.2.1
    omega
  have HP2 := Lib.hid (And.intro hp2 hol)
  obtain ⟨-, -, -, er, -⟩ := HBX.out _ HQ2.out.1
  obtain ⟨r6, hr6⟩ : ∃ r, rm % 6 = r := ⟨_, rfl⟩
  have hr6t : rm.tmod 6 = r6 := by rw [Int.tmod_eq_emod_of_nonneg hrm.1]; exact hr6
  have hr60 : 0 ≤ r6 := by omega
  have hr61 : r6 < 6 := by omega
  have hwr : IntKind.i64.wrap r6 = r6 := IntWalk.i64_in _ (by omega)
  have hwr1 : IntKind.i64.wrap (1 + r6) = 1 + r6 := IntWalk.i64_in _ (by omega)
  obtain ⟨hrm0, hrm1⟩ := hrm
  have HR6 := Lib.hid hr6
  clear hp2 hol hr6
  go_wp2_with (go_at_call 61; fail)
  refine (log_New_ok (1 + r6) (by omega) (by omega) _).mono ?_
  rintro e w3 ⟨p, rfl, hpn, t3, hb3⟩
  have H3 := Lib.hid (And.intro hpn (And.intro t3 hb3))
  clear hpn t3 hb3 er hr6t
  go_wp2_with (go_at_call 61; fail)
  refine (log_New_ok 256 (by decide) (by decide) w3).mono ?_
  rintro e w4 ⟨p2, rfl, hpn, t4, hb4⟩
  have H4 := Lib.hid (And.intro hpn (And.intro t4 hb4))
  clear hpn t4 hb4
  go_wp2_with (go_at_call 62; fail)
  refine (log_NewBox w4).mono ?_
  rintro e w5 ⟨q, rfl, hqn, t5, hb5⟩
  have H5 := Lib.hid (And.intro hqn (And.intro t5 hb5))
  clear hqn t5 hb5
  go_wp2_with (go_at_call 19; fail)
  have hh5 := HP2.out.1.old (H3.out.2.1.trans (H4.out.2.1.trans H5.out.2.1))
  have hob := hp_Objects hh5 ((HL.out.2.touch (HB.out.trans HQ2.out.2.2.1) (fun x => x)).touch hh5.at'.base (fun x => x))
  refine hob.mono ?_
  rintro e w6 ⟨v6, rfl, t6, h6, o6⟩
  obtain ⟨ao6, cp6, rfl⟩ := o6.ints.shape
  obtain ⟨all, hall⟩ : ∃ all, S.objs = all := ⟨_, rfl⟩
  obtain ⟨n, hn⟩ : ∃ n, all.length = n := ⟨_, rfl⟩
  have hol := HP2.out.2
  rw [hall] at o6 hol ⊢
  rw [hn] at o6 hol ⊢
  have hF : FiI W1 A c H p p2 q (1 + r6) S w5.heap.size (.slice ao6 n cp6) all [] [] w6 := by
    have hlt : ∀ b, w2.heap.size ≤ b → b ∉ A.all ∧ W1.heap.size ≤ b := fun b hb => ⟨fun hm => Nat.lt_irrefl _ (Nat.lt_of_lt_of_le (HP2.out.1.at'.lt _ hm) hb), Nat.le_trans HP2.out.1.at'.base.size hb⟩
    have n1 := hlt p H3.out.1
    have n2 := hlt p2 (Nat.le_trans H3.out.2.1.size H4.out.1)
    have n3 := hlt q (Nat.le_trans H3.out.2.1.size (Nat.le_trans H4.out.2.1.size H5.out.1))
    have l1 := Nat.lt_of_lt_of_le (blk_lt H3.out.2.2.box) (Nat.le_trans H4.out.2.1.size H5.out.2.1.size)
    have l2 := Nat.lt_of_lt_of_le (blk_lt H4.out.2.2.box) H5.out.2.1.size
    have l3 := blk_lt H5.out.2.2.box
    refine ⟨h6, ⟨_, (H3.out.2.2.old (H4.out.2.1.trans H5.out.2.1)).touchT t6 n1.1 (fun b hb => (by cases hb)), fun b hb => (by cases hb)⟩, ⟨_, (H4.out.2.2.old H5.out.2.1).touchT t6 n2.1 (fun b hb => (by cases hb)), fun b hb => (by cases hb)⟩, H5.out.2.2.touchT t6 n3.1 (fun b hb => (by cases hb)), o6, ?_, ?_, ?_, ⟨?_, by omega, by omega⟩, ⟨fun y hy => (by cases hy), fun y hy => (by cases hy)⟩⟩
    · rintro b (h | rfl | rfl | rfl)
      · exact Nat.lt_of_lt_of_le (HP2.out.1.at'.lt _ h) (Nat.le_trans H3.out.2.1.size (Nat.le_trans H4.out.2.1.size H5.out.2.1.size))
      · exact l1
      · exact l2
      · exact l3
    · rintro b (rfl | rfl | rfl)
      · exact n1
      · exact n2
      · exact n3
    · intro e
      have h1 := blk_lt H3.out.2.2.box
      have h2 := H4.out.1
      omega
    · simp only [List.length_nil]; omega
  have HF6 := Lib.hid hF
  have HA := Lib.hid (And.intro hall hn)
  have HW1 := Lib.hid (fun wr (h : Touch nob W1 wr) => HBX.out _ (HQ2.out.2.2.1.trans h))
  clear hF hall hn hh5 hob t6 h6 o6
  go_wp2_with fail
  go_loopw [15] (fun iv wr => ∃ j : Nat, j ≤ M ∧ iv = .int .i64 j ∧ Hid (∃ bs, FiI W1 A c H p p2 q (1 + r6) S w5.heap.size (.slice ao6 n cp6) all bs [] wr)) (fun iv _ => M - (intOf iv).toNat)
  case atStart => exact ⟨0, Nat.zero_le _, rfl, _, HF6.out⟩
  case round =>
    obtain ⟨j, hj, rfl, HI⟩ := hrel
    clear HF6
    obtain ⟨-, e8, -⟩ := HW1.out wr (by obtain ⟨bs, h⟩ := HI.out; exact h.hp.at'.base)
    by_cases hlt : j < M ∧ 0 < n
    · obtain ⟨hlt1, hn0⟩ := hlt
      have hb : (j : Int) < (M : Int) := by omega
      have hb0 : (0 : Int) < (n : Int) := by omega
      obtain ⟨bs, hI⟩ := HI.out
      obtain ⟨g1, o1, p1, e1, hcap1, hcell1⟩ := (HF.out.1.old ((HB.out.trans HQ2.out.2.2.1).trans hI.hp.at'.base)).at (j := j) (by rw [HF.out.2.2]; exact hlt1)
      rw [HF.out.2.2] at e1 hcap1
      injection e1 with x1 x2 x3
      subst x1 x3
      have hkb := HF.out.2.1 j (by rw [HF.out.2.2]; exact hlt1)
      obtain ⟨x, hx⟩ : ∃ x, ks.getD j 0 = x := ⟨_, rfl⟩
      rw [hx] at hcell1 hkb
      obtain ⟨hx0, hx1⟩ := hkb
      have hn1 : ¬ (n : Int) = 0 := by omega
      have hmm : ¬ (n : Int) = -1 := by omega
      obtain ⟨r, hr⟩ : ∃ r : Nat, x % n = r := ⟨(x % n).toNat, by have := Int.emod_nonneg x hn1; omega⟩
      have hrm : r < n := by have := Int.emod_lt_of_pos x (show (0 : Int) < n by omega); omega
      have hrt : x.tmod n = r := by rw [Int.tmod_eq_emod_of_nonneg hx0]; exact hr
      have hrb : (r : Int) < (n : Int) := by omega
      have hwx : IntKind.i64.wrap x = x := IntWalk.i64_in _ (by omega)
      obtain ⟨g2, hg2, -, hvc⟩ := own_at hI.oa rfl HA.out.2 hrm
      have hym : all.getD r 0 ∈ all := by
        rw [List.getD_eq_getElem?_getD, List.getElem?_eq_getElem (by rw [HA.out.2]; exact hrm)]
        exact List.getElem_mem _
      obtain ⟨y, hy⟩ : ∃ y, all.getD r 0 = y := ⟨_, rfl⟩
      rw [hy] at hvc hym
      subst hg2
      have HX2 := Lib.hid (hI.add1 y hym)
      clear hI hx hr hy hym x2 HI
      go_wp2_with (go_at_call 63; fail)
      refine HX2.out.mono ?_
      rintro e w7 ⟨t, rfl, bs', h7⟩
      have H7 := Lib.hid h7
      clear h7
      go_wp2_with fail
      go_roundw
      case rel => exact ⟨j + 1, by omega, by go_num, bs', H7.out⟩
      case measure => simp [intOf]; omega
    · have hor : (¬ (j : Int) < (M : Int)) ∨ ((j : Int) < (M : Int) ∧ ¬ (0 : Int) < (n : Int)) := by omega
      clear hlt
      rcases hor with hb | ⟨hb, hb0⟩
      all_goals
        go_wp2_with fail
        go_loopw [16] (fun iv wr => ∃ j : Nat, j ≤ R ∧ iv = .int .i64 j ∧ Hid (∃ bs xs, FiI W1 A c H p p2 q (1 + r6) S w5.heap.size (.slice ao6 n cp6) all bs xs wr ∧ xs.length ≤ j)) (fun iv _ => R - (intOf iv).toNat)
        case atStart => exact ⟨0, Nat.zero_le _, rfl, by obtain ⟨bs, h⟩ := HI.out; exact ⟨bs, [], h, Nat.le_refl _⟩⟩
        case round =>
          clear HI e8
          obtain ⟨j, hj, rfl, HI⟩ := hrel
          obtain ⟨-, -, e9, -⟩ := HW1.out wr (by obtain ⟨bs, xs, h, -⟩ := HI.out; exact h.hp.at'.base)
          by_cases hlt : j < R ∧ 0 < n
          · obtain ⟨hlt1, hn0⟩ := hlt
            first
            | (exfalso; omega)
            | (have hb : (j : Int) < (R : Int) := by omega
               have hb0 : (0 : Int) < (n : Int) := by omega
               obtain ⟨bs, xs, hI, hxj⟩ := HI.out
               obtain ⟨g1, o1, p1, e1, hcap1, hcell1⟩ := (HX.out.1.old ((HB.out.trans HQ2.out.2.2.1).trans hI.hp.at'.base)).at (j := j) (by rw [HX.out.2.2]; exact hlt1)
               rw [HX.out.2.2] at e1 hcap1
               injection e1 with x1 x2 x3
               subst x1 x3
               have hkb := HX.out.2.1 j (by rw [HX.out.2.2]; exact hlt1)
               obtain ⟨x, hx⟩ : ∃ x, ls.getD j 0 = x := ⟨_, rfl⟩
               rw [hx] at hcell1 hkb
               obtain ⟨hx0, hx1⟩ := hkb
               have hn1 : ¬ (n : Int) = 0 := by omega
               have hmm : ¬ (n : Int) = -1 := by omega
               obtain ⟨r, hr⟩ : ∃ r : Nat, x % n = r := ⟨(x % n).toNat, by have := Int.emod_nonneg x hn1; omega⟩
               have hrm : r < n := by have := Int.emod_lt_of_pos x (show (0 : Int) < n by omega); omega
               have hrt : x.tmod n = r := by rw [Int.tmod_eq_emod_of_nonneg hx0]; exact hr
               have hrb : (r : Int) < (n : Int) := by omega
               have hwx : IntKind.i64.wrap x = x := IntWalk.i64_in _ (by omega)
               obtain ⟨g2, hg2, -, hvc⟩ := own_at hI.oa rfl HA.out.2 hrm
               have hym : all.getD r 0 ∈ all := by
                 rw [List.getD_eq_getElem?_getD, List.getElem?_eq_getElem (by rw [HA.out.2]; exact hrm)]
                 exact List.getElem_mem _
               obtain ⟨y, hy⟩ : ∃ y, all.getD r 0 = y := ⟨_, rfl⟩
               rw [hy] at hvc hym
               subst hg2
               have HX2 := Lib.hid (And.intro (hI.add2 y hym (by omega)) hxj)
               clear hI hx hr hy hym x2 HI hxj
               go_wp2_with (go_at_call 63; fail)
               refine HX2.out.1.mono ?_
               rintro e w7 ⟨t, rfl, h7⟩
               have H7 : Hid (∃ bs xs, FiI W1 A c H p p2 q (1 + r6) S w5.heap.size (.slice (some ⟨g2, 0, none⟩) n cp6) all bs xs w7 ∧ xs.length ≤ j + 1) := ⟨_, _, h7, by rw [List.length_append, List.length_singleton]; exact Nat.succ_le_succ HX2.out.2⟩
               clear h7
               go_wp2_with fail
               go_roundw
               case rel => exact ⟨j + 1, by omega, by go_num, H7.out⟩
               case measure => simp [intOf]; omega)
          · have hor : (¬ (j : Int) < (R : Int)) ∨ ((j : Int) < (R : Int) ∧ ¬ (0 : Int) < (n : Int)) := by omega
            clear hlt
            obtain ⟨bs, xs, hI, hxj⟩ := HI.out
            have hln := hI.oth
            obtain ⟨l, hl⟩ : ∃ l, xs.length = l := ⟨_, rfl⟩
            have hlc : Calls Tryz.prog 33 #[pt p2] wr fun e w' => e = .returned (.int .i64 l) ∧ wr = w' := by
              obtain ⟨u, h1, -⟩ := hln
              rw [← hl]
              exact buf_Len h1
            have HY := Lib.hid (And.intro hI (And.intro (show xs.length ≤ 40 by omega) (And.intro hl hlc)))
            clear hI hxj hln hl hlc HI
            rcases hor with hb | ⟨hb, hb0⟩
            all_goals
              go_wp2_with (go_at_call 33; fail)
              refine HY.out.2.2.2.mono ?_
              rintro e w7 ⟨rfl, rfl⟩
              by_cases hl0 : l = 0
              · subst hl0
                have HFx : Hid (FxI W1 A c H p q (1 + r6) S bs xs wr) := by
                  have h0 : xs = [] := List.length_eq_zero_iff.1 HY.out.2.2.1
                  have h1 := HY.out.1
                  subst h0
                  exact h1.fx0
                obtain ⟨-, -, -, -, e11⟩ := HW1.out (wr.alloc (Obj.cells #[.bool false] 121)) (HFx.out.hp.at'.base.alloc _)
                have hgg := fun w' (ht : Touch nob wr w') (f : Nat) (hf : wr.heap.size ≤ f) => HFx.out.flag (up := false) (f := f) ht hf
                have HGG := Lib.hid hgg
                clear hgg
                cases up
                · go_wp2
                  refine bodyPost_ret (results_four rfl _ _ _) rfl ?_
                  exact ⟨A, p, q, _, rfl, W1, S, H, bs, xs, HQ2.out.2.1, by rw [HR6.out]; exact HGG.out _ ((Touch.refl _ _).alloc _) _ (Nat.le_refl _) (World.alloc_heap_new _ _), by rw [HA.out.1]; exact HY.out.1.mb.1, by rw [HA.out.1]; exact HY.out.1.mb.2, HY.out.2.1, HP2.out.2⟩
                · go_wp2_with (go_at_call 44; fail)
                  have hG := HGG.out (wr.alloc (Obj.cells #[.bool false] 121)) ((Touch.refl _ _).alloc _) wr.heap.size (Nat.le_refl _) (World.alloc_heap_new _ _)
                  refine (flag_Raise _ false hG.fl).mono ?_
                  rintro e w8 ⟨rfl, t8, h8⟩
                  have H8 := Lib.hid (hG.raise t8 h8)
                  clear hG t8 h8
                  go_wp2
                  refine bodyPost_ret (results_four rfl _ _ _) rfl ?_
                  exact ⟨A, p, q, _, rfl, W1, S, H, bs, xs, HQ2.out.2.1, by rw [HR6.out]; exact H8.out, by rw [HA.out.1]; exact HY.out.1.mb.1, by rw [HA.out.1]; exact HY.out.1.mb.2, HY.out.2.1, HP2.out.2⟩
              · have hl1 : (0 : Int) < (l : Int) := by omega
                go_wp2_with (go_at_call 64; fail)
                obtain ⟨uo, ho1, -⟩ := HY.out.1.oth
                refine (box_Hand_ok ho1 HY.out.1.box).mono ?_
                rintro e w8 ⟨rfl, t8, u8, -, hb8, hs8⟩
                have HFx : Hid (FxI W1 A c H p q (1 + r6) S bs xs w8) := HY.out.1.fx1 t8 hb8 hs8
                clear ho1 t8 hb8 hs8 e9
                obtain ⟨-, -, -, -, e11⟩ := HW1.out (w8.alloc (Obj.cells #[.bool false] 121)) (HFx.out.hp.at'.base.alloc _)
                have hgg := fun w' (ht : Touch nob w8 w') (f : Nat) (hf : w8.heap.size ≤ f) => HFx.out.flag (up := false) (f := f) ht hf
                have HGG := Lib.hid hgg
                clear hgg
                cases up
                · go_wp2
                  refine bodyPost_ret (results_four rfl _ _ _) rfl ?_
                  exact ⟨A, p, q, _, rfl, W1, S, H, bs, xs, HQ2.out.2.1, by rw [HR6.out]; exact HGG.out _ ((Touch.refl _ _).alloc _) _ (Nat.le_refl _) (World.alloc_heap_new _ _), by rw [HA.out.1]; exact HY.out.1.mb.1, by rw [HA.out.1]; exact HY.out.1.mb.2, HY.out.2.1, HP2.out.2⟩
                · go_wp2_with (go_at_call 44; fail)
                  have hG := HGG.out (w8.alloc (Obj.cells #[.bool false] 121)) ((Touch.refl _ _).alloc _) w8.heap.size (Nat.le_refl _) (World.alloc_heap_new _ _)
                  refine (flag_Raise _ false hG.fl).mono ?_
                  rintro e w9 ⟨rfl, t9, h9⟩
                  have H9 := Lib.hid (hG.raise t9 h9)
                  clear hG t9 h9
                  go_wp2
                  refine bodyPost_ret (results_four rfl _ _ _) rfl ?_
                  exact ⟨A, p, q, _, rfl, W1, S, H, bs, xs, HQ2.out.2.1, by rw [HR6.out]; exact H9.out, by rw [HA.out.1]; exact HY.out.1.mb.1, by rw [HA.out.1]; exact HY.out.1.mb.2, HY.out.2.1, HP2.out.2⟩
end Go.Proofs.YtnobempbcdkoaaaGreatDoor
