/- Marking, walked: look, drain. Conditions: the tables of limits, of sizes and of de Bruijn's bits read as laid. -/
import Derived.Test.YtnobempbcdkoaaaGreatDoorMrp
namespace Go.Proofs.YtnobempbcdkoaaaGreatDoor
open Go.RowKit Go.Shelf
attribute [local go_sem] Oper.semAt_some

variable {W w w' : World} {A : HA} {c : Cf} {S : HS} {H : Nat → List Nat} {rt : List Int} {col room : Int} {B mk p : Nat} {v : Value} {s : MaS} {pend : Int → Prop}
/-- What came of a marker's call. -/
structure MaN (W : World) (A : HA) (c : Cf) (S : HS) (H : Nat → List Nat) (rt : List Int) (B mk p : Nat) (col room : Int) (w : World) (v : Value) (s : MaS) (pend : Int → Prop) (s' : MaS) (v' : Value) (w' : World) : Prop where
  t : Touch (MaO A mk p v) w w'
  sub : ∀ b, SkF p v' b → SkF p v b ∨ w.heap.size ≤ b
  i : MaI W A c S H B mk p col room s' v' w'
  k : MkS S c rt col room s' pend
  g : MaG S col s s'
theorem MaO.sub {v' : Value} {w : World} (h : ∀ b, SkF p v' b → SkF p v b ∨ w.heap.size ≤ b) : ∀ b, MaO A mk p v' b → MaO A mk p v b ∨ w.heap.size ≤ b := by
  rintro b (x | x | x)
  · exact .inl (.inl x)
  · exact .inl (.inr (.inl x))
  · exact (h b x).imp (fun y => .inr (.inr y)) id
theorem MaN.trans {w1 w2 : World} {v1 v2 : Value} {s1 s2 : MaS} {pend1 pend2 : Int → Prop} (h : MaN W A c S H rt B mk p col room w v s pend1 s1 v1 w1) (g : MaN W A c S H rt B mk p col room w1 v1 s1 pend2 s2 v2 w2) : MaN W A c S H rt B mk p col room w v s pend2 s2 v2 w2 :=
  ⟨h.t.step g.t (MaO.sub h.sub), fun b hb => (g.sub b hb).elim (fun x => h.sub b x) (fun x => .inr (Nat.le_trans h.t.size x)), g.i, g.k, h.g.trans g.g⟩
theorem MaI.lt (h : MaI W A c S H B mk p col room s v w) : ∀ b, MaO A mk p v b → b < w.heap.size := by
  rintro b (x | x | x | x)
  · exact h.hp.at'.lt b x
  · rw [x]; exact blk_lt h.mb
  · rw [x]; exact blk_lt h.sk.box
  · exact owns_lt h.sk.own x
/-- A heap's own steps, and a walk's. -/
theorem MaI.ab {X Y : World} {n : Nat} {O : Nat → Prop} (h : MaI W A c S H B mk p col room s v X) (hn : B ≤ n) (hO : ∀ j, O j ↔ MaO A mk p v j) (hab : AbE W A c S H n O X Y) : MaI W A c S H B mk p col room s v Y :=
  have hT : ∀ b, (b = mk ∨ SkF p v b) → ¬ ((n ≤ b ∧ ¬ O b) ∨ HT A b) := fun b hb x => by
    rcases x with x | x
    · exact x.2 ((hO b).2 (.inr hb))
    · have h1 := h.lo b x
      have h2 := h.hi
      rcases hb with rfl | hb
      · omega
      · have := (h.nb b hb).1; omega
  ⟨hab.2 (Nat.le_trans h.wB hn) (fun b hb => Nat.lt_of_lt_of_le (h.lo b hb) hn) _ h.hp, blk_touch h.mb hab.1 (hT mk (.inl rfl)), h.sk.touch hab.1 (fun b hb => hT b (.inr hb)), h.nb, h.lo, h.hi, h.wB⟩
/-- In a round of the range over what leads from an object. -/
structure LkI (W : World) (A : HA) (c : Cf) (S : HS) (H : Nat → List Nat) (rt : List Int) (B mk p : Nat) (col room : Int) (w : World) (v : Value) (s : MaS) (pend : Int → Prop) (pre : List (Int × Int)) (O : Nat → Prop) (s' : MaS) (v' : Value) (X : World) : Prop where
  n : MaN W A c S H rt B mk p col room w v s pend s' v' X
  o : ∀ j, O j ↔ MaO A mk p v' j
  ed : ∀ y ∈ pre.map Prod.snd, S.obj y = true → S.blk col s'.K y = true
  bx : X.heap[w.heap.size]? = some (Obj.cells #[.pointer (some ⟨mk, 0, none⟩)] 135)
def LkX (W : World) (A : HA) (c : Cf) (S : HS) (H : Nat → List Nat) (rt : List Int) (B mk p : Nat) (col room : Int) (w : World) (v : Value) (s : MaS) (pend : Int → Prop) (pre : List (Int × Int)) (O : Nat → Prop) (X : World) : Prop := ∃ s' v', LkI W A c S H rt B mk p col room w v s pend pre O s' v' X
theorem StackAt.kind {xs : List Int} {over : Bool} (h : StackAt w p (SkF p v) v xs room over) {b : Nat} {x : Value} (hb : w.heap[b]? = some (Obj.cells #[x] 135)) : ¬ SkF p v b := by
  rintro (rfl | hv)
  · have := hb.symm.trans h.box
    simp at this
  · rcases h.form with ⟨e, _⟩ | ⟨g, cap, e, _, _, hr⟩
    · rw [e] at hv; cases hv
    · rw [e] at hv
      obtain rfl : g = b := by cases hv; rfl
      obtain ⟨cur, h1, _⟩ := hr
      have := hb.symm.trans h1
      simp at this
theorem LkX.ab {n : Nat} {pre : List (Int × Int)} {O : Nat → Prop} {X Y : World} (hB : B ≤ n) (hBw : B ≤ w.heap.size) (hw : w.heap.size < n) (h : LkX W A c S H rt B mk p col room w v s pend pre O X) (hab : AbE W A c S H n O X Y) : LkX W A c S H rt B mk p col room w v s pend pre O Y := by
  obtain ⟨s', v', h1, h2, h3, h4⟩ := h
  exact ⟨s', v', ⟨h1.t.step hab.1 (fun b hb => hb.elim (fun x => .inr (Nat.le_trans (Nat.le_of_lt hw) x.1)) (fun x => .inl (.inl x))), h1.sub, h1.i.ab hB h2 hab, h1.k, h1.g⟩, h2, h3, blk_touch h4 hab.1 (fun x => x.elim (fun y => Nat.lt_irrefl _ (Nat.lt_of_lt_of_le hw y.1)) (fun y => by have := h1.i.lo _ y; omega))⟩
set_option maxRecDepth 20000 in
set_option maxHeartbeats 1600000 in
theorem mk_look (a : Int) (h : MaI W A c S H B mk p col room s v w) (hc : col = 0 ∨ col = 1) (hk : MkS S c rt col room s (fun x => x = a ∨ pend x)) (ha : S.blk col s.K a = true) :
    Calls Tryz.prog 82 #[.pointer (some ⟨mk, 0, none⟩), .int .i64 a] w fun e w' => e = .returned (.tuple #[]) ∧ ∃ s' v', MaN W A c S H rt B mk p col room w v s pend s' v' w' := by
  have hlen := HS.len_le h.hp.at'
  have hol : S.objs.length ≤ 1048577 := Nat.le_trans (@objs_len S) (by show S.s.ws.length + 1 ≤ _; exact Nat.succ_le_succ hlen)
  have HI := Lib.hid (And.intro h (And.intro hk (And.intro hc (And.intro ha hol))))
  have HBs : Hid (B ≤ w.heap.size) := Nat.le_trans h.hi (Nat.le_of_lt (blk_lt h.mb))
  obtain ⟨W0, hW0⟩ : ∃ W0, W0 = w.alloc (Obj.cells #[.pointer (some ⟨mk, 0, none⟩)] 135) := ⟨_, rfl⟩
  have t0 : Touch nob w W0 := by rw [hW0]; (repeat (first | with_reducible exact Touch.refl _ _ | with_reducible assumption | with_reducible apply Touch.alloc | with_reducible apply Touch.drewN | with_reducible apply Touch.drew | with_reducible refine Touch.setCell ?_ (.inr (by first | omega | (simp; done) | (simp; omega))) _))
  have b0 : W0.heap[w.heap.size]? = some (Obj.cells #[.pointer (some ⟨mk, 0, none⟩)] 135) := by rw [hW0]; exact World.alloc_heap_new w _
  have hcell : W0.cell? ⟨mk, 0, none⟩ = some (.pointer (some ⟨A.h, 0, none⟩)) := by have := (h.old t0).mb; simp [World.cell?, this]
  have H0 := Lib.hid (And.intro t0 b0)
  clear h hk hc ha hlen hol t0 b0
  refine (callsIn_wide (n := 0)).1 (callsIn_of_wp_marks Tryz.func82 rfl trivial ?_ rfl)
  simp only [Tryz.ntmps82, List.size_toArray, List.length_cons, List.length_nil, Nat.reduceAdd, Nat.reduceSub, Array.replicate_succ, Array.replicate_zero, List.push_toArray, List.append_toArray, List.nil_append, List.cons_append]
  rw [hW0] at hcell
  gi_wp2_with fail
  rw [← hW0]
  clear hW0 hcell
  refine ⟨trivial, rfl, ?_⟩
  refine (callsIn_wide.2 (trace_Edges W0 _ a)).mono ?_
  rintro e W1 ⟨be, rfl, t1, hbe, e1, e2⟩
  have hi1 := HI.out.1.old (H0.out.1.trans t1)
  have hle : w.heap.size ≤ W0.heap.size := H0.out.1.size
  have hnA : ∀ b, W0.heap.size ≤ b → b ∉ A.all := fun b hb hm => by have := HI.out.1.lo b hm; have := HBs.out; omega
  have hit0 := ed_iter be (be + 1) a hi1.hp e1 e2 ⟨hnA be hbe, hnA (be + 1) (by omega)⟩
  have hit : Iter Tryz.prog 56 #[.pointer (some ⟨be, 0, none⟩), .pointer (some ⟨be + 1, 0, none⟩)] (fun p : Int × Int => #[.int .i64 p.1, .int .i64 p.2]) (AbE W A c S H) (KpE W A c S H) (edL S c a) (fun j => j = be ∨ j = be + 1) W1 := hit0
  have H1 := Lib.hid (And.intro hi1 (And.intro hit (And.intro (H0.out.1.trans t1) (And.intro (show W0.heap.size ≤ be ∧ be + 1 < W1.heap.size ∧ B ≤ W1.heap.size from ⟨hbe, blk_lt e2, Nat.le_trans HBs.out (Nat.le_trans hle t1.size)⟩) (blk_touch H0.out.2 t1 (fun x => x))))))
  clear t1 hbe e1 e2 hi1 hle hnA hit hit0
  gi_wp2_with fail
  refine rf_law1G ?a1 (O₀ := MaO A mk p v) rfl (enters_of Tryz.func56 (by kernel_rfl) rfl) H1.out.2.1 (fun _ => rfl) (fun n O X Y _ => abE_T n O X Y) abE_M (abE_O (fun b hb => Nat.lt_of_lt_of_le (H1.out.1.lo b hb) H1.out.2.2.2.1.2.2)) (kpE_K (Nat.le_trans H1.out.1.wB H1.out.2.2.2.1.2.2) (fun b hb => Nat.lt_of_lt_of_le (H1.out.1.lo b hb) H1.out.2.2.2.1.2.2)) (LkX W A c S H rt B mk p col room w v s (fun x => x = a ∨ pend x)) (fun _ _ _ _ => False) ?pr ?o0 ?hI (fun _ _ _ _ _ h _ => h) ?h0 ?assign ?body ?done ?stop
  case pr =>
    obtain ⟨l1, l2, l3⟩ := H1.out.2.2.2.1
    have hlt := HI.out.1.lt
    have hle := H0.out.1.size
    rintro b (rfl | rfl)
    · exact ⟨by omega, fun x => by have := hlt _ x; omega⟩
    · exact ⟨l2, fun x => by have := hlt _ x; omega⟩
  case o0 => exact fun b hb => H1.out.1.lt b hb
  case hI =>
    intro pre O X Y h hab
    exact h.ab H1.out.2.2.2.1.2.2 HBs.out (by have h1 := H1.out.2.2.2.1; have := H0.out.1.size; omega) hab
  case h0 => exact ⟨s, v, ⟨H1.out.2.2.1.mono fun _ _ x => x.elim, fun b hb => .inl hb, H1.out.1, HI.out.2.1, MaG.refl⟩, fun j => Iff.rfl, fun y hy => absurd hy (by simp), H1.out.2.2.2.2⟩
  case assign =>
    intro l x2 X K hK
    gi_wp2
    exact hK
  case body =>
    rintro l pre ⟨fi, y⟩ O X ⟨s', v', i1, i2, i3, i4⟩ hpre
    have hbm := one_cell i4
    have hn := i1.k.n_le
    have hpt := mk_paint y i1.i HI.out.2.2.1 (by have := HI.out.2.2.2.2; omega)
    have hedge : y ∈ edT S c a := by
      obtain ⟨r, hr⟩ := hpre
      unfold edT
      rw [← hr]
      simp
    have hry : S.obj y = true → Rch S c rt y := fun ho => Rch.step (HI.out.2.1.sr a HI.out.2.2.2.1) hedge ho
    have HB := Lib.hid (And.intro i1 (And.intro i2 (And.intro i3 (And.intro hpt hry))))
    clear i1 i2 i3 hn hpt hedge hry hpre
    have HX : Hid (∀ X', Touch (MaO A mk p v') X X' → X'.heap[w.heap.size]? = some (Obj.cells #[.pointer (some ⟨mk, 0, none⟩)] 135)) := fun X' ht => blk_touch i4 ht (fun x => by
      rcases x with x | x | x
      · have := HI.out.1.lo _ x; have := HBs.out; omega
      · have := blk_lt HI.out.1.mb; omega
      · exact (HB.out.1.i.sk.kind i4) x)
    clear i4
    gi_wp2_with fail
    refine ⟨trivial, rfl, ?_⟩
    refine (CallsIn.inRound l (callsIn_wide.2 HB.out.2.2.2.1)).mono ?_
    rintro e X3 ⟨rfl, v3, t3, sub3, m3⟩
    have H3 := Lib.hid (And.intro t3 (And.intro sub3 m3))
    clear t3 sub3 m3 hbm
    gi_wp2_with fail
    obtain ⟨i1, i2, i3, -, hry⟩ := HB.out
    obtain ⟨t3, sub3, m3⟩ := H3.out
    refine ⟨MaO A mk p v3, t3.mono (fun b _ hb => (i2 b).2 hb), fun b hb => ?_, fun K hK => ⟨_, m3.hp⟩, s'.pt S col room y, v3, ⟨i1.t.step t3 (MaO.sub i1.sub), fun b hb => (sub3 b hb).elim (fun x => i1.sub b x) (fun x => .inr (Nat.le_trans i1.t.size x)), m3, i1.k.pt HI.out.2.2.1 hry, i1.g.trans (MaG.pt HI.out.2.2.1)⟩, fun j => Iff.rfl, fun z hz ho => ?_, HX.out _ t3⟩
    · rcases MaO.sub sub3 b hb with x | x
      · exact .inl ((i2 b).2 x)
      · exact .inr ⟨x, m3.lt b hb⟩
    · rw [List.map_append, List.mem_append] at hz
      rcases hz with hz | hz
      · exact pt_up HI.out.2.2.1 (i3 z hz ho)
      · obtain rfl : z = y := by simpa using hz
        exact pt_in HI.out.2.2.1 ho
  case done =>
    rintro D O X hD hO ⟨s', v', i1, i2, i3, i4⟩ hK
    have HB := Lib.hid (And.intro i1 (And.intro i2 (And.intro i3 (And.intro hK (And.intro hD hO)))))
    clear i4
    clear i1 i2 i3 hK hD hO
    gi_wp2
    obtain ⟨i1, i2, i3, hK, hD, hO⟩ := HB.out
    refine ⟨by simp, .inl ⟨_, _, rfl, run_takeDeferred hK, ?_⟩⟩
    refine ⟨.tuple #[], by simp [results, Tryz.f82, go_sem], rfl, s', v', ?_⟩
    have ht : Touch (fun k => k = D) X (X.putObj D (.deferred none)) := (Touch.refl (fun k => k = D) X).putObj (.inl rfl) _
    have hDn : ¬ MaO A mk p v' D := fun x => hO ((i2 D).2 x)
    have hwD : w.heap.size ≤ D := Nat.le_trans H1.out.2.2.1.size hD
    have hm : MaI W A c S H B mk p col room s' v' (X.putObj D (.deferred none)) := by
      refine ⟨i1.i.hp.touch (i1.i.hp.at'.base.step ht (fun b hb => .inr (by have hb : b = D := hb; have h1 := i1.i.wB; have h2 := HBs.out; omega))) ht (fun b hb x => hDn (.inl ((show b = D from x) ▸ hb))), blk_touch i1.i.mb ht (fun x => hDn (.inr (.inl (show mk = D from x).symm))), i1.i.sk.touch ht (fun b hb x => hDn (.inr (.inr ((show b = D from x) ▸ hb)))), i1.i.nb, i1.i.lo, i1.i.hi, i1.i.wB⟩
    exact ⟨i1.t.step ht (fun b hb => .inr (by have hb : b = D := hb; omega)), i1.sub, hm, MarI.looked i1.k (fun _ h => h) (fun _ y hy ho => i3 y hy ho), i1.g⟩
  case stop =>
    rintro D c pre O X hD hO hpre h hK
    exact h.elim
end Go.Proofs.YtnobempbcdkoaaaGreatDoor
