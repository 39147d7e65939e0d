/- The edges of a heap, as the document has them: law16.Of, walked. Conditions: none beyond what each says. -/
import Derived.Test.YtnobempbcdkoaaaGreatDoorTrc
import Derived.Test.YtnobempbcdkoaaaGreatDoorHpP
import Derived.Test.YtnobempbcdkoaaaGreatDoorSm1
import Derived.Maps.AppendAt
import Derived.BigRegion
namespace Go.Proofs.YtnobempbcdkoaaaGreatDoor
open Go.RowKit Go.Shelf
attribute [local go_sem] Oper.semAt_some
attribute [local go_sem ↓ high] builtin_appd

variable {W w w' : World} {A : HA} {c : Cf} {S : HS} {H : Nat → List Nat}
theorem ldE_obj (hi : HInv c S H) {x : Int} (ho : S.obj x = true) {f : Int} (hf : 0 ≤ f ∧ f < S.flds x) : S.ldE c x f = 0 := by
  obtain ⟨ow, fr, bg⟩ := hi.obj_own ho
  obtain ⟨j, k, e, hj, _, _, ho'⟩ := hi.slot_of ow
  subst e
  obtain ⟨mf, rfl⟩ := Int.eq_ofNat_of_zero_le hf.1
  obtain ⟨hin, hlt⟩ := hi.flds_in ho' bg (i := mf) (by omega)
  have hE : S.objE c ((j : Int) + 1) = 0 := by
    unfold HS.objE HS.may
    rw [if_neg (by omega), ho]
    rfl
  unfold HS.ldE
  rw [if_pos hE, if_pos hf]
  exact atE_ok (by omega) (by omega)
theorem fldV_obj (hi : HInv c S H) {x : Int} (ho : S.obj x = true) : S.objE c x = 0 ∧ S.fldV c x = S.flds x := by
  obtain ⟨ow, fr, bg⟩ := hi.obj_own ho
  obtain ⟨j, k, e, hj, _, _, ho'⟩ := hi.slot_of ow
  have hE : S.objE c x = 0 := by
    unfold HS.objE HS.may
    rw [if_neg (by omega), ho]
    rfl
  exact ⟨hE, by unfold HS.fldV; rw [if_pos hE]⟩
/-- Edges that lie in memory, in rows of their own from a block on. -/
structure EgAt (w : World) (B : Nat) (va vt : Value) (zs : List Int) (ts : List (List Int)) (tvs : List Value) : Prop where
  a : Ow w B va zs
  tl : ts.length = zs.length
  vl : tvs.length = zs.length
  t : w.ownsRow B 28 1 vt zs.length tvs
  e : ∀ j, j < ts.length → Ow w B (tvs.getD j .nilFunc) (ts.getD j [])
  d : ∀ j, j < ts.length → ∀ g, (tvs.getD j .nilFunc).ownBlock = some g → va.ownBlock ≠ some g
theorem ownsL_touch {T : Nat → Prop} {B n : Nat} {v : Value} {vs : List Value} {t : TypeId} (h : w.ownsRow B t 1 v n vs) (ht : Touch T w w') (hn : ∀ g, v.ownBlock = some g → ¬ T g) : w'.ownsRow B t 1 v n vs := owns_touch h ht hn
theorem EgAt.touch {T : Nat → Prop} {B : Nat} {va vt : Value} {zs : List Int} {ts : List (List Int)} {tvs : List Value} (h : EgAt w B va vt zs ts tvs) (ht : Touch T w w') (hT : ∀ b, T b → b < B) : EgAt w' B va vt zs ts tvs :=
  have hn : ∀ {v : Value} {n : Nat} {vs : List Value} {t : TypeId}, w.ownsRow B t 1 v n vs → ∀ g, v.ownBlock = some g → ¬ T g := fun h g hg x => by
    have h1 := (World.ownsRow.lt h g hg).1
    have h2 := hT g x
    omega
  ⟨h.a.touch ht (fun g hg => hn h.a g hg), h.tl, h.vl, owns_touch h.t ht (hn h.t), fun j hj => (h.e j hj).touch ht (fun g hg => hn (h.e j hj) g hg), h.d⟩
theorem owns_base {B B' n : Nat} {v : Value} {vs : List Value} {t : TypeId} (h : w.ownsRow B t 1 v n vs) (hb : B' ≤ B) : w.ownsRow B' t 1 v n vs :=
  ⟨h.1, h.2.imp id fun ⟨g, c, cur, e, hg, r⟩ => ⟨g, c, cur, e, Nat.le_trans hb hg, r⟩⟩
theorem EgAt.base {B B' : Nat} {va vt : Value} {zs : List Int} {ts : List (List Int)} {tvs : List Value} (h : EgAt w B va vt zs ts tvs) (hb : B' ≤ B) : EgAt w B' va vt zs ts tvs :=
  ⟨h.a.base hb, h.tl, h.vl, owns_base h.t hb, fun j hj => (h.e j hj).base hb, h.d⟩
/-- While edges are told: i objects are done. -/
structure OfI (W : World) (A : HA) (c : Cf) (S : HS) (H : Nat → List Nat) (w : World) (b2 b3 : Nat) (vl : Value) (i : Nat) (va vt : Value) (tvs : List Value) (wr : World) : Prop where
  hp : HpI W wr A c S H
  t : Touch (HT A) w wr
  x2 : wr.heap[b2]? = some (Obj.cells #[.slice none 0 0, .slice none 0 0] 41)
  x3 : wr.heap[b3]? = some (Obj.cells #[va, vt] 41)
  eg : EgAt wr (b3 + 1) va vt (S.objs.take i) ((S.objs.take i).map (edT S c)) tvs
  l : Ow wr w.heap.size vl S.objs
  ll : ∀ g, vl.ownBlock = some g → va.ownBlock ≠ some g
  lo : w.heap.size ≤ b2 ∧ b2 < b3
theorem OfI.heap {b2 b3 i : Nat} {vl va vt : Value} {tvs : List Value} {wr w2 : World} (h : OfI W A c S H w b2 b3 vl i va vt tvs wr) (hA : ∀ b ∈ A.all, b < w.heap.size) (ht : Touch (HT A) wr w2) (hp : HpI W w2 A c S H) : OfI W A c S H w b2 b3 vl i va vt tvs w2 :=
  have hn : ∀ b, w.heap.size ≤ b → ¬ HT A b := fun b hb hm => Nat.lt_irrefl _ (Nat.lt_of_lt_of_le (hA b hm) hb)
  ⟨hp, h.t.trans ht, blk_touch h.x2 ht (hn _ h.lo.1), blk_touch h.x3 ht (hn _ (Nat.le_trans h.lo.1 (Nat.le_of_lt h.lo.2))), h.eg.touch ht (fun b hb => by have := hA b hb; have := h.lo; omega), h.l.touch ht (fun g hg => hn g (h.l.new g hg)), h.ll, h.lo⟩
theorem info_sl : (Tryz.prog.info? 28).map (fun i => (i.zero, i.size, i.bytes)) = some (some (.slice none 0 0), 1, 24) := by kernel_rfl
theorem ow_hpO {B : Nat} {v : Value} {xs : List Int} (h : Ow w B v xs) (ht : Touch (HT A) w w') (hA : ∀ b ∈ A.all, b < B) : Ow w' B v xs :=
  h.touch ht (fun g hg hm => by
    have h1 := hA g hm
    have h2 := h.new g hg
    omega)
theorem rows_ne {B1 B2 n1 n2 : Nat} {v1 v2 : Value} {l1 l2 : List Value} {t1 t2 : TypeId} (h1 : w.ownsRow B1 t1 1 v1 n1 l1) (h2 : w.ownsRow B2 t2 1 v2 n2 l2) (ht : t1 ≠ t2) {g : Nat} (e1 : v1.ownBlock = some g) : v2.ownBlock ≠ some g := fun e2 => by
  rcases h1.2 with ⟨e, _⟩ | ⟨g1, c1, cur1, e, _, hh1, _⟩
  · rw [e] at e1; cases e1
  · rcases h2.2 with ⟨e', _⟩ | ⟨g2, c2, cur2, e', _, hh2, _⟩
    · rw [e'] at e2; cases e2
    · rw [e] at e1
      rw [e'] at e2
      obtain rfl : g1 = g := by cases e1; rfl
      obtain rfl : g2 = g1 := by cases e2; rfl
      have := hh1.symm.trans hh2
      simp at this
      exact ht this.2
theorem getD_appL {α : Type} {l m : List α} {j : Nat} {d : α} (h : j < l.length) : (l ++ m).getD j d = l.getD j d := by
  simp [List.getD_eq_getElem?_getD, List.getElem?_append_left h]
theorem getD_appR {α : Type} {l m : List α} {j : Nat} {d : α} (h : l.length ≤ j) : (l ++ m).getD j d = m.getD (j - l.length) d := by
  simp [List.getD_eq_getElem?_getD, List.getElem?_append_right h]
theorem own_kind {B n : Nat} {v : Value} {l : List Value} {t : TypeId} (h : w.ownsRow B t 1 v n l) {g : Nat} (e : v.ownBlock = some g) : ∃ cur, w.heap[g]? = some (Obj.cells cur t) := by
  rcases h.2 with ⟨e', _⟩ | ⟨g1, c1, cur1, e', _, hh1, _⟩
  · rw [e'] at e; cases e
  · rw [e'] at e
    obtain rfl : g1 = g := by cases e; rfl
    exact ⟨_, hh1⟩
/-- One object's edges are laid behind the others. -/
theorem OfI.push {b2 b3 i : Nat} {vl va vt v1 v2 vo : Value} {tvs : List Value} {wr w2 : World} {x : Int} {b : Nat} (h : OfI W A c S H w b2 b3 vl i va vt tvs wr) (hA : ∀ b ∈ A.all, b < w.heap.size) (hwW : W.heap.size ≤ w.heap.size) (htk : S.objs.take (i + 1) = S.objs.take i ++ [x])
    (ho : Ow wr b vo (edT S c x)) (hb : b3 + 1 ≤ b ∧ b ≤ wr.heap.size) (hva : ∀ g, va.ownBlock = some g → g < b)
    (ht : Touch (fun k => k = b3 ∨ va.ownBlock = some k ∨ vt.ownBlock = some k) wr w2) (h1 : Ow w2 (b3 + 1) v1 (S.objs.take i ++ [x])) (h2 : w2.ownsRow (b3 + 1) 28 1 v2 (tvs.length + 1) (tvs ++ [vo])) (h3 : w2.heap[b3]? = some (Obj.cells #[v1, v2] 41))
    (hat : v1.ownBlock = va.ownBlock ∨ ∀ g, v1.ownBlock = some g → wr.heap.size ≤ g) : OfI W A c S H w b2 b3 vl (i + 1) v1 v2 (tvs ++ [vo]) w2 := by
  have lo := h.lo
  have ea := h.eg.a.new
  have et := fun g hg => (World.ownsRow.lt h.eg.t g hg).1
  have hT : ∀ k, (k = b3 ∨ va.ownBlock = some k ∨ vt.ownBlock = some k) → b3 ≤ k := fun k hk => by
    rcases hk with rfl | hk | hk
    · omega
    · have := ea k hk; omega
    · have := et k hk; omega
  have hil : (S.objs.take i).length = tvs.length := h.eg.vl.symm
  refine ⟨h.hp.touch (h.hp.at'.base.step ht (fun k hk => .inr (by have := hT k hk; omega))) ht (fun k hk x => by have := hT k x; have := hA k hk; omega), h.t.step ht (fun k hk => .inr (by have := hT k hk; omega)), blk_touch h.x2 ht (fun x => by have := hT b2 x; omega), h3, ?_, h.l.touch ht (fun g hg x => ?_), fun g hg e => ?_, lo⟩
  · rw [htk]
    refine ⟨h1, by simp, by simp [hil], by rw [List.length_append, hil]; exact h2, fun j hj => ?_, fun j hj g hg e => ?_⟩
    · rw [List.length_map, List.length_append, List.length_singleton, hil] at hj
      rw [List.map_append, List.map_singleton]
      by_cases hji : j < tvs.length
      · rw [getD_appL hji, getD_appL (by rw [List.length_map, hil]; exact hji)]
        have hj' : j < ((S.objs.take i).map (edT S c)).length := by rw [List.length_map, hil]; exact hji
        refine (h.eg.e j hj').touch ht (fun g hg x => ?_)
        rcases x with rfl | x | x
        · have := (h.eg.e j hj').new _ hg; omega
        · exact h.eg.d j hj' g hg x
        · exact rows_ne (h.eg.e j hj') h.eg.t (by decide) hg x
      · obtain rfl : j = tvs.length := by omega
        rw [getD_appR (Nat.le_refl _), getD_appR (by rw [List.length_map, hil]; exact Nat.le_refl _)]
        rw [List.length_map, hil, Nat.sub_self]
        refine (ho.base hb.1).touch ht (fun g hg x => ?_)
        have hgb := ho.new g hg
        rcases x with rfl | x | x
        · omega
        · have := hva g x; omega
        · exact rows_ne ho h.eg.t (by decide) hg x
    · rw [List.length_map, List.length_append, List.length_singleton, hil] at hj
      by_cases hji : j < tvs.length
      · rw [getD_appL hji] at hg
        have hj' : j < ((S.objs.take i).map (edT S c)).length := by rw [List.length_map, hil]; exact hji
        rcases hat with ha | ha
        · rw [ha] at e; exact h.eg.d j hj' g hg e
        · have := ha g e; have := (h.eg.e j hj').old g hg; omega
      · obtain rfl : j = tvs.length := by omega
        rw [getD_appR (Nat.le_refl _), Nat.sub_self] at hg
        have hg : vo.ownBlock = some g := hg
        rcases hat with ha | ha
        · rw [ha] at e; have := hva g e; have := ho.new g hg; omega
        · have := ha g e; have := ho.old g hg; omega
  · rcases x with rfl | x | x
    · obtain ⟨cur, hk⟩ := own_kind h.l hg
      have := hk.symm.trans h.x3
      simp at this
    · exact h.ll g hg x
    · exact rows_ne h.l h.eg.t (by decide) hg x
  · rcases hat with ha | ha
    · rw [ha] at e; exact h.ll g hg e
    · have := ha g e; have := h.l.old g hg; omega
set_option maxRecDepth 20000 in
set_option maxHeartbeats 4000000 in
theorem law16_Of (h : HpI W w A c S H) (hT : Tab W) (hol : S.objs.length ≤ 4000) :
    Calls Tryz.prog 20 #[.pointer (some ⟨A.h, 0, none⟩)] w fun e w' => ∃ va vt tvs, e = .returned (.agg #[va, vt]) ∧ Touch (HT A) w w' ∧ HpI W w' A c S H ∧ EgAt w' w.heap.size va vt S.objs (S.objs.map (edT S c)) tvs := by
  have HH := Lib.hid (And.intro h (And.intro (hT.touch h.at'.base (fun x => x)) h.at'.lt))
  obtain ⟨W0, hW0⟩ : ∃ W0, W0 = (w.alloc (Obj.cells #[.slice none 0 0, .slice none 0 0] 41)).alloc (Obj.cells #[.slice none 0 0, .slice none 0 0] 41) := ⟨_, rfl⟩
  have t0 : Touch nob w W0 := by rw [hW0]; (repeat (first | with_reducible exact Touch.refl _ _ | with_reducible assumption | with_reducible apply Touch.alloc | with_reducible apply Touch.drewN | with_reducible apply Touch.drew | with_reducible refine Touch.setCell ?_ (.inr (by first | omega | (simp; done) | (simp; omega))) _))
  have x2 : W0.heap[w.heap.size]? = some (Obj.cells #[.slice none 0 0, .slice none 0 0] 41) := by rw [hW0]; exact alloc2_0 w _ _
  have x3 : W0.heap[w.heap.size + 1]? = some (Obj.cells #[.slice none 0 0, .slice none 0 0] 41) := by rw [hW0]; exact alloc2_1 w _ _
  have H0 := Lib.hid (And.intro t0 (And.intro x2 x3))
  clear h hT t0 x2 x3
  go_enter Tryz.func20, Tryz.ntmps20
  go_wp2_with (go_at_call 19; fail)
  rw [← hW0]
  obtain ⟨b2, hb2⟩ : ∃ b, b = w.heap.size := ⟨_, rfl⟩
  rw [← hb2]
  clear hW0
  refine (hp_Objects (HH.out.1.old H0.out.1) (HH.out.2.1.touch H0.out.1 (fun x => x))).mono ?_
  rintro e w1 ⟨vl, rfl, t1, h1, o1⟩
  obtain ⟨ao, cp, rfl⟩ := o1.ints.shape
  have hI : OfI W A c S H w b2 (b2 + 1) (.slice ao S.objs.length cp) 0 (.slice none 0 0) (.slice none 0 0) [] w1 := by
    have hA := HH.out.2.2
    have hn : ∀ b, w.heap.size ≤ b → ¬ HT A b := fun b hb hm => Nat.lt_irrefl _ (Nat.lt_of_lt_of_le (hA b hm) hb)
    refine ⟨h1, H0.out.1.hnob.trans t1, ?_, ?_, ⟨World.ownsRow_nil _ _ _ _, rfl, rfl, World.ownsRow_nil _ _ _ _, fun j hj => by simp at hj, fun j hj => by simp at hj⟩, o1.base H0.out.1.size, fun g _ e => (by cases e), by omega⟩
    · rw [hb2]; exact blk_touch H0.out.2.1 t1 (hn _ (Nat.le_refl _))
    · rw [hb2]; exact blk_touch H0.out.2.2 t1 (hn _ (Nat.le_succ _))
  obtain ⟨n, hn⟩ : ∃ n, S.objs.length = n := ⟨_, rfl⟩
  rw [hn] at hI hol ⊢
  have H1 := Lib.hid hI
  have HN := Lib.hid (And.intro hn hb2)
  clear t1 h1 o1 hI hn hb2
  go_wp2_with fail
  go_loopw [5] (fun iv wr => ∃ i : Nat, i ≤ n ∧ iv = .int .i64 i ∧ Hid (∃ va vt tvs, OfI W A c S H w b2 (b2 + 1) (.slice ao n cp) i va vt tvs wr)) (fun iv _ => n - (intOf iv).toNat)
  case atStart => exact ⟨0, Nat.zero_le _, rfl, _, _, _, H1.out⟩
  case round =>
    obtain ⟨i, hi, rfl, HI⟩ := hrel
    clear H1
    by_cases hlt : i < n
    · have hb0 : (i : Int) < (n : Int) := by omega
      obtain ⟨va, vt, tvs, hI⟩ := HI.out
      obtain ⟨g, rfl, hcap, hcell⟩ := own_at hI.l rfl HN.out.1 hlt
      obtain ⟨x, hx⟩ : ∃ x, S.objs.getD i 0 = x := ⟨_, rfl⟩
      rw [hx] at hcell
      have hil : i < S.objs.length := by rw [HN.out.1]; exact hlt
      have ho : S.obj x = true := mem_objs.1 (by rw [← hx, List.getD_eq_getElem?_getD, List.getElem?_eq_getElem hil]; exact List.getElem_mem hil)
      have htk : S.objs.take (i + 1) = S.objs.take i ++ [x] := by rw [take_succ_getD hil, hx]
      obtain ⟨hE, hF⟩ := fldV_obj hI.hp.inv ho
      have hfb := fldV_bd S c x
      obtain ⟨m, hm⟩ := Int.eq_ofNat_of_zero_le hfb.1
      have hfl := hp_Fields x hI.hp
      rw [hE, hm] at hfl
      have HX := Lib.hid (And.intro hI (And.intro ho (And.intro htk (And.intro hfl (And.intro (show S.flds x = (m : Int) by rw [← hF, hm]) hm)))))
      have hm2 : m < 256 := by omega
      clear hI hx hil ho htk hE hF hfb hm hfl HI
      go_wp2_with (go_at_call 49; fail)
      refine HX.out.2.2.2.1.mono ?_
      rintro e w3 ⟨rfl, t3, h3⟩
      have H3 : Hid (OfI W A c S H w b2 (b2 + 1) (.slice (some ⟨g, 0, none⟩) n cp) i va vt tvs w3) := HX.out.1.heap HH.out.2.2 t3 h3
      clear t3 h3 hcell
      go_wp2_with fail
      obtain ⟨i0, hi0, hz0, hz1', hz2⟩ := info_parts info_int2
      go_loopw [8, 9] (fun tv kv wr2 => ∃ k : Nat, k ≤ m ∧ kv = .int .i64 k ∧ Hid (HpI W wr2 A c S H ∧ Touch (HT A) w3 wr2 ∧ Ow wr2 w3.heap.size tv ((edR S c x k).map Prod.snd))) (fun _ kv _ => m - (intOf kv).toNat)
      case atStart => exact ⟨0, Nat.zero_le _, rfl, H3.out.hp, Touch.refl _ _, World.ownsRow_nil _ _ _ _⟩
      case round =>
        obtain ⟨k, hk, rfl, HK⟩ := hrel
        have hOk := H3.out.heap HH.out.2.2 HK.out.2.1 HK.out.1
        obtain ⟨g', e', hcap', hcell⟩ := own_at hOk.l rfl HN.out.1 hlt
        obtain rfl : g = g' := by cases e'; rfl
        have hxi : S.objs.getD i 0 = x := by
          have h1 := HX.out.2.2.1
          have hil : i < S.objs.length := by rw [HN.out.1]; exact hlt
          rw [take_succ_getD hil] at h1
          have := List.append_cancel_left h1
          simpa using this
        rw [hxi] at hcell
        clear e' hxi
        by_cases hkm : k < m
        · have hbk : (k : Int) < (m : Int) := by omega
          have hld := hp_Load x k HK.out.1
          rw [ldE_obj HK.out.1.inv HX.out.2.1 (f := k) ⟨by omega, by rw [HX.out.2.2.2.2.1]; exact hbk⟩] at hld
          obtain ⟨V, hV⟩ : ∃ V, S.ldV c x k = V := ⟨_, rfl⟩
          rw [hV] at hld
          have HLd := Lib.hid hld
          have HV := Lib.hid hV
          clear hld hV hOk
          by_cases hv0 : V = 0
          · subst hv0
            go_wp2_with (go_at_call 25; fail)
            refine HLd.out.mono ?_
            rintro e w4 ⟨rfl, t4, h4⟩
            have H4 : Hid (HpI W w4 A c S H ∧ Touch (HT A) w3 w4 ∧ Ow w4 w3.heap.size u8 ((edR S c x (k + 1)).map Prod.snd)) := by
              refine ⟨h4, HK.out.2.1.trans t4, ?_⟩
              rw [edR_succ, HV.out, if_pos rfl, List.append_nil]
              exact ow_hpO HK.out.2.2 t4 (fun b hb => Nat.lt_of_lt_of_le (HH.out.2.2 b hb) H3.out.t.size)
            clear t4 h4
            go_wp2
            go_roundw
            case rel => exact ⟨k + 1, by omega, by go_num, H4⟩
            case measure => simp [intOf]; omega
          · have hvb : (V != 0) = true := by simpa using hv0
            have hel : ((edR S c x k).map Prod.snd).length ≤ 256 := by
              have h1 : (edR S c x k).length ≤ k := by
                unfold edR
                have := List.length_filter_le (fun p : Int × Int => decide (p.2 ≠ 0)) ((List.range k).map fun (i : Nat) => ((i : Int), S.ldV c x i))
                simpa using this
              rw [List.length_map]; omega
            obtain ⟨z, hz⟩ : ∃ z, ((edR S c x k).map Prod.snd).length = z := ⟨_, rfl⟩
            go_wp2_with (go_at_call 25; fail)
            refine HLd.out.mono ?_
            rintro e w4 ⟨rfl, t4, h4⟩
            have ho4 := ow_hpO HK.out.2.2 t4 (fun b hb => Nat.lt_of_lt_of_le (HH.out.2.2 b hb) H3.out.t.size)
            have hown : w4.ownsRow w3.heap.size 3 1 u8 z (((edR S c x k).map Prod.snd).map (.int .i64)) := by
              unfold Ow at ho4
              rwa [hz] at ho4
            have H4 := Lib.hid (And.intro h4 (And.intro (HK.out.2.1.trans t4) (And.intro hown hz)))
            have hs4 : Hid (w3.heap.size ≤ w4.heap.size) := (HK.out.2.1.trans t4).size
            rw [hz] at hel
            clear t4 h4 ho4 hown hz hv0
            go_wp2_with (at_builtin; go_loud (refine wpList_append_own _ rfl _ _ 28 rfl w3.heap.size 3 i0 (.int .i64 0) 1 8 Tryz.underlying28 hi0 hz0 hz1' hz2 rfl (by decide) _ z _ rfl (H4.out.2.2.1.alloc _) ⟨w4.heap.size, 0, none⟩ 1 1 [.int .i64 V] rfl rfl (World.news_of_block (World.alloc_heap_new _ _)) (ints_oneCell _ [V]) (by unfold maxLen; omega) (by omega) (by have := hs4.out; simp; omega) ?_); intro v5 w5 hown hgrow _; have HW5 := Lib.hid (And.intro hown hgrow); clear hown hgrow)
            go_roundw
            case rel =>
              have hT : Touch (fun b => Value.ownBlock u8 = some b) w4 w5 := Touch.grown ((Touch.refl _ _).alloc _) HW5.out.2 (fun b hb => .inl hb)
              have hnew : ∀ b, Value.ownBlock u8 = some b → w3.heap.size ≤ b := fun b hb => (World.ownsRow.lt H4.out.2.2.1 b hb).1
              have h43 := H3.out.t.size
              refine ⟨k + 1, by omega, by go_num, H4.out.1.touch (H4.out.1.at'.base.step hT (fun b hb => .inr (by have := hnew b hb; have := HH.out.1.at'.base.size; omega))) hT (fun b hb x => by have := hnew b x; have := HH.out.2.2 b hb; omega), H4.out.2.1.step hT (fun b hb => .inr (hnew b hb)), ?_⟩
              rw [edR_succ, HV.out, if_neg (by simpa using hvb), List.map_append]
              show Ow _ _ _ _
              unfold Ow
              rw [List.length_append, H4.out.2.2.2, List.map_append]
              exact HW5.out.1
            case measure => simp [intOf]; omega
        · obtain rfl : k = m := by omega
          have hbk : ¬ (k : Int) < (k : Int) := by omega
          obtain ⟨to, cto, eto⟩ := HK.out.2.2.ints.shape
          have hoT : Ow wr w3.heap.size u8 (edT S c x) := by
            have h1 := HK.out.2.2
            have h2 : edT S c x = (edR S c x k).map Prod.snd := by
              unfold edT edL
              rw [if_pos HX.out.2.1, show (S.fldV c x).toNat = k by rw [HX.out.2.2.2.2.2]; rfl]
            rwa [h2]
          obtain ⟨z, hz⟩ : ∃ z, ((edR S c x k).map Prod.snd).length = z := ⟨_, rfl⟩
          rw [hz] at eto
          have hva : ∀ g, va.ownBlock = some g → g < w3.heap.size := H3.out.eg.a.old
          obtain ⟨hx0, hx1, hf0, hf1⟩ := box2 hOk.x3
          have hil : (S.objs.take i).length = i := by rw [List.length_take, HN.out.1]; omega
          obtain ⟨aA, cA, eA⟩ := hOk.eg.a.ints.shape
          rw [hil] at eA
          have hownA : wr.ownsRow (b2 + 1 + 1) 3 1 va i ((S.objs.take i).map (.int .i64)) := by
            have h9 := hOk.eg.a
            unfold Ow at h9
            rwa [hil] at h9
          obtain ⟨v1, w6, hrun, hown1, hgrow1, _, hat1⟩ := run_append_own_at (P := Tryz.prog) (w := (wr.alloc (Obj.cells #[.int .i64 x] 3)).drew) (b2 + 1 + 1) 28 28 3 i0 (.int .i64 0) 1 8 Tryz.underlying28 hi0 hz0 hz1' hz2 rfl (by decide) va i _ (hownA.alloc _)
            ⟨wr.heap.size, 0, none⟩ 1 1 [.int .i64 x] rfl (World.news_of_block (World.alloc_heap_new _ _)) (ints_oneCell _ [x]) (by unfold maxLen; omega) (by omega) (by have := blk_lt hOk.x3; show _ ≤ (wr.alloc _).heap.size; rw [World.size_alloc]; omega)
          change (Appd _ _ _).run _ _ = _ at hrun
          have hle1 := blk_lt hOk.x3
          have hb6 : w6.heap[b2 + 1]? = some (Obj.cells #[va, vt] 41) := grown_box hgrow1 (show (wr.alloc _).heap[b2 + 1]? = _ from (Below.heap_alloc _ _ _ hle1).trans hOk.x3) (fun e => by have := hOk.eg.a.new _ e; omega)
          obtain ⟨gx0, gx1, gf0, gf1⟩ := box2 hb6
          obtain ⟨g1, cp1, e1⟩ := ownsRow_succ hown1
          obtain ⟨aT, cT, eT⟩ := own_shape hOk.eg.t
          have htl : ((S.objs.take i).length) = i := hil
          rw [htl] at eT
          have HY := Lib.hid (And.intro hOk (And.intro hoT (And.intro hva (And.intro hown1 (And.intro hgrow1 (And.intro hat1 (And.intro hb6 hil)))))))
          obtain ⟨W7, hW7⟩ : ∃ W7, W7 = w6.setCell ⟨b2 + 1, 0, none⟩ v1 := ⟨_, rfl⟩
          subst eto e1 eA eT
          clear hOk hoT hva hown1 hgrow1 hat1 hb6 hil hownA htl hz
          go_wp2_with fail
          go_region
          rw [← hW7]
          have hb7 : W7.heap[b2 + 1]? = some (Obj.cells #[.slice (some ⟨g1, 0, none⟩) (i + 1) cp1, .slice aT i cT] 41) := by rw [hW7]; exact blk_set HY.out.2.2.2.2.2.2.1 (by simp)
          have t67' : Touch (fun b => b = b2 + 1 ∨ (Value.slice aA i cA).ownBlock = some b) wr W7 := by
            rw [hW7]
            exact ((Touch.grown ((Touch.refl _ wr).alloc _).drew HY.out.2.2.2.2.1 (fun k hk => .inl (.inr hk))).trans ((touch_set _ _ _ _).mono fun _ _ e => .inl e))
          have t67 : Touch (fun b => b = b2 + 1 ∨ (Value.slice aA i cA).ownBlock = some b ∨ (Value.slice aT i cT).ownBlock = some b) wr W7 := t67'.mono fun _ _ x => x.imp id .inl
          have hT7 : W7.ownsRow (b2 + 1 + 1) 28 1 (.slice aT i cT) i tvs := by
            have h9 := HY.out.1.eg.t
            rw [HY.out.2.2.2.2.2.2.2] at h9
            refine owns_touch h9 t67' (fun gg hg e => ?_)
            rcases e with rfl | e
            · have := (World.ownsRow.lt h9 _ hg).1; omega
            · exact rows_ne HY.out.1.eg.a h9 (by decide) e hg
          have hA7 : W7.ownsRow (b2 + 1 + 1) 3 1 (.slice (some ⟨g1, 0, none⟩) (i + 1) cp1) (i + 1) ((S.objs.take i).map (.int .i64) ++ [.int .i64 x]) := by
            rw [hW7]
            refine owns_touch HY.out.2.2.2.1 (touch_set _ _ _ _) (fun gg hg e => ?_)
            have := (World.ownsRow.lt HY.out.2.2.2.1 gg hg).1
            have e : gg = b2 + 1 := e
            omega
          obtain ⟨q0, q1, r0, r1⟩ := box2 hb7
          have HZ := Lib.hid (And.intro hb7 (And.intro t67 (And.intro hT7 hA7)))
          have hs7 : Hid (b2 + 1 + 1 ≤ W7.heap.size) := blk_lt hb7
          obtain ⟨j1, hj1, hy0, hy1, hy2⟩ := info_parts info_sl
          clear hb7 t67 t67' hT7 hA7 hW7 gx0 gx1 gf0 gf1 hx0 hx1 hf0 hf1 hrun
          go_wp2_with (at_builtin; go_loud (refine wpList_append_own_at _ rfl _ _ 39 rfl (b2 + 1 + 1) 28 j1 (.slice none 0 0) 1 24 Tryz.underlying39 hj1 hy0 hy1 hy2 rfl (by decide) _ i _ rfl (HZ.out.2.2.1.alloc _) ⟨W7.heap.size, 0, none⟩ 1 1 [.slice to z cto] rfl rfl (World.news_of_block (World.alloc_heap_new _ _)) (by simp [Value.oneCell']) (by unfold maxLen; omega) (by omega) (by have := hs7.out; simp; omega) ?_); intro v8 w8 hown8 hgrow8 _ _; have hb8 := grown_box hgrow8 ((Below.heap_alloc _ _ _ (blk_lt HZ.out.1)).trans HZ.out.1) (fun e => by have := (World.ownsRow.lt HZ.out.2.2.1 _ e).1; omega); obtain ⟨p0, p1, l0, l1⟩ := box2 hb8; have H8 := Lib.hid (And.intro hown8 (And.intro hgrow8 hb8)); obtain ⟨g8, cp8, e8⟩ := ownsRow_succ hown8; subst e8; clear hown8 hgrow8 hb8)
          go_roundw
          case rel =>
            obtain ⟨y1, y2, y3, y4, y5, y6, y7, y8⟩ := HY.out
            have hil' : tvs.length = i := by rw [y1.eg.vl, y8]
            have t9 : Touch (fun b => b = b2 + 1 ∨ (Value.slice aA i cA).ownBlock = some b ∨ (Value.slice aT i cT).ownBlock = some b) wr (w8.setCell ⟨b2 + 1, 1, none⟩ (.slice (some ⟨g8, 0, none⟩) (i + 1) cp8)) :=
              (HZ.out.2.1.trans (Touch.grown ((Touch.refl _ _).alloc _) H8.out.2.1 (fun k hk => .inl (.inr (.inr hk))))).trans ((touch_set _ _ _ _).mono fun _ _ e => .inl e)
            have hb9 : (w8.setCell ⟨b2 + 1, 1, none⟩ (.slice (some ⟨g8, 0, none⟩) (i + 1) cp8)).heap[b2 + 1]? = some (Obj.cells #[.slice (some ⟨g1, 0, none⟩) (i + 1) cp1, .slice (some ⟨g8, 0, none⟩) (i + 1) cp8] 41) := blk_set H8.out.2.2 (by simp)
            have hT9 : (w8.setCell ⟨b2 + 1, 1, none⟩ (.slice (some ⟨g8, 0, none⟩) (i + 1) cp8)).ownsRow (b2 + 1 + 1) 28 1 (.slice (some ⟨g8, 0, none⟩) (i + 1) cp8) (tvs.length + 1) (tvs ++ [.slice to z cto]) := by
              rw [hil']
              refine owns_touch H8.out.1 (touch_set _ _ _ _) (fun gg hg e => ?_)
              have := (World.ownsRow.lt H8.out.1 gg hg).1
              have e : gg = b2 + 1 := e
              omega
            have hA9 : Ow (w8.setCell ⟨b2 + 1, 1, none⟩ (.slice (some ⟨g8, 0, none⟩) (i + 1) cp8)) (b2 + 1 + 1) (.slice (some ⟨g1, 0, none⟩) (i + 1) cp1) (S.objs.take i ++ [x]) := by
              unfold Ow
              rw [List.length_append, y8, List.map_append]
              have t79 : Touch (fun b => b = b2 + 1 ∨ (Value.slice aT i cT).ownBlock = some b) W7 (w8.setCell ⟨b2 + 1, 1, none⟩ (.slice (some ⟨g8, 0, none⟩) (i + 1) cp8)) :=
                (Touch.grown ((Touch.refl _ _).alloc _) H8.out.2.1 (fun k hk => .inl (.inr hk))).trans ((touch_set _ _ _ _).mono fun _ _ e => .inl e)
              refine owns_touch HZ.out.2.2.2 t79 (fun gg hg e => ?_)
              rcases e with rfl | e
              · have := (World.ownsRow.lt HZ.out.2.2.2 _ hg).1; omega
              · exact rows_ne HZ.out.2.2.2 HZ.out.2.2.1 (by decide) hg e
            have hat : (Value.slice (some ⟨g1, 0, none⟩) (i + 1) cp1).ownBlock = (Value.slice aA i cA).ownBlock ∨ ∀ gg, (Value.slice (some ⟨g1, 0, none⟩) (i + 1) cp1).ownBlock = some gg → wr.heap.size ≤ gg := by
              rcases y6 with h | h
              · exact .inl h
              · right
                intro gg hg
                rw [h] at hg
                have hg : some (wr.alloc (Obj.cells #[.int .i64 x] 3)).heap.size = some gg := hg
                rw [World.size_alloc] at hg
                have := Option.some.inj hg
                omega
            exact ⟨i + 1, by omega, by go_num, _, _, _, y1.push HH.out.2.2 HH.out.1.at'.base.size HX.out.2.2.1 y2 ⟨by have := HK.out.2.1.size; have := blk_lt H3.out.x3; omega, HK.out.2.1.size⟩ y3 t9 hA9 hT9 hb9 hat⟩
          case measure => simp [intOf]; omega
    · obtain rfl : i = n := by omega
      have hb0 : ¬ (i : Int) < (i : Int) := by omega
      obtain ⟨va, vt, tvs, hI⟩ := HI.out
      obtain ⟨x0, x1, f0, f1⟩ := box2 hI.x3
      obtain ⟨z0, z1, l0, l1⟩ := box2 hI.x2
      have hil : (S.objs.take i).length = i := by rw [List.length_take, HN.out.1]; omega
      obtain ⟨aA, cA, rfl⟩ := hI.eg.a.ints.shape
      obtain ⟨aT, cT, rfl⟩ := own_shape hI.eg.t
      have HF := Lib.hid hI
      clear hI HI
      go_wp2
      have hb0' : (wr.setCell ⟨b2, 0, none⟩ (.slice aA i cA)).heap[b2]? = some (Obj.cells #[.slice aA i cA, .slice none 0 0] 41) := blk_set HF.out.x2 (by simp)
      have hb1' : ((wr.setCell ⟨b2, 0, none⟩ (.slice aA i cA)).setCell ⟨b2, 1, none⟩ (.slice aT i cT)).heap[b2]? = some (Obj.cells #[.slice aA i cA, .slice aT i cT] 41) := blk_set hb0' (by simp)
      obtain ⟨k0, k1, -, -⟩ := box2 hb1'
      have hT : Touch (fun k => k = b2) wr ((wr.setCell ⟨b2, 0, none⟩ (.slice aA i cA)).setCell ⟨b2, 1, none⟩ (.slice aT i cT)) := (touch_set _ _ _ _).trans (touch_set _ _ _ _)
      refine bodyPost_ret (v := .agg #[.slice aA i cA, .slice aT i cT]) (by simp [results, Tryz.results20, go_sem, k0, k1]) rfl ⟨_, _, rfl, ?_, ?_, tvs, ?_⟩
      · exact HF.out.t.step hT (fun k hk => .inr ((show k = b2 from hk) ▸ HF.out.lo.1))
      · exact HF.out.hp.touch (HF.out.hp.at'.base.step hT (fun k hk => .inr (by have hk : k = b2 := hk; have := HF.out.lo; have := HH.out.1.at'.base.size; omega))) hT (fun k hk e => by have e : k = b2 := e; have := HH.out.2.2 k hk; have := HF.out.lo; omega)
      · have h1 := HF.out.eg.touch hT (fun k hk => by have hk : k = b2 := hk; have := HF.out.lo; omega)
        have h2 := h1.base (B' := w.heap.size) (by have := HF.out.lo; omega)
        rw [List.take_of_length_le (Nat.le_of_eq HN.out.1)] at h2
        rw [HN.out.1] at h2
        exact h2
end Go.Proofs.YtnobempbcdkoaaaGreatDoor
