/- The document's heap beside a heap: what is told of an object; store, paint, all. Conditions: what Rv says. A heap and the document's are alike: walked. Conditions: what Two says. -/
import Derived.Test.YtflhjbmoncbomaaGreatDoorRv1
import Derived.Test.YtflhjbmoncbomaaGreatDoorSwp
import Derived.Test.YtflhjbmoncbomaaGreatDoorInts
import Derived.Test.YtflhjbmoncbomaaGreatDoorHpP
namespace Go.Proofs.YtflhjbmoncbomaaGreatDoor
open Go.RowKit

variable {w w' : World} {O T : Nat → Prop} {m qx n : Nat} {c : Cf} {S : HS} {H : Nat → List Nat} {R : Rh}
theorem rv_Fields (a : Int) (h : Rv w O m qx c n S H) :
    Calls Tryz.prog 18 #[.pointer (some ⟨m, 0, none⟩), .int .i64 a] w fun x w' => x = .returned (.tuple #[.int .i64 (S.fldV c a), .int .i64 (S.objE c a)]) ∧ w = w' := by
  obtain ⟨⟨R, hr, hs⟩, hi, tb, hz⟩ := h
  have hl := Nat.le_trans (hs.len tb hi) hz
  by_cases hE : S.objE c a = 0
  · obtain ⟨i, j, k, s, f, h0, hm, _, _, hf⟩ := hs.object tb hi hE
    have eV : S.fldV c a = (s.f.length : Int) := by
      unfold HS.fldV
      rw [if_pos hE, hf]
      have := (S.flds_bd a).1
      omega
    rw [hE, eV]
    have := rf_Fields i s hr hl f.at' f.pos h0 hm
    rwa [f.ea] at this
  · have eV : S.fldV c a = 0 := by unfold HS.fldV; rw [if_neg hE]
    rw [eV]
    exact rf_Fields_no a _ hr hl (hs.noobj tb hi hE)
theorem rv_Load (a f : Int) (h : Rv w O m qx c n S H) :
    Calls Tryz.prog 20 #[.pointer (some ⟨m, 0, none⟩), .int .i64 a, .int .i64 f] w fun x w' => x = .returned (.tuple #[.int .i64 (S.ldV c a f), .int .i64 (S.ldE c a f)]) ∧ w = w' := by
  obtain ⟨⟨R, hr, hs⟩, hi, tb, hz⟩ := h
  have hl := Nat.le_trans (hs.len tb hi) hz
  unfold HS.ldV HS.ldE
  by_cases hE : S.objE c a = 0
  · obtain ⟨i, j, k, s, fd, h0, hm, hb, hfs, hfl⟩ := hs.object tb hi hE
    have hfb := S.flds_bd a
    by_cases hf : 0 ≤ f ∧ f < S.flds a
    · obtain ⟨mf, rfl⟩ := Int.eq_ofNat_of_zero_le hf.1
      have hmf : mf < (S.flds a).toNat := by omega
      have hb' := hb
      have hmf' := hmf
      rw [fd.ej] at hb' hmf'
      obtain ⟨hin, hlt⟩ := hi.flds_in fd.own hb' hmf'
      have hg : s.f.getD mf 0 = S.word (a + 1 + mf) := by rw [hfs]; exact fs_getD hmf
      have hmem : s.f.getD mf 0 ∈ s.f := by
        rw [List.getD_eq_getElem?_getD, List.getElem?_eq_getElem (by omega)]
        exact List.getElem_mem _
      have hbd := fd.ok.b _ hmem
      rw [hg] at hbd
      have hwr : wrap64 (S.word (a + 1 + mf)) = S.word (a + 1 + mf) := wrap64_in (by omega) (by omega)
      have hat : atE S.s.ws.length (a + 1 + mf) = 0 := atE_ok (by rw [fd.ej]; omega) (by rw [fd.ej]; omega)
      rw [if_pos ⟨hE, hf.1, hf.2⟩, if_pos hE, if_pos hf, hwr, hat, ← hg]
      have := rf_Load i mf s hr hl fd.at' fd.pos h0 hm (by omega)
      rwa [fd.ea] at this
    · rw [if_neg (fun x => hf x.2), if_pos hE, if_neg hf]
      have := rf_Load_out i f s hr hl fd.at' fd.pos h0 hm (by omega)
      rwa [fd.ea] at this
  · rw [if_neg (fun x => hE x.1), if_neg hE]
    exact rf_Load_no a f _ hr hl (hs.noobj tb hi hE)
theorem rv_Color (a : Int) (h : Rv w O m qx c n S H) :
    Calls Tryz.prog 22 #[.pointer (some ⟨m, 0, none⟩), .int .i64 a] w fun x w' => x = .returned (.int .i64 (if S.obj a = true then S.colV a else -1)) ∧ Touch nob w w' := by
  obtain ⟨⟨R, hr, hs⟩, hi, tb, hz⟩ := h
  have hl := Nat.le_trans (hs.len tb hi) hz
  by_cases ho : S.obj a = true
  · obtain ⟨i, j, k, s, f⟩ := hs.fd tb hi (hi.obj_own ho).1
    rw [if_pos ho, show S.colV a = s.col by rw [f.ok.col (by rw [f.ea]; exact ho), f.ea]]
    have := rf_Color i s hr hl f.at' f.pos (by rw [f.ok.is, f.ea]; exact HS.isN_obj.2 ho)
    rwa [f.ea] at this
  · rw [if_neg ho]
    exact rf_Color_no a _ hr hl rfl (hs.isV_obj tb (by simpa using ho))
theorem rv_Paint (a col : Int) (h : Rv w O m qx c n S H) :
    Calls Tryz.prog 69 #[.pointer (some ⟨m, 0, none⟩), .int .i64 a, .int .i64 col] w fun x w' => x = .returned (.tuple #[.bool (S.paiV a col), .int .i64 (S.paiE a col)]) ∧ ∃ O', Touch O w w' ∧ Sub w O' O ∧ Rv w' O' m qx c n (S.paiS a col) H := by
  obtain ⟨⟨R, hr, hs⟩, hi, tb, hz⟩ := h
  have hl := Nat.le_trans (hs.len tb hi) hz
  by_cases hp : S.obj a = true ∧ (col = 0 ∨ col = 1)
  · obtain ⟨i, j, k, s, f, his, hv, s2, h2, es⟩ := hs.paint tb hi hp.1 hp.2
    have hpb : S.paiB a col = true := by
      unfold HS.paiB
      rw [hp.1]
      rcases hp.2 with rfl | rfl <;> rfl
    have eE : S.paiE a col = 0 := by unfold HS.paiE; rw [if_pos hpb]
    have ea := f.ea
    subst ea
    rw [eE, ← hv]
    refine (rf_Paint i col s hr hl f.at' f.pos his hp.2).mono ?_
    rintro x w' ⟨rfl, t, r2⟩
    exact ⟨rfl, O, t, Sub.refl _ _, ⟨_, r2, s2⟩, h2, by rw [es]; exact tb, by rw [es]; exact hz⟩
  · have hpb : S.paiB a col = false := by
      unfold HS.paiB
      cases ho : S.obj a
      · rfl
      · have h0 : col ≠ 0 := fun e => hp ⟨ho, .inl e⟩
        have h1 : col ≠ 1 := fun e => hp ⟨ho, .inr e⟩
        rw [decide_eq_false h0, decide_eq_false h1]
        rfl
    have eE : S.paiE a col = 1 := by unfold HS.paiE; rw [hpb]; rfl
    have eV : S.paiV a col = false := by unfold HS.paiV; rw [hpb]; rfl
    have eS : S.paiS a col = S := by unfold HS.paiS; rw [hpb]; rfl
    rw [eE, eV, eS]
    refine (rf_Paint_no a col _ hr hl rfl ?_).mono ?_
    · cases ho : S.obj a
      · exact .inl (hs.isV_obj tb ho)
      · refine .inr ⟨?_, fun e => hp ⟨ho, .inl e⟩, fun e => hp ⟨ho, .inr e⟩⟩
        rw [hs.isV_own tb (hi.obj_own ho).1]
        exact HS.isN_obj.2 ho
    · rintro x w' ⟨rfl, rfl⟩
      exact ⟨rfl, O, Touch.refl _ _, Sub.refl _ _, ⟨R, hr, hs⟩, hi, tb, hz⟩
theorem rv_Store (a f v : Int) (h : Rv w O m qx c n S H) :
    Calls Tryz.prog 68 #[.pointer (some ⟨m, 0, none⟩), .int .i64 a, .int .i64 f, .int .i64 v] w fun x w' => x = .returned (.int .i64 (S.stE c a f v)) ∧ ∃ O', Touch O w w' ∧ Sub w O' O ∧ Rv w' O' m qx c n (S.stS c a f v) H := by
  obtain ⟨⟨R, hr, hs⟩, hi, tb, hz⟩ := h
  have hl := Nat.le_trans (hs.len tb hi) hz
  have hzz : c.c0 * c.c1 = ((S.s.ws.length : Nat) : Int) := hi.len.symm
  have same : ∀ {e : Int}, S.stE c a f v = e → e ≠ 0 → S.stS c a f v = S := fun {e} h1 h2 => by unfold HS.stS; rw [h1, if_neg h2]
  by_cases hE : S.objE c a = 0
  · obtain ⟨i, j, k, s, fd, h0, hm, hb, hfs, hfl⟩ := hs.object tb hi hE
    have hfb := S.flds_bd a
    by_cases hf : 0 ≤ f ∧ f < S.flds a
    · obtain ⟨mf, rfl⟩ := Int.eq_ofNat_of_zero_le hf.1
      have hmf : mf < (S.flds a).toNat := by omega
      by_cases hv : 0 ≤ v ∧ v ≤ S.s.ws.length
      · have eE : S.stE c a mf v = 0 := by unfold HS.stE; rw [if_pos hE, if_pos hf, if_pos hv]
        have eS : S.stS c a mf v = S.setw (j + 1 + mf) v := by
          unfold HS.stS
          rw [eE, if_pos rfl, fd.ej, show ((j : Int) + 1 + (mf : Int)).toNat = j + 1 + mf by omega]
          rfl
        obtain ⟨s2, h2⟩ := hs.store tb hi fd hb hfs hmf v (by omega)
        have ea := fd.ea
        subst ea
        rw [eE, eS]
        refine (rf_Store i mf _ v s hr hl fd.at' fd.pos h0 hm (by omega) (by omega) hzz (by omega) hv).mono ?_
        rintro x w' ⟨rfl, O', u, t1, t2, r2⟩
        refine ⟨rfl, O', t1, t2, ⟨_, r2, s2 u⟩, h2, tb, ?_⟩
        show (S.s.ws.set (j + 1 + mf) v).length ≤ 4096
        rw [List.length_set]
        exact hz
      · have eE : S.stE c a mf v = 4 := by unfold HS.stE; rw [if_pos hE, if_pos hf, if_neg hv]
        rw [same eE (by decide), eE]
        have := rf_Store_bad i mf _ v s hr hl fd.at' fd.pos h0 hm (by omega) hzz (by omega) (by omega)
        rw [fd.ea] at this
        refine this.mono ?_
        rintro x w' ⟨rfl, t⟩
        exact ⟨rfl, O, t.hnob, Sub.refl _ _, ⟨R, hr.old t, hs⟩, hi, tb, hz⟩
    · have eE : S.stE c a f v = 7 := by unfold HS.stE; rw [if_pos hE, if_neg hf]
      rw [same eE (by decide), eE]
      have := rf_Store_out i f v s hr hl fd.at' fd.pos h0 hm (by omega)
      rw [fd.ea] at this
      refine this.mono ?_
      rintro x w' ⟨rfl, rfl⟩
      exact ⟨rfl, O, Touch.refl _ _, Sub.refl _ _, ⟨R, hr, hs⟩, hi, tb, hz⟩
  · have eE : S.stE c a f v = S.objE c a := by unfold HS.stE; rw [if_neg hE]
    rw [same eE hE, eE]
    refine (rf_Store_no a f v _ hr hl (hs.noobj tb hi hE)).mono ?_
    rintro x w' ⟨rfl, rfl⟩
    exact ⟨rfl, O, Touch.refl _ _, Sub.refl _ _, ⟨R, hr, hs⟩, hi, tb, hz⟩
/-- What All tells: the objects; what is in hand. -/
theorem allL_mem {L : List Rs} {is a : Int} {z : Nat} : a ∈ allL L is z ↔ (1 ≤ a ∧ a ≤ z) ∧ isV L a = is := by
  unfold allL
  rw [List.mem_filter, List.mem_map]
  constructor
  · rintro ⟨⟨x, hx, rfl⟩, h⟩
    have := List.mem_range.1 hx
    exact ⟨⟨by omega, by omega⟩, by simpa using h⟩
  · rintro ⟨⟨h1, h2⟩, h⟩
    exact ⟨⟨(a - 1).toNat, List.mem_range.2 (by omega), by omega⟩, by simpa using h⟩
theorem allL_asc {L : List Rs} {is : Int} {z : Nat} : (allL L is z).Pairwise (· < ·) := by
  unfold allL
  exact (List.Pairwise.map _ (fun i j (hij : i < j) => by omega) List.pairwise_lt_range).filter _
theorem rv_All2 (h : Rv w O m qx c n S H) :
    Calls Tryz.prog 82 #[.pointer (some ⟨m, 0, none⟩), .int .i64 2] w fun e w' => ∃ v', e = .returned v' ∧ Touch nob w w' ∧ Ow w' w.heap.size v' S.objs := by
  obtain ⟨⟨R, hr, hs⟩, hi, tb, hz⟩ := h
  have hl := Nat.le_trans (hs.len tb hi) hz
  have e : allL R.L 2 S.s.ws.length = S.objs := by
    refine asc_ext _ _ allL_asc objs_asc fun x => ?_
    rw [allL_mem, mem_objs]
    constructor
    · rintro ⟨_, h⟩
      cases ho : S.own c x
      · rw [hs.isV_no tb ho] at h
        cases h
      · rw [hs.isV_own tb ho] at h
        exact HS.isN_obj.1 h
    · intro h
      have ho := (hi.obj_own h).1
      obtain ⟨j, _, e, hj, _⟩ := hi.slot_of ho
      exact ⟨by omega, by rw [hs.isV_own tb ho]; exact HS.isN_obj.2 h⟩
  have := rf_All 2 S.s.ws.length hr hl hi.len.symm (by omega)
  rwa [e] at this
theorem rv_All0 (h : Rv w O m qx c n S H) :
    Calls Tryz.prog 82 #[.pointer (some ⟨m, 0, none⟩), .int .i64 0] w fun e w' => ∃ v', e = .returned v' ∧ Touch nob w w' ∧ Ow w' w.heap.size v' (S.hnds c n) := by
  obtain ⟨⟨R, hr, hs⟩, hi, tb, hz⟩ := h
  have hl := Nat.le_trans (hs.len tb hi) hz
  have e : allL R.L 0 S.s.ws.length = S.hnds c n := by
    refine asc_ext _ _ allL_asc ((allSl_asc tb n).filter _) fun x => ?_
    unfold HS.hnds
    rw [allL_mem, List.mem_filter, tb.mem]
    constructor
    · rintro ⟨_, h⟩
      cases ho : S.own c x
      · rw [hs.isV_no tb ho] at h
        cases h
      · rw [hs.isV_own tb ho] at h
        exact ⟨ho, (HS.isN_hand ho).1 h⟩
    · rintro ⟨ho, h⟩
      obtain ⟨j, _, e, hj, _⟩ := hi.slot_of ho
      exact ⟨by omega, by rw [hs.isV_own tb ho]; exact (HS.isN_hand ho).2 h⟩
  have := rf_All 0 S.s.ws.length hr hl hi.len.symm (by omega)
  rwa [e] at this
end Go.Proofs.YtflhjbmoncbomaaGreatDoor
namespace Go.Proofs.YtflhjbmoncbomaaGreatDoor
open Go.RowKit

variable {W w w' : World} {O : Nat → Prop} {m qx : Nat} {c : Cf} {A : HA} {S : HS} {H : Nat → List Nat}
/-- The boxes of the document's heap: its config, the heads of its lists, its cells. -/
theorem Rv.heads {n : Nat} (h : Rv w O m qx c n S H) : (∃ v : Nat → Value, w.cell? ⟨m, 9, none⟩ = some (v 0) ∧ w.cell? ⟨m, 10, none⟩ = some (v 1) ∧ w.cell? ⟨m, 11, none⟩ = some (v 2) ∧ w.cell? ⟨m, 12, none⟩ = some (v 3) ∧ ∀ k, k < 4 → IntsIn w (v k) (adr (H k)) ∧ ∀ b, (v k).ownBlock = some b → O b) ∧
    (∃ cx, w.cell? ⟨m, 13, none⟩ = some (.slice (some ⟨qx, 0, none⟩) S.x.length cx) ∧ S.x.length ≤ cx ∧ ∀ i, i < S.x.length → w.cell? ⟨qx, i, none⟩ = some (.int .i64 (S.x.getD i 0))) ∧
    w.cell? ⟨m, 0, none⟩ = some (.int .i64 c.c0) ∧ w.cell? ⟨m, 1, none⟩ = some (.int .i64 c.c1) ∧ w.cell? ⟨m, 2, none⟩ = some (.int .i64 c.c2) ∧ w.cell? ⟨m, 3, none⟩ = some (.int .i64 c.c3) ∧ w.cell? ⟨m, 4, none⟩ = some (.int .i64 c.c4) ∧ w.cell? ⟨m, 5, none⟩ = some (.int .i64 c.c5) ∧ w.cell? ⟨m, 6, none⟩ = some (.int .i64 c.c6) := by
  obtain ⟨⟨R, ⟨sv, v, cx, hb⟩, hs⟩, _⟩ := h
  have hbx := hb.box
  obtain ⟨-, -, d9, d10, d11, d12, d13, -⟩ := hb.boxes
  rw [hs.x] at d13
  have hr := hb.xs
  rw [hs.x] at hr
  obtain ⟨_, _, _, hcx, _⟩ := id hr
  refine ⟨⟨v, d9, d10, d11, d12, fun k hk => ?_⟩, ⟨cx, d13, by simpa using hcx, fun i hi => int_cell hr hi⟩, by simp [World.cell?, hbx], by simp [World.cell?, hbx], by simp [World.cell?, hbx], by simp [World.cell?, hbx], by simp [World.cell?, hbx], by simp [World.cell?, hbx], by simp [World.cell?, hbx]⟩
  have := (hb.ff k hk).ints
  rw [hs.F k hk] at this
  exact ⟨this, fun b hb' => (hb.of k hk b hb').1⟩
theorem hp_ConfigA (h : HpI W w A c S H) : Calls Tryz.prog 46 #[.pointer (some ⟨A.h, 0, none⟩)] w fun e w' => e = .returned (.agg #[.int .i64 c.c0, .int .i64 c.c1, .int .i64 c.c2, .int .i64 c.c3, .int .i64 c.c4, .int .i64 c.c5, .int .i64 c.c6]) ∧ Touch nob w w' := hp_Config h
theorem Rv.om {n : Nat} (h : Rv w O m qx c n S H) : O m := by
  obtain ⟨⟨R, ⟨sv, v, cx, hb⟩, hs⟩, _⟩ := h
  exact hb.om
/-- Between two looks. -/
def AkI (W w : World) (A : HA) (c : Cf) (S : HS) (H : Nat → List Nat) (O : Nat → Prop) (m qx : Nat) (wr : World) : Prop := Touch (HT A) w wr ∧ Two W wr A c S H O m qx
theorem AkI.old (h : AkI W w A c S H O m qx w') {w2 : World} (ht : Touch nob w' w2) : AkI W w A c S H O m qx w2 := ⟨h.1.trans ht.hnob, h.2.old ht⟩
theorem AkI.heap (h : AkI W w A c S H O m qx w') {w2 : World} (ht : Touch (HT A) w' w2) (hp : HpI W w2 A c S H) : AkI W w A c S H O m qx w2 := ⟨h.1.trans ht, h.2.look ht hp⟩
theorem ld_ok (hi : HInv c S H) {x : Int} (ho : S.obj x = true) {f : Int} (hf : 0 ≤ f ∧ f < S.flds x) : S.ldE c x f = 0 := by
  obtain ⟨ow, fr, bg⟩ := hi.obj_own ho
  obtain ⟨j, k, e, hj, _, _, ho'⟩ := hi.slot_of ow
  subst e
  obtain ⟨mf, rfl⟩ := Int.eq_ofNat_of_zero_le hf.1
  obtain ⟨hin, hlt⟩ := hi.flds_in ho' bg (i := mf) (by omega)
  have hE : S.objE c ((j : Int) + 1) = 0 := by
    unfold HS.objE HS.may
    rw [if_neg (by omega), ho]
    rfl
  unfold HS.ldE
  rw [if_pos hE, if_pos hf]
  exact atE_ok (by omega) (by omega)
theorem fld_ok (hi : HInv c S H) {x : Int} (ho : S.obj x = true) : S.objE c x = 0 ∧ S.fldV c x = S.flds x := by
  obtain ⟨ow, fr, bg⟩ := hi.obj_own ho
  obtain ⟨j, k, e, hj, _, _, ho'⟩ := hi.slot_of ow
  have hE : S.objE c x = 0 := by
    unfold HS.objE HS.may
    rw [if_neg (by omega), ho]
    rfl
  exact ⟨hE, by unfold HS.fldV; rw [if_pos hE]⟩
theorem ow_heap1 {B : Nat} {v : Value} {xs : List Int} (h : Ow w B v xs) (ht : Touch (HT A) w w') (hA : ∀ b ∈ A.all, b < B) : Ow w' B v xs :=
  h.touch ht (fun g hg hm => by
    have h1 := hA g hm
    have h2 := h.new g hg
    omega)
set_option maxRecDepth 10000 in
set_option maxHeartbeats 4000000 in
theorem law11_Alike (h : Two W w A c S H O m qx) (hT : Tab W) (hx : S.x.length ≤ 64) :
    Calls Tryz.prog 34 #[.pointer (some ⟨A.h, 0, none⟩), .pointer (some ⟨m, 0, none⟩)] w fun e w' => e = .returned (.bool true) ∧ Touch (HT A) w w' ∧ Two W w' A c S H O m qx := by
  have H0 : Hid (AkI W w A c S H O m qx w) := ⟨Touch.refl _ _, h⟩
  have HT0 := Lib.hid hT
  obtain ⟨-, -, d0, d1, d2, d3, d4, d5, d6⟩ := h.rv.heads
  have HA0 := Lib.hid h.hp.at'.lt
  have hOl : Hid (S.objs.length ≤ 4096) := by
    have h2 := sub_len S.objs ((List.range S.s.ws.length).map fun (x : Nat) => (x : Int) + 1) (objs_asc.imp fun h e => by omega) (fun x hx => by
      obtain ⟨j, _, e, hj, _⟩ := h.rv.inv.slot_of (h.rv.inv.obj_own (mem_objs.1 hx)).1
      exact List.mem_map.2 ⟨j, List.mem_range.2 hj, e.symm⟩)
    rw [List.length_map, List.length_range] at h2
    exact Nat.le_trans h2 h.rv.hz
  have hHl : Hid ((S.hnds c A.L.n).length ≤ 1048576) := by
    have h1 : (S.hnds c A.L.n).length ≤ (allSl c S.s.ks A.L.n).length := List.length_filter_le _ _
    have h2 := allSl_le (c := c) (ks := S.s.ks) A.L.n
    obtain ⟨ct, hb⟩ := h.hp.at'.ls.tb
    have := hb.n4.2
    show _ ≤ _
    omega
  clear h hT
  go_enter Tryz.func34, Tryz.ntmps34
  have HKc := Lib.hid (fun w1 (h1 : AkI W w A c S H O m qx w1) => show w1.cell? ⟨m, 0, none⟩ = some (.int .i64 c.c0) ∧ w1.cell? ⟨m, 1, none⟩ = some (.int .i64 c.c1) ∧ w1.cell? ⟨m, 2, none⟩ = some (.int .i64 c.c2) ∧ w1.cell? ⟨m, 3, none⟩ = some (.int .i64 c.c3) ∧ w1.cell? ⟨m, 4, none⟩ = some (.int .i64 c.c4) ∧ w1.cell? ⟨m, 5, none⟩ = some (.int .i64 c.c5) ∧ w1.cell? ⟨m, 6, none⟩ = some (.int .i64 c.c6) from h1.2.rv.heads.2.2)
  have HTb := Lib.hid (fun w1 (h1 : AkI W w A c S H O m qx w1) => show Tab w1 from HT0.out.touch h1.2.base (fun x => x))
  have HD : Hid (AkI W w A c S H O m qx w.drew) := H0.out.old (Touch.drew (Touch.refl _ _))
  clear d0 d1 d2 d3 d4 d5 d6
  go_wp2_with fail
  go_region_held3 (fun w1 => w1.cell? ⟨m, 0, none⟩ = some (.int .i64 c.c0) ∧ w1.cell? ⟨m, 1, none⟩ = some (.int .i64 c.c1) ∧ w1.cell? ⟨m, 2, none⟩ = some (.int .i64 c.c2) ∧ w1.cell? ⟨m, 3, none⟩ = some (.int .i64 c.c3) ∧ w1.cell? ⟨m, 4, none⟩ = some (.int .i64 c.c4) ∧ w1.cell? ⟨m, 5, none⟩ = some (.int .i64 c.c5) ∧ w1.cell? ⟨m, 6, none⟩ = some (.int .i64 c.c6)) (first | exact HKc.out _ HQ7.out | exact HKc.out _ HQ6.out.1 | exact HKc.out _ HQ5.out.1 | exact HKc.out _ HQ4.out | exact HKc.out _ HQ3.out.1 | exact HKc.out _ HQ2.out.1 | exact HKc.out _ HQ1.out | exact HKc.out _ HD.out) (first
    | (go_at_call 52; refine (ref01_Same v6 v7 (S.hnds c A.L.n) _ HQ6.out.2.1 HQ6.out.2.2 hHl.out).mono ?_; rintro e w8 ⟨rfl, t8⟩; have HQ7 : Hid (AkI W w A c S H O m qx w8) := HQ6.out.1.old t8; clear t8)
    | (go_at_call 82; refine (rv_All0 HQ5.out.1.2.rv).mono ?_; rintro e w7 ⟨v7, rfl, t7, ow7⟩; have HQ6 : Hid (AkI W w A c S H O m qx w7 ∧ IntsIn w7 v6 (S.hnds c A.L.n) ∧ IntsIn w7 v7 (S.hnds c A.L.n)) := ⟨HQ5.out.1.old t7, HQ5.out.2.old t7, ow7.ints⟩; clear t7 ow7)
    | (go_at_call 50; refine (hp_Hands HQ4.out.2.hp).mono ?_; rintro e w6 ⟨v6, rfl, t6, ow6⟩; have HQ5 : Hid (AkI W w A c S H O m qx w6 ∧ IntsIn w6 v6 (S.hnds c A.L.n)) := ⟨HQ4.out.old t6, ow6.ints⟩; clear t6 ow6)
    | (go_at_call 52; refine (ref01_Same v3 v4 S.objs _ HQ3.out.2.1 HQ3.out.2.2 (Nat.le_trans hOl.out (by decide))).mono ?_; rintro e w5 ⟨rfl, t5⟩; have HQ4 : Hid (AkI W w A c S H O m qx w5) := HQ3.out.1.old t5; clear t5)
    | (go_at_call 82; refine (rv_All2 HQ2.out.1.2.rv).mono ?_; rintro e w4 ⟨v4, rfl, t4, ow4⟩; have HQ3 : Hid (AkI W w A c S H O m qx w4 ∧ IntsIn w4 v3 S.objs ∧ IntsIn w4 v4 S.objs) := ⟨HQ2.out.1.old t4, HQ2.out.2.old t4, ow4.ints⟩; clear t4 ow4)
    | (go_at_call 48; refine (hp_Objects HQ1.out.2.hp (HTb.out _ HQ1.out)).mono ?_; rintro e w3 ⟨v3, rfl, t3, hp3, ow3⟩; have HQ2 : Hid (AkI W w A c S H O m qx w3 ∧ IntsIn w3 v3 S.objs) := ⟨HQ1.out.heap t3 hp3, ow3.ints⟩; clear t3 hp3 ow3)
    | (go_at_call 46; refine (hp_ConfigA HD.out.2.hp).mono ?_; rintro e w2 ⟨rfl, t2⟩; have HQ1 : Hid (AkI W w A c S H O m qx w2) := HD.out.old t2; clear t2))
  rename_i hheld
  have H8 : Hid (AkI W w A c S H O m qx w8) := HQ7.out
  clear hheld HQ1 HQ2 HQ3 HQ4 HQ5 HQ6 HQ7 HD
  have hFl : Hid (∀ k, k < 4 → (adr (H k)).length ≤ 1048576) := fun k hk => by
    have h1 := H8.out.2.rv.inv.li.len_le hk
    have h2 := H8.out.2.rv.hz
    unfold adr
    rw [List.length_map]
    omega
  go_wp2_with fail
  go_loopw [5] (fun i wr => ∃ k : Nat, k ≤ 4 ∧ i = .int .i64 k ∧ Hid (AkI W w A c S H O m qx wr)) (fun i _ => 4 - (intOf i).toNat)
  case atStart => exact ⟨0, Nat.zero_le _, rfl, H8.out⟩
  case round =>
    obtain ⟨k, hk, rfl, HR⟩ := hrel
    clear H8
    by_cases hk4 : k < 4
    · obtain ⟨⟨vv, e0, e1, e2, e3, hin⟩, -⟩ := HR.out.2.rv.heads
      have hmA : ¬ HT A m := fun x => HR.out.2.ap m x HR.out.2.rv.om
      have HKv := Lib.hid (fun k (hk : k < 4) w1 (ht : Touch (HT A) wr w1) => show IntsIn w1 (vv k) (adr (H k)) from (hin k hk).1.touch ht (fun b hb hA => HR.out.2.ap b hA ((hin k hk).2 b hb)))
      have HKm := Lib.hid (fun j u (h : wr.cell? ⟨m, j, none⟩ = some u) w1 (ht : Touch (HT A) wr w1) => show w1.cell? ⟨m, j, none⟩ = some u from (ht.cell (cell_lt h) hmA).trans h)
      have HD : Hid (AkI W w A c S H O m qx wr.drew ∧ Touch (HT A) wr wr.drew) := ⟨HR.out.old (Touch.drew (Touch.refl _ _)), Touch.drew (Touch.refl _ _)⟩
      clear hin hmA hk
      rcases k with _ | _ | _ | _ | k
      · have HKe := Lib.hid (HKm.out 9 _ e0)
        have HFk := Lib.hid (hFl.out 0 (by decide))
        clear e0 e1 e2 e3
        go_wp2_with fail
        go_region_held3 (fun w1 => w1.cell? ⟨m, 9, none⟩ = some (vv 0)) (first | exact HKe.out _ HQ2.out.2 | exact HKe.out _ HQ1.out.2.1 | exact HKe.out _ HD.out.2) (first
          | (go_at_call 52; refine (ref01_Same v2 (vv 0) (adr (H 0)) _ HQ1.out.2.2 (HKv.out 0 (by decide) _ HQ1.out.2.1) HFk.out).mono ?_; rintro e w3 ⟨rfl, t3⟩; have HQ2 : Hid (AkI W w A c S H O m qx w3 ∧ Touch (HT A) wr w3) := ⟨HQ1.out.1.old t3, HQ1.out.2.1.trans t3.hnob⟩; clear t3)
          | (go_at_call 49; refine (hp_Frees 0 HD.out.1.2.hp (by decide)).mono ?_; rintro e w2 ⟨v2, rfl, t2, hp2, ow2⟩; have HQ1 : Hid (AkI W w A c S H O m qx w2 ∧ Touch (HT A) wr w2 ∧ IntsIn w2 v2 (adr (H 0))) := ⟨HD.out.1.heap t2 hp2, HD.out.2.trans t2, ow2.ints⟩; clear t2 hp2 ow2))
        rename_i hheld
        clear hheld
        go_wp2
        go_roundw
        case rel => exact ⟨0 + 1, by omega, by go_num, HQ2.out.1⟩
        case measure => simp [intOf]
      · have HKe := Lib.hid (HKm.out 10 _ e1)
        have HFk := Lib.hid (hFl.out 1 (by decide))
        clear e0 e1 e2 e3
        go_wp2_with fail
        go_region_held3 (fun w1 => w1.cell? ⟨m, 10, none⟩ = some (vv 1)) (first | exact HKe.out _ HQ2.out.2 | exact HKe.out _ HQ1.out.2.1 | exact HKe.out _ HD.out.2) (first
          | (go_at_call 52; refine (ref01_Same v2 (vv 1) (adr (H 1)) _ HQ1.out.2.2 (HKv.out 1 (by decide) _ HQ1.out.2.1) HFk.out).mono ?_; rintro e w3 ⟨rfl, t3⟩; have HQ2 : Hid (AkI W w A c S H O m qx w3 ∧ Touch (HT A) wr w3) := ⟨HQ1.out.1.old t3, HQ1.out.2.1.trans t3.hnob⟩; clear t3)
          | (go_at_call 49; refine (hp_Frees 1 HD.out.1.2.hp (by decide)).mono ?_; rintro e w2 ⟨v2, rfl, t2, hp2, ow2⟩; have HQ1 : Hid (AkI W w A c S H O m qx w2 ∧ Touch (HT A) wr w2 ∧ IntsIn w2 v2 (adr (H 1))) := ⟨HD.out.1.heap t2 hp2, HD.out.2.trans t2, ow2.ints⟩; clear t2 hp2 ow2))
        rename_i hheld
        clear hheld
        go_wp2
        go_roundw
        case rel => exact ⟨1 + 1, by omega, by go_num, HQ2.out.1⟩
        case measure => simp [intOf]
      · have HKe := Lib.hid (HKm.out 11 _ e2)
        have HFk := Lib.hid (hFl.out 2 (by decide))
        clear e0 e1 e2 e3
        go_wp2_with fail
        go_region_held3 (fun w1 => w1.cell? ⟨m, 11, none⟩ = some (vv 2)) (first | exact HKe.out _ HQ2.out.2 | exact HKe.out _ HQ1.out.2.1 | exact HKe.out _ HD.out.2) (first
          | (go_at_call 52; refine (ref01_Same v2 (vv 2) (adr (H 2)) _ HQ1.out.2.2 (HKv.out 2 (by decide) _ HQ1.out.2.1) HFk.out).mono ?_; rintro e w3 ⟨rfl, t3⟩; have HQ2 : Hid (AkI W w A c S H O m qx w3 ∧ Touch (HT A) wr w3) := ⟨HQ1.out.1.old t3, HQ1.out.2.1.trans t3.hnob⟩; clear t3)
          | (go_at_call 49; refine (hp_Frees 2 HD.out.1.2.hp (by decide)).mono ?_; rintro e w2 ⟨v2, rfl, t2, hp2, ow2⟩; have HQ1 : Hid (AkI W w A c S H O m qx w2 ∧ Touch (HT A) wr w2 ∧ IntsIn w2 v2 (adr (H 2))) := ⟨HD.out.1.heap t2 hp2, HD.out.2.trans t2, ow2.ints⟩; clear t2 hp2 ow2))
        rename_i hheld
        clear hheld
        go_wp2
        go_roundw
        case rel => exact ⟨2 + 1, by omega, by go_num, HQ2.out.1⟩
        case measure => simp [intOf]
      · have HKe := Lib.hid (HKm.out 12 _ e3)
        have HFk := Lib.hid (hFl.out 3 (by decide))
        clear e0 e1 e2 e3
        go_wp2_with fail
        go_region_held3 (fun w1 => w1.cell? ⟨m, 12, none⟩ = some (vv 3)) (first | exact HKe.out _ HQ2.out.2 | exact HKe.out _ HQ1.out.2.1 | exact HKe.out _ HD.out.2) (first
          | (go_at_call 52; refine (ref01_Same v2 (vv 3) (adr (H 3)) _ HQ1.out.2.2 (HKv.out 3 (by decide) _ HQ1.out.2.1) HFk.out).mono ?_; rintro e w3 ⟨rfl, t3⟩; have HQ2 : Hid (AkI W w A c S H O m qx w3 ∧ Touch (HT A) wr w3) := ⟨HQ1.out.1.old t3, HQ1.out.2.1.trans t3.hnob⟩; clear t3)
          | (go_at_call 49; refine (hp_Frees 3 HD.out.1.2.hp (by decide)).mono ?_; rintro e w2 ⟨v2, rfl, t2, hp2, ow2⟩; have HQ1 : Hid (AkI W w A c S H O m qx w2 ∧ Touch (HT A) wr w2 ∧ IntsIn w2 v2 (adr (H 3))) := ⟨HD.out.1.heap t2 hp2, HD.out.2.trans t2, ow2.ints⟩; clear t2 hp2 ow2))
        rename_i hheld
        clear hheld
        go_wp2
        go_roundw
        case rel => exact ⟨3 + 1, by omega, by go_num, HQ2.out.1⟩
        case measure => simp [intOf]
      · omega
    · have hk5 : ¬ (k : Int) < 4 := by omega
      clear hk hk4
      go_wp2_with (go_at_call 82; fail)
      refine (rv_All2 HR.out.2.rv).mono ?_
      rintro e w9 ⟨v9, rfl, t9, ow9⟩
      obtain ⟨NO, hNO⟩ : ∃ NO, S.objs.length = NO := ⟨_, rfl⟩
      obtain ⟨ag, cg, rfl⟩ := ow9.ints.shape
      rw [hNO] at ow9 ⊢
      have H9 : Hid (AkI W w A c S H O m qx w9 ∧ Ow w9 w.heap.size (.slice ag NO cg) S.objs) := ⟨HR.out.old t9, ow9.base HR.out.1.size⟩
      have HNO := Lib.hid hNO
      have hNO4 : NO ≤ 4096 := by rw [← hNO]; exact hOl.out
      clear t9 ow9 hNO HR hk5
      go_wp2_with fail
      go_loopw [7] (fun i wr => ∃ j : Nat, j ≤ NO ∧ i = .int .i64 j ∧ Hid (AkI W w A c S H O m qx wr ∧ Ow wr w.heap.size (.slice ag NO cg) S.objs)) (fun i _ => NO - (intOf i).toNat)
      case atStart => exact ⟨0, Nat.zero_le _, rfl, H9.out⟩
      case round =>
        obtain ⟨j, hj, rfl, HR⟩ := hrel
        clear H9
        by_cases hlt : j < NO
        · have hjb : (j : Int) < (NO : Int) := by omega
          obtain ⟨g, rfl, hcap, hcell⟩ := own_at HR.out.2 rfl HNO.out hlt
          obtain ⟨x, hx⟩ : ∃ x, S.objs.getD j 0 = x := ⟨_, rfl⟩
          rw [hx] at hcell
          have hxo : S.obj x = true := by
            have h1 : j < S.objs.length := by rw [HNO.out]; exact hlt
            rw [← mem_objs, ← hx, List.getD_eq_getElem?_getD, List.getElem?_eq_getElem h1]
            exact List.getElem_mem _
          obtain ⟨oE, oF⟩ := fld_ok HR.out.1.2.rv.inv hxo
          have hfb := S.flds_bd x
          obtain ⟨nf, hnf⟩ : ∃ nf : Nat, S.flds x = nf := ⟨(S.flds x).toNat, by omega⟩
          have HX := Lib.hid (And.intro hxo (And.intro oE (And.intro (oF.trans hnf) hnf)))
          have HCe := Lib.hid (fun w1 (h : Ow w1 w.heap.size (.slice (some ⟨g, 0, none⟩) NO cg) S.objs) => show w1.cell? ⟨g, j, none⟩ = some (.int .i64 x) from by
            obtain ⟨g', e, _, hc⟩ := own_at h rfl HNO.out hlt
            cases e
            rw [hx] at hc
            exact hc)
          have hnf2 : nf < 256 := by omega
          clear hx hxo oE oF hfb hnf
          go_wp2_with (go_at_call 17; fail)
          refine (hp_Fields x HR.out.1.2.hp).mono ?_
          rintro e w10 ⟨rfl, t10, hp10⟩
          rw [HX.out.2.1, HX.out.2.2.1]
          have H10 : Hid (AkI W w A c S H O m qx w10 ∧ Ow w10 w.heap.size (.slice (some ⟨g, 0, none⟩) NO cg) S.objs) := ⟨HR.out.1.heap t10 hp10, ow_heap1 HR.out.2 t10 HA0.out⟩
          have k10 := HCe.out _ H10.out.2
          clear t10 hp10 hcell HR
          go_wp2_with (go_at_call 18; fail)
          refine (rv_Fields x H10.out.1.2.rv).mono ?_
          rintro e w11 ⟨rfl, rfl⟩
          rw [HX.out.2.1, HX.out.2.2.1]
          go_wp2_with (go_at_call 21; fail)
          refine (heap_Color x H10.out.1.2.hp.at').mono ?_
          rintro e w11 ⟨rfl, rfl⟩
          rw [show S.colE x = 0 by unfold HS.colE; rw [HX.out.1]; rfl]
          obtain ⟨K, hK⟩ : ∃ K, S.colV x = K := ⟨_, rfl⟩
          rw [hK]
          have hrc := rv_Color x H10.out.1.2.rv
          rw [HX.out.1, if_pos rfl, hK] at hrc
          have HRC := Lib.hid hrc
          clear hrc hK
          go_wp2_with (go_at_call 22; fail)
          refine HRC.out.mono ?_
          rintro e w12 ⟨rfl, t12⟩
          have H12 : Hid (AkI W w A c S H O m qx w12 ∧ Ow w12 w.heap.size (.slice (some ⟨g, 0, none⟩) NO cg) S.objs) := ⟨H10.out.1.old t12, H10.out.2.touch t12 (fun _ _ x => x)⟩
          clear t12 k10 H10 HRC
          go_wp2_with fail
          go_loopw [14] (fun i wr => ∃ t : Nat, t ≤ nf ∧ i = .int .i64 t ∧ Hid (AkI W w A c S H O m qx wr ∧ Ow wr w.heap.size (.slice (some ⟨g, 0, none⟩) NO cg) S.objs)) (fun i _ => nf - (intOf i).toNat)
          case atStart => exact ⟨0, Nat.zero_le _, rfl, H12.out⟩
          case round =>
            obtain ⟨t, ht, rfl, HR2⟩ := hrel
            clear H12
            by_cases hlt2 : t < nf
            · have htb : (t : Int) < (nf : Int) := by omega
              have k1 := HCe.out _ HR2.out.2
              have hE := ld_ok HR2.out.1.2.rv.inv HX.out.1 (f := t) (by rw [HX.out.2.2.2]; omega)
              have hl1 := hp_Load x t HR2.out.1.2.hp
              have hl2 := fun w1 (h : AkI W w A c S H O m qx w1) => rv_Load x t h.2.rv
              obtain ⟨V, hV⟩ : ∃ V, S.ldV c x t = V := ⟨_, rfl⟩
              rw [hV, hE] at hl1 hl2
              have HL := Lib.hid (And.intro hl1 hl2)
              clear hE hl1 hl2 hV
              go_wp2_with (go_at_call 19; fail)
              refine HL.out.1.mono ?_
              rintro e w13 ⟨rfl, t13, hp13⟩
              have H13 : Hid (AkI W w A c S H O m qx w13 ∧ Ow w13 w.heap.size (.slice (some ⟨g, 0, none⟩) NO cg) S.objs) := ⟨HR2.out.1.heap t13 hp13, ow_heap1 HR2.out.2 t13 HA0.out⟩
              have k2 := HCe.out _ H13.out.2
              clear t13 hp13 k1
              go_wp2_with (go_at_call 20; fail)
              refine (HL.out.2 _ H13.out.1).mono ?_
              rintro e w14 ⟨rfl, rfl⟩
              go_wp2
              go_roundw
              case rel => exact ⟨t + 1, by omega, by go_num, H13.out⟩
              case measure => simp [intOf]; omega
            · have htb : ¬ (t : Int) < (nf : Int) := by omega
              clear ht hlt2
              go_wp2
              go_roundw
              case rel => exact ⟨j + 1, by omega, by go_num, HR2.out⟩
              case measure => simp [intOf]; omega
        · have hjb : ¬ (j : Int) < (NO : Int) := by omega
          obtain ⟨-, ⟨cx, d13, hcx, hcl⟩, -⟩ := HR.out.1.2.rv.heads
          obtain ⟨NX, hNX⟩ : ∃ NX, S.x.length = NX := ⟨_, rfl⟩
          rw [hNX] at d13 hcx
          have HNX := Lib.hid hNX
          have hNX64 : NX ≤ 64 := by rw [← hNX]; exact hx
          have HCl := Lib.hid (And.intro d13 hcl)
          have H15 := Lib.hid HR.out.1
          clear hj hlt HR hNX hcl hcx d13
          go_wp2_with fail
          go_loopw [19] (fun i wr2 => ∃ t : Nat, t ≤ NX ∧ i = .int .i64 t ∧ wr2 = wr) (fun i _ => NX - (intOf i).toNat)
          case atStart => exact ⟨0, Nat.zero_le _, rfl, rfl⟩
          case round =>
            obtain ⟨t, ht, rfl, rfl⟩ := hrel
            have d13 := HCl.out.1
            by_cases hlt2 : t < NX
            · have htb : (t : Int) < (NX : Int) := by omega
              have e0 := HCl.out.2 t (by rw [HNX.out]; exact hlt2)
              have hce := heap_Cell_ok t H15.out.2.hp.at' (by rw [HNX.out]; exact hlt2)
              obtain ⟨V, hV⟩ : ∃ V, S.x.getD t 0 = V := ⟨_, rfl⟩
              rw [hV] at hce e0
              have HCE := Lib.hid hce
              clear hce hV
              go_wp2_with (go_at_call 24; fail)
              refine HCE.out.mono ?_
              rintro e w14 ⟨rfl, rfl⟩
              go_wp2
              go_roundw
              case rel => exact ⟨t + 1, by omega, by first | (go_num; done) | trivial⟩
              case measure => first | (simp [intOf]; done) | (simp [intOf]; omega)
            · have htb : ¬ (t : Int) < (NX : Int) := by omega
              clear ht hlt2
              go_wp2
              go_ret
              exact ⟨rfl, H15.out.1, H15.out.2⟩
end Go.Proofs.YtflhjbmoncbomaaGreatDoor
