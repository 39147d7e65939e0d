/- The document's heap beside a heap: what each call tells, and that they stay the same. Conditions: what Rv says. The document's heap beside a heap: a block more. Conditions: what Rv says. The document's heap beside a heap: an object is made. Conditions: what Rv says. A heap and the document's, side by side. Conditions: what Two says. -/
import Derived.Test.YtnobempbcdkoaaaGreatDoorSm1
import Derived.Test.YtnobempbcdkoaaaGreatDoorRf9
namespace Go.Proofs.YtnobempbcdkoaaaGreatDoor
open Go.RowKit

variable {w w' : World} {O T : Nat → Prop} {m qx n : Nat} {c : Cf} {S : HS} {H : Nat → List Nat} {R : Rh}
/-- The document's heap lies there, and is what a heap is that holds S, H. -/
structure Rv (w : World) (O : Nat → Prop) (m qx : Nat) (c : Cf) (n : Nat) (S : HS) (H : Nat → List Nat) : Prop where
  ex : ∃ R, RfAt w O m qx c R ∧ Sim c S H R
  inv : HInv c S H
  tb : Tb c S.s.ks n
  hz : S.s.ws.length ≤ 4096
theorem Rv.touch (h : Rv w O m qx c n S H) (ht : Touch T w w') (hn : ∀ b, O b → ¬ T b) : Rv w' O m qx c n S H := by
  obtain ⟨⟨R, hr, hs⟩, hi, tb, hz⟩ := h
  exact ⟨⟨R, hr.touch ht hn, hs⟩, hi, tb, hz⟩
theorem Rv.old (h : Rv w O m qx c n S H) (ht : Touch nob w w') : Rv w' O m qx c n S H := h.touch ht (fun _ _ x => x)
theorem Sub.refl (w : World) (O : Nat → Prop) : Sub w O O := fun _ hb => .inl hb
theorem Sim.len (h : Sim c S H R) (tb : Tb c S.s.ks n) (hi : HInv c S H) : R.L.length ≤ S.s.ws.length := by
  have nd := tb.nodup _ tb.le
  rw [← h.ad] at nd
  have := sub_len _ ((List.range S.s.ws.length).map fun (x : Nat) => (x : Int) + 1) nd (fun x hx => by
    rw [h.ad] at hx
    obtain ⟨j, _, e, hj, _⟩ := hi.slot_of (tb.mem'.1 hx)
    exact List.mem_map.2 ⟨j, List.mem_range.2 hj, e.symm⟩)
  simpa using this
theorem rv_Put (a : Int) (h : Rv w O m qx c n S H) :
    Calls Tryz.prog 129 #[.pointer (some ⟨m, 0, none⟩), .int .i64 a] w fun x w' => x = .returned (.int .i64 (S.putE c a)) ∧ ∃ O', Touch O w w' ∧ Sub w O' O ∧ Rv w' O' m qx c n (S.putS c a) (putH S c H a) := by
  obtain ⟨⟨R, hr, hs⟩, hi, tb, hz⟩ := h
  have hl := Nat.le_trans (hs.len tb hi) hz
  by_cases hh : S.hand c a = true
  · obtain ⟨i, j, k, s, f, his, hF, s2, h2, kp⟩ := hs.put tb hi hh
    have e : S.putE c a = 0 := by unfold HS.putE; rw [if_pos (HS.hand_own hh).1, if_pos hh]
    rw [e]
    have := rf_Put_ok i k s hr hl f.at' f.pos his f.sk f.k4 (Nat.le_trans hF hz)
    rw [f.ea] at this
    refine this.mono ?_
    rintro x w' ⟨rfl, O', t1, t2, r2⟩
    exact ⟨rfl, O', t1, t2, ⟨_, r2, s2⟩, h2, by rw [kp.ks]; exact tb, by rw [kp.len]; exact hz⟩
  · have e1 : S.putS c a = S := by unfold HS.putS; rw [if_neg hh]
    have e2 : putH S c H a = H := by unfold putH; rw [if_neg hh]
    rw [e1, e2]
    refine (rf_Put_no a hr hl (e := S.putE c a) ?_).mono ?_
    · unfold HS.putE
      cases ho : S.own c a
      · exact .inl ⟨hs.isV_no tb ho, rfl⟩
      · rw [if_pos rfl, if_neg hh, hs.isV_own tb ho]
        refine .inr ⟨?_, rfl⟩
        rcases S.isN_cases a with x | x | x
        · exact absurd ((HS.isN_hand ho).1 x) hh
        · exact .inl x
        · exact .inr x
    · rintro x w' ⟨rfl, rfl⟩
      exact ⟨rfl, O, Touch.refl _ _, Sub.refl _ _, ⟨R, hr, hs⟩, hi, tb, hz⟩
theorem rv_Take (k : Int) (h : Rv w O m qx c n S H) :
    Calls Tryz.prog 127 #[.pointer (some ⟨m, 0, none⟩), .int .i64 k] w fun x w' => x = .returned (.tuple #[.int .i64 (takV H k), .int .i64 (takE H k)]) ∧ ∃ O', Touch O w w' ∧ Sub w O' O ∧ Rv w' O' m qx c n (S.takS H k) (takH H k) := by
  obtain ⟨⟨R, hr, hs⟩, hi, tb, hz⟩ := h
  have hl := Nat.le_trans (hs.len tb hi) hz
  by_cases hk : isCls k = true
  · obtain ⟨k0, k1⟩ := isCls_iff.1 hk
    obtain ⟨k, rfl⟩ := Int.eq_ofNat_of_zero_le k0
    have k4 : k < 4 := by omega
    have hk' : isCls (k : Int) = true := hk
    cases e : H k with
    | nil =>
      have eE : takE H (k : Int) = 12 := by unfold takE; rw [if_pos hk', Int.toNat_natCast, if_pos e]
      have eV : takV H (k : Int) = 0 := by unfold takV; rw [if_pos hk', Int.toNat_natCast, e]; rfl
      have eS : S.takS H (k : Int) = S := by unfold HS.takS; rw [eE]; rfl
      have eH : takH H (k : Int) = H := by unfold takH; rw [eE]; rfl
      rw [eE, eV, eS, eH]
      refine (rf_Take_none k k4 hr (by rw [hs.F k k4, e]; rfl)).mono ?_
      rintro x w' ⟨rfl, rfl⟩
      exact ⟨rfl, O, Touch.refl _ _, Sub.refl _ _, ⟨R, hr, hs⟩, hi, tb, hz⟩
    | cons j l =>
      have eE : takE H (k : Int) = 0 := by unfold takE; rw [if_pos hk', Int.toNat_natCast, e]; rfl
      have eV : takV H (k : Int) = j + 1 := by unfold takV; rw [if_pos hk', Int.toNat_natCast, e]; rfl
      have eS : S.takS H (k : Int) = { S with s := S.s.tak j k } := by
        unfold HS.takS
        rw [eE, if_pos rfl, eV, Int.toNat_natCast, show ((j : Int) + 1 - 1).toNat = j by omega]
      have eH : takH H (k : Int) = updH H k l := by unfold takH; rw [eE, if_pos rfl, Int.toNat_natCast, e]; rfl
      obtain ⟨i, s, f, hF, s2, h2⟩ := hs.take tb hi k4 e
      rw [eE, eV, eS, eH]
      have := rf_Take_ok i k (adr l) s hr hl k4 hF f.at' f.pos
      rw [f.ea] at this
      refine this.mono ?_
      rintro x w' ⟨rfl, O', t1, t2, r2⟩
      exact ⟨rfl, O', t1, t2, ⟨_, r2, s2⟩, h2, tb, hz⟩
  · have hk0 : isCls k = false := by simpa using hk
    have eE : takE H k = 1 := by unfold takE; rw [if_neg hk]
    have eV : takV H k = 0 := by unfold takV; rw [if_neg hk]
    have eS : S.takS H k = S := by unfold HS.takS; rw [eE]; rfl
    have eH : takH H k = H := by unfold takH; rw [eE]; rfl
    rw [eE, eV, eS, eH]
    refine (rf_Take_no k hk0 w).mono ?_
    rintro x w' ⟨rfl, rfl⟩
    exact ⟨rfl, O, Touch.refl _ _, Sub.refl _ _, ⟨R, hr, hs⟩, hi, tb, hz⟩
/-- Begun, and its fields laid 0. -/
def begZ (S : HS) (c : Cf) (a f : Int) : HS := if S.begE c a f = 0 then zer (S.begS c a f) (a - 1).toNat f.toNat else S
theorem rv_Begin (a f : Int) (h : Rv w O m qx c n S H) :
    Calls Tryz.prog 130 #[.pointer (some ⟨m, 0, none⟩), .int .i64 a, .int .i64 f] w fun x w' => x = .returned (.int .i64 (S.begE c a f)) ∧ ∃ O', Touch O w w' ∧ Sub w O' O ∧ Rv w' O' m qx c n (begZ S c a f) H := by
  obtain ⟨⟨R, hr, hs⟩, hi, tb, hz⟩ := h
  have hl := Nat.le_trans (hs.len tb hi) hz
  unfold begZ
  by_cases hh : S.hand c a = true
  · obtain ⟨k, hk4, hkc⟩ : ∃ k : Nat, k < 4 ∧ clsA c S.s.ks a = k := by
      obtain ⟨j, k, e, _, hk, hc, _⟩ := hi.slot_of (HS.hand_own hh).1
      exact ⟨k, hk, by rw [e]; exact hc⟩
    by_cases hn : objOk k f = true
    · obtain ⟨nf, rfl⟩ := Int.eq_ofNat_of_zero_le (objOk_iff.1 hn).2.1
      obtain ⟨i, j, s, fd, his, hroom, s2, h2, kp, _, _⟩ := hs.begin tb hi hh hkc hn
      have eE : S.begE c a nf = 0 := by unfold HS.begE; rw [if_pos hh, hkc, if_pos hn]
      have eS : S.begS c a nf = S.setw j (hObj k nf) := by
        unfold HS.begS
        rw [eE, if_pos rfl, hkc, fd.ej, show ((j : Int) + 1 - 1).toNat = j by omega]
      rw [eE, if_pos rfl, eS, Int.toNat_natCast, show (a - 1).toNat = j by have := fd.ej; omega]
      have ea := fd.ea
      subst ea
      refine (rf_Begin i k nf s hr hl fd.at' fd.pos his fd.sk hroom).mono ?_
      rintro x w' ⟨rfl, O', u, t1, t2, r2⟩
      exact ⟨rfl, O', t1, t2, ⟨_, r2, s2 u⟩, h2, by rw [kp.ks]; exact tb, by rw [kp.len]; exact hz⟩
    · have eE : S.begE c a f = 8 := by unfold HS.begE; rw [if_pos hh, hkc, if_neg hn]
      rw [eE, if_neg (by decide)]
      obtain ⟨i, j, k', s, fd⟩ := hs.fd tb hi (HS.hand_own hh).1
      obtain rfl : k = k' := by have := fd.cls; rw [fd.ej] at hkc; omega
      have his : s.is = 0 := by rw [fd.ok.is, fd.ea]; exact (HS.isN_hand (HS.hand_own hh).1).2 hh
      have hf : f < 0 ∨ clsSize k - 1 < f := by
        rw [← clsRoom_size hk4]
        rcases Int.lt_or_le f 0 with h1 | h1
        · exact .inl h1
        · refine .inr ?_
          rcases Int.lt_or_le (clsRoom k) f with h2 | h2
          · exact h2
          · exact absurd (objOk_iff.2 ⟨isCls_nat hk4, h1, h2⟩) hn
      have := rf_Begin_out i k f s hr hl fd.at' fd.pos his fd.sk hf
      rw [fd.ea] at this
      refine this.mono ?_
      rintro x w' ⟨rfl, t⟩
      exact ⟨rfl, O, t.hnob, Sub.refl _ _, ⟨R, hr.old t, hs⟩, hi, tb, hz⟩
  · have eE : S.begE c a f = 1 := by unfold HS.begE; rw [if_neg hh]
    rw [eE, if_neg (by decide)]
    have hx : isV R.L a ≠ 0 := by
      cases ho : S.own c a
      · rw [hs.isV_no tb ho]
        decide
      · rw [hs.isV_own tb ho]
        exact fun e => hh ((HS.isN_hand ho).1 e)
    refine (rf_Begin_no a f _ hr hl rfl hx).mono ?_
    rintro x w' ⟨rfl, rfl⟩
    exact ⟨rfl, O, Touch.refl _ _, Sub.refl _ _, ⟨R, hr, hs⟩, hi, tb, hz⟩
theorem rv_Bear (a col : Int) (h : Rv w O m qx c n S H) :
    Calls Tryz.prog 131 #[.pointer (some ⟨m, 0, none⟩), .int .i64 a, .int .i64 col] w fun x w' => x = .returned (.int .i64 (S.beaE c a col)) ∧ ∃ O', Touch O w w' ∧ Sub w O' O ∧ Rv w' O' m qx c n (S.beaS c a col) H := by
  obtain ⟨⟨R, hr, hs⟩, hi, tb, hz⟩ := h
  have hl := Nat.le_trans (hs.len tb hi) hz
  unfold HS.beaS
  by_cases hh : S.hand c a = true ∧ (col = 0 ∨ col = 1)
  · obtain ⟨i, j, k, s, f, his, hbg, hst⟩ := hs.bear tb hi hh.1 col hh.2
    have eE : S.beaE c a col = if S.begun a = true then 0 else 11 := by unfold HS.beaE; rw [if_pos hh]
    have ea := f.ea
    subst ea
    rw [← hbg] at eE hst
    rw [eE]
    refine (rf_Bear i col s hr hl f.at' f.pos his hh.2).mono ?_
    rintro x w' ⟨rfl, t, r2⟩
    refine ⟨rfl, O, t, Sub.refl _ _, ?_⟩
    by_cases hb : s.bg = true
    · obtain ⟨s2, h2⟩ := hst hb
      rw [if_pos hb] at r2
      rw [if_pos hb, if_pos rfl, show (s.a - 1).toNat = j by have := f.ej; omega]
      exact ⟨⟨_, r2, s2⟩, h2, tb, hz⟩
    · rw [if_neg hb] at r2
      rw [if_neg hb, if_neg (by decide)]
      exact ⟨⟨R, r2, hs⟩, hi, tb, hz⟩
  · have eE : S.beaE c a col = 1 := by unfold HS.beaE; rw [if_neg hh]
    rw [eE, if_neg (by decide)]
    refine (rf_Bear_no a col _ hr hl rfl ?_).mono ?_
    · cases ho : S.own c a
      · rw [hs.isV_no tb ho]
        exact .inl (by decide)
      · rw [hs.isV_own tb ho]
        by_cases hd : S.hand c a = true
        · refine .inr ⟨(HS.isN_hand ho).2 hd, ?_⟩
          constructor
          · exact fun e => hh ⟨hd, .inl e⟩
          · exact fun e => hh ⟨hd, .inr e⟩
        · exact .inl (fun e => hd ((HS.isN_hand ho).1 e))
    · rintro x w' ⟨rfl, rfl⟩
      exact ⟨rfl, O, Touch.refl _ _, Sub.refl _ _, ⟨R, hr, hs⟩, hi, tb, hz⟩
theorem Sim.isV_obj (hs : Sim c S H R) (tb : Tb c S.s.ks n) {a : Int} (hno : S.obj a = false) : isV R.L a ≠ 2 := by
  cases ho : S.own c a
  · rw [hs.isV_no tb ho]
    decide
  · rw [hs.isV_own tb ho]
    intro e
    rw [HS.isN_obj.1 e] at hno
    cases hno
theorem rv_Release (a : Int) (h : Rv w O m qx c n S H) :
    Calls Tryz.prog 88 #[.pointer (some ⟨m, 0, none⟩), .int .i64 a] w fun x w' => x = .returned (.int .i64 (S.freE a)) ∧ ∃ O', Touch O w w' ∧ Sub w O' O ∧ Rv w' O' m qx c n (S.freS c a) (freH S c H a) := by
  obtain ⟨⟨R, hr, hs⟩, hi, tb, hz⟩ := h
  have hl := Nat.le_trans (hs.len tb hi) hz
  by_cases ho : S.obj a = true
  · obtain ⟨i, j, k, s, f, his, hF, s2, h2, ek, el⟩ := hs.free tb hi ho
    have e : S.freE a = 0 := by unfold HS.freE; rw [if_pos ho]
    rw [e]
    have := rf_Release i k s hr hl f.at' f.pos his f.sk f.k4 (Nat.le_trans hF hz)
    rw [f.ea] at this
    refine this.mono ?_
    rintro x w' ⟨rfl, O', t1, t2, r2⟩
    exact ⟨rfl, O', t1, t2, ⟨_, r2, s2⟩, h2, by rw [ek]; exact tb, by rw [el]; exact hz⟩
  · have e1 : S.freE a = 1 := by unfold HS.freE; rw [if_neg ho]
    have e2 : S.freS c a = S := by unfold HS.freS; rw [if_neg ho]
    have e3 : freH S c H a = H := by unfold freH; rw [if_neg ho]
    rw [e1, e2, e3]
    refine (rf_Release_no a _ hr hl rfl (hs.isV_obj tb (by simpa using ho))).mono ?_
    rintro x w' ⟨rfl, rfl⟩
    exact ⟨rfl, O, Touch.refl _ _, Sub.refl _ _, ⟨R, hr, hs⟩, hi, tb, hz⟩
end Go.Proofs.YtnobempbcdkoaaaGreatDoor
namespace Go.Proofs.YtnobempbcdkoaaaGreatDoor
open Go.RowKit

variable {w w' : World} {O T : Nat → Prop} {m qx n : Nat} {c : Cf} {S : HS} {H : Nat → List Nat} {R : Rh}
theorem rv_Assign (k : Int) (h : Rv w O m qx c n S H) :
    Calls Tryz.prog 128 #[.pointer (some ⟨m, 0, none⟩), .int .i64 k] w fun x w' => ∃ v' O', x = .returned (.tuple #[v', .int .i64 (S.asgE n k)]) ∧ Touch O w w' ∧ Sub w O' O ∧ Ow w' w.heap.size v' (S.asgL c n k) ∧ Rv w' O' m qx c n (S.asgS n k) H ∧ ∀ b, v'.ownBlock = some b → ¬ O' b := by
  obtain ⟨⟨R, hr, hs⟩, hi, tb, hz⟩ := h
  by_cases hk : isCls k = true
  · by_cases hf : S.s.ks.length < n
    · have eE : S.asgE n k = 0 := by unfold HS.asgE; rw [if_pos hk, if_pos hf]
      have eS : S.asgS n k = { S with s := { S.s with ks := S.s.ks ++ [k] } } := by unfold HS.asgS; rw [eE, if_pos rfl]
      have eL : S.asgL c n k = sl c k S.s.ks.length := by unfold HS.asgL; rw [eE, if_pos rfl]
      have hb : (S.s.ks.length : Int) < c.c0 := by have := tb.hn; omega
      have s2 := hs.assign tb hi hk hf
      have tb2 := tb.more hk hf
      have h2 := hi.more k
      have hln := s2.len tb2 h2
      obtain ⟨k0, k1⟩ := isCls_iff.1 hk
      obtain ⟨k, rfl⟩ := Int.eq_ofNat_of_zero_le k0
      have hk' : isCls (k : Int) = true := hk
      obtain ⟨_, ⟨u1, v1⟩, _⟩ := cfgOk_iff.1 hi.ok
      obtain ⟨p0, p1, p2, p3⟩ := per_facts c.c1 (k : Int) hk' u1 v1
      have z0 := clsSize_lo hk'
      obtain ⟨N, hN⟩ : ∃ N : Nat, perBlock c.c1 (k : Int) = N := ⟨(perBlock c.c1 k).toNat, by omega⟩
      have esl : sl c k S.s.ks.length = newL c.c1 k R.u N := by
        rw [sl_eq hi.ok hk' (by omega) hb, hN, hs.u]
        rfl
      rw [eE, eS, eL, esl]
      rw [esl] at s2 hln
      have hl : R.L.length + N ≤ 4096 := by
        have e1 : (R.L ++ (newL c.c1 k R.u N).map fun a => newS a k).length = R.L.length + N := by rw [List.length_append, List.length_map, newL_len]
        have hln : (R.L ++ (newL c.c1 k R.u N).map fun a => newS a k).length ≤ S.s.ws.length := hln
        omega
      refine (rf_Assign_ok k N hk' hr (by rw [hs.u]; omega) hl hN (fun j hj => ?_) (by rw [hs.u]; have := tb.le; have := hi.len; have := tb.hn; have : c.c0 * 16 ≤ c.c0 * c.c1 := Int.mul_le_mul_of_nonneg_left u1 (by omega); omega)).mono ?_
      · have : plOk c.c0 c.c1 c.c2 c.c3 c.c4 c.c5 c.c6 k R.u j 0 = true := plOk_iff.2 ⟨hi.ok, hk', ⟨by rw [hs.u]; omega, by rw [hs.u]; exact hb⟩, ⟨by omega, by omega⟩, by omega, by omega⟩
        rw [this]
        rfl
      · rintro x w' ⟨v', O', rfl, t1, t2, ow, r2, nd⟩
        exact ⟨v', O', rfl, t1, t2, ow, ⟨⟨_, r2, s2⟩, h2, tb2, hz⟩, nd⟩
    · have eE : S.asgE n k = 10 := by unfold HS.asgE; rw [if_pos hk, if_neg hf]
      have eS : S.asgS n k = S := by unfold HS.asgS; rw [eE]; rfl
      have eL : S.asgL c n k = [] := by unfold HS.asgL; rw [eE]; rfl
      rw [eE, eS, eL]
      refine (rf_Assign_full k hk hr (by rw [hs.u]; have := tb.le; have := tb.hn; omega)).mono ?_
      rintro x w' ⟨rfl, t⟩
      exact ⟨_, O, rfl, t.hnob, Sub.refl _ _, World.ownsRow_nil _ _ _ _, ⟨⟨R, hr.old t, hs⟩, hi, tb, hz⟩, fun b hb => by cases hb⟩
  · have hk0 : isCls k = false := by simpa using hk
    have eE : S.asgE n k = 1 := by unfold HS.asgE; rw [if_neg hk]
    have eS : S.asgS n k = S := by unfold HS.asgS; rw [eE]; rfl
    have eL : S.asgL c n k = [] := by unfold HS.asgL; rw [eE]; rfl
    rw [eE, eS, eL]
    refine (rf_Assign_no k hk0 w).mono ?_
    rintro x w' ⟨rfl, rfl⟩
    exact ⟨_, O, rfl, Touch.refl _ _, Sub.refl _ _, World.ownsRow_nil _ _ _ _, ⟨⟨R, hr, hs⟩, hi, tb, hz⟩, fun b hb => by cases hb⟩
end Go.Proofs.YtnobempbcdkoaaaGreatDoor
namespace Go.Proofs.YtnobempbcdkoaaaGreatDoor
open Go.RowKit

variable {w w' : World} {O T : Nat → Prop} {m qx n : Nat} {c : Cf} {S : HS} {H : Nat → List Nat} {R : Rh}
theorem born_of {S2 : HS} {j k : Nat} {f col : Int} (hi : HInv c S2 H) (hh : S2.hand c (j + 1) = true) (hc : clsA c S2.s.ks (j + 1) = k) (hf : objOk k f = true) (hcol : col = 0 ∨ col = 1) : (begZ S2 c (j + 1) f).beaS c (j + 1) col = S2.born c j f col := by
  have hE : S2.begE c (j + 1) f = 0 := by unfold HS.begE; rw [if_pos hh, hc, if_pos hf]
  have hS : S2.begS c (j + 1) f = S2.setw j (hObj k f) := by unfold HS.begS; rw [hE, if_pos rfl, hc, show ((j : Int) + 1 - 1).toNat = j by omega]
  obtain ⟨j', k', ej, hj, hk4, _, ho⟩ := hi.slot_of (HS.hand_own hh).1
  obtain rfl : j = j' := by omega
  have g : Mkg c S2 j k f := ⟨hh, hc, by have := isCls_iff.1 (objOk_iff.1 hf).1; omega, hf, hj, ho⟩
  obtain ⟨l1, l2, l3, l4⟩ := g.look f.toNat
  have hb : begZ S2 c (j + 1) f = zer (S2.setw j (hObj k f)) j f.toNat := by unfold begZ; rw [hE, if_pos rfl, hS, show ((j : Int) + 1 - 1).toNat = j by omega]
  rw [hb]
  have hB : (zer (S2.setw j (hObj k f)) j f.toNat).beaE c (j + 1) col = 0 := by unfold HS.beaE; rw [if_pos ⟨l1, hcol⟩, if_pos l2]
  unfold HS.beaS HS.born
  rw [hB, if_pos rfl, hc, show ((j : Int) + 1 - 1).toNat = j by omega]
theorem rv_Make_no (f col : Int) (hf : clsOf f = -1) (w : World) :
    Calls Tryz.prog 86 #[.pointer (some ⟨m, 0, none⟩), .int .i64 f, .int .i64 col] w fun x w' => x = .returned (.tuple #[.int .i64 0, .int .i64 8]) ∧ w = w' := by
  have HF := Lib.hid hf
  clear hf
  go_enter Tryz.func86, Tryz.ntmps86
  go_wp2_with (go_at_call 126; fail)
  refine (ref03_Of f w).mono ?_
  rintro e w1 ⟨rfl, rfl⟩
  rw [HF.out]
  go_wp2
  go_ret2
  exact ⟨rfl, rfl⟩
theorem rv_Make_col (f col : Int) (k : Nat) (hf : clsOf f = k) (h0 : col ≠ 0) (h1 : col ≠ 1) (w : World) :
    Calls Tryz.prog 86 #[.pointer (some ⟨m, 0, none⟩), .int .i64 f, .int .i64 col] w fun x w' => x = .returned (.tuple #[.int .i64 0, .int .i64 1]) ∧ w = w' := by
  have HF := Lib.hid hf
  have hb0 : (col != 0) = true := by simpa using h0
  have hb1 : (col != 1) = true := by simpa using h1
  clear hf
  go_enter Tryz.func86, Tryz.ntmps86
  go_wp2_with (go_at_call 126; fail)
  refine (ref03_Of f w).mono ?_
  rintro e w1 ⟨rfl, rfl⟩
  rw [HF.out]
  go_wp2
  go_ret2
  exact ⟨rfl, rfl⟩
/-- What is left behind the slot. -/
def MkR (w : World) (O : Nat → Prop) (m qx : Nat) (c : Cf) (n : Nat) (S2 : HS) (H2 : Nat → List Nat) (a f col : Int) (w' : World) : Prop := ∃ O', Touch O w w' ∧ Sub w O' O ∧ Rv w' O' m qx c n ((begZ S2 c a f).beaS c a col) H2
theorem rv_Make_took (f col : Int) (k : Nat) (h : Rv w O m qx c n S H) (hf : clsOf f = k) (hT : takE H k = 0) (hc : col = 0 ∨ col = 1) :
    Calls Tryz.prog 86 #[.pointer (some ⟨m, 0, none⟩), .int .i64 f, .int .i64 col] w fun x w' => x = .returned (.tuple #[.int .i64 (takV H k), .int .i64 0]) ∧ MkR w O m qx c n (S.takS H k) (takH H k) (takV H k) f col w' := by
  have HF := Lib.hid (And.intro hf hT)
  have HH := Lib.hid h
  obtain ⟨a, ha⟩ : ∃ a, takV H k = a := ⟨_, rfl⟩
  have HA := Lib.hid ha
  rw [ha]
  clear h hf hT ha
  rcases hc with rfl | rfl
  all_goals
    go_enter Tryz.func86, Tryz.ntmps86
    go_wp2_with (go_at_call 126; fail)
    refine (ref03_Of f w).mono ?_
    rintro e w1 ⟨rfl, rfl⟩
    rw [HF.out.1]
    go_wp2_with (go_at_call 127; fail)
    refine (rv_Take k HH.out).mono ?_
    rintro e w2 ⟨rfl, O2, t2, s2, h2⟩
    rw [HF.out.2, HA.out]
    have H2 := Lib.hid (And.intro t2 (And.intro s2 h2))
    clear t2 s2 h2
    go_wp2_with (go_at_call 130; fail)
    refine (rv_Begin a f H2.out.2.2).mono ?_
    rintro e w3 ⟨rfl, O3, t3, s3, h3⟩
    generalize HS.begE _ _ _ _ = be
    have H3 := Lib.hid (And.intro t3 (And.intro s3 h3))
    clear t3 s3 h3
    go_wp2_with (go_at_call 131; fail)
    refine (rv_Bear a _ H3.out.2.2).mono ?_
    rintro e w4 ⟨rfl, O4, t4, s4, h4⟩
    generalize HS.beaE _ _ _ _ = bb
    have H4 := Lib.hid (And.intro t4 (And.intro s4 h4))
    clear t4 s4 h4
    go_wp2
    go_ret2
    have T3 := H2.out.1.step H3.out.1 H2.out.2.1
    have S3 : Sub w O3 O := fun b hb => (H3.out.2.1 b hb).elim (H2.out.2.1 b) (fun x => .inr (Nat.le_trans H2.out.1.size x))
    exact ⟨rfl, O4, T3.step H4.out.1 S3, fun b hb => (H4.out.2.1 b hb).elim (S3 b) (fun x => .inr (Nat.le_trans T3.size x)), H4.out.2.2⟩
theorem rv_Make_full (f col : Int) (k : Nat) (h : Rv w O m qx c n S H) (hf : clsOf f = k) (hT : takE H k = 12) (hA : S.asgE n k = 10) (hc : col = 0 ∨ col = 1) :
    Calls Tryz.prog 86 #[.pointer (some ⟨m, 0, none⟩), .int .i64 f, .int .i64 col] w fun x w' => x = .returned (.tuple #[.int .i64 0, .int .i64 10]) ∧ ∃ O', Touch O w w' ∧ Sub w O' O ∧ Rv w' O' m qx c n S H := by
  have eS : S.takS H k = S := by unfold HS.takS; rw [hT]; rfl
  have eH : takH H k = H := by unfold takH; rw [hT]; rfl
  have eA : S.asgS n k = S := by unfold HS.asgS; rw [hA]; rfl
  have HF := Lib.hid (And.intro hf (And.intro hT (And.intro hA (And.intro eS (And.intro eH eA)))))
  have HH := Lib.hid h
  obtain ⟨a, ha⟩ : ∃ a, takV H k = a := ⟨_, rfl⟩
  have HA := Lib.hid ha
  clear h hf hT ha hA eS eH eA
  rcases hc with rfl | rfl
  all_goals
    go_enter Tryz.func86, Tryz.ntmps86
    go_wp2_with (go_at_call 126; fail)
    refine (ref03_Of f w).mono ?_
    rintro e w1 ⟨rfl, rfl⟩
    rw [HF.out.1]
    go_wp2_with (go_at_call 127; fail)
    refine (rv_Take k HH.out).mono ?_
    rintro e w2 ⟨rfl, O2, t2, s2, h2⟩
    rw [HF.out.2.2.2.1, HF.out.2.2.2.2.1] at h2
    rw [HF.out.2.1, HA.out]
    have H2 := Lib.hid (And.intro t2 (And.intro s2 h2))
    clear t2 s2 h2
    go_wp2_with (go_at_call 128; fail)
    refine (rv_Assign k H2.out.2.2).mono ?_
    rintro e w3 ⟨v3, O3, rfl, t3, s3, ow, h3, nd⟩
    rw [HF.out.2.2.2.2.2] at h3
    rw [HF.out.2.2.1]
    have H3 := Lib.hid (And.intro t3 (And.intro s3 h3))
    clear t3 s3 h3 ow nd
    go_wp2
    go_ret2
    have T3 := H2.out.1.step H3.out.1 H2.out.2.1
    have S3 : Sub w O3 O := fun b hb => (H3.out.2.1 b hb).elim (H2.out.2.1 b) (fun x => .inr (Nat.le_trans H2.out.1.size x))
    exact ⟨rfl, O3, T3, S3, H3.out.2.2⟩
/-- Behind some rounds: the slots behind j are put. -/
def MkI (w : World) (O : Nat → Prop) (m qx : Nat) (c : Cf) (n : Nat) (S1 : HS) (H1 : Nat → List Nat) (L : List Int) (v : Value) (j : Nat) (wr : World) : Prop :=
  ∃ O', Touch O w wr ∧ Sub w O' O ∧ Rv wr O' m qx c n (pfold c (L.drop (j + 1)).reverse S1 H1).1 (pfold c (L.drop (j + 1)).reverse S1 H1).2 ∧ IntsIn wr v L ∧ ∀ b, v.ownBlock = some b → ¬ O' b ∧ b < wr.heap.size
theorem rv_Make_asg (f col : Int) (k N : Nat) (h : Rv w O m qx c n S H) (hf : clsOf f = k) (hT : takE H k = 12) (hA : S.asgE n k = 0) (hN : (S.asgL c n k).length = N + 1) (hN1 : N < 4096) (hc : col = 0 ∨ col = 1) :
    Calls Tryz.prog 86 #[.pointer (some ⟨m, 0, none⟩), .int .i64 f, .int .i64 col] w fun x w' => x = .returned (.tuple #[.int .i64 ((S.asgL c n k).getD 0 0), .int .i64 0]) ∧ MkR w O m qx c n (pfold c (S.asgL c n k).tail.reverse (S.asgS n k) H).1 (pfold c (S.asgL c n k).tail.reverse (S.asgS n k) H).2 ((S.asgL c n k).getD 0 0) f col w' := by
  have eS : S.takS H k = S := by unfold HS.takS; rw [hT]; rfl
  have eH : takH H k = H := by unfold takH; rw [hT]; rfl
  obtain ⟨S1, hS1⟩ : ∃ S1, S.asgS n k = S1 := ⟨_, rfl⟩
  obtain ⟨L, hL⟩ : ∃ L, S.asgL c n k = L := ⟨_, rfl⟩
  obtain ⟨a, ha⟩ : ∃ a, takV H k = a := ⟨_, rfl⟩
  have HF := Lib.hid (And.intro hf (And.intro hT (And.intro hA (And.intro eS (And.intro eH (And.intro hS1 (And.intro hL ha)))))))
  rw [hS1, hL]
  rw [hL] at hN
  have HH := Lib.hid h
  have HN := Lib.hid hN
  clear h hf hT ha hA eS eH hS1 hL hN
  obtain ⟨cb0, hcb⟩ : ∃ b, (col != 0 && col != 1) = b := ⟨_, rfl⟩
  rcases hc with rfl | rfl
  all_goals
    go_enter Tryz.func86, Tryz.ntmps86
    go_wp2_with (go_at_call 126; fail)
    refine (ref03_Of f w).mono ?_
    rintro e w1 ⟨rfl, rfl⟩
    rw [HF.out.1]
    go_wp2_with (go_at_call 127; fail)
    refine (rv_Take k HH.out).mono ?_
    rintro e w2 ⟨rfl, O2, t2, s2, h2⟩
    rw [HF.out.2.2.2.1, HF.out.2.2.2.2.1] at h2
    rw [HF.out.2.1, HF.out.2.2.2.2.2.2.2]
    have H2 := Lib.hid (And.intro t2 (And.intro s2 h2))
    clear t2 s2 h2
    go_wp2_with (go_at_call 128; fail)
    refine (rv_Assign k H2.out.2.2).mono ?_
    rintro e w3 ⟨v3, O3, rfl, t3, s3, ow, h3, nd⟩
    rw [HF.out.2.2.2.2.2.1] at h3
    rw [HF.out.2.2.2.2.2.2.1] at ow
    rw [HF.out.2.2.1]
    have T3 := H2.out.1.step t3 H2.out.2.1
    have S3 : Sub w O3 O := fun b hb => (s3 b hb).elim (H2.out.2.1 b) (fun x => .inr (Nat.le_trans H2.out.1.size x))
    have I3 : MkI w O m qx c n S1 H L v3 N w3 := ⟨O3, T3, S3, by rw [List.drop_eq_nil_of_le (by rw [HN.out]; exact Nat.le_refl _)]; exact h3, ow.ints, fun b hb => ⟨nd b hb, ow.old b hb⟩⟩
    obtain ⟨ao, cap, rfl⟩ := ow.ints.shape
    rw [HN.out] at I3 ⊢
    have HI3 := Lib.hid I3
    clear t3 s3 h3 ow nd T3 S3 I3
    go_wp2_with fail
    go_loopw [13] (fun i wr => ∃ j : Nat, j ≤ N ∧ i = .int .i64 j ∧ Hid (MkI w O m qx c n S1 H L (.slice ao (N + 1) cap) j wr)) (fun i _ => (intOf i).toNat)
    case atStart => exact ⟨N, Nat.le_refl _, by go_num, HI3.out⟩
    case round =>
      obtain ⟨j, hj, rfl, HR⟩ := hrel
      obtain ⟨O5, t5, s5, h5, i5, n5⟩ := HR.out
      have hjl : j < L.length := by rw [HN.out]; omega
      obtain ⟨b, o, cp, e, hcap, hcell⟩ := i5.at hjl
      rw [HN.out] at e hcap
      injection e with e1 e2 e3
      subst e1 e3
      obtain ⟨x, hx⟩ : ∃ x, L.getD j 0 = x := ⟨_, rfl⟩
      rw [hx] at hcell
      have H5 := Lib.hid (And.intro t5 (And.intro s5 (And.intro h5 (And.intro i5 n5))))
      have HX := Lib.hid hx
      clear t5 s5 h5 i5 n5 HR hx e2 hjl
      cases j with
      | succ i =>
        have hpos : (0 : Int) < (i + 1 : Nat) := by omega
        go_wp2_with (go_at_call 129; fail)
        refine (rv_Put x H5.out.2.2.1).mono ?_
        rintro e w6 ⟨rfl, O6, t6, s6, h6⟩
        generalize HS.putE _ _ _ = pe
        have HD : Hid ((L.drop (i + 1)).reverse = (L.drop (i + 1 + 1)).reverse ++ [x]) := by
          show _ = _
          have hlt : i + 1 < L.length := by rw [HN.out]; omega
          rw [List.drop_eq_getElem_cons hlt, List.reverse_cons, ← HX.out, List.getD_eq_getElem?_getD, List.getElem?_eq_getElem hlt]
          rfl
        have I6 : Hid (MkI w O m qx c n S1 H L (.slice (some ⟨b, o, none⟩) (N + 1) cap) i w6) := by
          refine ⟨O6, H5.out.1.step t6 H5.out.2.1, fun y hy => (s6 y hy).elim (H5.out.2.1 y) (fun z => .inr (Nat.le_trans H5.out.1.size z)), ?_, H5.out.2.2.2.1.touch t6 (fun y hy => (H5.out.2.2.2.2 y hy).1), fun y hy => ⟨fun hO => ?_, Nat.lt_of_lt_of_le (H5.out.2.2.2.2 y hy).2 t6.size⟩⟩
          · rw [HD.out, pfold_snoc]
            exact h6
          · have h1 := H5.out.2.2.2.2 y hy
            rcases s6 y hO with z | z
            · exact h1.1 z
            · omega
        clear t6 s6 h6
        go_wp2
        go_roundw
        case rel => exact ⟨i, by omega, by go_num, I6⟩
        case measure => simp [intOf]
      | zero =>
        have ht : (L.drop (0 + 1)).reverse = L.tail.reverse := by rw [List.drop_one]
        have h5 := H5.out.2.2.1
        rw [ht] at h5
        have HE := Lib.hid (And.intro H5.out.1 (And.intro H5.out.2.1 h5))
        rw [Nat.add_zero] at hcell
        clear h5 ht H5
        go_wp2_with (go_at_call 130; fail)
        refine (rv_Begin x f HE.out.2.2).mono ?_
        rintro e w7 ⟨rfl, O7, t7, s7, h7⟩
        generalize HS.begE _ _ _ _ = be
        have H7 := Lib.hid (And.intro t7 (And.intro s7 h7))
        clear t7 s7 h7
        go_wp2_with (go_at_call 131; fail)
        refine (rv_Bear x _ H7.out.2.2).mono ?_
        rintro e w4 ⟨rfl, O4, t4, s4, h4⟩
        generalize HS.beaE _ _ _ _ = bb
        have H4 := Lib.hid (And.intro t4 (And.intro s4 h4))
        clear t4 s4 h4
        go_wp2
        go_ret2
        rw [HX.out]
        have T7 := HE.out.1.step H7.out.1 HE.out.2.1
        have S7 : Sub w O7 O := fun b hb => (H7.out.2.1 b hb).elim (HE.out.2.1 b) (fun x => .inr (Nat.le_trans HE.out.1.size x))
        exact ⟨rfl, O4, T7.step H4.out.1 S7, fun b hb => (H4.out.2.1 b hb).elim (S7 b) (fun x => .inr (Nat.le_trans T7.size x)), H4.out.2.2⟩
theorem rv_Make (f col : Int) (h : Rv w O m qx c n S H) :
    Calls Tryz.prog 86 #[.pointer (some ⟨m, 0, none⟩), .int .i64 f, .int .i64 col] w fun x w' => x = .returned (.tuple #[.int .i64 (makV S H c n f col), .int .i64 (makE S H n f col)]) ∧ ∃ O', Touch O w w' ∧ Sub w O' O ∧ Rv w' O' m qx c n (makS S H c n f col) (makH S H c n f col) := by
  unfold makV makS makH
  by_cases ho : ofOk f = true
  · have hf : 0 ≤ f ∧ f ≤ 15 := by unfold ofOk at ho; simp only [Bool.and_eq_true, decide_eq_true_eq] at ho; exact ho
    obtain ⟨k1, k2, -⟩ := clsOf_is hf.1 hf.2
    obtain ⟨k0, k3⟩ := isCls_iff.1 k1
    obtain ⟨k, hk⟩ := Int.eq_ofNat_of_zero_le k0
    have hk4 : k < 4 := by omega
    have hfk : objOk k f = true := objOk_iff.2 ⟨isCls_nat hk4, hf.1, by rw [← hk]; exact k2⟩
    rw [hk] at k1 k2 ⊢
    by_cases hc : col = 0 ∨ col = 1
    · have eM : makE S H n f col = sloE S H n k := by unfold makE; rw [if_pos ho, if_pos hc, hk]
      by_cases hE : sloE S H n k = 0
      · rw [eM, hE, if_pos rfl, if_pos rfl, if_pos rfl]
        obtain ⟨j, s1, s2, s3, s4, -⟩ := slot_facts h.inv hk4 h.tb.hn hE
        have key : ∀ w', MkR w O m qx c n (sloP S H c n k).1 (sloP S H c n k).2 (sloV S H c n k) f col w' → ∃ O', Touch O w w' ∧ Sub w O' O ∧ Rv w' O' m qx c n ((sloP S H c n k).1.born c (sloV S H c n k - 1).toNat f col) (sloP S H c n k).2 := by
          rintro w' ⟨O', t, s, r⟩
          rw [s1, born_of s4 s2 s3 hfk hc] at r
          rw [s1, show ((j : Int) + 1 - 1).toNat = j by omega]
          exact ⟨O', t, s, r⟩
        by_cases h12 : takE H k = 12
        · have hA : S.asgE n k = 0 := by unfold sloE at hE; rw [if_pos h12] at hE; exact hE
          have eL : S.asgL c n k = sl c k S.s.ks.length := by unfold HS.asgL; rw [hA, if_pos rfl]
          have eV : sloV S H c n k = (S.asgL c n k).getD 0 0 := by unfold sloV; rw [if_pos h12, if_pos hA, eL]
          have eP : sloP S H c n k = pfold c (S.asgL c n k).tail.reverse (S.asgS n k) H := by unfold sloP; rw [if_pos h12, if_pos hA, eL]
          rw [eP, eV] at key ⊢
          have hlen : ∃ N, (S.asgL c n k).length = N + 1 ∧ N < 4096 := by
            rw [eL]
            have hks : S.s.ks.length < n := by
              unfold HS.asgE at hA
              rw [if_pos k1] at hA
              by_cases hx : S.s.ks.length < n
              · exact hx
              · rw [if_neg hx] at hA; cases hA
            obtain ⟨_, ⟨u1, v1⟩, _⟩ := cfgOk_iff.1 h.inv.ok
            obtain ⟨p0, p1, p2, p3⟩ := per_facts c.c1 (k : Int) k1 u1 v1
            have hn := h.tb.hn
            rw [sl_eq h.inv.ok k1 (by omega) (by omega), List.length_map, List.length_range]
            exact ⟨(perBlock c.c1 k).toNat - 1, by omega, by omega⟩
          obtain ⟨N, hN, hN1⟩ := hlen
          refine (rv_Make_asg f col k N h hk h12 hA hN hN1 hc).mono ?_
          rintro x w' ⟨rfl, r⟩
          exact ⟨rfl, key w' r⟩
        · have hT : takE H k = 0 := by unfold sloE at hE; rw [if_neg h12] at hE; exact hE
          have eV : sloV S H c n k = takV H k := by unfold sloV; rw [if_neg h12]
          have eP : sloP S H c n k = (S.takS H k, takH H k) := by unfold sloP; rw [if_neg h12]
          rw [eP, eV] at key ⊢
          refine (rv_Make_took f col k h hk hT hc).mono ?_
          rintro x w' ⟨rfl, r⟩
          exact ⟨rfl, key w' r⟩
      · have h12 : takE H k = 12 := by
          by_cases hx : takE H k = 12
          · exact hx
          · exfalso
            apply hE
            unfold sloE
            rw [if_neg hx]
            unfold takE at hx ⊢
            rw [if_pos k1] at hx ⊢
            by_cases hy : H (k : Int).toNat = []
            · rw [if_pos hy] at hx; exact absurd rfl hx
            · rw [if_neg hy]
        have eA : sloE S H n k = S.asgE n k := by unfold sloE; rw [if_pos h12]
        have hA : S.asgE n k = 10 := by
          rw [eA] at hE
          unfold HS.asgE at hE ⊢
          rw [if_pos k1] at hE ⊢
          by_cases hx : S.s.ks.length < n
          · rw [if_pos hx] at hE; exact absurd rfl hE
          · rw [if_neg hx]
        rw [eM, eA, hA, if_neg (by decide), if_neg (by decide), if_neg (by decide)]
        exact rv_Make_full f col k h hk h12 hA hc
    · have eM : makE S H n f col = 1 := by unfold makE; rw [if_pos ho, if_neg hc]
      rw [eM, if_neg (by decide), if_neg (by decide), if_neg (by decide)]
      refine (rv_Make_col f col k hk (fun e => hc (.inl e)) (fun e => hc (.inr e)) w).mono ?_
      rintro x w' ⟨rfl, rfl⟩
      exact ⟨rfl, O, Touch.refl _ _, Sub.refl _ _, h⟩
  · have eM : makE S H n f col = 8 := by unfold makE; rw [if_neg ho]
    rw [eM, if_neg (by decide), if_neg (by decide), if_neg (by decide)]
    refine (rv_Make_no f col ?_ w).mono ?_
    · refine clsOf_no ?_
      unfold ofOk at ho
      simp only [Bool.and_eq_true, decide_eq_true_eq] at ho
      omega
    · rintro x w' ⟨rfl, rfl⟩
      exact ⟨rfl, O, Touch.refl _ _, Sub.refl _ _, h⟩
end Go.Proofs.YtnobempbcdkoaaaGreatDoor
namespace Go.Proofs.YtnobempbcdkoaaaGreatDoor
open Go.RowKit

variable {W w w1 w2 w' : World} {O O' T : Nat → Prop} {m qx n : Nat} {c : Cf} {A : HA} {S S' : HS} {H H' : Nat → List Nat}
structure Two (W w : World) (A : HA) (c : Cf) (S : HS) (H : Nat → List Nat) (O : Nat → Prop) (m qx : Nat) : Prop where
  hp : HpI W w A c S H
  rv : Rv w O m qx c A.L.n S H
  ap : ∀ b ∈ A.all, ¬ O b
  hO : ∀ b, O b → W.heap.size ≤ b
theorem Two.old (h : Two W w A c S H O m qx) (ht : Touch nob w w') : Two W w' A c S H O m qx := ⟨h.hp.old ht, h.rv.old ht, h.ap, h.hO⟩
theorem Two.base (h : Two W w A c S H O m qx) : Touch nob W w := h.hp.at'.base
/-- Behind the heap's call. -/
theorem Two.mid (h : Two W w A c S H O m qx) (t : Touch (HT A) w w1) : Rv w1 O m qx c A.L.n S H := h.rv.touch t (fun b hO hA => h.ap b hA hO)
/-- Behind both. -/
theorem Two.next (h : Two W w A c S H O m qx) (_ : Touch (HT A) w w1) (hp : HpI W w1 A c S' H') (t2 : Touch O w1 w2) (s2 : Sub w1 O' O) (rv : Rv w2 O' m qx c A.L.n S' H') : Two W w2 A c S' H' O' m qx := by
  refine ⟨hp.touch (hp.at'.base.step t2 (fun b hb => .inr (h.hO b hb))) t2 h.ap, rv, fun b hb hO => ?_, fun b hb => ?_⟩
  · rcases s2 b hO with x | x
    · exact h.ap b hb x
    · have := hp.at'.lt b hb
      omega
  · rcases s2 b hb with x | x
    · exact h.hO b x
    · exact Nat.le_trans hp.at'.base.size x
/-- Behind the heap's call alone, which tells something. -/
theorem Two.look (h : Two W w A c S H O m qx) (t1 : Touch (HT A) w w1) (hp : HpI W w1 A c S H) : Two W w1 A c S H O m qx := ⟨hp, h.mid t1, h.ap, h.hO⟩
def newS0 (z n : Nat) : HS := ⟨⟨List.replicate z 0, [], fun _ => false, fun _ => 0, fun _ => 0⟩, fun _ => false, fun _ => false, List.replicate n 0⟩
theorem Rv.start {z n4 : Nat} (hr : RfAt w O m qx c (newR n4)) (hc : c.ok = true) (hz : (z : Int) = c.c0 * c.c1) (hz1 : z ≤ 4096) (hn : (n : Int) = c.c0) : Rv w O m qx c n (newS0 z n4) (fun _ => []) := by
  refine ⟨⟨_, hr, ⟨rfl, fun s hs => (List.not_mem_nil hs).elim, fun _ _ => rfl, rfl, rfl⟩⟩, HInv.start c z n4 hc hz (by omega), ⟨hc, hn, Nat.zero_le _, fun j hj => absurd hj (Nat.not_lt_zero _)⟩, ?_⟩
  show (List.replicate z (0 : Int)).length ≤ 4096
  rw [List.length_replicate]
  exact hz1
theorem Two.start {z n4 : Nat} (hp : HpI W w1 A c (newS0 z n4) (fun _ => [])) (ht : Touch nob w1 w2) (hO : ∀ b, O b → w1.heap.size ≤ b ∧ b < w2.heap.size) (hr : RfAt w2 O m qx c (newR n4)) (hc : c.ok = true) (hz : (z : Int) = c.c0 * c.c1) (hz1 : z ≤ 4096) (hn : (A.L.n : Int) = c.c0) : Two W w2 A c (newS0 z n4) (fun _ => []) O m qx :=
  ⟨hp.old ht, Rv.start hr hc hz hz1 hn, fun b hb hO' => Nat.lt_irrefl _ (Nat.lt_of_lt_of_le (hp.at'.lt b hb) (hO b hO').1), fun b hb => Nat.le_trans hp.at'.base.size (hO b hb).1⟩
end Go.Proofs.YtnobempbcdkoaaaGreatDoor
