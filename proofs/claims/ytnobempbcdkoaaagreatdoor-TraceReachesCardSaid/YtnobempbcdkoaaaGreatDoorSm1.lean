/- The document's heap beside a heap: when they are the same, and what stays while one slot is turned: plain laws. Conditions: none. The document's heap beside a heap: put, take, begin, bear, free, store, paint: plain laws. Conditions: none. The document's heap beside a heap: begin, bear, free, assign, store, paint: plain laws. Conditions: none. The document's heap beside a heap: what is told of an object; store, paint: plain laws. Conditions: none. -/
import Derived.Test.YtnobempbcdkoaaaGreatDoorHpG
import Derived.Test.YtnobempbcdkoaaaGreatDoorHp7
import Derived.Test.YtnobempbcdkoaaaGreatDoorRf9
namespace Go.Proofs.YtnobempbcdkoaaaGreatDoor
open Go.RowKit

variable {c : Cf} {S S' : HS} {H H' : Nat → List Nat} {R R' : Rh} {n : Nat} {a : Int} {ks : List Int} {s s' : Rs}
/-- What an address is. -/
def HS.isN (S : HS) (a : Int) : Int := if S.obj a = true then 2 else if S.fre a = true then 1 else 0
/-- The fields at an address. -/
def HS.fs (S : HS) (a : Int) : List Int := (List.range (S.flds a).toNat).map fun (i : Nat) => S.word (a + 1 + i)
structure Ok (c : Cf) (S : HS) (s : Rs) : Prop where
  k : s.k = clsA c S.s.ks s.a
  is : s.is = S.isN s.a
  bg : s.bg = S.begun s.a
  col : S.obj s.a = true → s.col = S.colV s.a
  f : S.begun s.a = true → s.f = S.fs s.a
  b : ∀ x ∈ s.f, 0 ≤ x ∧ x ≤ 4096
structure Sim (c : Cf) (S : HS) (H : Nat → List Nat) (R : Rh) : Prop where
  ad : (R.L.map fun s => s.a) = allSl c S.s.ks S.s.ks.length
  ok : ∀ s ∈ R.L, Ok c S s
  F : ∀ k, k < 4 → R.F k = adr (H k)
  x : R.x = S.x
  u : R.u = S.s.ks.length
theorem Tb.mem' (h : Tb c ks n) : a ∈ allSl c ks ks.length ↔ ownB c ks a = true := by
  rw [mem_allSl]
  constructor
  · rintro ⟨b, _, hb⟩
    exact (h.slAt hb).2.1
  · intro ho
    obtain ⟨b, h1, h2, h3, h4, h5⟩ := mem_of_own h.ok ho
    refine ⟨b, h2, ?_⟩
    unfold Go.Proofs.YtnobempbcdkoaaaGreatDoor.slAt
    rw [if_pos h2]
    exact h5
theorem Sim.one (h : Sim c S H R) (tb : Tb c S.s.ks n) {i j : Nat} {s t : Rs} (hi : R.L[i]? = some s) (hj : R.L[j]? = some t) (e : s.a = t.a) : i = j := by
  have nd := tb.nodup _ tb.le
  rw [← h.ad] at nd
  obtain ⟨li, ei⟩ := List.getElem?_eq_some_iff.1 hi
  obtain ⟨lj, ej⟩ := List.getElem?_eq_some_iff.1 hj
  have hp := List.pairwise_iff_getElem.1 nd
  rcases Nat.lt_trichotomy i j with hl | hl | hl
  · exact (hp i j (by simpa using li) (by simpa using lj) hl (by rw [List.getElem_map, List.getElem_map, ei, ej]; exact e)).elim
  · exact hl
  · exact (hp j i (by simpa using lj) (by simpa using li) hl (by rw [List.getElem_map, List.getElem_map, ei, ej]; exact e.symm)).elim
theorem Sim.own (h : Sim c S H R) (tb : Tb c S.s.ks n) (hs : s ∈ R.L) : ownB c S.s.ks s.a = true := by
  refine tb.mem'.1 ?_
  rw [← h.ad]
  exact List.mem_map.2 ⟨s, hs, rfl⟩
theorem Sim.find (h : Sim c S H R) (tb : Tb c S.s.ks n) (ho : S.own c a = true) : ∃ i s, R.L[i]? = some s ∧ s.a = a ∧ posA R.L s.a = i ∧ Ok c S s := by
  have hm : a ∈ R.L.map fun s => s.a := by rw [h.ad]; exact tb.mem'.2 ho
  obtain ⟨s, hs, rfl⟩ := List.mem_map.1 hm
  obtain ⟨i, hi⟩ := List.mem_iff_getElem?.1 hs
  refine ⟨i, s, hi, rfl, posA_eq hi rfl (fun j hj t ht e => ?_), h.ok s hs⟩
  have := h.one tb ht hi e
  omega
theorem Sim.none (h : Sim c S H R) (tb : Tb c S.s.ks n) (ho : S.own c a = false) : posA R.L a = R.L.length :=
  posA_no fun j hj t ht e => by
    have := h.own tb (List.mem_of_getElem? ht)
    rw [e] at this
    unfold HS.own at ho
    rw [this] at ho
    cases ho
theorem Sim.isV_own (h : Sim c S H R) (tb : Tb c S.s.ks n) (ho : S.own c a = true) : isV R.L a = S.isN a := by
  obtain ⟨i, s, hi, rfl, hp, ok⟩ := h.find tb ho
  rw [isV_at hi hp, ok.is]
theorem Sim.isV_no (h : Sim c S H R) (tb : Tb c S.s.ks n) (ho : S.own c a = false) : isV R.L a = -1 := by
  unfold isV
  rw [h.none tb ho, List.getElem?_eq_none (Nat.le_refl _)]
theorem HInv.obj_own (h : HInv c S H) (ho : S.obj a = true) : S.own c a = true ∧ S.fre a = false ∧ S.begun a = true := by
  unfold HS.obj hasB at ho
  simp only [Bool.and_eq_true] at ho
  obtain ⟨x, rfl, hx⟩ := may_nat ho.1
  obtain ⟨j, h1, h2, h3, h4, h5⟩ := h.ob _ ho.2
  rw [Int.toNat_natCast] at h1
  subst h1
  refine ⟨h3, ?_, ?_⟩
  · unfold HS.fre
    rw [show ((j + 1 : Nat) : Int) = (j : Int) + 1 by omega, hasB_nat h2]
    exact h4
  · unfold HS.begun HS.word
    rw [if_pos ⟨by omega, by omega⟩, show (((j + 1 : Nat) : Int) - 1).toNat = j by omega]
    exact h5
theorem HInv.fre_own (h : HInv c S H) (ho : S.fre a = true) : S.own c a = true := by
  unfold HS.fre hasB at ho
  simp only [Bool.and_eq_true] at ho
  obtain ⟨x, rfl, hx⟩ := may_nat ho.1
  cases x with
  | zero =>
    have := h.li.zero
    simp only [Int.toNat_natCast] at ho
    rw [this] at ho
    cases ho.2
  | succ j =>
    simp only [Int.toNat_natCast] at ho
    obtain ⟨k, hk, hm⟩ := (h.li.mem j (by omega)).1 ho.2
    exact h.own_of hk hm
theorem HS.isN_obj : S.isN a = 2 ↔ S.obj a = true := by
  unfold HS.isN
  cases S.obj a
  · cases S.fre a <;> simp
  · simp
theorem HS.isN_hand (ho : S.own c a = true) : S.isN a = 0 ↔ S.hand c a = true := by
  unfold HS.isN HS.hand
  rw [ho]
  cases S.obj a <;> cases S.fre a <;> simp
theorem HS.isN_cases (S : HS) (a : Int) : S.isN a = 0 ∨ S.isN a = 1 ∨ S.isN a = 2 := by
  unfold HS.isN
  cases S.obj a
  · cases S.fre a <;> simp
  · simp
/-- All but one slot stays. -/
structure Kp (c : Cf) (S S' : HS) (a : Int) : Prop where
  len : S'.s.ws.length = S.s.ws.length
  ks : S'.s.ks = S.s.ks
  M : ∀ x : Nat, (x : Int) ≠ a → S'.s.M x = S.s.M x
  B : ∀ x : Nat, (x : Int) ≠ a → S'.B x = S.B x
  K : ∀ x : Nat, (x : Int) ≠ a → S'.K x = S.K x
  ws : ∀ j : Nat, ownB c S.s.ks (j + 1) = true → (j : Int) + 1 ≠ a → ∀ i, InSlot c S.s.ks j i → S'.s.ws.getD i 0 = S.s.ws.getD i 0
theorem Kp.trans {S2 : HS} (h : Kp c S S' a) (g : Kp c S' S2 a) : Kp c S S2 a :=
  ⟨g.len.trans h.len, g.ks.trans h.ks, fun x hx => (g.M x hx).trans (h.M x hx), fun x hx => (g.B x hx).trans (h.B x hx), fun x hx => (g.K x hx).trans (h.K x hx),
    fun j ho hj i hi => (g.ws j (by rw [h.ks]; exact ho) hj i (by unfold InSlot at hi ⊢; rw [h.ks]; exact hi)).trans (h.ws j ho hj i hi)⟩
theorem word_at {j : Nat} (hj : j < S.s.ws.length) : S.word ((j : Int) + 1) = S.s.ws.getD j 0 := by
  unfold HS.word
  rw [if_pos ⟨by omega, by omega⟩, show ((j : Int) + 1 - 1).toNat = j by omega]
theorem HInv.flds_in (h : HInv c S H) {j : Nat} (ho : ownB c S.s.ks (j + 1) = true) (hb : S.begun (j + 1) = true) {i : Nat} (hi : i < (S.flds (j + 1)).toNat) : InSlot c S.s.ks j (j + 1 + i) ∧ j + 1 + i < S.s.ws.length := by
  have hj := h.one ho
  obtain ⟨k, hk, hc⟩ := clsA_nat h.ok ho
  have hw := hb
  unfold HS.begun at hw
  have hf : S.flds (j + 1) = S.s.ws.getD j 0 % 256 := by
    unfold HS.flds fldW
    rw [word_at hj] at hw ⊢
    rw [hw]
  rw [word_at hj] at hw
  have hr : S.s.ws.getD j 0 % 256 ≤ clsRoom k := by
    have h1 := h.hw j ho hw
    rw [hc] at h1
    have h2 := hw
    unfold isObjW at h2
    simp only [Bool.and_eq_true] at h2
    rw [h1] at h2
    exact (objOk_iff.1 h2.2.1).2.2
  rw [clsRoom_size hk] at hr
  have hin : InSlot c S.s.ks j (j + 1 + i) := by
    unfold InSlot
    rw [hc]
    rw [hf] at hi
    omega
  exact ⟨hin, in_lt h.ok h.len ho hin⟩
/-- What is told of a slot whose words and signs stay. -/
theorem Ok.keep (hi : HInv c S H) (g : Ok c S s) {j : Nat} (e : s.a = (j : Int) + 1) (ho : ownB c S.s.ks (j + 1) = true) (hl : S'.s.ws.length = S.s.ws.length) (hk : clsA c S'.s.ks (j + 1) = clsA c S.s.ks (j + 1))
    (hM : S'.s.M (j + 1) = S.s.M (j + 1)) (hB : S'.B (j + 1) = S.B (j + 1)) (hK : S'.K (j + 1) = S.K (j + 1)) (hw : ∀ i, InSlot c S.s.ks j i → S'.s.ws.getD i 0 = S.s.ws.getD i 0) : Ok c S' s := by
  have hj := hi.one ho
  have hj' : j < S'.s.ws.length := by omega
  obtain ⟨g1, g2, g3, g4, g5, g6⟩ := g
  rw [e] at g1 g2 g3 g4 g5
  have eo : S'.obj ((j : Int) + 1) = S.obj ((j : Int) + 1) := by unfold HS.obj; rw [hasB_nat hj, hasB_nat hj', hB]
  have ef : S'.fre ((j : Int) + 1) = S.fre ((j : Int) + 1) := by unfold HS.fre; rw [hasB_nat hj, hasB_nat hj', hM]
  have ec : S'.colB ((j : Int) + 1) = S.colB ((j : Int) + 1) := by unfold HS.colB; rw [hasB_nat hj, hasB_nat hj', hK]
  have ew : S'.word ((j : Int) + 1) = S.word ((j : Int) + 1) := by rw [word_at hj, word_at hj', hw j (in_first hi.ok ho)]
  have eb : S'.begun ((j : Int) + 1) = S.begun ((j : Int) + 1) := by unfold HS.begun; rw [ew]
  refine ⟨by rw [e, hk]; exact g1, by rw [e, g2]; unfold HS.isN; rw [eo, ef], by rw [e, eb]; exact g3, fun h1 => ?_, fun h1 => ?_, g6⟩
  · rw [e] at h1 ⊢
    rw [g4 (by rw [← eo]; exact h1)]
    unfold HS.colV
    rw [eo, ec]
  · rw [e] at h1 ⊢
    rw [eb] at h1
    rw [g5 h1]
    have el : S'.flds ((j : Int) + 1) = S.flds ((j : Int) + 1) := by unfold HS.flds; rw [ew]
    unfold HS.fs
    rw [el]
    refine List.map_congr_left fun i hm => ?_
    obtain ⟨h2, h3⟩ := hi.flds_in ho h1 (List.mem_range.1 hm)
    rw [show (j : Int) + 1 + 1 + (i : Int) = ((j + 1 + i : Nat) : Int) + 1 by omega, word_at h3, word_at (by omega), hw _ h2]
theorem Kp.ok (h : Kp c S S' a) (hi : HInv c S H) (ho : ownB c S.s.ks s.a = true) (hne : s.a ≠ a) (g : Ok c S s) : Ok c S' s := by
  obtain ⟨j, k, e, hj, _, _, ho'⟩ := hi.slot_of ho
  rw [e] at hne
  have x1 : ((j + 1 : Nat) : Int) ≠ a := by omega
  exact g.keep hi e ho' h.len (by rw [h.ks]) (h.M _ x1) (h.B _ x1) (h.K _ x1) (h.ws j ho' hne)
theorem map_set_same {L : List Rs} {i : Nat} {s s' : Rs} (h : L[i]? = some s) (e : s'.a = s.a) : ((L.set i s').map fun s => s.a) = L.map fun s => s.a := by
  refine List.ext_getElem? fun j => ?_
  rw [List.getElem?_map, List.getElem?_map, List.getElem?_set]
  split
  · rename_i hj
    subst hj
    rw [h]
    split
    · simp [e]
    · rename_i hl
      have := (List.getElem?_eq_some_iff.1 h).1
      omega
  · rfl
/-- One slot is turned. -/
theorem Sim.step (h : Sim c S H R) (tb : Tb c S.s.ks n) (hi : HInv c S H) (kp : Kp c S S' a) {i : Nat} (hs : R.L[i]? = some s) (ha : s.a = a) (ha' : s'.a = a) (ok : Ok c S' s') (hL : R'.L = R.L.set i s') (hF : ∀ k, k < 4 → R'.F k = adr (H' k)) (hx : R'.x = S'.x) (hu : R'.u = R.u) : Sim c S' H' R' := by
  refine ⟨?_, fun t ht => ?_, hF, hx, by rw [hu, kp.ks]; exact h.u⟩
  · rw [hL, map_set_same hs (ha'.trans ha.symm), h.ad, kp.ks]
  · rw [hL] at ht
    obtain ⟨j, hj⟩ := List.mem_iff_getElem?.1 ht
    rw [List.getElem?_set] at hj
    split at hj
    · split at hj
      · cases hj; exact ok
      · cases hj
    · rename_i hne
      have hm := List.mem_of_getElem? hj
      exact kp.ok hi (h.own tb hm) (fun e => hne (h.one tb hs hj (ha.trans e.symm))) (h.ok t hm)
end Go.Proofs.YtnobempbcdkoaaaGreatDoor
namespace Go.Proofs.YtnobempbcdkoaaaGreatDoor
open Go.RowKit

variable {c : Cf} {S S' : HS} {H H' : Nat → List Nat} {R R' : Rh} {n : Nat} {a : Int} {ks : List Int} {s s' : Rs}
theorem link_noobj {x : Int} (h : isLinkW x = true) : isObjW x = false := by
  unfold isLinkW at h
  simp only [Bool.and_eq_true, decide_eq_true_eq] at h
  unfold isObjW
  rw [decide_eq_false (by omega)]
  rfl
theorem HS.hand_own (hh : S.hand c a = true) : S.own c a = true ∧ S.obj a = false ∧ S.fre a = false := by
  unfold HS.hand at hh
  simp only [Bool.and_eq_true, Bool.not_eq_true'] at hh
  exact ⟨hh.1, hh.2.1, hh.2.2⟩
/-- A slot, found. -/
structure Fd (c : Cf) (S : HS) (R : Rh) (a : Int) (i j k : Nat) (s : Rs) : Prop where
  at' : R.L[i]? = some s
  ea : s.a = a
  ej : a = (j : Int) + 1
  pos : posA R.L s.a = i
  ok : Ok c S s
  k4 : k < 4
  sk : s.k = k
  cls : clsA c S.s.ks (j + 1) = k
  own : ownB c S.s.ks (j + 1) = true
  lt : j < S.s.ws.length
  il : i < R.L.length
theorem Sim.fd (h : Sim c S H R) (tb : Tb c S.s.ks n) (hi : HInv c S H) (ho : S.own c a = true) : ∃ i j k s, Fd c S R a i j k s := by
  obtain ⟨i, s, hi1, ea, hp, ok⟩ := h.find tb ho
  obtain ⟨j, k, ej, hj, hk, hc, ho'⟩ := hi.slot_of ho
  refine ⟨i, j, k, s, hi1, ea, ej, hp, ok, hk, ?_, hc, ho', hj, (List.getElem?_eq_some_iff.1 hi1).1⟩
  rw [ok.k, ea, ej]
  exact hc
theorem Kp.put {j k : Nat} (hi : HInv c S H) (ho : ownB c S.s.ks (j + 1) = true) : Kp c S { S with s := S.s.put j k } (j + 1) :=
  ⟨List.length_set, rfl, fun x hx => if_neg (by omega), fun _ _ => rfl, fun _ _ => rfl, fun j' ho' hne i hin => getD_set_ne (fun e => by
    subst e
    have := in_one hi.ok ho ho' (in_first hi.ok ho) hin
    omega)⟩
theorem Kp.setw {j i : Nat} {x : Int} (hi : HInv c S H) (ho : ownB c S.s.ks (j + 1) = true) (hs : InSlot c S.s.ks j i) : Kp c S (S.setw i x) (j + 1) :=
  ⟨List.length_set, rfl, fun _ _ => rfl, fun _ _ => rfl, fun _ _ => rfl, fun j' ho' hne i' hin => getD_set_ne (fun e => by
    subst e
    have := in_one hi.ok ho ho' hs hin
    omega)⟩
theorem Kp.refl (c : Cf) (S : HS) (a : Int) : Kp c S S a := ⟨rfl, rfl, fun _ _ => rfl, fun _ _ => rfl, fun _ _ => rfl, fun _ _ _ _ _ => rfl⟩
theorem HInv.lnk (h : HInv c S H) (k : Nat) (hk : k < 4) : isObjW (lnkW (S.s.f k)) = false := by
  obtain ⟨b0, b1⟩ := (h.li.thr k hk).bd
  exact link_noobj (nxt_lnk b0 (by have := h.li.wle; omega)).2
theorem adr_upd {k k' : Nat} {L : List Nat} : adr (updH H k L k') = if k' = k then adr L else adr (H k') := by
  unfold updH
  split <;> rfl
theorem Sim.put (h : Sim c S H R) (tb : Tb c S.s.ks n) (hi : HInv c S H) (hh : S.hand c a = true) : ∃ i j k s, Fd c S R a i j k s ∧ s.is = 0 ∧ (R.F k).length ≤ S.s.ws.length ∧ Sim c (S.putS c a) (putH S c H a) (R.put i k s) ∧ HInv c (S.putS c a) (putH S c H a) ∧ Kp c S (S.putS c a) a := by
  obtain ⟨ho, hno, hnf⟩ := HS.hand_own hh
  obtain ⟨i, j, k, s, f⟩ := h.fd tb hi ho
  have hh' := hh
  rw [f.ej] at hh'
  obtain ⟨_, hM, hB⟩ := hi.hand_iff.1 hh'
  obtain ⟨j', k', ej', hk', hc', e1, e2, hi', _⟩ := hi.putS hh
  obtain rfl : j = j' := by have := f.ej; omega
  obtain rfl : k = k' := by have := f.cls; omega
  have kp : Kp c S (S.putS c a) a := by
    rw [e1, f.ej]
    exact Kp.put hi f.own
  refine ⟨i, j, k, s, f, by rw [f.ok.is, f.ea]; exact (HS.isN_hand ho).2 hh, ?_, ?_, hi', kp⟩
  · rw [h.F k f.k4]
    unfold adr
    rw [List.length_map]
    exact hi.li.len_le f.k4
  · have hlt : j < (S.putS c a).s.ws.length := by rw [kp.len]; exact f.lt
    have hob : (S.putS c a).obj a = false := by
      rw [f.ej]
      unfold HS.obj
      rw [hasB_nat (by rw [← f.ej]; exact hlt), ← f.ej, e1]
      exact hB
    have hfr : (S.putS c a).fre a = true := by
      rw [f.ej]
      unfold HS.fre
      rw [hasB_nat (by rw [← f.ej]; exact hlt), ← f.ej, e1]
      exact if_pos rfl
    have hbg : (S.putS c a).begun a = false := by
      unfold HS.begun
      have := word_at hlt
      rw [← f.ej] at this
      rw [this, e1]
      show isObjW ((S.s.ws.set j _).getD j 0) = false
      rw [getD_set_eq f.lt]
      exact hi.lnk k f.k4
    refine h.step tb hi kp f.at' f.ea (s' := s.free) f.ea ⟨?_, ?_, ?_, fun hx => ?_, fun hx => ?_, f.ok.b⟩ rfl (fun k' hk' => ?_) ?_ rfl
    · show s.k = _
      rw [f.ok.k, kp.ks]
      rfl
    · show (1 : Int) = (S.putS c a).isN s.a
      rw [f.ea]
      unfold HS.isN
      rw [hob, hfr]
      rfl
    · show false = (S.putS c a).begun s.a
      rw [f.ea, hbg]
    · have hx : (S.putS c a).obj s.a = true := hx
      rw [f.ea, hob] at hx
      cases hx
    · have hx : (S.putS c a).begun s.a = true := hx
      rw [f.ea, hbg] at hx
      cases hx
    · rw [e2, adr_upd]
      show (if k' = k then s.a :: R.F k else R.F k') = _
      split
      · rw [h.F k f.k4, f.ea, f.ej]
        rfl
      · exact h.F k' hk'
    · rw [e1]
      exact h.x
theorem Kp.tak (c : Cf) (S : HS) (j k : Nat) : Kp c S { S with s := S.s.tak j k } (j + 1) :=
  ⟨rfl, rfl, fun x hx => if_neg (by omega), fun _ _ => rfl, fun _ _ => rfl, fun _ _ _ _ _ => rfl⟩
theorem Sim.take (h : Sim c S H R) (tb : Tb c S.s.ks n) (hi : HInv c S H) {j k : Nat} {l : List Nat} (k4 : k < 4) (hH : H k = j :: l) : ∃ i s, Fd c S R (j + 1) i j k s ∧ R.F k = s.a :: adr l ∧ Sim c { S with s := S.s.tak j k } (updH H k l) (R.take i k (adr l) s) ∧ HInv c { S with s := S.s.tak j k } (updH H k l) := by
  have hm : j ∈ H k := by rw [hH]; exact List.mem_cons_self ..
  obtain ⟨ho, hc⟩ := hi.li.cls k k4 j hm
  obtain ⟨i, j', k', s, f⟩ := h.fd tb hi (a := (j : Int) + 1) ho
  obtain rfl : j = j' := by have := f.ej; omega
  obtain rfl : k = k' := by have := f.cls; omega
  have hM := (hi.li.mem j f.lt).2 ⟨k, k4, hm⟩
  have hB : S.B (j + 1) = false := by
    cases e : S.B (j + 1)
    · rfl
    · obtain ⟨j2, e1, _, _, e2, _⟩ := hi.ob _ e
      obtain rfl : j = j2 := by omega
      rw [hM] at e2
      cases e2
  have hth := hi.li.thr k k4
  rw [hH] at hth
  have hlk := link_noobj hth.2.2.1
  refine ⟨i, s, f, by rw [h.F k k4, hH, f.ea]; rfl, ?_, hi.tak k4 hH⟩
  have hob : HS.obj { S with s := S.s.tak j k } ((j : Int) + 1) = false := by
    unfold HS.obj
    exact (hasB_nat (n := S.s.ws.length) f.lt).trans (hB)
  have hfr : HS.fre { S with s := S.s.tak j k } ((j : Int) + 1) = false := by
    unfold HS.fre
    exact (hasB_nat (n := S.s.ws.length) f.lt).trans (if_pos rfl)
  have hbg : HS.begun { S with s := S.s.tak j k } ((j : Int) + 1) = false := by
    exact (congrArg isObjW (word_at (S := { S with s := S.s.tak j k }) f.lt)).trans hlk
  refine h.step tb hi (Kp.tak c S j k) f.at' f.ea (s' := s.hand) f.ea ⟨f.ok.k, ?_, ?_, fun hx => ?_, fun hx => ?_, f.ok.b⟩ rfl (fun k' hk' => ?_) h.x rfl
  · show (0 : Int) = HS.isN _ s.a
    rw [f.ea]
    unfold HS.isN
    rw [hob, hfr]
    rfl
  · show false = HS.begun _ s.a
    rw [f.ea, hbg]
  · have hx : HS.obj _ s.a = true := hx
    rw [f.ea, hob] at hx
    cases hx
  · have hx : HS.begun _ s.a = true := hx
    rw [f.ea, hbg] at hx
    cases hx
  · rw [adr_upd]
    show (if k' = k then adr l else R.F k') = _
    split
    · rfl
    · exact h.F k' hk'
end Go.Proofs.YtnobempbcdkoaaaGreatDoor
namespace Go.Proofs.YtnobempbcdkoaaaGreatDoor
open Go.RowKit

variable {c : Cf} {S S' : HS} {H H' : Nat → List Nat} {R R' : Rh} {n : Nat} {a : Int} {ks : List Int} {s s' : Rs}
theorem Kp.zer {j : Nat} (hi : HInv c S H) (ho : ownB c S.s.ks (j + 1) = true) (hB : S.B (j + 1) = false) : ∀ m : Nat, (∀ i, i < m → InSlot c S.s.ks j (j + 1 + i)) → Kp c S (zer S j m) (j + 1)
  | 0, _ => Kp.refl c S _
  | m + 1, hs => by
    have k1 := Kp.zer hi ho hB m (fun i hm => hs i (by omega))
    have h1 := (zer_inv hi ho hB m (fun i hm => hs i (by omega))).1
    have z := zer_facts S j m
    exact k1.trans (Kp.setw (x := 0) h1 (by rw [z.ks]; exact ho) (by rw [z.ks]; exact hs m (by omega)))
/-- Begun: the header is laid, and the fields are 0. -/
theorem Sim.begin (h : Sim c S H R) (tb : Tb c S.s.ks n) (hi : HInv c S H) (hh : S.hand c a = true) {k nf : Nat} (hk : clsA c S.s.ks a = k) (hn : objOk k nf = true) :
    ∃ i j s, Fd c S R a i j k s ∧ s.is = 0 ∧ (nf : Int) ≤ clsSize k - 1 ∧ (∀ u, Sim c (zer (S.setw j (hObj k nf)) j nf) H (R.setS i { s with bg := true, f := List.replicate nf 0, v := u })) ∧ HInv c (zer (S.setw j (hObj k nf)) j nf) H ∧ Kp c S (zer (S.setw j (hObj k nf)) j nf) a ∧ (zer (S.setw j (hObj k nf)) j nf).hand c a = true ∧ (zer (S.setw j (hObj k nf)) j nf).begun a = true := by
  obtain ⟨ho, hno, hnf⟩ := HS.hand_own hh
  obtain ⟨i, j, k', s, f⟩ := h.fd tb hi ho
  obtain rfl : k = k' := by have := f.cls; rw [f.ej] at hk; omega
  have hh' := hh
  rw [f.ej] at hh'
  obtain ⟨_, hM, hB⟩ := hi.hand_iff.1 hh'
  have g : Mkg c S j k nf := ⟨hh', f.cls, f.k4, hn, f.lt, f.own⟩
  obtain ⟨l1, l2, l3, l4⟩ := g.look nf
  have hroom : (nf : Int) ≤ clsSize k - 1 := by
    have := (objOk_iff.1 hn).2.2
    rwa [clsRoom_size f.k4] at this
  have h1 := hi.head (n := nf) f.own hM (by rw [f.cls]; exact hn)
  rw [f.cls] at h1
  have hin : ∀ i, i < nf → InSlot c (S.setw j (hObj k nf)).s.ks j (j + 1 + i) := fun i hm => by
    show InSlot c S.s.ks j (j + 1 + i)
    unfold InSlot
    rw [f.cls]
    omega
  obtain ⟨z1, z2, z3⟩ := zer_inv h1 (j := j) f.own hB nf hin
  have z := zer_facts (S.setw j (hObj k nf)) j nf
  have kp : Kp c S (zer (S.setw j (hObj k nf)) j nf) a := by
    rw [f.ej]
    exact (Kp.setw hi f.own (in_first hi.ok f.own)).trans (Kp.zer h1 (j := j) f.own hB nf hin)
  rw [← f.ej] at l1 l2 l3
  refine ⟨i, j, s, f, by rw [f.ok.is, f.ea]; exact (HS.isN_hand ho).2 hh, hroom, fun u => ?_, z1, kp, l1, l2⟩
  obtain ⟨ho2, hno2, _⟩ := HS.hand_own l1
  refine h.step tb hi kp f.at' f.ea (s' := { s with bg := true, f := List.replicate nf 0, v := u }) f.ea ⟨?_, ?_, ?_, fun hx => ?_, fun hx => ?_, fun x hx => by obtain rfl := (List.mem_replicate.1 hx).2; omega⟩ rfl h.F ?_ rfl
  · show s.k = _
    rw [f.ok.k, kp.ks]
  · show s.is = HS.isN _ s.a
    rw [f.ok.is, f.ea, (HS.isN_hand ho).2 hh, (HS.isN_hand ho2).2 l1]
  · show true = HS.begun _ s.a
    rw [f.ea, l2]
  · have hx : HS.obj _ s.a = true := hx
    rw [f.ea, hno2] at hx
    cases hx
  · show List.replicate nf 0 = HS.fs _ s.a
    rw [f.ea]
    unfold HS.fs
    rw [l3]
    refine List.ext_getElem (by simp) fun i h1 h2 => ?_
    simp only [List.getElem_replicate, List.getElem_map, List.getElem_range]
    have hi' : i < nf := by simpa using h1
    have hlt : j + 1 + i < (zer (S.setw j (hObj k nf)) j nf).s.ws.length := by
      have := in_lt hi.ok hi.len f.own (hin i hi')
      rw [l4]
      exact this
    rw [f.ej, show (j : Int) + 1 + 1 + (i : Int) = ((j + 1 + i : Nat) : Int) + 1 by omega, word_at hlt]
    exact (z3 i hi').symm
  · show R.x = _
    rw [z.x]
    exact h.x
/-- Born. -/
theorem Kp.bear (c : Cf) (S : HS) (j : Nat) (b : Bool) : Kp c S { S with B := fun x => if x = j + 1 then true else S.B x, K := fun x => if x = j + 1 then b else S.K x } (j + 1) :=
  ⟨rfl, rfl, fun _ _ => rfl, fun x hx => if_neg (by omega), fun x hx => if_neg (by omega), fun _ _ _ _ _ => rfl⟩
theorem Sim.bear (h : Sim c S H R) (tb : Tb c S.s.ks n) (hi : HInv c S H) (hh : S.hand c a = true) (col : Int) (hc : col = 0 ∨ col = 1) :
    ∃ i j k s, Fd c S R a i j k s ∧ s.is = 0 ∧ s.bg = S.begun a ∧ (S.begun a = true → Sim c { S with B := fun x => if x = j + 1 then true else S.B x, K := fun x => if x = j + 1 then decide (col = 1) else S.K x } H (R.setS i { s with is := 2, col := col }) ∧ HInv c { S with B := fun x => if x = j + 1 then true else S.B x, K := fun x => if x = j + 1 then decide (col = 1) else S.K x } H) := by
  obtain ⟨ho, hno, hnf⟩ := HS.hand_own hh
  obtain ⟨i, j, k, s, f⟩ := h.fd tb hi ho
  have hh' := hh
  rw [f.ej] at hh'
  obtain ⟨_, hM, hB⟩ := hi.hand_iff.1 hh'
  refine ⟨i, j, k, s, f, by rw [f.ok.is, f.ea]; exact (HS.isN_hand ho).2 hh, by rw [f.ok.bg, f.ea], fun hbg => ?_⟩
  have hb := hbg
  unfold HS.begun at hb
  rw [f.ej, word_at f.lt] at hb
  have hi2 := hi.bear f.own hM hb (fun x => if x = j + 1 then decide (col = 1) else S.K x)
  refine ⟨?_, hi2⟩
  have kp : Kp c S { S with B := fun x => if x = j + 1 then true else S.B x, K := fun x => if x = j + 1 then decide (col = 1) else S.K x } a := by
    rw [f.ej]
    exact Kp.bear c S j _
  generalize hS : ({ S with B := fun x => if x = j + 1 then true else S.B x, K := fun x => if x = j + 1 then decide (col = 1) else S.K x } : HS) = S2 at hi2 kp ⊢
  have eB : S2.B (j + 1) = true := by rw [← hS]; exact if_pos rfl
  have eK : S2.K (j + 1) = decide (col = 1) := by rw [← hS]; exact if_pos rfl
  have ews : S2.s = S.s := by rw [← hS]
  have ex : S2.x = S.x := by rw [← hS]
  have hob : S2.obj a = true := by
    rw [f.ej]
    unfold HS.obj
    rw [ews, hasB_nat f.lt]
    exact eB
  have hcb : S2.colB a = decide (col = 1) := by
    rw [f.ej]
    unfold HS.colB
    rw [ews, hasB_nat f.lt]
    exact eK
  have hwd : ∀ b, S2.word b = S.word b := fun b => by unfold HS.word; rw [ews]
  refine h.step tb hi kp f.at' f.ea (s' := { s with is := 2, col := col }) f.ea ⟨?_, ?_, ?_, fun _ => ?_, fun hx => ?_, f.ok.b⟩ rfl h.F (h.x.trans ex.symm) rfl
  · show s.k = _
    rw [f.ok.k, kp.ks]
  · show (2 : Int) = S2.isN s.a
    rw [f.ea]
    unfold HS.isN
    rw [hob]
    rfl
  · show s.bg = S2.begun s.a
    rw [f.ok.bg]
    unfold HS.begun
    rw [hwd]
  · show col = S2.colV s.a
    rw [f.ea]
    unfold HS.colV
    rw [hob, hcb]
    rcases hc with rfl | rfl <;> simp
  · have hx : S2.begun s.a = true := hx
    have e : S2.fs s.a = S.fs s.a := by
      unfold HS.fs HS.flds
      simp only [hwd]
    rw [e]
    refine f.ok.f ?_
    unfold HS.begun at hx ⊢
    rwa [hwd] at hx
theorem unb_nat {j : Nat} (hj : j < S.s.ws.length) : S.unb ((j : Int) + 1) = { S with B := fun x => if x = j + 1 then false else S.B x } := by
  unfold HS.unb
  rw [putM_nat false (by omega)]
/-- Freed. -/
theorem Sim.free (h : Sim c S H R) (tb : Tb c S.s.ks n) (hi : HInv c S H) (ho : S.obj a = true) :
    ∃ i j k s, Fd c S R a i j k s ∧ s.is = 2 ∧ (R.F k).length ≤ S.s.ws.length ∧ Sim c (S.freS c a) (freH S c H a) (R.put i k s) ∧ HInv c (S.freS c a) (freH S c H a) ∧ (S.freS c a).s.ks = S.s.ks ∧ (S.freS c a).s.ws.length = S.s.ws.length := by
  obtain ⟨ow, fr, bg⟩ := hi.obj_own ho
  obtain ⟨i, j, k, s, f⟩ := h.fd tb hi ow
  have e := unb_nat f.lt
  rw [← f.ej] at e
  have h1 : HInv c (S.unb a) H := by rw [e]; exact hi.unborn j
  have kp : Kp c S (S.unb a) a := by
    rw [e, f.ej]
    exact ⟨rfl, rfl, fun _ _ => rfl, fun x hx => if_neg (by omega), fun _ _ => rfl, fun _ _ _ _ _ => rfl⟩
  have hob : (S.unb a).obj a = false := by
    rw [e, f.ej]
    unfold HS.obj
    exact (hasB_nat (n := S.s.ws.length) f.lt).trans (if_pos rfl)
  have hfr : (S.unb a).fre a = false := by
    rw [e]
    exact fr
  have hhd : (S.unb a).hand c a = true := by
    unfold HS.hand
    rw [hob, hfr, show (S.unb a).own c a = true by rw [e]; exact ow]
    rfl
  have hwd : ∀ b, (S.unb a).word b = S.word b := fun b => by rw [e]; rfl
  have s1 : Sim c (S.unb a) H (R.setS i { s with is := 0 }) := by
    refine h.step tb hi kp f.at' f.ea (s' := { s with is := 0 }) f.ea ⟨?_, ?_, ?_, fun hx => ?_, fun hx => ?_, f.ok.b⟩ rfl h.F (by rw [e]; exact h.x) rfl
    · show s.k = _
      rw [f.ok.k, kp.ks]
    · show (0 : Int) = (S.unb a).isN s.a
      rw [f.ea]
      unfold HS.isN
      rw [hob, hfr]
      rfl
    · show s.bg = (S.unb a).begun s.a
      rw [f.ok.bg]
      unfold HS.begun
      rw [hwd]
    · have hx : (S.unb a).obj s.a = true := hx
      rw [f.ea, hob] at hx
      cases hx
    · have hx : (S.unb a).begun s.a = true := hx
      have e2 : (S.unb a).fs s.a = S.fs s.a := by
        unfold HS.fs HS.flds
        simp only [hwd]
      rw [e2]
      refine f.ok.f ?_
      unfold HS.begun at hx ⊢
      rwa [hwd] at hx
  have tb1 : Tb c (S.unb a).s.ks n := by rw [kp.ks]; exact tb
  obtain ⟨i', j', k', t, f', _, hF, s2, h2, kp2⟩ := s1.put tb1 h1 hhd
  have hset : (R.setS i { s with is := 0 }).L[i]? = some { s with is := 0 } := List.getElem?_set_self f.il
  obtain rfl : i = i' := s1.one tb1 hset f'.at' (f.ea.trans f'.ea.symm)
  have et := f'.at'
  rw [hset] at et
  cases et
  obtain rfl : k = k' := by have := f'.sk; have := f.sk; simp only at *; omega
  have eS : S.freS c a = (S.unb a).putS c a := by unfold HS.freS; rw [if_pos ho]
  have eH : freH S c H a = putH (S.unb a) c H a := by unfold freH; rw [if_pos ho]
  have eR : (R.setS i { s with is := 0 }).put i k { s with is := 0 } = R.put i k s := by
    unfold Rh.put
    rw [setS_setS]
    rfl
  rw [eR] at s2
  rw [eS, eH]
  exact ⟨i, j, k, s, f, by rw [f.ok.is, f.ea]; exact HS.isN_obj.2 ho, by
    rw [h.F k f.k4]
    unfold adr
    rw [List.length_map]
    exact hi.li.len_le f.k4, s2, h2, by rw [kp2.ks, kp.ks], by rw [kp2.len, kp.len]⟩
theorem allSl_more (c : Cf) (ks : List Int) (k : Int) : ∀ m, m ≤ ks.length → allSl c (ks ++ [k]) m = allSl c ks m
  | 0, _ => rfl
  | m + 1, hm => by
    show allSl c (ks ++ [k]) m ++ slAt c (ks ++ [k]) m = allSl c ks m ++ slAt c ks m
    rw [allSl_more c ks k m (by omega)]
    congr 1
    unfold slAt
    rw [if_pos (by rw [List.length_append]; simp; omega), if_pos (by omega), getD_append_left (by omega)]
theorem Tb.more {k : Int} (h : Tb c ks n) (hk : isCls k = true) (hl : ks.length < n) : Tb c (ks ++ [k]) n := by
  refine ⟨h.ok, h.hn, by rw [List.length_append]; exact hl, fun j hj => ?_⟩
  rw [List.length_append] at hj
  rcases Nat.lt_or_ge j ks.length with h1 | h1
  · rw [getD_append_left h1]
    exact h.cls j h1
  · obtain rfl : j = ks.length := by simp at hj; omega
    rw [getD_snoc]
    exact hk
/-- A block more. -/
theorem Sim.assign (h : Sim c S H R) (tb : Tb c S.s.ks n) (hi : HInv c S H) {k : Int} (hk : isCls k = true) (hl : S.s.ks.length < n) :
    Sim c { S with s := { S.s with ks := S.s.ks ++ [k] } } H { R with u := R.u + 1, L := R.L ++ (sl c k S.s.ks.length).map fun a => newS a k } := by
  have hb : (S.s.ks.length : Int) < c.c0 := by have := tb.hn; omega
  refine ⟨?_, fun t ht => ?_, h.F, h.x, ?_⟩
  · show (R.L ++ (sl c k S.s.ks.length).map fun a => newS a k).map (fun s => s.a) = allSl c (S.s.ks ++ [k]) (S.s.ks ++ [k]).length
    rw [List.map_append, h.ad, List.length_append]
    show _ = allSl c (S.s.ks ++ [k]) S.s.ks.length ++ slAt c (S.s.ks ++ [k]) S.s.ks.length
    rw [allSl_more c S.s.ks k _ (Nat.le_refl _)]
    congr 1
    unfold slAt
    rw [if_pos (by rw [List.length_append]; simp), getD_snoc, List.map_map]
    exact List.map_id _
  · rcases List.mem_append.1 ht with ht | ht
    · have ho := h.own tb ht
      obtain ⟨j, k', e, hj, _, _, ho'⟩ := hi.slot_of ho
      exact (h.ok t ht).keep hi e ho' rfl (own_more hi.ok ho').2 rfl rfl rfl (fun _ _ => rfl)
    · obtain ⟨a, ha, rfl⟩ := List.mem_map.1 ht
      obtain ⟨n1, n2, n3⟩ := hi.new_hand hk hb ha
      obtain ⟨ow, ob, fr⟩ := HS.hand_own n1
      have hbg : HS.begun { S with s := { S.s with ks := S.s.ks ++ [k] } } a = false := by
        obtain ⟨j, k', e, hj, _, _, ho'⟩ := (hi.more k).slot_of ow
        unfold HS.begun
        rw [e, word_at hj]
        have hq : (a - 1) / c.c1 = S.s.ks.length := by
          have e2 : (S.s.ks ++ [k]).getD S.s.ks.length 0 = k := getD_snoc
          exact (own_of_mem (ks := S.s.ks ++ [k]) (b := S.s.ks.length) (a := a) hi.ok (by rw [List.length_append]; simp) (by rw [e2]; exact hk) hb (by rw [e2]; exact ha)).2
        have hz := hi.zr j hj (by rw [← hq, e, show (j : Int) + 1 - 1 = j by omega]; exact Int.le_refl _)
        show isObjW (S.s.ws.getD j 0) = false
        rw [hz]
        decide
      refine ⟨n2.symm, ?_, hbg.symm, fun hx => ?_, fun hx => ?_, fun x hx => (List.not_mem_nil hx).elim⟩
      · show (0 : Int) = HS.isN _ a
        unfold HS.isN
        rw [ob, fr]
        rfl
      · have hx : HS.obj _ a = true := hx
        rw [ob] at hx
        cases hx
      · have hx : HS.begun _ a = true := hx
        rw [hbg] at hx
        cases hx
  · show R.u + 1 = ((S.s.ks ++ [k]).length : Int)
    rw [h.u, List.length_append]
    simp
end Go.Proofs.YtnobempbcdkoaaaGreatDoor
namespace Go.Proofs.YtnobempbcdkoaaaGreatDoor
open Go.RowKit

variable {c : Cf} {S S' : HS} {H H' : Nat → List Nat} {R R' : Rh} {n : Nat} {a : Int} {ks : List Int} {s s' : Rs}
theorem HInv.may_own (hi : HInv c S H) (hm : S.may c a = true) : S.own c a = true ∧ S.begun a = true := by
  unfold HS.may at hm
  simp only [Bool.or_eq_true, Bool.and_eq_true] at hm
  rcases hm with h | h
  · exact ⟨(hi.obj_own h).1, (hi.obj_own h).2.2⟩
  · exact ⟨(HS.hand_own h.1).1, h.2⟩
theorem Ok.may (ok : Ok c S s) (ho : S.own c s.a = true) : s.may = S.may c s.a := by
  unfold Rs.may HS.may
  rw [ok.is, ok.bg]
  cases e1 : S.obj s.a
  · cases e2 : S.fre s.a
    · have eh : S.hand c s.a = true := by unfold HS.hand; rw [ho, e1, e2]; rfl
      rw [(HS.isN_hand ho).2 eh, eh]
      cases S.begun s.a <;> rfl
    · have e3 : S.isN s.a = 1 := by unfold HS.isN; rw [e1, e2]; rfl
      have eh : S.hand c s.a = false := by unfold HS.hand; rw [e2]; simp
      rw [e3, eh]
      rfl
  · rw [HS.isN_obj.2 e1]
    simp
theorem Sim.noobj (h : Sim c S H R) (tb : Tb c S.s.ks n) (hi : HInv c S H) (hE : S.objE c a ≠ 0) : NoObj R a (S.objE c a) := by
  unfold HS.objE at hE ⊢
  by_cases ha : a = 0
  · rw [if_pos ha]
    exact .inl ⟨ha, rfl⟩
  · rw [if_neg ha] at hE ⊢
    by_cases hm : S.may c a = true
    · rw [if_pos hm] at hE
      exact absurd rfl hE
    · rw [if_neg hm]
      refine .inr ⟨ha, ?_, rfl⟩
      cases ho : S.own c a
      · exact .inl (h.none tb ho)
      · obtain ⟨i, j, k, s, f⟩ := h.fd tb hi ho
        refine .inr ⟨s, ?_, ?_⟩
        · rw [← f.ea, f.pos]
          exact f.at'
        · rw [f.ok.may (by rw [f.ea]; exact ho), f.ea]
          simpa using hm
theorem Sim.object (h : Sim c S H R) (tb : Tb c S.s.ks n) (hi : HInv c S H) (hE : S.objE c a = 0) : ∃ i j k s, Fd c S R a i j k s ∧ s.a ≠ 0 ∧ s.may = true ∧ S.begun a = true ∧ s.f = S.fs a ∧ s.f.length = (S.flds a).toNat := by
  unfold HS.objE at hE
  by_cases ha : a = 0
  · rw [if_pos ha] at hE
    cases hE
  · rw [if_neg ha] at hE
    by_cases hm : S.may c a = true
    · obtain ⟨ho, hb⟩ := hi.may_own hm
      obtain ⟨i, j, k, s, f⟩ := h.fd tb hi ho
      have e : s.f = S.fs a := by rw [f.ok.f (by rw [f.ea]; exact hb), f.ea]
      refine ⟨i, j, k, s, f, by rw [f.ea]; exact ha, by rw [f.ok.may (by rw [f.ea]; exact ho), f.ea]; exact hm, hb, e, ?_⟩
      rw [e]
      unfold HS.fs
      simp
    · rw [if_neg hm] at hE
      cases hE
theorem fs_getD {i : Nat} (hi : i < (S.flds a).toNat) : (S.fs a).getD i 0 = S.word (a + 1 + i) := by
  unfold HS.fs
  rw [List.getD_eq_getElem?_getD, List.getElem?_map, List.getElem?_range hi]
  rfl
theorem setw_sgn (S : HS) (i : Nat) (x : Int) (b : Int) : (S.setw i x).obj b = S.obj b ∧ (S.setw i x).isN b = S.isN b ∧ (S.setw i x).colV b = S.colV b := by
  have hl : (S.setw i x).s.ws.length = S.s.ws.length := List.length_set
  have h1 : (S.setw i x).obj b = S.obj b := by unfold HS.obj; rw [hl]; rfl
  have h2 : (S.setw i x).fre b = S.fre b := by unfold HS.fre; rw [hl]; rfl
  have h3 : (S.setw i x).colB b = S.colB b := by unfold HS.colB; rw [hl]; rfl
  exact ⟨h1, by unfold HS.isN; rw [h1, h2], by unfold HS.colV; rw [h1, h3]⟩
/-- A field is laid. -/
theorem Sim.store (h : Sim c S H R) (tb : Tb c S.s.ks n) (hi : HInv c S H) {i j k : Nat} (f : Fd c S R a i j k s) (hb : S.begun a = true) (e : s.f = S.fs a) {m : Nat} (hm : m < (S.flds a).toNat) (x : Int) (hx : 0 ≤ x ∧ x ≤ 4096) :
    (∀ u, Sim c (S.setw (j + 1 + m) x) H (R.setS i { s with f := s.f.set m x, v := u })) ∧ HInv c (S.setw (j + 1 + m) x) H := by
  have hb' := hb
  have hm' := hm
  rw [f.ej] at hb' hm'
  obtain ⟨hin, hlt⟩ := hi.flds_in f.own hb' hm'
  have kp : Kp c S (S.setw (j + 1 + m) x) a := by
    rw [f.ej]
    exact Kp.setw hi f.own hin
  have hw : ∀ t : Nat, t < S.s.ws.length → t ≠ j + 1 + m → (S.setw (j + 1 + m) x).word (t + 1) = S.word (t + 1) := fun t ht hne => by
    rw [word_at ht, word_at (by rw [kp.len]; exact ht)]
    exact getD_set_ne (Ne.symm hne)
  have hwa : (S.setw (j + 1 + m) x).word a = S.word a := by
    rw [f.ej]
    exact hw j f.lt (by omega)
  refine ⟨fun u => ?_, hi.field f.own hin (by omega)⟩
  refine h.step tb hi kp f.at' f.ea (s' := { s with f := s.f.set m x, v := u }) f.ea ⟨?_, f.ok.is.trans (setw_sgn S _ x _).2.1.symm, ?_, fun hx => ?_, fun hx => ?_, fun y hy => (List.mem_or_eq_of_mem_set hy).elim (f.ok.b y) (fun e => by rw [e]; exact hx)⟩ rfl h.F h.x rfl
  · exact f.ok.k
  · show s.bg = HS.begun _ s.a
    rw [f.ok.bg, f.ea]
    unfold HS.begun
    rw [hwa]
  · exact (f.ok.col ((setw_sgn S _ x _).1.symm.trans hx)).trans (setw_sgn S _ x _).2.2.symm
  · show s.f.set m x = HS.fs _ s.a
    rw [f.ea, e]
    have hfl : (S.setw (j + 1 + m) x).flds a = S.flds a := by unfold HS.flds; rw [hwa]
    unfold HS.fs
    rw [hfl]
    refine List.ext_getElem (by simp) fun t h1 h2 => ?_
    simp only [List.getElem_set, List.getElem_map, List.getElem_range]
    have ht : t < (S.flds a).toNat := by simpa using h2
    have ht' := ht
    rw [f.ej] at ht'
    obtain ⟨_, htl⟩ := hi.flds_in f.own hb' ht'
    rw [f.ej, show (j : Int) + 1 + 1 + (t : Int) = ((j + 1 + t : Nat) : Int) + 1 by omega]
    split
    · rename_i hmt
      subst hmt
      rw [word_at (by rw [kp.len]; exact htl)]
      exact (getD_set_eq htl).symm
    · rename_i hmt
      exact (hw _ htl (by omega)).symm
theorem Kp.tint (c : Cf) (S : HS) {j : Nat} (K' : Nat → Bool) (hK : ∀ x : Nat, x ≠ j + 1 → K' x = S.K x) : Kp c S { S with K := K' } (j + 1) :=
  ⟨rfl, rfl, fun _ _ => rfl, fun _ _ => rfl, fun x hx => hK x (by omega), fun _ _ _ _ _ => rfl⟩
theorem colV_bit (ho : S.obj a = true) : S.colV a = if S.colB a = true then 1 else 0 := by
  unfold HS.colV
  rw [ho]
  simp
/-- Painted. -/
theorem Sim.paint (h : Sim c S H R) (tb : Tb c S.s.ks n) (hi : HInv c S H) (ho : S.obj a = true) {col : Int} (hc : col = 0 ∨ col = 1) :
    ∃ i j k s, Fd c S R a i j k s ∧ s.is = 2 ∧ (s.col != col) = S.paiV a col ∧ Sim c (S.paiS a col) H (R.setS i { s with col := col }) ∧ HInv c (S.paiS a col) H ∧ (S.paiS a col).s = S.s := by
  obtain ⟨ow, fr, bg⟩ := hi.obj_own ho
  obtain ⟨i, j, k, s, f⟩ := h.fd tb hi ow
  have hpb : S.paiB a col = true := by
    unfold HS.paiB
    rw [ho]
    rcases hc with rfl | rfl <;> rfl
  have hS : S.paiS a col = { S with K := putM S.K (S.s.ws.length + 1) a (decide (col = 1)) } := by unfold HS.paiS; rw [if_pos hpb]
  have hKe : putM S.K (S.s.ws.length + 1) a (decide (col = 1)) = fun x => if x = j + 1 then decide (col = 1) else S.K x := by
    rw [f.ej, putM_nat _ (by have := f.lt; omega)]
  have kp : Kp c S (S.paiS a col) a := by
    rw [hS, hKe, f.ej]
    exact Kp.tint c S _ (fun x hx => if_neg hx)
  have hcb : (S.paiS a col).colB a = decide (col = 1) := by
    rw [hS, hKe, f.ej]
    unfold HS.colB
    exact (hasB_nat (n := S.s.ws.length) f.lt).trans (if_pos rfl)
  have hob : (S.paiS a col).obj a = true := by rw [hS]; exact ho
  have hsc : s.col = if S.colB a = true then 1 else 0 := by
    rw [f.ok.col (by rw [f.ea]; exact ho), f.ea]
    exact colV_bit ho
  refine ⟨i, j, k, s, f, by rw [f.ok.is, f.ea]; exact HS.isN_obj.2 ho, ?_, ?_, ?_, by rw [hS]⟩
  · have e1 : S.paiV a col = (S.colB a != decide (col = 1)) := by
      unfold HS.paiV
      rw [hpb, Bool.true_and, f.ej]
      unfold putB HS.colB
      rw [hasB_nat f.lt]
      have : mayB (S.s.ws.length + 1) ((j : Int) + 1) = true := by
        unfold mayB
        have := f.lt
        rw [decide_eq_true (by omega), decide_eq_true (by omega)]
        rfl
      rw [this, Bool.true_and, show ((j : Int) + 1).toNat = j + 1 by omega]
    rw [e1, hsc]
    rcases hc with rfl | rfl <;> cases S.colB a <;> rfl
  · refine h.step tb hi kp f.at' f.ea (s' := { s with col := col }) f.ea ⟨?_, ?_, ?_, fun hx => ?_, fun hx => ?_, f.ok.b⟩ rfl h.F ?_ rfl
    · show s.k = _
      rw [f.ok.k, kp.ks]
    · show s.is = (S.paiS a col).isN s.a
      rw [f.ok.is, hS]
      rfl
    · show s.bg = (S.paiS a col).begun s.a
      rw [f.ok.bg, hS]
      rfl
    · show col = (S.paiS a col).colV s.a
      rw [f.ea, colV_bit hob, hcb]
      rcases hc with rfl | rfl <;> rfl
    · show s.f = (S.paiS a col).fs s.a
      have hx : (S.paiS a col).begun s.a = true := hx
      rw [hS] at hx ⊢
      exact f.ok.f hx
    · rw [hS]
      exact h.x
  · rw [hS]
    exact hi.same _ _
end Go.Proofs.YtnobempbcdkoaaaGreatDoor
