/- What a slot's taking, and an object's making, leave: plain laws. Conditions: none. An object is made, a field loaded or stored, walked. Conditions: the tables of limits and of sizes read as laid. What an object's making leaves: plain laws. Conditions: none. A heap is made, walked. Conditions: the tables of limits and of sizes read as laid. -/
import Derived.Test.YtnobempbcdkoaaaGreatDoorHpC
import Derived.Test.YtnobempbcdkoaaaGreatDoorHpB
import Derived.Deep.RegionWith
namespace Go.Proofs.YtnobempbcdkoaaaGreatDoor
open Go.RowKit

variable {c : Cf} {S S' : HS} {H : Nat → List Nat}
theorem HInv.slot_of (h : HInv c S H) {a : Int} (ho : ownB c S.s.ks a = true) : ∃ j k : Nat, a = j + 1 ∧ j < S.s.ws.length ∧ k < 4 ∧ clsA c S.s.ks (j + 1) = k ∧ ownB c S.s.ks (j + 1) = true := by
  obtain ⟨h1, h2⟩ := own_bd ho
  have h3 := h.len
  obtain ⟨j, hj⟩ : ∃ j : Nat, a = j + 1 := ⟨(a - 1).toNat, by omega⟩
  subst hj
  obtain ⟨k, hk, hc⟩ := clsA_nat h.ok ho
  exact ⟨j, k, rfl, by omega, hk, hc, ho⟩
theorem hasB_nat {M : Nat → Bool} {n j : Nat} (hj : j < n) : hasB M (n + 1) (j + 1) = M (j + 1) := by
  unfold hasB mayB
  rw [decide_eq_true (show (0 : Int) ≤ (j : Int) + 1 by omega), decide_eq_true (show (j : Int) + 1 < ((n + 1 : Nat) : Int) by omega), show ((j : Int) + 1).toNat = j + 1 by omega]
  rfl
theorem HInv.hand_iff (h : HInv c S H) {j : Nat} : S.hand c (j + 1) = true ↔ ownB c S.s.ks (j + 1) = true ∧ S.s.M (j + 1) = false ∧ S.B (j + 1) = false := by
  unfold HS.hand HS.own HS.obj HS.fre
  constructor
  · intro hh
    simp only [Bool.and_eq_true, Bool.not_eq_true'] at hh
    obtain ⟨ho, hb, hf⟩ := hh
    have hj := h.one ho
    rw [hasB_nat hj] at hb hf
    exact ⟨ho, hf, hb⟩
  · rintro ⟨ho, hf, hb⟩
    have hj := h.one ho
    rw [ho, hasB_nat hj, hasB_nat hj, hf, hb]
    rfl
/-- What putting a slot in hand leaves. -/
theorem HInv.putS (h : HInv c S H) {a : Int} (hh : S.hand c a = true) : ∃ j k : Nat, a = j + 1 ∧ k < 4 ∧ clsA c S.s.ks (j + 1) = k ∧ S.putS c a = { S with s := S.s.put j k } ∧ putH S c H a = updH H k (j :: H k) ∧ HInv c (S.putS c a) (putH S c H a) ∧ Ev c S (S.putS c a) := by
  have ho : ownB c S.s.ks a = true := by
    have := hh
    unfold HS.hand HS.own at this
    rw [Bool.and_eq_true] at this
    exact this.1
  obtain ⟨j, k, rfl, hj, hk, hc, ho⟩ := h.slot_of ho
  obtain ⟨_, hM, hB⟩ := h.hand_iff.1 hh
  have e1 : S.putS c ((j : Int) + 1) = { S with s := S.s.put j k } := by
    unfold HS.putS
    rw [if_pos hh, hc, show ((j : Int) + 1 - 1).toNat = j by omega, Int.toNat_natCast]
  have e2 : Go.Proofs.YtnobempbcdkoaaaGreatDoor.putH S c H ((j : Int) + 1) = updH H k (j :: H k) := by
    unfold Go.Proofs.YtnobempbcdkoaaaGreatDoor.putH
    rw [if_pos hh, hc, show ((j : Int) + 1 - 1).toNat = j by omega, Int.toNat_natCast]
  refine ⟨j, k, rfl, hk, hc, e1, e2, ?_, ?_⟩
  · rw [e1, e2]
    exact h.put hk ho hc hM hB
  · rw [e1]
    exact Ev.put h ho hB
/-- What stays, whatever is put. -/
structure Pf (c : Cf) (S S' : HS) : Prop where
  B : S'.B = S.B
  K : S'.K = S.K
  x : S'.x = S.x
  ks : S'.s.ks = S.s.ks
  ev : Ev c S S'
theorem Pf.put (h : HInv c S H) {a : Int} (hh : S.hand c a = true) : Pf c S (S.putS c a) := by
  obtain ⟨j, k, _, _, _, e, _, _, he⟩ := h.putS hh
  rw [e] at he ⊢
  exact ⟨rfl, rfl, rfl, rfl, he⟩
theorem HInv.putS_hand (h : HInv c S H) {a : Int} (hh : S.hand c a = true) {b : Int} (hb : S.hand c b = true) (hne : b ≠ a) : (S.putS c a).hand c b = true := by
  obtain ⟨j, k, rfl, _, _, e, _, hi, _⟩ := h.putS hh
  have ho : ownB c S.s.ks b = true := by
    have := hb
    unfold HS.hand HS.own at this
    rw [Bool.and_eq_true] at this
    exact this.1
  obtain ⟨i, k', rfl, hj, hk, hc, ho⟩ := h.slot_of ho
  obtain ⟨_, hM, hB⟩ := h.hand_iff.1 hb
  refine hi.hand_iff.2 ?_
  rw [e]
  refine ⟨ho, ?_, hB⟩
  show (if i + 1 = j + 1 then true else S.s.M (i + 1)) = false
  rw [if_neg (by omega)]
  exact hM
theorem pfold_facts : ∀ (l : List Int) (S : HS) (H : Nat → List Nat), HInv c S H → (∀ a ∈ l, S.hand c a = true) → l.Nodup → HInv c (pfold c l S H).1 (pfold c l S H).2 ∧ Pf c S (pfold c l S H).1 ∧ ∀ b, S.hand c b = true → b ∉ l → (pfold c l S H).1.hand c b = true
  | [], S, _, h, _, _ => ⟨h, ⟨rfl, rfl, rfl, rfl, Ev.refl c S⟩, fun _ hb _ => hb⟩
  | a :: l, S, H, h, hl, hn => by
    have hh := hl a (List.mem_cons_self ..)
    obtain ⟨hn1, hn2⟩ := List.nodup_cons.1 hn
    obtain ⟨_, _, _, _, _, _, _, hi, he⟩ := h.putS hh
    have hp := Pf.put h hh
    obtain ⟨g1, g2, g3⟩ := pfold_facts l _ _ hi (fun b hb => h.putS_hand hh (hl b (List.mem_cons_of_mem _ hb)) (fun e => hn1 (e ▸ hb))) hn2
    refine ⟨g1, ⟨g2.B.trans hp.B, g2.K.trans hp.K, g2.x.trans hp.x, g2.ks.trans hp.ks, he.trans g2.ev h⟩, fun b hb hbl => ?_⟩
    rw [List.mem_cons, not_or] at hbl
    exact g3 b (h.putS_hand hh hb hbl.1) hbl.2
theorem sl_nodup {k b : Int} (hc : c.ok = true) (hk : isCls k = true) (b0 : 0 ≤ b) (b1 : b < c.c0) : (sl c k b).Nodup := by
  rw [sl_eq hc hk b0 b1]
  have hs := clsSize_lo hk
  refine List.Pairwise.map _ (fun i j hij => ?_) List.nodup_range
  intro e
  unfold plA at e
  have h1 : (i : Int) * clsSize k = (j : Int) * clsSize k := by omega
  have h2 := Int.eq_of_mul_eq_mul_right (by omega) h1
  omega
/-- A block's slots, newly assigned, are in hand. -/
theorem HInv.new_hand (h : HInv c S H) {k : Int} (hk : isCls k = true) (hb : (S.s.ks.length : Int) < c.c0) {a : Int} (ha : a ∈ sl c k S.s.ks.length) :
    ({ S with s := { S.s with ks := S.s.ks ++ [k] } } : HS).hand c a = true ∧ clsA c (S.s.ks ++ [k]) a = k ∧ ownB c S.s.ks a = false := by
  have e : (S.s.ks ++ [k]).getD S.s.ks.length 0 = k := getD_snoc
  obtain ⟨ho, hq⟩ := own_of_mem (ks := S.s.ks ++ [k]) (b := S.s.ks.length) (a := a) h.ok (by rw [List.length_append]; simp) (by rw [e]; exact hk) hb (by rw [e]; exact ha)
  have hno : ownB c S.s.ks a = false := by
    cases ho' : ownB c S.s.ks a
    · rfl
    · obtain ⟨b, h1, h2, _⟩ := mem_of_own h.ok ho'
      omega
  have hi := h.more k
  obtain ⟨j, k', rfl, hj, _, hc, ho⟩ := hi.slot_of (a := a) ho
  refine ⟨hi.hand_iff.2 ⟨ho, ?_, ?_⟩, ?_, hno⟩
  · cases hM : S.s.M (j + 1)
    · rfl
    · obtain ⟨i, hi4, hm⟩ := (h.li.mem j hj).1 hM
      rw [(h.li.cls i hi4 j hm).1] at hno
      cases hno
  · cases hB : S.B (j + 1)
    · rfl
    · obtain ⟨j', e1, _, e3, _⟩ := h.ob _ hB
      obtain rfl : j = j' := by omega
      rw [e3] at hno
      cases hno
  · unfold clsA
    rw [hq]
    exact e
/-- What a slot's taking leaves. -/
theorem slot_facts (h : HInv c S H) {n k : Nat} (hk : k < 4) (hn : (n : Int) = c.c0) (hE : sloE S H n k = 0) :
    ∃ j : Nat, sloV S H c n k = j + 1 ∧ (sloP S H c n k).1.hand c (j + 1) = true ∧ clsA c (sloP S H c n k).1.s.ks (j + 1) = k ∧ HInv c (sloP S H c n k).1 (sloP S H c n k).2 ∧ (sloP S H c n k).1.B = S.B ∧ (sloP S H c n k).1.K = S.K ∧ (sloP S H c n k).1.x = S.x ∧ Ev c S (sloP S H c n k).1 ∧ S.B (j + 1) = false := by
  have hkc := isCls_nat hk
  unfold sloE at hE
  unfold sloV sloP
  by_cases h12 : takE H (k : Int) = 12
  · rw [if_pos h12] at hE
    simp only [if_pos h12, if_pos hE]
    have hf : S.s.ks.length < n := by
      unfold HS.asgE at hE
      rw [if_pos hkc] at hE
      by_cases hf : S.s.ks.length < n
      · exact hf
      · rw [if_neg hf] at hE; cases hE
    have e3 : S.asgS n (k : Int) = { S with s := { S.s with ks := S.s.ks ++ [(k : Int)] } } := by unfold HS.asgS; rw [if_pos hE]
    rw [e3]
    have hb : (S.s.ks.length : Int) < c.c0 := by omega
    have hnd := sl_nodup (c := c) (k := k) (b := S.s.ks.length) h.ok hkc (by omega) hb
    have hlen : 1 ≤ (sl c k S.s.ks.length).length := by
      have u := c1_bd h.ok
      rw [sl_len h.ok hkc (by omega) hb]
      obtain ⟨p0, p1, p2, p3⟩ := per_facts c.c1 k hkc u.1 u.2
      omega
    have hnh := fun a (ha : a ∈ sl c k S.s.ks.length) => h.new_hand hkc hb ha
    cases hs : sl c (k : Int) S.s.ks.length with
    | nil => rw [hs] at hlen; simp at hlen
    | cons x0 rest =>
      rw [hs] at hnd hnh
      obtain ⟨hn1, hn2⟩ := List.nodup_cons.1 hnd
      rw [List.getD_cons_zero, List.tail_cons]
      obtain ⟨g1, g2, g3⟩ := pfold_facts rest.reverse _ _ (h.more k) (fun a ha => (hnh a (List.mem_cons_of_mem _ (List.mem_reverse.1 ha))).1) (List.pairwise_reverse.2 (hn2.imp fun h => h.symm))
      obtain ⟨f1, f2, f3⟩ := hnh x0 (List.mem_cons_self ..)
      have f4 := g3 x0 f1 (fun hm => hn1 (List.mem_reverse.1 hm))
      have ho : ownB c (S.s.ks ++ [(k : Int)]) x0 = true := by
        have := f1
        unfold HS.hand HS.own at this
        rw [Bool.and_eq_true] at this
        exact this.1
      obtain ⟨j, k', rfl, hj, _⟩ := (h.more k).slot_of (a := x0) ho
      refine ⟨j, rfl, f4, ?_, g1, g2.B, g2.K, g2.x, (Ev.more c S k).trans g2.ev h, ?_⟩
      · rw [g2.ks]
        exact f2
      · exact ((h.more k).hand_iff.1 f1).2.2
  · rw [if_neg h12] at hE
    simp only [if_neg h12]
    have e2 : takE H (k : Int) = if H k = [] then 12 else 0 := by unfold takE; rw [if_pos hkc, Int.toNat_natCast]
    have hL : ∃ j L, H k = j :: L := by
      cases hL : H k with
      | nil => rw [hL, if_pos rfl] at e2; exact absurd e2 h12
      | cons j L => exact ⟨j, L, rfl⟩
    obtain ⟨j, L, hL⟩ := hL
    have e1 : takV H (k : Int) = j + 1 := by unfold takV; rw [if_pos hkc, Int.toNat_natCast, hL]; rfl
    have e3 : S.takS H (k : Int) = { S with s := S.s.tak j k } := by
      unfold HS.takS
      rw [if_pos hE, e1, Int.toNat_natCast, show ((j : Int) + 1 - 1).toNat = j by omega]
    have e4 : takH H (k : Int) = updH H k L := by unfold takH; rw [if_pos hE, Int.toNat_natCast, hL]; rfl
    rw [e1, e3, e4]
    have hi := h.tak hk hL
    have hm : j ∈ H k := by rw [hL]; exact List.mem_cons_self ..
    obtain ⟨c1, c2⟩ := h.li.cls k hk j hm
    have hB : S.B (j + 1) = false := by
      cases hB : S.B (j + 1)
      · rfl
      · obtain ⟨j', q1, q2, q3, q4, _⟩ := h.ob _ hB
        obtain rfl : j = j' := by omega
        rw [(h.li.mem j q2).2 ⟨k, hk, hm⟩] at q4
        cases q4
    refine ⟨j, rfl, hi.hand_iff.2 ⟨c1, ?_, hB⟩, c2, hi, rfl, rfl, rfl, Ev.tak c S j k, hB⟩
    show (if j + 1 = j + 1 then false else S.s.M (j + 1)) = false
    rw [if_pos rfl]
end Go.Proofs.YtnobempbcdkoaaaGreatDoor
namespace Go.Proofs.YtnobempbcdkoaaaGreatDoor
open Go.RowKit

variable {W w w' : World} {A : HA} {c : Cf} {S : HS} {H : Nat → List Nat}
/-- What a slot is that may be looked into. -/
theorem HpI.may_parts (h : HpI W w A c S H) {a : Int} (hm : S.may c a = true) : ∃ j k : Nat, a = j + 1 ∧ k < 4 ∧ ownB c S.s.ks (j + 1) = true ∧ clsA c S.s.ks (j + 1) = k ∧ S.s.M (j + 1) = false ∧ isObjW (S.s.ws.getD j 0) = true ∧ S.flds a = S.s.ws.getD j 0 % 256 ∧ S.flds a ≤ clsRoom k := by
  have key : ∀ j k : Nat, a = j + 1 → k < 4 → ownB c S.s.ks (j + 1) = true → clsA c S.s.ks (j + 1) = k → S.s.M (j + 1) = false → isObjW (S.s.ws.getD j 0) = true → ∃ j k : Nat, a = j + 1 ∧ k < 4 ∧ ownB c S.s.ks (j + 1) = true ∧ clsA c S.s.ks (j + 1) = k ∧ S.s.M (j + 1) = false ∧ isObjW (S.s.ws.getD j 0) = true ∧ S.flds a = S.s.ws.getD j 0 % 256 ∧ S.flds a ≤ clsRoom k := by
    rintro j k rfl hk ho hc hM hb
    have hf : S.flds ((j : Int) + 1) = S.s.ws.getD j 0 % 256 := by
      unfold HS.flds fldW
      rw [h.begun_nat (h.inv.one ho), hb]
    refine ⟨j, k, rfl, hk, ho, hc, hM, hb, hf, ?_⟩
    have h1 := h.inv.hw j ho hb
    rw [hc] at h1
    have h2 := hb
    unfold isObjW at h2
    simp only [Bool.and_eq_true] at h2
    rw [h1] at h2
    rw [hf]
    exact (objOk_iff.1 h2.2.1).2.2
  unfold HS.may at hm
  rw [Bool.or_eq_true] at hm
  rcases hm with hm | hm
  · obtain ⟨j, k, e, h1, h2, h3, h4, h5, h6⟩ := h.obj_parts hm
    exact key j k e h1 h2 h3 h4 h6
  · rw [Bool.and_eq_true] at hm
    obtain ⟨j, k, rfl, h1, h2, h3, h4, h5⟩ := h.hand_parts hm.1
    refine key j k rfl h1 h2 h3 h4 ?_
    have := hm.2
    unfold HS.begun at this
    rwa [h.begun_nat (h.inv.one h2)] at this
theorem clsRoom_size {k : Nat} (hk : k < 4) : clsRoom k = clsSize k - 1 := by
  unfold clsRoom
  rw [if_pos (isCls_nat hk)]
/-- A field's word is in its slot. -/
theorem HpI.field_in (h : HpI W w A c S H) {j k i : Nat} {f n : Int} (hk : k < 4) (ho : ownB c S.s.ks (j + 1) = true) (hc : clsA c S.s.ks (j + 1) = k) (hn : n ≤ clsRoom k) (hf : 0 ≤ f ∧ f < n) (hi : (i : Int) = j + 1 + f) : InSlot c S.s.ks j i ∧ i ≠ j ∧ i < S.s.ws.length := by
  have hin : InSlot c S.s.ks j i := by
    unfold InSlot
    rw [hc]
    rw [clsRoom_size hk] at hn
    omega
  exact ⟨hin, by omega, in_lt h.inv.ok h.inv.len ho hin⟩
theorem hp_Store (a f v : Int) (h : HpI W w A c S H) :
    Calls Tryz.prog 50 #[.pointer (some ⟨A.h, 0, none⟩), .int .i64 a, .int .i64 f, .int .i64 v] w fun e w' => e = .returned (.int .i64 (S.stE c a f v)) ∧ Touch (HT A) w w' ∧ HpI W w' A c (S.stS c a f v) H := by
  refine (heap_Store a f v h.at' h.laid ?_).mono ?_
  · intro hm h0 h1
    obtain ⟨j, k, rfl, hk, ho, hc, _, _, _, hr⟩ := h.may_parts hm
    obtain ⟨g1, g2, g3⟩ := h.field_in (i := (j + 1 + f).toNat) hk ho hc hr ⟨h0, h1⟩ (by omega)
    omega
  · rintro e w1 ⟨rfl, hT, h1⟩
    refine ⟨rfl, hT, h1, ?_, h.laid⟩
    unfold HS.stS
    split
    · rename_i hE
      have hm : S.may c a = true ∧ 0 ≤ f ∧ f < S.flds a := by
        unfold HS.stE HS.objE at hE
        by_cases h0 : a = 0
        · rw [if_pos h0] at hE; cases hE
        · rw [if_neg h0] at hE
          by_cases hm : S.may c a = true
          · rw [if_pos hm, if_pos rfl] at hE
            by_cases hf : 0 ≤ f ∧ f < S.flds a
            · exact ⟨hm, hf⟩
            · rw [if_neg hf] at hE; cases hE
          · rw [if_neg hm] at hE; cases hE
      obtain ⟨hm, h0, h1⟩ := hm
      obtain ⟨j, k, rfl, hk, ho, hc, _, _, _, hr⟩ := h.may_parts hm
      obtain ⟨g1, g2, g3⟩ := h.field_in (i := (j + 1 + f).toNat) hk ho hc hr ⟨h0, h1⟩ (by omega)
      exact h.inv.field ho g1 g2
    · exact h.inv
theorem hp_Load (a f : Int) (h : HpI W w A c S H) :
    Calls Tryz.prog 25 #[.pointer (some ⟨A.h, 0, none⟩), .int .i64 a, .int .i64 f] w fun e w' => e = .returned (.tuple #[.int .i64 (S.ldV c a f), .int .i64 (S.ldE c a f)]) ∧ Touch (HT A) w w' ∧ HpI W w' A c S H :=
  (heap_Load a f h.at' h.laid).mono fun _ _ ⟨g1, g2, g3⟩ => ⟨g1, g2, g3, h.inv, h.laid⟩
theorem hp_Fields (a : Int) (h : HpI W w A c S H) :
    Calls Tryz.prog 49 #[.pointer (some ⟨A.h, 0, none⟩), .int .i64 a] w fun e w' => e = .returned (.tuple #[.int .i64 (S.fldV c a), .int .i64 (S.objE c a)]) ∧ Touch (HT A) w w' ∧ HpI W w' A c S H :=
  (heap_Fields a h.at' h.laid).mono fun _ _ ⟨g1, g2, g3⟩ => ⟨g1, g2, g3, h.inv, h.laid⟩
/-- Fields that are laid 0. -/
def zer (S : HS) (j : Nat) : Nat → HS
  | 0 => S
  | m + 1 => (zer S j m).setw (j + 1 + m) 0
/-- Behind a header and m fields. -/
structure Zr (S S' : HS) (j : Nat) : Prop where
  len : S'.s.ws.length = S.s.ws.length
  hd : S'.s.ws.getD j 0 = S.s.ws.getD j 0
  ks : S'.s.ks = S.s.ks
  M : S'.s.M = S.s.M
  B : S'.B = S.B
  K : S'.K = S.K
  x : S'.x = S.x
theorem zer_facts (S : HS) (j : Nat) : ∀ m, Zr S (zer S j m) j
  | 0 => ⟨rfl, rfl, rfl, rfl, rfl, rfl, rfl⟩
  | m + 1 => by
    have h := zer_facts S j m
    refine ⟨?_, ?_, h.ks, h.M, h.B, h.K, h.x⟩
    · show ((zer S j m).s.ws.set _ _).length = _
      rw [List.length_set]
      exact h.len
    · show ((zer S j m).s.ws.set (j + 1 + m) 0).getD j 0 = _
      rw [getD_set_ne (by omega)]
      exact h.hd
def makE (S : HS) (H : Nat → List Nat) (n : Nat) (f col : Int) : Int := if ofOk f = true then (if col = 0 ∨ col = 1 then sloE S H n (clsOf f) else 1) else 8
def makV (S : HS) (H : Nat → List Nat) (c : Cf) (n : Nat) (f col : Int) : Int := if makE S H n f col = 0 then sloV S H c n (clsOf f) else 0
/-- A slot in hand that becomes an object of f fields. -/
def HS.born (S : HS) (c : Cf) (j : Nat) (f col : Int) : HS :=
  let S1 := zer (S.setw j (hObj (clsA c S.s.ks (j + 1)) f)) j f.toNat
  { S1 with B := fun x => if x = j + 1 then true else S1.B x, K := fun x => if x = j + 1 then decide (col = 1) else S1.K x }
def makS (S : HS) (H : Nat → List Nat) (c : Cf) (n : Nat) (f col : Int) : HS := if makE S H n f col = 0 then (sloP S H c n (clsOf f)).1.born c (sloV S H c n (clsOf f) - 1).toNat f col else S
def makH (S : HS) (H : Nat → List Nat) (c : Cf) (n : Nat) (f col : Int) : Nat → List Nat := if makE S H n f col = 0 then (sloP S H c n (clsOf f)).2 else H
theorem slo_err {n : Nat} {k : Int} (hE : sloE S H n k ≠ 0) (hk : isCls k = true) : sloV S H c n k = 0 ∧ sloP S H c n k = (S, H) := by
  unfold sloE at hE
  unfold sloV sloP
  have e2 : takE H k = if H k.toNat = [] then 12 else 0 := by unfold takE; rw [if_pos hk]
  by_cases h12 : takE H k = 12
  · rw [if_pos h12] at hE
    simp only [if_pos h12, if_neg hE]
    exact ⟨trivial, trivial⟩
  · rw [if_neg h12] at hE
    exfalso
    rw [e2] at hE h12
    split at hE
    · rename_i hx
      rw [if_pos hx] at h12
      exact h12 rfl
    · exact hE rfl
theorem Zr.hand {j : Nat} {S' : HS} (z : Zr S S' j) : ∀ a, S'.hand c a = S.hand c a := fun a => by
  unfold HS.hand HS.own HS.obj HS.fre
  rw [z.ks, z.len, z.M, z.B]
/-- While an object is made: its header is laid, m fields are 0. -/
structure Mkg (c : Cf) (S2 : HS) (j k : Nat) (f : Int) : Prop where
  hand : S2.hand c (j + 1) = true
  cls : clsA c S2.s.ks (j + 1) = k
  hk : k < 4
  fk : objOk k f = true
  lt : j < S2.s.ws.length
  own : ownB c S2.s.ks (j + 1) = true
theorem Mkg.look {S2 : HS} {j k : Nat} {f : Int} (g : Mkg c S2 j k f) (m : Nat) : (zer (S2.setw j (hObj k f)) j m).hand c (j + 1) = true ∧ (zer (S2.setw j (hObj k f)) j m).begun (j + 1) = true ∧ (zer (S2.setw j (hObj k f)) j m).flds (j + 1) = f ∧ (zer (S2.setw j (hObj k f)) j m).s.ws.length = S2.s.ws.length := by
  have z := zer_facts (S2.setw j (hObj k f)) j m
  have hlen : (S2.setw j (hObj k f)).s.ws.length = S2.s.ws.length := List.length_set
  have hw : (zer (S2.setw j (hObj k f)) j m).word (j + 1) = hObj k f := by
    unfold HS.word
    rw [z.len, hlen, if_pos ⟨by omega, by have := g.lt; omega⟩, show ((j : Int) + 1 - 1).toNat = j by omega, z.hd]
    exact getD_set_eq g.lt
  obtain ⟨o1, o2, o3, o4, o5, o6, o7⟩ := obj_facts g.fk
  refine ⟨?_, ?_, ?_, z.len.trans hlen⟩
  · rw [z.hand]
    have := g.hand
    unfold HS.hand HS.own HS.obj HS.fre at this ⊢
    rw [hlen]
    exact this
  · unfold HS.begun
    rw [hw]
    exact o3
  · unfold HS.flds fldW
    rw [hw, o3]
    exact o6
theorem Mkg.store {S2 : HS} {j k : Nat} {f : Int} (g : Mkg c S2 j k f) (m : Nat) (hm : (m : Int) < f) : (zer (S2.setw j (hObj k f)) j m).stE c (j + 1) m 0 = 0 ∧ (zer (S2.setw j (hObj k f)) j m).stS c (j + 1) m 0 = zer (S2.setw j (hObj k f)) j (m + 1) := by
  obtain ⟨l1, l2, l3, l4⟩ := g.look m
  have hE : (zer (S2.setw j (hObj k f)) j m).stE c (j + 1) m 0 = 0 := by
    unfold HS.stE HS.objE HS.may
    rw [l1, l2, l3, if_neg (by omega : ¬ (j : Int) + 1 = 0)]
    rw [if_pos (show ((zer (S2.setw j (hObj k f)) j m).obj (j + 1) || (true && true)) = true by rw [Bool.and_self, Bool.or_true]), if_pos rfl, if_pos ⟨by omega, hm⟩, if_pos ⟨by omega, by omega⟩]
  refine ⟨hE, ?_⟩
  unfold HS.stS
  rw [if_pos hE, show ((j : Int) + 1 + (m : Int)).toNat = j + 1 + m by omega]
  rfl
set_option maxHeartbeats 1000000 in
theorem hp_Make (f col : Int) (h : HpI W w A c S H) :
    Calls Tryz.prog 85 #[.pointer (some ⟨A.h, 0, none⟩), .int .i64 f, .int .i64 col] w fun e w' => e = .returned (.tuple #[.int .i64 (makV S H c A.L.n f col), .int .i64 (makE S H A.L.n f col)]) ∧ Touch (HT A) w w' ∧ HpI W w' A c (makS S H c A.L.n f col) (makH S H c A.L.n f col) := by
  have hof := class_Of f w h.lay.siz
  unfold makV makS makH
  by_cases ho : ofOk f = true
  · rw [ho] at hof
    have hf : 0 ≤ f ∧ f ≤ 15 := by unfold ofOk at ho; simp only [Bool.and_eq_true, decide_eq_true_eq] at ho; exact ho
    obtain ⟨k1, k2, -⟩ := clsOf_is hf.1 hf.2
    obtain ⟨k0, k3⟩ := isCls_iff.1 k1
    obtain ⟨k, hk⟩ := Int.eq_ofNat_of_zero_le k0
    rw [show max 0 (clsOf f) = (k : Int) by rw [hk]; exact Int.max_eq_right (by omega)] at hof
    have hk4 : k < 4 := by omega
    have hfk : objOk k f = true := objOk_iff.2 ⟨isCls_nat hk4, hf.1, by rw [← hk]; exact k2⟩
    by_cases hc : col = 0 ∨ col = 1
    · have e1 : makE S H A.L.n f col = sloE S H A.L.n k := by unfold makE; rw [if_pos ho, if_pos hc, hk]
      rw [e1, hk]
      have hcb : (decide (col = 0) || decide (col = 1)) = true := by rcases hc with rfl | rfl <;> rfl
      have hcol := heap_color col w
      rw [hcb] at hcol
      have hslo := hp_slot k h hk4
      by_cases hE : sloE S H A.L.n k = 0
      · rw [if_pos hE, if_pos hE, if_pos hE, hE]
        have hn : (A.L.n : Int) = c.c0 := by
          obtain ⟨ct, hb⟩ := h.at'.ls.tb
          exact hb.hn
        obtain ⟨j, s1, s2, s3, s4, s5, s6, s7, s8, s9⟩ := slot_facts h.inv hk4 hn hE
        rw [s1, show ((j : Int) + 1 - 1).toNat = j by omega]
        rw [s1, hE] at hslo
        obtain ⟨S2, hS2⟩ : ∃ S2, (sloP S H c A.L.n k).1 = S2 := ⟨_, rfl⟩
        obtain ⟨H2, hH2⟩ : ∃ H2, (sloP S H c A.L.n k).2 = H2 := ⟨_, rfl⟩
        rw [hS2, hH2] at hslo s4 ⊢
        rw [hS2] at s2 s3
        have ho2 := (s4.hand_iff.1 s2).1
        have hg : Mkg c S2 j k f := ⟨s2, s3, hk4, hfk, s4.one ho2, ho2⟩
        have e4 : S2.begE c (j + 1) f = 0 := by unfold HS.begE; rw [if_pos s2, s3, if_pos hfk]
        have e5 : S2.begS c (j + 1) f = S2.setw j (hObj k f) := by unfold HS.begS; rw [if_pos e4, s3, show ((j : Int) + 1 - 1).toNat = j by omega]
        have hbeg := fun w1 (h1 : HpI W w1 A c S2 H2) => hp_Begin ((j : Int) + 1) f h1
        rw [e4, e5] at hbeg
        have hsto := fun w1 (m : Nat) (hm : (m : Int) < f) (h1 : HpI W w1 A c (zer (S2.setw j (hObj k f)) j m) H2) => (hg.store m hm).1 ▸ (hg.store m hm).2 ▸ hp_Store ((j : Int) + 1) m 0 h1
        obtain ⟨l1, l2, l3, l4⟩ := hg.look f.toNat
        have e6 : (zer (S2.setw j (hObj k f)) j f.toNat).beaE c (j + 1) col = 0 := by unfold HS.beaE; rw [if_pos ⟨l1, hc⟩, if_pos l2]
        have e7 : (zer (S2.setw j (hObj k f)) j f.toNat).beaS c (j + 1) col = S2.born c j f col := by
          unfold HS.beaS HS.born
          rw [if_pos e6, s3, show ((j : Int) + 1 - 1).toNat = j by omega]
        have hbea := fun w1 (h1 : HpI W w1 A c (zer (S2.setw j (hObj k f)) j f.toNat) H2) => hp_Bear ((j : Int) + 1) col h1
        rw [e6, e7] at hbea
        obtain ⟨S3, hS3⟩ : ∃ S3, S2.setw j (hObj k f) = S3 := ⟨_, rfl⟩
        obtain ⟨S4, hS4⟩ : ∃ S4, S2.born c j f col = S4 := ⟨_, rfl⟩
        rw [hS3] at hbeg hsto hbea
        rw [hS4] at hbea ⊢
        obtain ⟨n, hnf⟩ := Int.eq_ofNat_of_zero_le hf.1
        have hn15 : n ≤ 15 := by omega
        rw [show f.toNat = n by omega] at hbea
        subst hnf
        have HH := Lib.hid (And.intro hof (And.intro hcol (And.intro hslo (And.intro hbeg (And.intro hsto hbea)))))
        clear hof hcol hslo hbeg hsto hbea h ho hf k1 k2 k0 k3 hk hk4 hfk hc e1 hcb hE hn s1 s2 s3 s4 s5 s6 s7 s8 s9 hS2 hH2 ho2 hg e4 e5 l1 l2 l3 l4 e6 e7 hS3 hS4
        go_enter Tryz.func85, Tryz.ntmps85
        go_wp2_with (go_at_call 122; fail)
        refine HH.out.1.mono ?_
        rintro e w1 ⟨rfl, rfl⟩
        go_wp2_with (go_at_call 114; fail)
        refine HH.out.2.1.mono ?_
        rintro e w1 ⟨rfl, rfl⟩
        go_wp2_with (go_at_call 123; fail)
        refine HH.out.2.2.1.mono ?_
        rintro e w1 ⟨rfl, hT1, h1⟩
        have H1 := Lib.hid (And.intro hT1 h1)
        clear hT1 h1
        go_wp2_with (go_at_call 124; fail)
        refine (HH.out.2.2.2.1 w1 H1.out.2).mono ?_
        rintro e w2 ⟨rfl, hT2, h2⟩
        have HB2 : Hid (Touch (HT A) w w2 ∧ HpI W w2 A c (zer S3 j 0) H2) := ⟨H1.out.1.trans hT2, h2⟩
        clear hT2 h2
        go_wp2_with fail
        go_loopw [39] (fun i wr => ∃ m : Nat, m ≤ n ∧ i = .int .i64 m ∧ Hid (Touch (HT A) w wr ∧ HpI W wr A c (zer S3 j m) H2)) (fun i _ => n - (intOf i).toNat)
        case atStart => exact ⟨0, Nat.zero_le _, rfl, HB2⟩
        case round =>
          obtain ⟨m, hm, rfl, HR⟩ := hrel
          clear HB2
          by_cases hmn : m < n
          · have hc1 : (m : Int) < (n : Int) := by omega
            go_wp2_with (go_at_call 50; fail)
            refine (HH.out.2.2.2.2.1 wr m (by omega) HR.out.2).mono ?_
            rintro e w3 ⟨rfl, hT3, h3⟩
            have H3 : Hid (Touch (HT A) w w3 ∧ HpI W w3 A c (zer S3 j (m + 1)) H2) := ⟨HR.out.1.trans hT3, h3⟩
            clear hT3 h3
            go_wp2
            go_roundw
            case rel => exact ⟨m + 1, by omega, by go_num, H3⟩
            case measure => simp [intOf]; omega
          · obtain rfl : m = n := by omega
            go_wp2_with (go_at_call 125; fail)
            refine (HH.out.2.2.2.2.2 wr HR.out.2).mono ?_
            rintro e w3 ⟨rfl, hT3, h3⟩
            have H3 := Lib.hid (And.intro (HR.out.1.trans hT3) h3)
            clear hT3 h3
            go_wp2
            go_ret2
            exact ⟨rfl, H3.out⟩
      · obtain ⟨v0, p0⟩ := slo_err (c := c) hE (isCls_nat hk4)
        rw [if_neg hE, if_neg hE, if_neg hE]
        rw [v0, p0] at hslo
        obtain ⟨E, hEE⟩ : ∃ E, sloE S H A.L.n k = E := ⟨_, rfl⟩
        rw [hEE] at hslo hE ⊢
        have HH := Lib.hid (And.intro hof (And.intro hcol hslo))
        clear h hof ho hf k1 k2 k0 k3 hk hk4 hfk hc e1 hcb hcol hslo v0 p0 hEE
        have hEb : (E != 0) = true := by simpa using hE
        go_enter Tryz.func85, Tryz.ntmps85
        go_wp2_with (go_at_call 122; fail)
        refine HH.out.1.mono ?_
        rintro e w1 ⟨rfl, rfl⟩
        go_wp2_with (go_at_call 114; fail)
        refine HH.out.2.1.mono ?_
        rintro e w1 ⟨rfl, rfl⟩
        go_wp2_with (go_at_call 123; fail)
        refine HH.out.2.2.mono ?_
        rintro e w1 ⟨rfl, hT1, h1⟩
        have H1 := Lib.hid (And.intro hT1 h1)
        clear hT1 h1
        go_wp2
        go_ret2
        exact ⟨rfl, H1.out⟩
    · have e1 : makE S H A.L.n f col = 1 := by unfold makE; rw [if_pos ho, if_neg hc]
      rw [e1]
      have hcb : (decide (col = 0) || decide (col = 1)) = false := by rw [decide_eq_false (by omega), decide_eq_false (by omega)]; rfl
      have hcol := heap_color col w
      rw [hcb] at hcol
      simp only [show ¬ ((1 : Int) = 0) by decide, if_false]
      have HH := Lib.hid (And.intro h (And.intro hof hcol))
      clear h hof ho hf k1 k2 k0 k3 hk hk4 hfk hc e1 hcb hcol
      go_enter Tryz.func85, Tryz.ntmps85
      go_wp2_with (go_at_call 122; fail)
      refine HH.out.2.1.mono ?_
      rintro e w1 ⟨rfl, rfl⟩
      go_wp2_with (go_at_call 114; fail)
      refine HH.out.2.2.mono ?_
      rintro e w1 ⟨rfl, rfl⟩
      go_wp2
      go_ret2
      exact ⟨rfl, Touch.refl _ _, HH.out.1⟩
  · have e1 : makE S H A.L.n f col = 8 := by unfold makE; rw [if_neg ho]
    rw [e1]
    rw [show ofOk f = false by simpa using ho] at hof
    simp only [show ¬ ((8 : Int) = 0) by decide, if_false]
    obtain ⟨K, hK⟩ : ∃ K, max 0 (clsOf f) = K := ⟨_, rfl⟩
    rw [hK] at hof
    have HH := Lib.hid (And.intro h hof)
    clear h hof ho e1 hK
    go_enter Tryz.func85, Tryz.ntmps85
    go_wp2_with (go_at_call 122; fail)
    refine HH.out.2.mono ?_
    rintro e w1 ⟨rfl, rfl⟩
    go_wp2
    go_ret2
    exact ⟨rfl, Touch.refl _ _, HH.out.1⟩
end Go.Proofs.YtnobempbcdkoaaaGreatDoor
namespace Go.Proofs.YtnobempbcdkoaaaGreatDoor
open Go.RowKit

variable {c : Cf} {S S' : HS} {H : Nat → List Nat}
theorem zer_inv (h : HInv c S H) {j : Nat} (ho : ownB c S.s.ks (j + 1) = true) (hB : S.B (j + 1) = false) : ∀ m : Nat, (∀ i, i < m → InSlot c S.s.ks j (j + 1 + i)) → HInv c (zer S j m) H ∧ Ev c S (zer S j m) ∧ (∀ i, i < m → (zer S j m).s.ws.getD (j + 1 + i) 0 = 0)
  | 0, _ => ⟨h, Ev.refl c S, fun _ hi => absurd hi (Nat.not_lt_zero _)⟩
  | m + 1, hs => by
    obtain ⟨h1, h2, h3⟩ := zer_inv h ho hB m (fun i hi => hs i (by omega))
    have z := zer_facts S j m
    have ho' : ownB c (zer S j m).s.ks (j + 1) = true := by rw [z.ks]; exact ho
    have hin : InSlot c (zer S j m).s.ks j (j + 1 + m) := by rw [z.ks]; exact hs m (by omega)
    have hlt := in_lt h1.ok h1.len ho' hin
    refine ⟨h1.field ho' hin (by omega), h2.trans (Ev.word h1 ho' hin (by rw [z.B]; exact hB)) h, fun i hi => ?_⟩
    show ((zer S j m).s.ws.set (j + 1 + m) 0).getD (j + 1 + i) 0 = 0
    by_cases e : i = m
    · subst e
      exact getD_set_eq hlt
    · rw [getD_set_ne (by omega)]
      exact h3 i (by omega)
/-- What an object's making leaves. -/
structure Mk (c : Cf) (S S' : HS) (j k : Nat) (f col : Int) : Prop where
  ev : Ev c S S'
  new : S.B (j + 1) = false
  B : S'.B = fun x => if x = j + 1 then true else S.B x
  K : S'.K = fun x => if x = j + 1 then decide (col = 1) else S.K x
  own : ownB c S'.s.ks (j + 1) = true
  cls : clsA c S'.s.ks (j + 1) = k
  hd : S'.s.ws.getD j 0 = hObj k f
  fz : ∀ i : Nat, (i : Int) < f → S'.s.ws.getD (j + 1 + i) 0 = 0
theorem mak_facts (h : HInv c S H) {n : Nat} {f col : Int} (hn : (n : Int) = c.c0) (hE : makE S H n f col = 0) :
    ∃ j k : Nat, makV S H c n f col = j + 1 ∧ k < 4 ∧ (k : Int) = clsOf f ∧ objOk k f = true ∧ Mk c S (makS S H c n f col) j k f col := by
  have hE' := hE
  unfold makE at hE'
  by_cases ho : ofOk f = true
  · rw [if_pos ho] at hE'
    by_cases hc : col = 0 ∨ col = 1
    · rw [if_pos hc] at hE'
      have hf : 0 ≤ f ∧ f ≤ 15 := by unfold ofOk at ho; simp only [Bool.and_eq_true, decide_eq_true_eq] at ho; exact ho
      obtain ⟨k1, k2, -⟩ := clsOf_is hf.1 hf.2
      obtain ⟨k0, k3⟩ := isCls_iff.1 k1
      obtain ⟨k, hk⟩ := Int.eq_ofNat_of_zero_le k0
      have hk4 : k < 4 := by omega
      have hfk : objOk k f = true := objOk_iff.2 ⟨isCls_nat hk4, hf.1, by rw [← hk]; exact k2⟩
      rw [hk] at hE' k2
      obtain ⟨j, s1, s2, s3, s4, s5, s6, s7, s8, s9⟩ := slot_facts h hk4 hn hE'
      unfold makV makS
      rw [if_pos hE, if_pos hE, hk, s1, show ((j : Int) + 1 - 1).toNat = j by omega]
      obtain ⟨S2, hS2⟩ : ∃ S2, (sloP S H c n k).1 = S2 := ⟨_, rfl⟩
      obtain ⟨H2, hH2⟩ : ∃ H2, (sloP S H c n k).2 = H2 := ⟨_, rfl⟩
      rw [hS2] at s2 s3 s4 s5 s6 s7 s8 ⊢
      rw [hH2] at s4
      obtain ⟨ho2, hM2, hB2⟩ := s4.hand_iff.1 s2
      refine ⟨j, k, rfl, hk4, rfl, hfk, ?_⟩
      have hh := s4.head ho2 hM2 (by rw [s3]; exact hfk)
      have he := Ev.word (x := hObj (clsA c S2.s.ks (j + 1)) f) s4 ho2 (in_first s4.ok ho2) hB2
      unfold HS.born
      rw [s3] at hh he ⊢
      obtain ⟨S3, hS3⟩ : ∃ S3, S2.setw j (hObj k f) = S3 := ⟨_, rfl⟩
      have ho3 : ownB c S3.s.ks (j + 1) = true := by rw [← hS3]; exact ho2
      have hB3 : S3.B (j + 1) = false := by rw [← hS3]; exact hB2
      have hw3 : S3.s.ws.getD j 0 = hObj k f := by rw [← hS3]; exact getD_set_eq (s4.one ho2)
      have hc3 : clsA c S3.s.ks (j + 1) = k := by rw [← hS3]; exact s3
      have hBB : S3.B = S.B := by rw [← hS3]; exact s5
      have hKK : S3.K = S.K := by rw [← hS3]; exact s6
      rw [hS3] at hh he ⊢
      have hroom := clsRoom_size hk4
      obtain ⟨z1, z2, z3⟩ := zer_inv hh ho3 hB3 f.toNat (fun i hi => by
        unfold InSlot
        rw [hc3]
        omega)
      have z := zer_facts S3 j f.toNat
      refine ⟨(s8.trans (he.trans (z2.trans (Ev.bear c _ (by rw [z.B]; exact hB3) (decide (col = 1))) hh) s4) h), s9, ?_, ?_, ?_, ?_, ?_, ?_⟩
      · funext x
        show (if x = j + 1 then true else (zer S3 j f.toNat).B x) = _
        rw [z.B, hBB]
      · funext x
        show (if x = j + 1 then decide (col = 1) else (zer S3 j f.toNat).K x) = _
        rw [z.K, hKK]
      · show ownB c (zer S3 j f.toNat).s.ks (j + 1) = true
        rw [z.ks]
        exact ho3
      · show clsA c (zer S3 j f.toNat).s.ks (j + 1) = k
        rw [z.ks]
        exact hc3
      · show (zer S3 j f.toNat).s.ws.getD j 0 = _
        rw [z.hd]
        exact hw3
      · intro i hi
        exact z3 i (by omega)
    · rw [if_neg hc] at hE'
      cases hE'
  · rw [if_neg ho] at hE'
    cases hE'
theorem mak_ev (h : HInv c S H) {n : Nat} {f col : Int} (hn : (n : Int) = c.c0) : Ev c S (makS S H c n f col) := by
  by_cases hE : makE S H n f col = 0
  · obtain ⟨_, _, _, _, _, _, g⟩ := mak_facts h hn hE
    exact g.ev
  · unfold makS
    rw [if_neg hE]
    exact Ev.refl c S
end Go.Proofs.YtnobempbcdkoaaaGreatDoor
namespace Go.Proofs.YtnobempbcdkoaaaGreatDoor
open Go.RowKit

theorem HInv.start (c : Cf) (z n : Nat) (hc : c.ok = true) (hz : (z : Int) = c.c0 * c.c1) (hz1 : z ≤ 1048576) : HInv c ⟨⟨List.replicate z 0, [], fun _ => false, fun _ => 0, fun _ => 0⟩, fun _ => false, fun _ => false, List.replicate n 0⟩ (fun _ => []) := by
  have h0 : ∀ j : Nat, (List.replicate z (0 : Int)).getD j 0 = 0 := fun j => by
    rw [List.getD_eq_getElem?_getD, List.getElem?_replicate]
    split <;> rfl
  refine ⟨LInv.start _ _ (by rw [List.length_replicate]; exact hz1), fun x h => Bool.noConfusion h, fun j _ h => ?_, fun j _ _ => h0 j, hc, by rw [List.length_replicate]; exact hz⟩
  have h : isObjW ((List.replicate z (0 : Int)).getD j 0) = true := h
  rw [h0] at h
  exact absurd h (by decide)
theorem nodup_hi {a b c d e m : Nat} {L : List Nat} (hL : L.Nodup) (hl : ∀ x ∈ L, x < m) (hn : [a, b, c, d, e].Nodup) (hh : ∀ x ∈ [a, b, c, d, e], m ≤ x) : (a :: b :: c :: d :: e :: L).Nodup := by
  show ([a, b, c, d, e] ++ L).Nodup
  exact List.nodup_append.2 ⟨hn, hL, fun x hx y hy e => by
    have := hl y hy
    have := hh x hx
    omega⟩
theorem hp_made {w w7 : World} {L : LA} {c : Cf} {z n pb qb pc qc qx cb cc : Nat} {wb wc : List Nat} (hl : LsAt w w7 L c ⟨List.replicate z 0, [], fun _ => false, fun _ => 0, fun _ => 0⟩) (hb : SetAt w7 pb qb cb wb (z + 1) (fun _ => false)) (hk : SetAt w7 pc qc cc wc (z + 1) (fun _ => false))
    (hx : RowAt w7 qx 3 n ((List.replicate n (0 : Int)).map (.int .i64))) (hge : w.heap.size ≤ pb ∧ w.heap.size ≤ qb ∧ w.heap.size ≤ pc ∧ w.heap.size ≤ qc ∧ w.heap.size ≤ qx) (hnd : (pb :: qb :: pc :: qc :: qx :: L.all).Nodup) (hL : Laid w) (hc : c.ok = true) (hz : (z : Int) = c.c0 * c.c1) (hz1 : z ≤ 1048576) :
    HpI w (w7.alloc (Obj.cells #[.pointer (some ⟨L.pa, 0, none⟩), .pointer (some ⟨L.pt, 0, none⟩), .pointer (some ⟨L.p, 0, none⟩), .pointer (some ⟨pb, 0, none⟩), .pointer (some ⟨pc, 0, none⟩), .slice (some ⟨qx, 0, none⟩) n n] 109)) ⟨w7.heap.size, pb, qb, pc, qc, qx, L⟩ c ⟨⟨List.replicate z 0, [], fun _ => false, fun _ => 0, fun _ => 0⟩, fun _ => false, fun _ => false, List.replicate n 0⟩ (fun _ => []) := by
  have hT : Touch nob w7 (w7.alloc (Obj.cells #[.pointer (some ⟨L.pa, 0, none⟩), .pointer (some ⟨L.pt, 0, none⟩), .pointer (some ⟨L.p, 0, none⟩), .pointer (some ⟨pb, 0, none⟩), .pointer (some ⟨pc, 0, none⟩), .slice (some ⟨qx, 0, none⟩) n n] 109)) := (Touch.refl _ _).alloc _
  have l1 := blk_lt hb.box
  have l2 := hb.row.lt
  have l3 := blk_lt hk.box
  have l4 := hk.row.lt
  have l5 := hx.lt
  have l6 := hl.lt
  refine ⟨⟨hl.old hT, ⟨n, ?_, hx.touch hT (fun x => x)⟩, ⟨cb, wb, ?_⟩, ⟨cc, wc, ?_⟩, ?_, ?_⟩, HInv.start c z n hc hz hz1, hL⟩
  · simp only [List.length_replicate]
    exact World.alloc_heap_new w7 _
  · simp only [List.length_replicate]
    exact hb.touch hT (fun x => x) (fun x => x)
  · simp only [List.length_replicate]
    exact hk.touch hT (fun x => x) (fun x => x)
  · intro b hm
    have hm' : b = w7.heap.size ∨ b = pb ∨ b = qb ∨ b = pc ∨ b = qc ∨ b = qx ∨ b ∈ L.all := by simpa [HA.all] using hm
    rcases hm' with rfl | rfl | rfl | rfl | rfl | rfl | hm'
    · exact hl.base.size
    · exact hge.1
    · exact hge.2.1
    · exact hge.2.2.1
    · exact hge.2.2.2.1
    · exact hge.2.2.2.2
    · exact hl.hi _ hm'
  · show (w7.heap.size :: pb :: qb :: pc :: qc :: qx :: L.all).Nodup
    refine List.nodup_cons.2 ⟨fun hm => ?_, hnd⟩
    simp only [LA.all, List.mem_cons, List.not_mem_nil, or_false] at hm
    omega
section
attribute [local go_sem ↓ high] make_mksl
set_option maxHeartbeats 1600000 in
theorem heap_New_ok (c : Cf) (w : World) (hL : Laid w) (hc : c.ok = true) :
    Calls Tryz.prog 83 #[c.V] w fun e w' => ∃ (A : HA) (z n : Nat), e = .returned (.tuple #[.pointer (some ⟨A.h, 0, none⟩), .int .i64 0]) ∧ (z : Int) = c.c0 * c.c1 ∧ (A.L.n : Int) = c.c0 ∧ (n : Int) = c.c4 ∧ HpI w w' A c ⟨⟨List.replicate z 0, [], fun _ => false, fun _ => 0, fun _ => 0⟩, fun _ => false, fun _ => false, List.replicate n 0⟩ (fun _ => []) := by
  obtain ⟨⟨u0, v0⟩, ⟨u1, v1⟩, -, -, ⟨u4, v4⟩, -⟩ := cfgOk_iff.1 hc
  have ⟨m0, m1⟩ := mul_bd (a := c.c0) (b := c.c1) (A := 4096) (B := 256) (by omega) (by omega) (by omega) (by omega)
  have m2 : 0 < c.c0 * c.c1 := Int.mul_pos (by omega) (by omega)
  obtain ⟨z, hz⟩ := Int.eq_ofNat_of_zero_le m0
  obtain ⟨nb, hnb⟩ := Int.eq_ofNat_of_zero_le (show 0 ≤ c.c0 by omega)
  obtain ⟨n, hn⟩ := Int.eq_ofNat_of_zero_le u4
  have hz1 : 1 ≤ z ∧ z ≤ 1048576 := by omega
  have hn1 : n ≤ 4096 := by omega
  obtain ⟨i0, hi, hz0, hzs, hzb⟩ := info_parts info_int2
  obtain ⟨gm, hgm⟩ := Classical.axiomOfChoice (fun w1 : World => run_make_full (P := Tryz.prog) w1 w1.heap.size 28 3 i0 (.int .i64 0) 1 Tryz.underlying28 hi hz0 hzs .i64 .i64 n (by rw [hzb]; omega) (by unfold maxLen; omega) (Nat.le_refl _))
  have hrun := fun w1 => (hgm w1).1
  change ∀ w1, (Mksl _ _ _).run _ _ = _ at hrun
  have HG := Lib.hid (fun w1 => show Touch nob w1 (gm w1) ∧ RowAt (gm w1) w1.heap.size 3 n ((List.replicate n (0 : Int)).map (.int .i64)) from by
    obtain ⟨-, g2, g3⟩ := hgm w1
    rw [made_ints] at g2
    have hk : kint [] n = List.replicate n 0 := by unfold kint; simp
    rw [hk] at g2
    exact ⟨(Touch.refl nob w1).grown g3 (fun _ h => by cases h), (RowAt.of_owns g2).1⟩)
  have H := Lib.hid (And.intro hL (And.intro hc (And.intro hz (And.intro hnb (And.intro hn (And.intro hz1 hn1))))))
  clear hL hc hz hnb hn hz1 u0 v0 u1 v1 m0 m1 m2 u4 v4 hgm hi hz0 hzs hzb hn1
  go_enter Tryz.func83, Tryz.ntmps83
  go_wp2_with fail
  obtain ⟨W, hW⟩ : ∃ W, W = w.alloc (Obj.cells (CfgRow c.c0 c.c1 c.c2 c.c3 c.c4 c.c5 c.c6) 23) := ⟨_, rfl⟩
  have hT : Touch nob w W := by rw [hW]; (repeat (first | with_reducible exact Touch.refl _ _ | with_reducible assumption | with_reducible apply Touch.alloc | with_reducible apply Touch.drewN | with_reducible apply Touch.drew | with_reducible refine Touch.setCell ?_ (.inr (by first | omega | (simp; done) | (simp; omega))) _))
  have hbx : W.heap[w.heap.size]? = some (Obj.cells (CfgRow c.c0 c.c1 c.c2 c.c3 c.c4 c.c5 c.c6) 23) := by rw [hW]; exact World.alloc_heap_new w _
  obtain ⟨b0, hb0⟩ : ∃ b, b = w.heap.size := ⟨_, rfl⟩
  rw [← hW, ← hb0]
  rw [← hb0] at hbx
  have HC := Lib.hid (And.intro hT (fun w' ht => cfg_box hbx (w' := w') ht))
  clear hT hbx hb0 hW
  have hbl := block_New_ok c W (H.out.1.old HC.out.1).lim H.out.2.1 nb H.out.2.2.2.1.symm
  have HB := Lib.hid hbl
  clear hbl
  refine HB.out.mono ?_
  rintro e w1 ⟨pt, qt, rfl, hT1, hpt, hqt, hB⟩
  obtain ⟨k0, k1, k2, k3, k4, k5, k6⟩ := HC.out.2 _ hT1
  have H1 := Lib.hid (And.intro (HC.out.1.trans hT1) (And.intro (Nat.le_trans HC.out.1.size hpt) (And.intro (Nat.le_trans HC.out.1.size hqt) (And.intro hB hT1))))
  clear hT1 hpt hqt hB HB
  go_wp2_with (go_at_call 96; fail)
  refine (config_Words _ _ _ _ _ _ _ w1 (H.out.1.old H1.out.1).lim).mono ?_
  rintro e w2 ⟨rfl, hb2⟩
  rw [show cfgOk c.c0 c.c1 c.c2 c.c3 c.c4 c.c5 c.c6 = true from H.out.2.1, show ifOk true (cfgWords c.c0 c.c1) = (z : Int) from H.out.2.2.1]
  have H2 := Lib.hid (Touch.of_below (S := nob) hb2)
  clear hb2 k0 k1 k2 k3 k4 k5 k6
  go_wp2_with (go_at_call 120; fail)
  refine (arena_New_ok z H.out.2.2.2.2.2.1 w2).mono ?_
  rintro e w3 ⟨pa, qa, rfl, hT3, hpa, hqa, hA⟩
  have H3 := Lib.hid (And.intro hT3 (And.intro hpa (And.intro hqa hA)))
  clear hT3 hpa hqa hA
  go_wp2_with (go_at_call 121; fail)
  have hls := lists_New_ok (W := w) ((H1.out.1.trans H2.out).trans H3.out.1) H3.out.2.2.2 ((H1.out.2.2.2.1.old H2.out).old H3.out.1) (by rw [List.length_replicate]; exact H.out.2.2.1.symm) (by
      have g1 := H1.out.1.size
      have g2 := H1.out.2.1
      have g3 := H1.out.2.2.1
      have g4 := H2.out.size
      have g5 := H3.out.2.1
      have g6 := H3.out.2.2.1
      intro x hx
      simp only [List.mem_cons, List.not_mem_nil, or_false] at hx
      omega) (by
      have g1 := blk_lt H1.out.2.2.2.1.box
      have g2 := H1.out.2.2.2.1.row.lt
      have g3 := H1.out.2.2.2.1.ne
      have g4 := H2.out.size
      have g5 := H3.out.2.1
      have g6 := H3.out.2.2.1
      have g7 := H3.out.2.2.2.ne
      simp only [List.nodup_cons, List.mem_cons, List.not_mem_nil, not_or, or_false, not_false_eq_true, List.nodup_nil, and_true]
      omega) (fun i hi => by
      have : (List.replicate z (0 : Int)).getD i 0 = 0 := by
        rw [List.getD_eq_getElem?_getD, List.getElem?_replicate]
        split <;> rfl
      rw [this]
      decide) H.out.1
  refine hls.mono ?_
  rintro e w4 ⟨pl, pi, qi, rfl, hT4, h4⟩
  have H4 := Lib.hid (And.intro hT4 (And.intro h4 (Touch.trans (Touch.trans H1.out.2.2.2.2 H2.out) (H3.out.1.trans hT4))))
  clear hT4 h4 hls
  have hz2 : z ≤ 1048576 := H.out.2.2.2.2.2.1.2
  go_wp2_with (go_at_call 95; fail)
  rw [show ((z : Int) + 1) = ((z + 1 : Nat) : Int) by omega]
  refine (bits_New_ok (z + 1) (by omega) w4).mono ?_
  rintro e w5 ⟨pb, qb, cb, wb, rfl, hT5, hpb, hqb, hse⟩
  obtain ⟨-, -, -, -, k4, -, -⟩ := HC.out.2 _ (H4.out.2.2.trans hT5)
  rw [H.out.2.2.2.2.1] at k4
  have H5 := Lib.hid (And.intro hT5 (And.intro hpb (And.intro hqb hse)))
  clear hT5 hpb hqb hse hz2
  have HCp := Lib.hid (fun w' (ht : Touch nob w5 w') => set_Copy (H5.out.2.2.2.touch ht (fun x => x) (fun x => x)))
  go_wp2_with fail
  have HK := Lib.hid (fun w' (ht : Touch nob w5 w') => show Touch nob w5 w' ∧ w'.cell? ⟨b0, 4, none⟩ = some (.int .i64 n) from ⟨ht, by
    obtain ⟨-, -, -, -, k4, -, -⟩ := HC.out.2 _ ((H4.out.2.2.trans H5.out.1).trans ht)
    rw [H.out.2.2.2.2.1] at k4
    exact k4⟩)
  clear k4
  have HGT := Lib.hid (fun w' (ht : Touch nob w5 w') => ht.trans (HG.out w').1)
  go_region_held3 (fun w' => Touch nob w5 w' ∧ w'.cell? ⟨b0, 4, none⟩ = some (.int .i64 n)) (exact HK.out _ (by repeat (first | with_reducible exact Touch.refl _ _ | with_reducible assumption | with_reducible apply Touch.alloc | with_reducible apply Touch.drew | with_reducible apply HGT.out))) (first | (go_at_call 101; refine (HCp.out _ (by repeat (first | with_reducible exact Touch.refl _ _ | with_reducible assumption | with_reducible apply Touch.alloc | with_reducible apply Touch.drew | with_reducible apply HGT.out))).mono ?_; rintro e w6 ⟨pc, qc, cc, rfl, hT6, hpc, hqc, hS6⟩; have H6 := Lib.hid (And.intro hT6 (And.intro hpc (And.intro hqc hS6))); have hT7 : Touch nob w5 w6 := Touch.trans (by repeat (first | with_reducible exact Touch.refl _ _ | with_reducible assumption | with_reducible apply Touch.alloc | with_reducible apply Touch.drew | with_reducible apply HGT.out)) hT6; clear hT6 hpc hqc hS6))
  all_goals
    go_wp2
    go_ret2
    have l0 := H4.out.2.1.lt
    have l1 := H5.out.2.1
    have l2 := H5.out.2.2.1
    have l3 := blk_lt H5.out.2.2.2.box
    have l4 := H5.out.2.2.2.row.lt
    have l5 := H6.out.2.1
    have l6 := H6.out.2.2.1
    have l7 := H6.out.1.size
    have l8 := hT7.size
    have l9 := H5.out.2.2.2.ne
    have l10 := H6.out.2.2.2.ne
    have l11 := blk_lt H6.out.2.2.2.box
    have l12 := H6.out.2.2.2.row.lt
    have l13 := H4.out.2.1.base.size
    have l14 := H4.out.2.1.ap
    have l15 : (⟨pl, pa, qa, pt, qt, pi, qi, nb⟩ : LA).all = [pl, pa, qa, pt, qt, pi, qi] := rfl
    have l18 : w5.drew.heap.size = w5.heap.size := rfl
    have l19 : ∀ x ∈ (⟨pl, pa, qa, pt, qt, pi, qi, nb⟩ : LA).all, x < w4.heap.size := by
      rw [l15]
      intro x hx
      simp only [List.mem_cons, List.not_mem_nil, or_false] at hx
      simp only at l0
      omega
    clear l0 l15
  · refine ⟨⟨(gm w6).heap.size, pb, qb, pc, qc, w6.heap.size, ⟨pl, pa, qa, pt, qt, pi, qi, nb⟩⟩, z, n, rfl, H.out.2.2.1.symm, H.out.2.2.2.1.symm, H.out.2.2.2.2.1.symm, hp_made (((H4.out.2.1.old H5.out.1).old hT7).old (HG.out w6).1) ((H5.out.2.2.2.touch hT7 (fun x => x) (fun x => x)).touch (HG.out w6).1 (fun x => x) (fun x => x)) (H6.out.2.2.2.touch (HG.out w6).1 (fun x => x) (fun x => x)) (HG.out w6).2 ?_ (nodup_hi l14 l19 ?_ ?_) H.out.1 H.out.2.1 H.out.2.2.1.symm H.out.2.2.2.2.2.1.2⟩
    · omega
    · simp only [List.nodup_cons, List.mem_cons, List.not_mem_nil, not_or, or_false, not_false_eq_true, List.nodup_nil, and_true]
      omega
    · intro x hx
      simp only [List.mem_cons, List.not_mem_nil, or_false] at hx
      omega
  · have l16 := (HG.out w5.drew).2.lt
    have l17 : w5.heap.size ≤ (gm w5.drew).heap.size := (HG.out w5.drew).1.size
    refine ⟨⟨w6.heap.size, pb, qb, pc, qc, w5.drew.heap.size, ⟨pl, pa, qa, pt, qt, pi, qi, nb⟩⟩, z, n, rfl, H.out.2.2.1.symm, H.out.2.2.2.1.symm, H.out.2.2.2.2.1.symm, hp_made ((H4.out.2.1.old H5.out.1).old hT7) (H5.out.2.2.2.touch hT7 (fun x => x) (fun x => x)) H6.out.2.2.2 ((HG.out w5.drew).2.touch H6.out.1 (fun x => x)) ?_ (nodup_hi l14 l19 ?_ ?_) H.out.1 H.out.2.1 H.out.2.2.1.symm H.out.2.2.2.2.2.1.2⟩
    · omega
    · simp only [List.nodup_cons, List.mem_cons, List.not_mem_nil, not_or, or_false, not_false_eq_true, List.nodup_nil, and_true]
      omega
    · intro x hx
      simp only [List.mem_cons, List.not_mem_nil, or_false] at hx
      omega
end
theorem heap_New_no (c : Cf) (w : World) (hL : Laid w) (hc : c.ok = false) :
    Calls Tryz.prog 83 #[c.V] w fun e w' => e = .returned (.tuple #[.pointer none, .int .i64 1]) ∧ Touch nob w w' := by
  have H := Lib.hid (And.intro hL hc)
  clear hL hc
  go_enter Tryz.func83, Tryz.ntmps83
  go_wp2_with fail
  obtain ⟨W, hW⟩ : ∃ W, W = w.alloc (Obj.cells (CfgRow c.c0 c.c1 c.c2 c.c3 c.c4 c.c5 c.c6) 23) := ⟨_, rfl⟩
  have hT : Touch nob w W := by rw [hW]; (repeat (first | with_reducible exact Touch.refl _ _ | with_reducible assumption | with_reducible apply Touch.alloc | with_reducible apply Touch.drewN | with_reducible apply Touch.drew | with_reducible refine Touch.setCell ?_ (.inr (by first | omega | (simp; done) | (simp; omega))) _))
  rw [← hW]
  have HC := Lib.hid hT
  clear hT hW
  have hbl := block_New_no c W (H.out.1.old HC.out).lim H.out.2
  refine hbl.mono ?_
  rintro e w1 ⟨rfl, hT1⟩
  have HT1 := Lib.hid hT1
  clear hT1 hbl
  go_wp2
  go_ret2
  exact ⟨rfl, HC.out.trans HT1.out⟩
end Go.Proofs.YtnobempbcdkoaaaGreatDoor
