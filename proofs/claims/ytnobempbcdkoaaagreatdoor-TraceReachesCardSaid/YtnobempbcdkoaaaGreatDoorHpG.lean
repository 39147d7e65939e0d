/- An object's fields: what Fields, Load and Store tell of it, and keep. Conditions: the tables of limits and of sizes read as laid. Objects, free slots and slots in hand part the arena: plain laws; and what the law asks of it, walked. Conditions: the tables of limits, of sizes and of de Bruijn's bits read as laid. -/
import Derived.Test.YtnobempbcdkoaaaGreatDoorHpD
import Derived.Test.YtnobempbcdkoaaaGreatDoorHpF
import Derived.Test.YtnobempbcdkoaaaGreatDoorApp
import Derived.Test.YtnobempbcdkoaaaGreatDoorBlk
namespace Go.Proofs.YtnobempbcdkoaaaGreatDoor
open Go.RowKit

variable {W w w' : World} {A : HA} {c : Cf} {S S' S'' : HS} {H : Nat → List Nat}
/-- What a store leaves, but for one field's word. -/
structure Kq (c : Cf) (S S' : HS) : Prop where
  B : S'.B = S.B
  K : S'.K = S.K
  x : S'.x = S.x
  ks : S'.s.ks = S.s.ks
  M : S'.s.M = S.s.M
  len : S'.s.ws.length = S.s.ws.length
  hd : ∀ j : Nat, ownB c S.s.ks (j + 1) = true → S'.s.ws.getD j 0 = S.s.ws.getD j 0
theorem Kq.refl (c : Cf) (S : HS) : Kq c S S := ⟨rfl, rfl, rfl, rfl, rfl, rfl, fun _ _ => rfl⟩
theorem Kq.trans (h : Kq c S S') (g : Kq c S' S'') : Kq c S S'' :=
  ⟨g.B.trans h.B, g.K.trans h.K, g.x.trans h.x, g.ks.trans h.ks, g.M.trans h.M, g.len.trans h.len, fun j ho => (g.hd j (by rw [h.ks]; exact ho)).trans (h.hd j ho)⟩
/-- A field's word. -/
def HS.fw (S : HS) (e k : Nat) : Int := S.s.ws.getD (e + k) 0
/-- An object: where it lies. -/
theorem HInv.obj (h : HInv c S H) {e : Nat} (hb : S.B e = true) : ∃ j k : Nat, e = j + 1 ∧ k < 4 ∧ ownB c S.s.ks (j + 1) = true ∧ clsA c S.s.ks (j + 1) = k ∧ isObjW (S.s.ws.getD j 0) = true ∧ S.flds e = S.s.ws.getD j 0 % 256 ∧ 0 ≤ S.flds e ∧ S.flds e ≤ clsRoom k ∧ S.obj e = true ∧ S.s.M (j + 1) = false := by
  obtain ⟨j, rfl, hj, ho, hM, hw⟩ := h.ob e hb
  obtain ⟨k, hk, hc⟩ := clsA_nat h.ok ho
  have hword : S.word ((j + 1 : Nat) : Int) = S.s.ws.getD j 0 := by
    unfold HS.word
    rw [if_pos ⟨by omega, by omega⟩, show (((j + 1 : Nat) : Int) - 1).toNat = j by omega]
  have hf : S.flds ((j + 1 : Nat) : Int) = S.s.ws.getD j 0 % 256 := by
    unfold HS.flds fldW
    rw [hword, hw]
  have hr : S.s.ws.getD j 0 % 256 ≤ clsRoom k := by
    have h1 := h.hw j ho hw
    rw [hc] at h1
    have h2 := hw
    unfold isObjW at h2
    simp only [Bool.and_eq_true] at h2
    rw [h1] at h2
    exact (objOk_iff.1 h2.2.1).2.2
  refine ⟨j, k, rfl, hk, ho, hc, hw, hf, by rw [hf]; omega, by rw [hf]; exact hr, ?_, hM⟩
  unfold HS.obj
  have := hasB_nat (M := S.B) hj
  rw [show ((j + 1 : Nat) : Int) = (j : Int) + 1 by omega, this]
  exact hb
theorem HInv.obj_may (h : HInv c S H) {e : Nat} (hb : S.B e = true) : S.may c e = true ∧ S.objE c e = 0 ∧ S.fldV c e = S.flds e := by
  obtain ⟨j, k, rfl, _, _, _, _, _, _, _, ho, _⟩ := h.obj hb
  have hm : S.may c ((j + 1 : Nat) : Int) = true := by unfold HS.may; rw [ho]; rfl
  have hE : S.objE c ((j + 1 : Nat) : Int) = 0 := by unfold HS.objE; rw [if_neg (by omega), if_pos hm]
  exact ⟨hm, hE, by unfold HS.fldV; rw [if_pos hE]⟩
/-- A field's word lies in the object's slot. -/
theorem HInv.obj_in (h : HInv c S H) {e k : Nat} (hb : S.B e = true) (hk : (k : Int) < S.flds e) : ∃ j : Nat, e = j + 1 ∧ ownB c S.s.ks (j + 1) = true ∧ InSlot c S.s.ks j (e + k) ∧ e + k ≠ j ∧ e + k < S.s.ws.length := by
  obtain ⟨j, k', rfl, hk4, ho, hc, _, _, _, hr, _⟩ := h.obj hb
  have hin : InSlot c S.s.ks j (j + 1 + k) := by
    unfold InSlot
    rw [hc]
    rw [clsRoom_size hk4] at hr
    omega
  exact ⟨j, rfl, ho, hin, by omega, in_lt h.ok h.len ho hin⟩
theorem Kq.fl (h : Kq c S S') (hi : HInv c S H) {e : Nat} (hb : S.B e = true) : S'.flds e = S.flds e := by
  obtain ⟨j, _, rfl, _, ho, _⟩ := hi.obj hb
  have hj := hi.one ho
  have hw : ∀ T : HS, T.s.ws.length = S.s.ws.length → T.word ((j + 1 : Nat) : Int) = T.s.ws.getD j 0 := fun T hT => by
    unfold HS.word
    rw [hT, if_pos ⟨by omega, by omega⟩, show (((j + 1 : Nat) : Int) - 1).toNat = j by omega]
  unfold HS.flds
  rw [hw S' h.len, hw S rfl, h.hd j ho]
/-- What a store of a field leaves. -/
theorem HInv.stored (h : HInv c S H) {e k : Nat} (hb : S.B e = true) (hk : (k : Int) < S.flds e) (v : Int) : Kq c S (S.setw (e + k) v) ∧ HInv c (S.setw (e + k) v) H ∧ (S.setw (e + k) v).fw e k = v ∧ ∀ e' k' : Nat, S.B e' = true → (k' : Int) < S.flds e' → ¬ (e' = e ∧ k' = k) → (S.setw (e + k) v).fw e' k' = S.fw e' k' := by
  obtain ⟨j, he, ho, hin, hne, hlt⟩ := h.obj_in hb hk
  refine ⟨⟨rfl, rfl, rfl, rfl, rfl, List.length_set, fun j' ho' => ?_⟩, h.field ho hin hne, getD_set_eq hlt, fun e' k' hb' hk' hd => ?_⟩
  · refine getD_set_ne (fun e2 => ?_)
    rw [e2] at hin
    have := in_one h.ok ho ho' hin (in_first h.ok ho')
    omega
  · obtain ⟨j', he', ho', hin', hne', hlt'⟩ := h.obj_in hb' hk'
    refine getD_set_ne (fun e2 => ?_)
    rw [← e2] at hin'
    have := in_one h.ok ho ho' hin hin'
    exact hd ⟨by omega, by omega⟩
theorem hpo_Fields {e : Nat} (h : HpI W w A c S H) (hb : S.B e = true) :
    Calls Tryz.prog 49 #[.pointer (some ⟨A.h, 0, none⟩), .int .i64 e] w fun r w' => r = .returned (.tuple #[.int .i64 (S.flds e), .int .i64 0]) ∧ Touch (HT A) w w' ∧ HpI W w' A c S H := by
  obtain ⟨_, h1, h2⟩ := h.inv.obj_may hb
  have := hp_Fields (e : Int) h
  rwa [h1, h2] at this
theorem hpo_Store {e k : Nat} (v : Int) (h : HpI W w A c S H) (hb : S.B e = true) (hk : (k : Int) < S.flds e) (hv : 0 ≤ v ∧ v ≤ S.s.ws.length) :
    Calls Tryz.prog 50 #[.pointer (some ⟨A.h, 0, none⟩), .int .i64 e, .int .i64 k, .int .i64 v] w fun r w' => r = .returned (.int .i64 0) ∧ Touch (HT A) w w' ∧ HpI W w' A c (S.setw (e + k) v) H := by
  obtain ⟨_, h1, h2⟩ := h.inv.obj_may hb
  have hE : S.stE c e k v = 0 := by unfold HS.stE; rw [if_pos h1, if_pos ⟨by omega, hk⟩, if_pos hv]
  have hS : S.stS c e k v = S.setw (e + k) v := by
    unfold HS.stS
    rw [if_pos hE, show ((e : Int) + (k : Int)).toNat = e + k by omega]
    rfl
  have := hp_Store (e : Int) k v h
  rwa [hE, hS] at this
theorem HInv.load (h : HInv c S H) {e k : Nat} (hb : S.B e = true) (hk : (k : Int) < S.flds e) (hv : 0 ≤ S.fw e k ∧ S.fw e k ≤ 9223372036854775807) : S.ldV c e k = S.fw e k ∧ S.ldE c e k = 0 := by
  obtain ⟨_, h1, h2⟩ := h.obj_may hb
  obtain ⟨j, he, ho, hin, hne, hlt⟩ := h.obj_in hb hk
  have hw : S.word ((e : Int) + 1 + k) = S.fw e k := by
    unfold HS.word HS.fw
    rw [if_pos ⟨by omega, by omega⟩, show ((e : Int) + 1 + (k : Int) - 1).toNat = e + k by omega]
  constructor
  · unfold HS.ldV
    rw [if_pos ⟨h1, by omega, hk⟩, hw]
    exact wrap64_in (by omega) hv.2
  · unfold HS.ldE
    rw [if_pos h1, if_pos ⟨by omega, hk⟩, atE_ok (by omega) (by omega)]
theorem hpo_Load {e k : Nat} (h : HpI W w A c S H) (hb : S.B e = true) (hk : (k : Int) < S.flds e) (hv : 0 ≤ S.fw e k ∧ S.fw e k ≤ 9223372036854775807) :
    Calls Tryz.prog 25 #[.pointer (some ⟨A.h, 0, none⟩), .int .i64 e, .int .i64 k] w fun r w' => r = .returned (.tuple #[.int .i64 (S.fw e k), .int .i64 0]) ∧ Touch (HT A) w w' ∧ HpI W w' A c S H := by
  obtain ⟨h1, h2⟩ := h.inv.load hb hk hv
  have := hp_Load (e : Int) k h
  rwa [h1, h2] at this
/-- What a store of whatever leaves. -/
theorem HpI.st_keep (h : HpI W w A c S H) (a f v : Int) : Kq c S (S.stS c a f v) ∧ ∀ e k : Nat, S.B e = true → (k : Int) < S.flds e → (S.stS c a f v).fw e k = if S.stE c a f v = 0 ∧ (e : Int) = a ∧ (k : Int) = f then v else S.fw e k := by
  unfold HS.stS
  by_cases hE : S.stE c a f v = 0
  · rw [if_pos hE]
    have hm : S.may c a = true ∧ 0 ≤ f ∧ f < S.flds a := by
      unfold HS.stE HS.objE at hE
      by_cases h0 : a = 0
      · rw [if_pos h0] at hE; cases hE
      · rw [if_neg h0] at hE
        by_cases hm : S.may c a = true
        · rw [if_pos hm, if_pos rfl] at hE
          by_cases hf : 0 ≤ f ∧ f < S.flds a
          · exact ⟨hm, hf⟩
          · rw [if_neg hf] at hE; cases hE
        · rw [if_neg hm] at hE; cases hE
    obtain ⟨hm, h0, h1⟩ := hm
    obtain ⟨j, k', rfl, hk4, ho, hc, _, _, _, hr⟩ := h.may_parts hm
    obtain ⟨g1, g2, g3⟩ := h.field_in (i := (j + 1 + f).toNat) hk4 ho hc hr ⟨h0, h1⟩ (by omega)
    refine ⟨⟨rfl, rfl, rfl, rfl, rfl, List.length_set, fun j' ho' => ?_⟩, fun e k hb hk => ?_⟩
    · refine getD_set_ne (fun e2 => ?_)
      have e2 : ((j : Int) + 1 + f).toNat = j' := e2
      rw [e2] at g1
      have := in_one h.inv.ok ho ho' g1 (in_first h.inv.ok ho')
      omega
    · obtain ⟨j', he', ho', hin', hne', hlt'⟩ := h.inv.obj_in hb hk
      by_cases hd : (e : Int) = (j : Int) + 1 ∧ (k : Int) = f
      · rw [if_pos ⟨hE, hd⟩]
        show (S.s.ws.set ((j : Int) + 1 + f).toNat v).getD (e + k) 0 = v
        rw [show ((j : Int) + 1 + f).toNat = e + k by omega]
        exact getD_set_eq (by omega)
      · rw [if_neg (fun x => hd x.2)]
        refine getD_set_ne (fun e2 => ?_)
        have e2 : ((j : Int) + 1 + f).toNat = e + k := e2
        rw [← e2] at hin'
        have := in_one h.inv.ok ho ho' g1 hin'
        exact hd ⟨by omega, by omega⟩
  · rw [if_neg hE]
    exact ⟨Kq.refl c S, fun e k _ _ => by rw [if_neg (fun x => hE x.1)]⟩
theorem Kq.objs (h : Kq c S S') : S'.objs = S.objs := by
  unfold HS.objs
  rw [h.B, h.len]
end Go.Proofs.YtnobempbcdkoaaaGreatDoor
namespace Go.Proofs.YtnobempbcdkoaaaGreatDoor
open Go.RowKit

variable {W w w' : World} {A : HA} {c : Cf} {S : HS} {H : Nat → List Nat} {ks : List Int} {n : Nat} {s : LS}
theorem mem_allSl {a : Int} : ∀ m, a ∈ allSl c ks m ↔ ∃ b, b < m ∧ a ∈ slAt c ks b
  | 0 => ⟨fun h => (List.not_mem_nil h).elim, fun ⟨_, h, _⟩ => absurd h (Nat.not_lt_zero _)⟩
  | m + 1 => by
    show a ∈ allSl c ks m ++ slAt c ks m ↔ _
    rw [List.mem_append, mem_allSl m]
    constructor
    · rintro (⟨b, hb, h⟩ | h)
      · exact ⟨b, by omega, h⟩
      · exact ⟨m, by omega, h⟩
    · rintro ⟨b, hb, h⟩
      by_cases e : b = m
      · subst e; exact .inr h
      · exact .inl ⟨b, by omega, h⟩
/-- What a table's blocks are. -/
structure Tb (c : Cf) (ks : List Int) (n : Nat) : Prop where
  ok : c.ok = true
  hn : (n : Int) = c.c0
  le : ks.length ≤ n
  cls : ∀ j, j < ks.length → isCls (ks.getD j 0) = true
theorem HpI.tb (h : HpI W w A c S H) : Tb c S.s.ks A.L.n := by
  obtain ⟨ct, hb⟩ := h.at'.ls.tb
  exact ⟨hb.ok, hb.hn, hb.le, hb.cls⟩
theorem Tb.slAt (h : Tb c ks n) {b : Nat} {a : Int} (ha : a ∈ slAt c ks b) : b < ks.length ∧ ownB c ks a = true ∧ (a - 1) / c.c1 = b := by
  unfold Go.Proofs.YtnobempbcdkoaaaGreatDoor.slAt at ha
  split at ha
  · rename_i hb
    have := h.hn
    have := h.le
    exact ⟨hb, own_of_mem h.ok hb (h.cls b hb) (by omega) ha⟩
  · exact (List.not_mem_nil ha).elim
theorem Tb.mem (h : Tb c ks n) {a : Int} : a ∈ allSl c ks n ↔ ownB c ks a = true := by
  rw [mem_allSl]
  constructor
  · rintro ⟨b, _, hb⟩
    exact (h.slAt hb).2.1
  · intro ho
    obtain ⟨b, h1, h2, h3, h4, h5⟩ := mem_of_own h.ok ho
    refine ⟨b, by have := h.le; omega, ?_⟩
    unfold Go.Proofs.YtnobempbcdkoaaaGreatDoor.slAt
    rw [if_pos h2]
    exact h5
theorem Tb.nodup (h : Tb c ks n) : ∀ m, m ≤ n → (allSl c ks m).Nodup
  | 0, _ => List.nodup_nil
  | m + 1, hm => by
    show (allSl c ks m ++ Go.Proofs.YtnobempbcdkoaaaGreatDoor.slAt c ks m).Nodup
    refine List.nodup_append.2 ⟨h.nodup m (by omega), ?_, fun x hx y hy e => ?_⟩
    · unfold Go.Proofs.YtnobempbcdkoaaaGreatDoor.slAt
      split
      · rename_i hb
        have := h.hn
        exact sl_nodup h.ok (h.cls m hb) (by omega) (by omega)
      · exact List.nodup_nil
    · subst e
      obtain ⟨b, hb, hx⟩ := (mem_allSl m).1 hx
      have h1 := (h.slAt hx).2.2
      have h2 := (h.slAt hy).2.2
      omega
/-- The free slots of the first classes. -/
def frs (H : Nat → List Nat) : Nat → List Int
  | 0 => []
  | k + 1 => frs H k ++ adr (H k)
theorem mem_frs {a : Int} : ∀ m, a ∈ frs H m ↔ ∃ k, k < m ∧ ∃ j ∈ H k, a = (j : Int) + 1
  | 0 => ⟨fun h => (List.not_mem_nil h).elim, fun ⟨_, h, _⟩ => absurd h (Nat.not_lt_zero _)⟩
  | m + 1 => by
    show a ∈ frs H m ++ adr (H m) ↔ _
    rw [List.mem_append, mem_frs m]
    constructor
    · rintro (⟨k, hk, h⟩ | h)
      · exact ⟨k, by omega, h⟩
      · obtain ⟨j, hj, e⟩ := List.mem_map.1 h
        exact ⟨m, by omega, j, hj, e.symm⟩
    · rintro ⟨k, hk, j, hj, e⟩
      by_cases e2 : k = m
      · subst e2; exact .inr (List.mem_map.2 ⟨j, hj, e.symm⟩)
      · exact .inl ⟨k, by omega, j, hj, e⟩
theorem frs_nodup (h : LInv c s H) : ∀ m, m ≤ 4 → (frs H m).Nodup
  | 0, _ => List.nodup_nil
  | m + 1, hm => by
    show (frs H m ++ adr (H m)).Nodup
    refine List.nodup_append.2 ⟨frs_nodup h m (by omega), ?_, fun x hx y hy e => ?_⟩
    · exact List.Pairwise.map _ (fun i j hij e => hij (by omega)) (h.nd m (by omega))
    · subst e
      obtain ⟨k, hk, j, hj, e⟩ := (mem_frs m).1 hx
      obtain ⟨j', hj', e'⟩ := List.mem_map.1 hy
      obtain rfl : j = j' := by omega
      have h1 := (h.cls k (by omega) j hj).2
      have h2 := (h.cls m (by omega) j hj').2
      omega
/-- All that the law sees. -/
def seenL (S : HS) (c : Cf) (H : Nat → List Nat) (n : Nat) : List Int := (S.objs ++ S.hnds c n) ++ frs H 4
theorem HpI.seen_mem (h : HpI W w A c S H) {a : Int} : a ∈ seenL S c H A.L.n ↔ ownB c S.s.ks a = true := by
  unfold seenL
  rw [List.mem_append, List.mem_append, mem_objs, mem_frs]
  unfold HS.hnds
  rw [List.mem_filter, h.tb.mem]
  constructor
  · rintro ((ho | ⟨ho, _⟩) | ⟨k, hk, j, hj, rfl⟩)
    · exact (h.own_obj ho).1
    · exact ho
    · exact (h.inv.li.cls k hk j hj).1
  · intro ho
    obtain ⟨j, k, rfl, hj, hk, hc, ho'⟩ := h.inv.slot_of ho
    cases hB : S.B (j + 1)
    · cases hM : S.s.M (j + 1)
      · exact .inl (.inr ⟨ho, h.inv.hand_iff.2 ⟨ho', hM, hB⟩⟩)
      · obtain ⟨k', hk', hm⟩ := (h.inv.li.mem j hj).1 hM
        exact .inr ⟨k', hk', j, hm, rfl⟩
    · left; left
      rw [h.obj_nat hj]
      exact hB
theorem HpI.seen_nodup (h : HpI W w A c S H) : (seenL S c H A.L.n).Nodup := by
  unfold seenL
  refine List.nodup_append.2 ⟨List.nodup_append.2 ⟨?_, ?_, fun x hx y hy e => ?_⟩, frs_nodup h.inv.li 4 (Nat.le_refl _), fun x hx y hy e => ?_⟩
  · exact List.Pairwise.map _ (fun i j hij e => hij (by omega)) (List.Pairwise.filter _ List.nodup_range)
  · exact List.Pairwise.filter _ (h.tb.nodup A.L.n (Nat.le_refl _))
  · subst e
    have h1 := mem_objs.1 hx
    have h2 := (List.mem_filter.1 hy).2
    unfold HS.hand at h2
    rw [h1] at h2
    simp at h2
  · subst e
    obtain ⟨k, hk, j, hj, rfl⟩ := (mem_frs 4).1 hy
    have hjl := (h.inv.li.thr k hk).lt j hj
    have hM := (h.inv.li.mem j hjl).2 ⟨k, hk, hj⟩
    have hf : S.fre ((j : Int) + 1) = true := by rw [h.fre_nat hjl]; exact hM
    rcases List.mem_append.1 hx with hx | hx
    · have h1 := (h.own_fre hf).2
      rw [mem_objs.1 hx] at h1
      cases h1
    · have h2 := (List.mem_filter.1 hx).2
      unfold HS.hand at h2
      rw [hf] at h2
      simp at h2
theorem HpI.seen_len (h : HpI W w A c S H) : (seenL S c H A.L.n).length = (allSl c S.s.ks A.L.n).length := by
  have h1 := sub_len _ _ h.seen_nodup (fun x hx => h.tb.mem.2 (h.seen_mem.1 hx))
  have h2 := sub_len _ _ (h.tb.nodup A.L.n (Nat.le_refl _)) (fun x hx => h.seen_mem.2 (h.tb.mem.1 hx))
  omega
theorem HpI.seen_bd (h : HpI W w A c S H) {a : Int} (ha : a ∈ seenL S c H A.L.n) : 1 ≤ a ∧ a ≤ S.s.ws.length := by
  have := own_bd (h.seen_mem.1 ha)
  have := h.inv.len
  omega
end Go.Proofs.YtnobempbcdkoaaaGreatDoor
