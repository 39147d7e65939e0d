/- An object's fields: what Fields, Load and Store tell of it, and keep. Conditions: the tables of limits and of sizes read as laid. -/
import Derived.Test.YtflhjbmoncbomaaGreatDoorHpD
namespace Go.Proofs.YtflhjbmoncbomaaGreatDoor
open Go.RowKit

variable {W w w' : World} {A : HA} {c : Cf} {S S' S'' : HS} {H : Nat → List Nat}
/-- What a store leaves, but for one field's word. -/
structure Kq (c : Cf) (S S' : HS) : Prop where
  B : S'.B = S.B
  K : S'.K = S.K
  x : S'.x = S.x
  ks : S'.s.ks = S.s.ks
  M : S'.s.M = S.s.M
  len : S'.s.ws.length = S.s.ws.length
  hd : ∀ j : Nat, ownB c S.s.ks (j + 1) = true → S'.s.ws.getD j 0 = S.s.ws.getD j 0
theorem Kq.refl (c : Cf) (S : HS) : Kq c S S := ⟨rfl, rfl, rfl, rfl, rfl, rfl, fun _ _ => rfl⟩
theorem Kq.trans (h : Kq c S S') (g : Kq c S' S'') : Kq c S S'' :=
  ⟨g.B.trans h.B, g.K.trans h.K, g.x.trans h.x, g.ks.trans h.ks, g.M.trans h.M, g.len.trans h.len, fun j ho => (g.hd j (by rw [h.ks]; exact ho)).trans (h.hd j ho)⟩
/-- A field's word. -/
def HS.fw (S : HS) (e k : Nat) : Int := S.s.ws.getD (e + k) 0
/-- An object: where it lies. -/
theorem HInv.obj (h : HInv c S H) {e : Nat} (hb : S.B e = true) : ∃ j k : Nat, e = j + 1 ∧ k < 4 ∧ ownB c S.s.ks (j + 1) = true ∧ clsA c S.s.ks (j + 1) = k ∧ isObjW (S.s.ws.getD j 0) = true ∧ S.flds e = S.s.ws.getD j 0 % 256 ∧ 0 ≤ S.flds e ∧ S.flds e ≤ clsRoom k ∧ S.obj e = true ∧ S.s.M (j + 1) = false := by
  obtain ⟨j, rfl, hj, ho, hM, hw⟩ := h.ob e hb
  obtain ⟨k, hk, hc⟩ := clsA_nat h.ok ho
  have hword : S.word ((j + 1 : Nat) : Int) = S.s.ws.getD j 0 := by
    unfold HS.word
    rw [if_pos ⟨by omega, by omega⟩, show (((j + 1 : Nat) : Int) - 1).toNat = j by omega]
  have hf : S.flds ((j + 1 : Nat) : Int) = S.s.ws.getD j 0 % 256 := by
    unfold HS.flds fldW
    rw [hword, hw]
  have hr : S.s.ws.getD j 0 % 256 ≤ clsRoom k := by
    have h1 := h.hw j ho hw
    rw [hc] at h1
    have h2 := hw
    unfold isObjW at h2
    simp only [Bool.and_eq_true] at h2
    rw [h1] at h2
    exact (objOk_iff.1 h2.2.1).2.2
  refine ⟨j, k, rfl, hk, ho, hc, hw, hf, by rw [hf]; omega, by rw [hf]; exact hr, ?_, hM⟩
  unfold HS.obj
  have := hasB_nat (M := S.B) hj
  rw [show ((j + 1 : Nat) : Int) = (j : Int) + 1 by omega, this]
  exact hb
theorem HInv.obj_may (h : HInv c S H) {e : Nat} (hb : S.B e = true) : S.may c e = true ∧ S.objE c e = 0 ∧ S.fldV c e = S.flds e := by
  obtain ⟨j, k, rfl, _, _, _, _, _, _, _, ho, _⟩ := h.obj hb
  have hm : S.may c ((j + 1 : Nat) : Int) = true := by unfold HS.may; rw [ho]; rfl
  have hE : S.objE c ((j + 1 : Nat) : Int) = 0 := by unfold HS.objE; rw [if_neg (by omega), if_pos hm]
  exact ⟨hm, hE, by unfold HS.fldV; rw [if_pos hE]⟩
/-- A field's word lies in the object's slot. -/
theorem HInv.obj_in (h : HInv c S H) {e k : Nat} (hb : S.B e = true) (hk : (k : Int) < S.flds e) : ∃ j : Nat, e = j + 1 ∧ ownB c S.s.ks (j + 1) = true ∧ InSlot c S.s.ks j (e + k) ∧ e + k ≠ j ∧ e + k < S.s.ws.length := by
  obtain ⟨j, k', rfl, hk4, ho, hc, _, _, _, hr, _⟩ := h.obj hb
  have hin : InSlot c S.s.ks j (j + 1 + k) := by
    unfold InSlot
    rw [hc]
    rw [clsRoom_size hk4] at hr
    omega
  exact ⟨j, rfl, ho, hin, by omega, in_lt h.ok h.len ho hin⟩
theorem Kq.fl (h : Kq c S S') (hi : HInv c S H) {e : Nat} (hb : S.B e = true) : S'.flds e = S.flds e := by
  obtain ⟨j, _, rfl, _, ho, _⟩ := hi.obj hb
  have hj := hi.one ho
  have hw : ∀ T : HS, T.s.ws.length = S.s.ws.length → T.word ((j + 1 : Nat) : Int) = T.s.ws.getD j 0 := fun T hT => by
    unfold HS.word
    rw [hT, if_pos ⟨by omega, by omega⟩, show (((j + 1 : Nat) : Int) - 1).toNat = j by omega]
  unfold HS.flds
  rw [hw S' h.len, hw S rfl, h.hd j ho]
/-- What a store of a field leaves. -/
theorem HInv.stored (h : HInv c S H) {e k : Nat} (hb : S.B e = true) (hk : (k : Int) < S.flds e) (v : Int) : Kq c S (S.setw (e + k) v) ∧ HInv c (S.setw (e + k) v) H ∧ (S.setw (e + k) v).fw e k = v ∧ ∀ e' k' : Nat, S.B e' = true → (k' : Int) < S.flds e' → ¬ (e' = e ∧ k' = k) → (S.setw (e + k) v).fw e' k' = S.fw e' k' := by
  obtain ⟨j, he, ho, hin, hne, hlt⟩ := h.obj_in hb hk
  refine ⟨⟨rfl, rfl, rfl, rfl, rfl, List.length_set, fun j' ho' => ?_⟩, h.field ho hin hne, getD_set_eq hlt, fun e' k' hb' hk' hd => ?_⟩
  · refine getD_set_ne (fun e2 => ?_)
    rw [e2] at hin
    have := in_one h.ok ho ho' hin (in_first h.ok ho')
    omega
  · obtain ⟨j', he', ho', hin', hne', hlt'⟩ := h.obj_in hb' hk'
    refine getD_set_ne (fun e2 => ?_)
    rw [← e2] at hin'
    have := in_one h.ok ho ho' hin hin'
    exact hd ⟨by omega, by omega⟩
theorem hpo_Fields {e : Nat} (h : HpI W w A c S H) (hb : S.B e = true) :
    Calls Tryz.prog 17 #[.pointer (some ⟨A.h, 0, none⟩), .int .i64 e] w fun r w' => r = .returned (.tuple #[.int .i64 (S.flds e), .int .i64 0]) ∧ Touch (HT A) w w' ∧ HpI W w' A c S H := by
  obtain ⟨_, h1, h2⟩ := h.inv.obj_may hb
  have := hp_Fields (e : Int) h
  rwa [h1, h2] at this
theorem hpo_Store {e k : Nat} (v : Int) (h : HpI W w A c S H) (hb : S.B e = true) (hk : (k : Int) < S.flds e) (hv : 0 ≤ v ∧ v ≤ S.s.ws.length) :
    Calls Tryz.prog 44 #[.pointer (some ⟨A.h, 0, none⟩), .int .i64 e, .int .i64 k, .int .i64 v] w fun r w' => r = .returned (.int .i64 0) ∧ Touch (HT A) w w' ∧ HpI W w' A c (S.setw (e + k) v) H := by
  obtain ⟨_, h1, h2⟩ := h.inv.obj_may hb
  have hE : S.stE c e k v = 0 := by unfold HS.stE; rw [if_pos h1, if_pos ⟨by omega, hk⟩, if_pos hv]
  have hS : S.stS c e k v = S.setw (e + k) v := by
    unfold HS.stS
    rw [if_pos hE, show ((e : Int) + (k : Int)).toNat = e + k by omega]
    rfl
  have := hp_Store (e : Int) k v h
  rwa [hE, hS] at this
theorem HInv.load (h : HInv c S H) {e k : Nat} (hb : S.B e = true) (hk : (k : Int) < S.flds e) (hv : 0 ≤ S.fw e k ∧ S.fw e k ≤ 9223372036854775807) : S.ldV c e k = S.fw e k ∧ S.ldE c e k = 0 := by
  obtain ⟨_, h1, h2⟩ := h.obj_may hb
  obtain ⟨j, he, ho, hin, hne, hlt⟩ := h.obj_in hb hk
  have hw : S.word ((e : Int) + 1 + k) = S.fw e k := by
    unfold HS.word HS.fw
    rw [if_pos ⟨by omega, by omega⟩, show ((e : Int) + 1 + (k : Int) - 1).toNat = e + k by omega]
  constructor
  · unfold HS.ldV
    rw [if_pos ⟨h1, by omega, hk⟩, hw]
    exact wrap64_in (by omega) hv.2
  · unfold HS.ldE
    rw [if_pos h1, if_pos ⟨by omega, hk⟩, atE_ok (by omega) (by omega)]
theorem hpo_Load {e k : Nat} (h : HpI W w A c S H) (hb : S.B e = true) (hk : (k : Int) < S.flds e) (hv : 0 ≤ S.fw e k ∧ S.fw e k ≤ 9223372036854775807) :
    Calls Tryz.prog 19 #[.pointer (some ⟨A.h, 0, none⟩), .int .i64 e, .int .i64 k] w fun r w' => r = .returned (.tuple #[.int .i64 (S.fw e k), .int .i64 0]) ∧ Touch (HT A) w w' ∧ HpI W w' A c S H := by
  obtain ⟨h1, h2⟩ := h.inv.load hb hk hv
  have := hp_Load (e : Int) k h
  rwa [h1, h2] at this
/-- What a store of whatever leaves. -/
theorem HpI.st_keep (h : HpI W w A c S H) (a f v : Int) : Kq c S (S.stS c a f v) ∧ ∀ e k : Nat, S.B e = true → (k : Int) < S.flds e → (S.stS c a f v).fw e k = if S.stE c a f v = 0 ∧ (e : Int) = a ∧ (k : Int) = f then v else S.fw e k := by
  unfold HS.stS
  by_cases hE : S.stE c a f v = 0
  · rw [if_pos hE]
    have hm : S.may c a = true ∧ 0 ≤ f ∧ f < S.flds a := by
      unfold HS.stE HS.objE at hE
      by_cases h0 : a = 0
      · rw [if_pos h0] at hE; cases hE
      · rw [if_neg h0] at hE
        by_cases hm : S.may c a = true
        · rw [if_pos hm, if_pos rfl] at hE
          by_cases hf : 0 ≤ f ∧ f < S.flds a
          · exact ⟨hm, hf⟩
          · rw [if_neg hf] at hE; cases hE
        · rw [if_neg hm] at hE; cases hE
    obtain ⟨hm, h0, h1⟩ := hm
    obtain ⟨j, k', rfl, hk4, ho, hc, _, _, _, hr⟩ := h.may_parts hm
    obtain ⟨g1, g2, g3⟩ := h.field_in (i := (j + 1 + f).toNat) hk4 ho hc hr ⟨h0, h1⟩ (by omega)
    refine ⟨⟨rfl, rfl, rfl, rfl, rfl, List.length_set, fun j' ho' => ?_⟩, fun e k hb hk => ?_⟩
    · refine getD_set_ne (fun e2 => ?_)
      have e2 : ((j : Int) + 1 + f).toNat = j' := e2
      rw [e2] at g1
      have := in_one h.inv.ok ho ho' g1 (in_first h.inv.ok ho')
      omega
    · obtain ⟨j', he', ho', hin', hne', hlt'⟩ := h.inv.obj_in hb hk
      by_cases hd : (e : Int) = (j : Int) + 1 ∧ (k : Int) = f
      · rw [if_pos ⟨hE, hd⟩]
        show (S.s.ws.set ((j : Int) + 1 + f).toNat v).getD (e + k) 0 = v
        rw [show ((j : Int) + 1 + f).toNat = e + k by omega]
        exact getD_set_eq (by omega)
      · rw [if_neg (fun x => hd x.2)]
        refine getD_set_ne (fun e2 => ?_)
        have e2 : ((j : Int) + 1 + f).toNat = e + k := e2
        rw [← e2] at hin'
        have := in_one h.inv.ok ho ho' g1 hin'
        exact hd ⟨by omega, by omega⟩
  · rw [if_neg hE]
    exact ⟨Kq.refl c S, fun e k _ _ => by rw [if_neg (fun x => hE x.1)]⟩
theorem Kq.objs (h : Kq c S S') : S'.objs = S.objs := by
  unfold HS.objs
  rw [h.B, h.len]
end Go.Proofs.YtflhjbmoncbomaaGreatDoor
