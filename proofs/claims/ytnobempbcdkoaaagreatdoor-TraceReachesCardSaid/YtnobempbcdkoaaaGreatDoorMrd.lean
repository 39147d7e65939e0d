/- Marking, walked: drain, each. Conditions: the tables of limits, of sizes and of de Bruijn's bits read as laid. -/
import Derived.Test.YtnobempbcdkoaaaGreatDoorMrl
import Derived.Test.YtnobempbcdkoaaaGreatDoorHpP
import Derived.Deep.LoopGhost
namespace Go.Proofs.YtnobempbcdkoaaaGreatDoor
open Go.RowKit Go.Shelf
attribute [local go_sem] Oper.semAt_some

variable {W w w' : World} {A : HA} {c : Cf} {S : HS} {H : Nat → List Nat} {rt : List Int} {col room : Int} {B mk p : Nat} {v : Value} {s : MaS} {pend : Int → Prop}
theorem MaN.refl (h : MaI W A c S H B mk p col room s v w) (hk : MkS S c rt col room s pend) : MaN W A c S H rt B mk p col room w v s pend s v w :=
  ⟨Touch.refl _ _, fun _ hb => .inl hb, h, hk, MaG.refl⟩
theorem MaN.weak {pend' : Int → Prop} {s' : MaS} {v' : Value} (h : MaN W A c S H rt B mk p col room w v s pend s' v' w') (hp : ∀ x, pend x → pend' x) : MaN W A c S H rt B mk p col room w v s pend' s' v' w' :=
  ⟨h.t, h.sub, h.i, MarI.weak h.k hp, h.g⟩
/-- What came of a pop. -/
structure PopN (W : World) (A : HA) (c : Cf) (S : HS) (H : Nat → List Nat) (rt : List Int) (B mk p : Nat) (col room : Int) (w : World) (v : Value) (s : MaS) (pend : Int → Prop) (a : Int) (o : Bool) (s' : MaS) (v' : Value) (w' : World) : Prop where
  n : MaN W A c S H rt B mk p col room w v s (fun x => (o = true ∧ x = a) ∨ pend x) s' v' w'
  b : o = true → S.blk col s'.K a = true
  e : o = false → s'.xs = []
  m : s'.ms S col + o.toNat ≤ s.ms S col
theorem mk_pop (h : MaI W A c S H B mk p col room s v w) (hk : MkS S c rt col room s pend) :
    Calls Tryz.prog 116 #[.pointer (some ⟨p, 0, none⟩)] w fun e w' => ∃ a o, e = .returned (.tuple #[.int .i64 a, .bool o]) ∧ ∃ s' v', PopN W A c S H rt B mk p col room w v s pend a o s' v' w' := by
  rcases List.eq_nil_or_concat s.xs with hx | ⟨xs, y, hx⟩
  · have hs := h.sk
    rw [hx] at hs
    refine (stack_Pop_no p _ v room s.ov w hs).mono ?_
    rintro e w1 ⟨rfl, t1⟩
    exact ⟨0, false, rfl, s, v, ⟨t1.mono fun _ _ x => x.elim, fun _ hb => .inl hb, h.old t1, MarI.weak hk fun _ hx => .inr hx, MaG.refl⟩, fun e => by (cases e), fun _ => hx, Nat.le_refl _⟩
  · rw [List.concat_eq_append] at hx
    have hs := h.sk
    rw [hx] at hs
    refine (stack_Pop_ok p _ v xs y room s.ov w hs).mono ?_
    rintro e w1 ⟨rfl, t1, v', h1⟩
    obtain ⟨hx1, hfx⟩ := h1.exact
    have hi := h.stack t1 (fun b hb => .inl (hfx b hb)) hx1
    have hk' : MkS S c rt col room { s with xs := xs } (fun x => x = y ∨ pend x) := by
      have h2 : MarI S c rt col room s.K (xs ++ [y]) s.ov s.n s.al pend := by rw [← hx]; exact hk
      exact h2.pop
    refine ⟨y, true, rfl, { s with xs := xs }, v', ⟨t1.mono fun _ _ x => .inr (.inr x), fun b hb => .inl (hfx b hb), hi, MarI.weak hk' fun x hx => hx.imp (fun e => ⟨rfl, e⟩) id, ⟨fun _ h => h, ?_, rfl⟩⟩, fun _ => ?_, fun e => by (cases e), ?_⟩
    · unfold MaS.ms
      rw [hx, List.length_append]
      exact Nat.add_le_add_left (Nat.le_add_right _ _) _
    · have hk2 : MarI S c rt col room s.K s.xs s.ov s.n s.al pend := hk
      exact hk2.st y (by rw [hx]; simp)
    · unfold MaS.ms
      rw [hx, List.length_append]
      exact Nat.le_refl _
theorem PopN.trans {s1 s2 : MaS} {v1 v2 : Value} {w1 w2 : World} {pend1 : Int → Prop} {a : Int} {o : Bool} (h : MaN W A c S H rt B mk p col room w v s pend1 s1 v1 w1) (g : PopN W A c S H rt B mk p col room w1 v1 s1 pend a o s2 v2 w2) : MaN W A c S H rt B mk p col room w v s (fun x => (o = true ∧ x = a) ∨ pend x) s2 v2 w2 := h.trans g.n
/-- Between two rounds of a drain. -/
structure DrI (W : World) (A : HA) (c : Cf) (S : HS) (H : Nat → List Nat) (rt : List Int) (B mk p : Nat) (col room : Int) (w : World) (v : Value) (s : MaS) (pend : Int → Prop) (g : Nat) (a : Int) (o : Bool) (s' : MaS) (v' : Value) (w' : World) : Prop where
  n : MaN W A c S H rt B mk p col room w v s (fun x => (o = true ∧ x = a) ∨ pend x) s' v' w'
  b : o = true → S.blk col s'.K a = true
  e : o = false → s'.xs = []
  m : s'.ms S col + o.toNat ≤ g
set_option maxRecDepth 20000 in
set_option maxHeartbeats 1600000 in
theorem mk_drain (h : MaI W A c S H B mk p col room s v w) (hc : col = 0 ∨ col = 1) (hk : MkS S c rt col room s pend) :
    Calls Tryz.prog 79 #[.pointer (some ⟨mk, 0, none⟩)] w fun e w' => e = .returned (.tuple #[]) ∧ ∃ s' v', MaN W A c S H rt B mk p col room w v s pend s' v' w' ∧ s'.xs = [] := by
  have hcell : ∀ w' : World, w'.heap[mk]? = some (Obj.cells #[.pointer (some ⟨A.h, 0, none⟩), .pointer (some ⟨p, 0, none⟩), .int .i64 col, .int .i64 s.n, .int .i64 s.al] 137) → w'.cell? ⟨mk, 1, none⟩ = some (.pointer (some ⟨p, 0, none⟩)) := fun w' h => by simp [World.cell?, h]
  have c1 := hcell w h.mb
  have HP := Lib.hid (mk_pop h hk)
  have HC := Lib.hid hc
  clear h hk hc hcell
  go_enter Tryz.func79, Tryz.ntmps79
  go_wp2_with (go_at_call 116; fail)
  refine HP.out.mono ?_
  rintro e w1 ⟨a, o, rfl, s1, v1, hp⟩
  have H1 := Lib.hid hp
  clear hp c1
  go_wp2_with fail
  go_loopg [2, 3] (s.ms S col) (fun g va vo wr => ∃ (a : Int) (o : Bool), va = .int .i64 a ∧ vo = .bool o ∧ Hid (∃ s' v', DrI W A c S H rt B mk p col room w v s pend g a o s' v' wr))
  case atStart => exact ⟨a, o, rfl, rfl, s1, v1, H1.out.n, H1.out.b, H1.out.e, H1.out.m⟩
  case round =>
    obtain ⟨a, o, rfl, rfl, HD⟩ := hrel
    clear H1 HP
    cases o with
    | false =>
      have HE : Hid (∃ s' v', MaN W A c S H rt B mk p col room w v s pend s' v' wr ∧ s'.xs = []) := by
        obtain ⟨s', v', hd⟩ := HD.out
        exact ⟨s', v', hd.n.weak (fun x hx => hx.elim (fun y => by cases y.1) id), hd.e rfl⟩
      clear HD
      go_wp2
      go_end0
      exact ⟨rfl, HE.out⟩
    | true =>
      obtain ⟨s2, v2, hd⟩ := HD.out
      have hlk := mk_look (pend := pend) a hd.n.i HC.out (MarI.weak hd.n.k fun x hx => hx.imp (fun y => y.2) id) (hd.b rfl)
      have HL := Lib.hid (And.intro hlk hd)
      clear hlk hd HD
      go_wp2_with (go_at_call 82; fail)
      refine HL.out.1.mono ?_
      rintro e w3 ⟨rfl, s3, v3, h3⟩
      have c1 : w3.cell? ⟨mk, 1, none⟩ = some (.pointer (some ⟨p, 0, none⟩)) := by have := h3.i.mb; simp [World.cell?, this]
      have H3 := Lib.hid h3
      clear h3
      go_wp2_with (go_at_call 116; fail)
      refine (mk_pop H3.out.i H3.out.k).mono ?_
      rintro e w4 ⟨a4, o4, rfl, s4, v4, h4⟩
      have H4 := Lib.hid h4
      clear h4 c1
      go_wp2
      go_roundg (s4.ms S col + o4.toNat)
      case measure =>
        have h1 := H4.out.m
        have h2 := H3.out.g.ms
        have h3 := HL.out.2.m
        simp only [Bool.toNat_true] at h3
        omega
      case rel => exact ⟨a4, o4, rfl, rfl, s4, v4, (HL.out.2.n.trans H3.out).trans H4.out.n, H4.out.b, H4.out.e, Nat.le_refl _⟩
set_option maxRecDepth 20000 in
theorem tr_each (k : Nat) (cap : Array Value) (he : Enters Tryz.prog k) (h : HpI W w A c S H) (hT : Tab W) (hb : S.objs.length ≤ 1048576) (Q : World → Prop) (T : Nat → Prop) (hTl : ∀ b, T b → b < w.heap.size)
    (hs : ∀ w', Touch (HT A) w w' → HpI W w' A c S H → ∃ J : List Int → World → Prop, J [] w' ∧ (∀ pre w1, J pre w1 → Touch T w' w1) ∧ (∀ pre a rest w1, S.objs = pre ++ a :: rest → J pre w1 → Calls Tryz.prog k (#[.int .i64 a] ++ cap) w1 fun e w2 => e = .returned (.tuple #[]) ∧ J (pre ++ [a]) w2) ∧ ∀ w1, J S.objs w1 → Q w1) :
    Calls Tryz.prog 75 #[.pointer (some ⟨A.h, 0, none⟩), .func (.func k) #[] cap] w fun e w' => e = .returned (.tuple #[]) ∧ Q w' := by
  have HH := Lib.hid (And.intro h (And.intro (hT.touch h.at'.base (fun x => x)) (And.intro hTl hs)))
  clear h hT hTl hs
  go_enter Tryz.func75, Tryz.ntmps75
  go_wp2_with (go_at_call 19; fail)
  refine (hp_Objects HH.out.1 HH.out.2.1).mono ?_
  rintro e w1 ⟨v, rfl, t1, h1, o1⟩
  obtain ⟨ao, cp, rfl⟩ := o1.ints.shape
  obtain ⟨J, hJ0, hJT, hJs, hJQ⟩ := HH.out.2.2.2 w1 t1 h1
  obtain ⟨n, hn⟩ : ∃ n, S.objs.length = n := ⟨_, rfl⟩
  rw [hn] at o1 hb ⊢
  have H1 := Lib.hid (And.intro o1 (And.intro hJT (And.intro hJs (And.intro hJQ hn))))
  have HJ0 := Lib.hid hJ0
  clear t1 h1 o1 hJ0 hJT hJs hJQ hn
  go_wp2_with fail
  go_loopw [9] (fun i wr => ∃ j : Nat, j ≤ n ∧ i = .int .i64 j ∧ Hid (J (S.objs.take j) wr)) (fun i _ => n - (intOf i).toNat)
  case atStart => exact ⟨0, Nat.zero_le _, rfl, HJ0.out⟩
  case round =>
    obtain ⟨j, hj, rfl, HJ⟩ := hrel
    clear HJ0
    by_cases hlt : j < n
    · have hb2 : (j : Int) < (n : Int) := by omega
      have ho : Ow wr w.heap.size (.slice ao n cp) S.objs := H1.out.1.touch (H1.out.2.1 _ _ HJ.out) (fun g hg x => by
        have h1 := H1.out.1.new g hg
        have h2 := HH.out.2.2.1 g x
        omega)
      obtain ⟨g, rfl, hcap, hcell⟩ := own_at ho rfl H1.out.2.2.2.2 hlt
      obtain ⟨x, hx⟩ : ∃ x, S.objs.getD j 0 = x := ⟨_, rfl⟩
      rw [hx] at hcell
      have hjl : j < S.objs.length := by rw [H1.out.2.2.2.2]; exact hlt
      have hsp : S.objs = S.objs.take j ++ x :: S.objs.drop (j + 1) := by
        rw [← hx, List.getD_eq_getElem?_getD, List.getElem?_eq_getElem hjl]
        simp
      have htk : S.objs.take (j + 1) = S.objs.take j ++ [x] := by
        rw [List.take_add_one, ← hx, List.getD_eq_getElem?_getD, List.getElem?_eq_getElem hjl]; rfl
      have HC := Lib.hid (H1.out.2.2.1 _ x _ wr hsp HJ.out)
      have HK := Lib.hid htk
      clear ho hx hjl hsp htk
      have hk' : ∀ (args : Array Value) (w : World), (callFunc k args).run Tryz.prog w = .ok (.enter k args) w := he
      go_wp2_with (go_at_fn k; fail)
      refine HC.out.mono ?_
      rintro e w3 ⟨rfl, h3⟩
      have H3 : Hid (J (S.objs.take (j + 1)) w3) := by show J _ _; rw [HK.out]; exact h3
      clear h3
      go_wp2
      go_roundw
      case rel => exact ⟨j + 1, by omega, by go_num, H3⟩
      case measure => simp [intOf]; omega
    · obtain rfl : j = n := by omega
      have hb2 : ¬ (j : Int) < (j : Int) := by omega
      have HE : Hid (Q wr) := by
        have h2 := HJ.out
        rw [List.take_of_length_le (Nat.le_of_eq H1.out.2.2.2.2)] at h2
        exact H1.out.2.2.2.1 _ h2
      go_wp2
      go_end0
      exact ⟨rfl, HE.out⟩
end Go.Proofs.YtnobempbcdkoaaaGreatDoor
