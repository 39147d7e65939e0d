/- The notes' laws: a heap, a buffer, a box and a flag; the example; what a case makes: walked. Conditions: the tables of limits, of sizes and of de Bruijn's bits read as laid. -/
import Derived.Test.YtnobempbcdkoaaaGreatDoorNoa
namespace Go.Proofs.YtnobempbcdkoaaaGreatDoor
open Go.RowKit

variable {W w w' : World} {A : HA} {c : Cf} {S : HS} {H : Nat → List Nat} {n p q f p2 b0 b1 b2 b3 b4 m : Nat} {room v col : Int} {bs xs : List Int} {up fr : Bool} {tv : Value} {I Q : World → Prop}
/-- A heap, a buffer, a box and a flag. -/
structure PgI (W : World) (A : HA) (c : Cf) (H : Nat → List Nat) (p q f : Nat) (room : Int) (S : HS) (bs xs : List Int) (up : Bool) (w : World) : Prop where
  hp : HpI W w A c S H
  buf : ∃ u, BufAt w p room u bs ∧ ∀ b, u.ownBlock = some b → b ∉ A.all
  box : ∃ y, BoxAt w q y xs ∧ ∀ b, y.ownBlock = some b → b ∉ A.all
  fl : w.heap[f]? = some (Obj.cells #[.bool up] 121)
  no : ∀ b, (b = p ∨ b = q ∨ b = f) → b ∉ A.all ∧ W.heap.size ≤ b
  ln : bs.length ≤ room ∧ room ≤ 256 ∧ 1 ≤ room
theorem PgI.old (h : PgI W A c H p q f room S bs xs up w) (ht : Touch nob w w') : PgI W A c H p q f room S bs xs up w' := by
  obtain ⟨u, h1, h2⟩ := h.buf
  obtain ⟨y, h3, h4⟩ := h.box
  exact ⟨h.hp.old ht, ⟨u, h1.old ht, h2⟩, ⟨y, h3.old ht, h4⟩, blk_touch h.fl ht (fun x => x), h.no, h.ln⟩
theorem PgI.heap (h : PgI W A c H p q f room S bs xs up w) (ht : Touch (HT A) w w') {S' : HS} (hp : HpI W w' A c S' H) : PgI W A c H p q f room S' bs xs up w' := by
  obtain ⟨u, h1, h2⟩ := h.buf
  obtain ⟨y, h3, h4⟩ := h.box
  exact ⟨hp, ⟨u, h1.touchT ht (h.no p (.inl rfl)).1 h2, h2⟩, ⟨y, h3.touchT ht (h.no q (.inr (.inl rfl))).1 h4, h4⟩, blk_touch h.fl ht (h.no f (.inr (.inr rfl))).1, h.no, h.ln⟩
theorem PgI.nt (h : PgI W A c H p q f room S bs xs up w) (ht : Touch nob w w') (hn : w.heap.size ≤ n) (hb : NtB w' n A.h p q f) : NtI nob W A c H n p q f room S bs xs up w' := by
  have h' := h.old ht
  obtain ⟨u1, k1, k2⟩ := h'.buf
  obtain ⟨y1, k3, k4⟩ := h'.box
  refine ⟨h'.hp, ⟨u1, k1, fun b hb => ⟨k2 b hb, fun x => x⟩⟩, ⟨y1, k3, fun b hb => ⟨k4 b hb, fun x => x⟩⟩, h'.fl, hb, fun b hb => ?_, h'.ln, fun b hb => hb.elim⟩
  rcases hb with rfl | hb
  · exact ⟨fun hm => Nat.lt_irrefl _ (Nat.lt_of_lt_of_le (h.hp.at'.lt _ hm) hn), Nat.le_trans h.hp.at'.base.size hn⟩
  · exact h.no b hb
theorem sl_ints {w : World} {v : Value} {xs : List Int} (h : SlAt w v xs) : IntsIn w v xs := by
  rcases id h with ⟨rfl, rfl⟩ | ⟨g, o, cap, cur, rfl, h1, h2, h3⟩
  · exact ⟨_, _, rfl, .inl rfl⟩
  · exact ⟨_, _, rfl, .inr ⟨g, o, rfl, h1, fun j hj => h.cell hj⟩⟩
/-- The example. -/
def awakeT19 : List (Int × Int × Bool) := [(1, 0, false)]
def awakeP19 : HS × (Nat → List Nat) := mdF awakeC16 1 (awakeT19.take 40) (newS0 16 0, fun _ => [])
theorem aw19_e : awakeP19.1.colE 1 = 0 ∧ awakeP19.1.colV 1 = 0 := by decide +kernel
set_option maxRecDepth 20000 in
theorem law19_awake (w : World) (hL : Laid w) : Calls Tryz.prog 27 #[] w fun e w' => e = .returned (.bool true) ∧ Touch nob w w' := by
  have HL := Lib.hid hL
  clear hL
  have hth : ∀ W b, W.heap[b]? = some (Obj.cells #[.int .u8 1, .int .u8 0, .bool false] 90) → ThIn W (.slice (some ⟨b, 0, none⟩) 1 1) awakeT19 := by
    intro W bb hb
    refine ⟨_, _, rfl, .inr ⟨bb, 0, rfl, Nat.le_refl _, fun k t hk => ?_⟩⟩
    have key : ∀ j, W.cell? ⟨bb, j, none⟩ = #[Value.int .u8 1, .int .u8 0, .bool false][j]? := fun j => by simp [World.cell?, hb]
    rw [key, key, key]
    rcases k with _ | k
    · cases hk
      exact ⟨by decide, rfl, rfl, rfl⟩
    · simp [awakeT19] at hk
  have HTh := Lib.hid hth
  clear hth
  go_enter Tryz.func27, Tryz.ntmps27
  go_wp2_with (go_at_call 48; fail)
  refine (ref02_Little ⟨0, 0, 0, 0, 0, 0, 0⟩ w).mono ?_
  rintro e w1 ⟨rfl, t1⟩
  have H1 := Lib.hid t1
  clear t1
  go_wp2_with (go_at_call 47; fail)
  obtain ⟨W0, hW⟩ : ∃ W, W = w1.alloc (Obj.cells #[.int .u8 1, .int .u8 0, .bool false] 90) := ⟨_, rfl⟩
  have hb : W0.heap[w1.heap.size]? = some (Obj.cells #[.int .u8 1, .int .u8 0, .bool false] 90) := by rw [hW]; exact World.alloc_heap_new _ _
  have HT0 := Lib.hid (show Touch nob w W0 by rw [hW]; exact H1.out.alloc _)
  have HTi := Lib.hid (HTh.out W0 _ hb)
  rw [← hW]
  obtain ⟨b0, hb0⟩ : ∃ b, b = w1.heap.size := ⟨_, rfl⟩
  rw [← hb0] at HTi ⊢
  clear hW hb hb0
  refine (law15_Made awakeC16 _ awakeT19 16 0 (by decide) (by decide) (by decide) (by decide) (by decide) W0 (HL.out.old HT0.out) HTi.out).mono ?_
  rintro e w2 ⟨W1, t1, A, m, rfl, hn, qx, O, h2, -⟩
  have hn1 : A.L.n = 1 := by have : (A.L.n : Int) = 1 := hn; omega
  rw [hn1] at h2
  have H2 := Lib.hid (And.intro (HT0.out.trans t1) (show HpI W1 w2 A awakeC16 awakeP19.1 awakeP19.2 from h2.hp))
  clear t1 hn h2 hn1
  go_wp2_with (go_at_call 61; fail)
  refine (log_New_ok 2 (by decide) (by decide) w2).mono ?_
  rintro e w3 ⟨p, rfl, hp, t3, hb3⟩
  have H3 := Lib.hid (And.intro hp (And.intro t3 hb3))
  clear hp t3 hb3
  go_wp2_with (go_at_call 62; fail)
  refine (log_NewBox w3).mono ?_
  rintro e w4 ⟨q, rfl, hq, t4, hb4⟩
  have H4 := Lib.hid (And.intro hq (And.intro t4 hb4))
  clear hq t4 hb4
  go_wp2_with (go_at_call 29; fail)
  obtain ⟨W5, hW⟩ : ∃ W, W = w4.alloc (Obj.cells #[.bool false] 121) := ⟨_, rfl⟩
  have hfl : W5.heap[w4.heap.size]? = some (Obj.cells #[.bool false] 121) := by rw [hW]; exact World.alloc_heap_new _ _
  have t5 : Touch nob w4 W5 := by rw [hW]; exact (Touch.refl _ _).alloc _
  rw [← hW]
  obtain ⟨f, hf⟩ : ∃ b, b = w4.heap.size := ⟨_, rfl⟩
  rw [← hf] at hfl ⊢
  have hG : PgI W1 A awakeC16 awakeP19.2 p q f 2 awakeP19.1 [] [] false W5 := by
    have hlt : ∀ b, w2.heap.size ≤ b → b ∉ A.all ∧ W1.heap.size ≤ b := fun b hb => ⟨fun hm => Nat.lt_irrefl _ (Nat.lt_of_lt_of_le (H2.out.2.at'.lt _ hm) hb), Nat.le_trans H2.out.2.at'.base.size hb⟩
    have t35 := (H4.out.2.1.trans t5)
    refine ⟨H2.out.2.old (H3.out.2.1.trans t35), ⟨_, H3.out.2.2.old t35, fun b hb => (by cases hb)⟩, ⟨_, H4.out.2.2.old t5, fun b hb => (by cases hb)⟩, hfl, ?_, by decide⟩
    rintro b (rfl | rfl | rfl)
    · exact hlt _ H3.out.1
    · exact hlt _ (Nat.le_trans H3.out.2.1.size H4.out.1)
    · exact hlt _ (by rw [hf]; exact Nat.le_trans H3.out.2.1.size H4.out.2.1.size)
  have HG := Lib.hid hG
  clear hW hfl t5 hf hG
  refine (note_New_ok A.h p q f W5).mono ?_
  rintro e w6 ⟨n, rfl, hn, t6, hb6⟩
  have hN : NtI nob W1 A awakeC16 awakeP19.2 n p q f 2 awakeP19.1 [] [] false w6 := HG.out.nt t6 hn hb6
  have HN := Lib.hid hN
  clear hN hn t6 hb6
  go_wp2_with (go_at_call 32; fail)
  refine (does_note (m := 0) (I := fun _ => True) (Q := fun w' => NtI nob W1 A awakeC16 awakeP19.2 n p q f 2 awakeP19.1 [1] [] false w') (v := 1) (col := 1) (tv := .nilFunc) (.inl rfl) HN.out (fun _ _ _ => trivial) (fun w' _ hN' => ⟨rfl, trivial, ?_⟩)).mono ?_
  · have : noteR awakeP19.1 1 1 2 [] [] false = (awakeP19.1, [1], [], false) := by
      unfold noteR
      rw [aw19_e.1, aw19_e.2]
      rfl
    rw [this] at hN'
    exact hN'
  rintro e w7 ⟨sv, rfl, t7, hD⟩
  have hk : noteK awakeP19.1 1 1 2 [] [] = 1 := by
    unfold noteK
    rw [aw19_e.1, aw19_e.2]
    rfl
  rw [hk] at hD
  have HD := Lib.hid hD
  clear hD hk t7
  go_wp2_with (go_at_call 31; fail)
  refine (note_Run 1 9 sv HD.out (by decide)).mono ?_
  rintro e w8 ⟨k, rfl, hk, -, hQ⟩
  obtain rfl : k = 1 := by omega
  have H8 := Lib.hid (hQ rfl)
  clear hk hQ
  go_wp2_with (go_at_call 30; fail)
  obtain ⟨u, hb8, -⟩ := H8.out.buf
  refine (buf_All hb8).mono ?_
  rintro e w9 ⟨v9, rfl, t9, hs9⟩
  have H9 := Lib.hid (And.intro t9 hs9)
  clear t9 hs9 hb8
  go_wp2_with (go_at_call 18; fail)
  refine (ref01_Same _ _ [1] _ ((sl_ints H9.out.2).old ((Touch.refl nob _).alloc _)) (ints_new _ [1] _ 1 rfl (World.alloc_heap_new _ _)) (by decide)).mono ?_
  rintro e wa ⟨rfl, ta⟩
  have HA := Lib.hid ((H2.out.1.trans H8.out.hp.at'.base).trans (H9.out.1.trans (((Touch.refl nob _).alloc _).trans ta)))
  clear ta
  go_wp2
  go_ret
  exact ⟨rfl, HA.out⟩
end Go.Proofs.YtnobempbcdkoaaaGreatDoor
