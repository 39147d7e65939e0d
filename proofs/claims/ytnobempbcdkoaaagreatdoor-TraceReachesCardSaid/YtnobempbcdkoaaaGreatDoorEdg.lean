/- What leads from an object: trace.Edges and its iterator, walked. Conditions: the tables of limits and of sizes read as laid. What is reached: the plain law. Conditions: none. -/
import Derived.Test.YtnobempbcdkoaaaGreatDoorHpD
import Derived.Test.YtnobempbcdkoaaaGreatDoorHp7
import Derived.WalkMore
namespace Go.Proofs.YtnobempbcdkoaaaGreatDoor
open Go.RowKit Go.Shelf
attribute [local go_sem] Oper.semAt_some

variable {W w w' : World} {A : HA} {c : Cf} {S : HS} {H : Nat → List Nat} {K K' : Nat → Bool}
theorem SetAt.same {p q cap cap' size : Nat} {ws us : List Nat} {M M' : Nat → Bool} (h : SetAt w p q cap ws size M) (g : SetAt w p q cap' us size M') : ∀ n, n < size → M n = M' n := by
  have e := h.box.symm.trans g.box
  have el : ws.length = us.length := by simp at e; exact e.1
  obtain ⟨cur, h1, _, _, h4⟩ := h.row
  obtain ⟨cur', g1, _, _, g4⟩ := g.row
  have e2 : cur = cur' := by
    have := h1.symm.trans g1
    simpa using this
  subst e2
  rw [List.length_map] at h4 g4
  rw [el] at h4
  have e3 : ws = us := by
    have e4 := h4.symm.trans g4
    exact (List.map_inj_right (fun x y hxy => by
      have : (x : Int) = y := by simpa using hxy
      omega)).1 e4
  exact (h.rep.eq g.rep).1 e3
theorem SetAt.ext {p q cap size : Nat} {ws : List Nat} {M M' : Nat → Bool} (h : SetAt w p q cap ws size M) (hm : ∀ n, n < size → M n = M' n) : SetAt w p q cap ws size M' :=
  ⟨h.box, h.row, ⟨h.rep.len, h.rep.lt, fun n => by
    rw [h.rep.bit]
    by_cases hn : n < size
    · rw [hm n hn]
    · simp [hn]⟩, h.le⟩
theorem HpI.coin (h : HpI W w A c { S with K := K } H) (g : HpI W w A c { S with K := K' } H) : ∀ n, n < S.s.ws.length + 1 → K n = K' n := by
  obtain ⟨_, _, h1⟩ := h.at'.co
  obtain ⟨_, _, g1⟩ := g.at'.co
  exact h1.same g1
theorem HpI.ext (h : HpI W w A c { S with K := K } H) (hk : ∀ n, n < S.s.ws.length + 1 → K n = K' n) : HpI W w A c { S with K := K' } H :=
  ⟨⟨h.at'.ls, h.at'.box, h.at'.bo, by obtain ⟨cc, wc, hs⟩ := h.at'.co; exact ⟨cc, wc, hs.ext hk⟩, h.at'.hi, h.at'.ap⟩, h.inv.same K' S.x, h.laid⟩
/-- What the walk over an object's fields may turn of others. -/
def AbE (W : World) (A : HA) (c : Cf) (S : HS) (H : Nat → List Nat) (n : Nat) (O : Nat → Prop) (X Y : World) : Prop :=
  Touch (fun b => (n ≤ b ∧ ¬ O b) ∨ HT A b) X Y ∧ (W.heap.size ≤ n → (∀ b ∈ A.all, b < n) → ∀ K, HpI W X A c { S with K := K } H → HpI W Y A c { S with K := K } H)
/-- What a round keeps for it. -/
def KpE (W : World) (A : HA) (c : Cf) (S : HS) (H : Nat → List Nat) (X Y : World) : Prop := ∀ K, HpI W X A c { S with K := K } H → ∃ K', HpI W Y A c { S with K := K' } H
theorem abE_T : ∀ n O X Y, AbD n O X Y → AbE W A c S H n O X Y :=
  fun _ _ _ _ h => ⟨Touch.mono h (fun _ _ x => .inl x), fun h1 h2 _ h3 => h3.touch (h3.at'.base.step h (fun _ hb => .inr (Nat.le_trans h1 hb.1))) h (fun b hb e => Nat.lt_irrefl _ (Nat.lt_of_lt_of_le (h2 b hb) e.1))⟩
theorem abE_M : ∀ (m n : Nat) (O O' : Nat → Prop) (X Y : World), (∀ b, O' b → O b) → m ≤ n → AbE W A c S H n O X Y → AbE W A c S H m O' X Y :=
  fun _ _ _ _ _ _ h hm hab => ⟨Touch.mono hab.1 (fun _ _ hi => hi.imp (fun x => ⟨Nat.le_trans hm x.1, fun y => x.2 (h _ y)⟩) id), fun h1 h2 => hab.2 (Nat.le_trans h1 hm) (fun b hb => Nat.lt_of_lt_of_le (h2 b hb) hm)⟩
theorem abE_O {n0 : Nat} (hl : ∀ b ∈ A.all, b < n0) : ∀ (n : Nat) (O : Nat → Prop) (X Y : World) (k : Nat) (o : Obj), n0 ≤ k → AbE W A c S H n O X Y → O k → X.heap[k]? = some o → o.isCells = false → Y.heap[k]? = some o :=
  fun _ _ _ _ k _ hk hab hO ho _ => (hab.1.block _ (Array.getElem?_eq_some_iff.1 ho).1 (fun x => x.elim (fun y => y.2 hO) (fun y => Nat.lt_irrefl _ (Nat.lt_of_lt_of_le (hl k y) hk)))).trans ho
theorem AbE.trans {n : Nat} {O : Nat → Prop} {X Y Z : World} (h : AbE W A c S H n O X Y) (g : AbE W A c S H n O Y Z) : AbE W A c S H n O X Z := ⟨h.1.trans g.1, fun h1 h2 K h3 => g.2 h1 h2 K (h.2 h1 h2 K h3)⟩
theorem kept_hp {n : Nat} {X Y : World} (hW : W.heap.size ≤ n) (hl : ∀ b ∈ A.all, b < n) (h : Kept n X Y) (hp : HpI W X A c S H) : HpI W Y A c S H :=
  hp.touch (hp.at'.base.step h.2 (fun _ hb => .inr (Nat.le_trans hW hb))) h.2 (fun b hb e => Nat.lt_irrefl _ (Nat.lt_of_lt_of_le (hl b hb) e))
theorem kpE_K {n : Nat} (hW : W.heap.size ≤ n) (hl : ∀ b ∈ A.all, b < n) : ∀ X X' Y Y', Kept n X X' → KpE W A c S H X' Y → Kept n Y Y' → KpE W A c S H X Y' := fun _ _ _ _ h1 h2 h3 K hp => by
  obtain ⟨K', h4⟩ := h2 K (kept_hp hW hl h1 hp)
  exact ⟨K', kept_hp hW hl h3 h4⟩
/-- The heap's own call, which tells something. -/
theorem abE_step {n : Nat} {O : Nat → Prop} {X Y : World} (hp : HpI W X A c { S with K := K } H) (ht : Touch (HT A) X Y) (hq : HpI W Y A c { S with K := K } H) : AbE W A c S H n O X Y :=
  ⟨ht.mono (fun _ _ x => .inr x), fun _ _ _ h => hq.ext (hp.coin h)⟩
/-- What leads from an object: each field that isn't 0, and what it holds. -/
def edR (S : HS) (c : Cf) (a : Int) (n : Nat) : List (Int × Int) := ((List.range n).map fun (i : Nat) => ((i : Int), S.ldV c a i)).filter fun p => decide (p.2 ≠ 0)
def edL (S : HS) (c : Cf) (a : Int) : List (Int × Int) := if S.obj a = true then edR S c a (S.fldV c a).toNat else []
def edT (S : HS) (c : Cf) (a : Int) : List Int := (edL S c a).map Prod.snd
theorem edR_succ (S : HS) (c : Cf) (a : Int) (n : Nat) : edR S c a (n + 1) = edR S c a n ++ (if S.ldV c a n = 0 then [] else [((n : Int), S.ldV c a n)]) := by
  unfold edR
  rw [List.range_succ, List.map_append, List.filter_append]
  congr 1
  by_cases h : S.ldV c a n = 0
  · simp [h]
  · simp [h]
theorem edR_pre (S : HS) (c : Cf) (a : Int) (n d : Nat) : edR S c a n <+: edR S c a (n + d) := by
  induction d with
  | zero => exact List.prefix_rfl
  | succ d ih =>
    rw [← Nat.add_assoc, edR_succ]
    exact List.IsPrefix.trans ih (List.prefix_append _ _)
theorem trace_Edges (w : World) (pv : Option Addr) (a : Int) :
    Calls Tryz.prog 24 #[.pointer pv, .int .i64 a] w fun e w' => ∃ b, e = .returned (.func (.func 56) #[] #[.pointer (some ⟨b, 0, none⟩), .pointer (some ⟨b + 1, 0, none⟩)]) ∧ Touch nob w w' ∧ w.heap.size ≤ b ∧ w'.heap[b]? = some (Obj.cells #[.pointer pv] 31) ∧ w'.heap[b + 1]? = some (Obj.cells #[.int .i64 a] 3) := by
  have hmf := hmkf
  go_enter Tryz.func24, Tryz.ntmps24
  go_wp2
  go_ret
  exact ⟨w.heap.size, rfl, (by (repeat (first | with_reducible exact Touch.refl _ _ | with_reducible assumption | with_reducible apply Touch.alloc | with_reducible apply Touch.drewN | with_reducible apply Touch.drew | with_reducible refine Touch.setCell ?_ (.inr (by first | omega | (simp; done) | (simp; omega))) _))), Nat.le_refl _, alloc2_0 w _ _, alloc2_1 w _ _⟩
theorem fldV_bd (S : HS) (c : Cf) (a : Int) : 0 ≤ S.fldV c a ∧ S.fldV c a < 256 := by
  have := S.flds_bd a
  unfold HS.fldV
  split <;> omega
theorem fldV_K (S : HS) (c : Cf) (a : Int) (K : Nat → Bool) : ({ S with K := K } : HS).fldV c a = S.fldV c a := rfl
theorem ldV_K (S : HS) (c : Cf) (a f : Int) (K : Nat → Bool) : ({ S with K := K } : HS).ldV c a f = S.ldV c a f := rfl
/-- Between two fields. -/
structure EdI (W : World) (A : HA) (c : Cf) (S : HS) (H : Nat → List Nat) (b b' : Nat) (a : Int) (O : Nat → Prop) (wr : World) : Prop where
  hp : ∃ K, HpI W wr A c { S with K := K } H
  c1 : wr.heap[b]? = some (Obj.cells #[.pointer (some ⟨A.h, 0, none⟩)] 31)
  c2 : wr.heap[b']? = some (Obj.cells #[.int .i64 a] 3)
  n1 : ¬ O b
  n2 : ¬ O b'
theorem EdI.heap {b b' : Nat} {a : Int} {O : Nat → Prop} {wr w2 : World} (h : EdI W A c S H b b' a O wr) (hn : b ∉ A.all ∧ b' ∉ A.all) (ht : Touch (HT A) wr w2) (hp : ∃ K, HpI W w2 A c { S with K := K } H) : EdI W A c S H b b' a O w2 :=
  ⟨hp, blk_touch h.c1 ht hn.1, blk_touch h.c2 ht hn.2, h.n1, h.n2⟩
theorem EdI.round {b b' : Nat} {a : Int} {O O' : Nat → Prop} {wr w2 : World} (h : EdI W A c S H b b' a O wr) (ht : Touch O wr w2) (hs : ∀ k, O' k → O k ∨ (wr.heap.size ≤ k ∧ k < w2.heap.size)) (hk : KpE W A c S H wr w2) : EdI W A c S H b b' a O' w2 := by
  obtain ⟨K, hp⟩ := h.hp
  have l1 := blk_lt h.c1
  have l2 := blk_lt h.c2
  refine ⟨hk K hp, blk_touch h.c1 ht h.n1, blk_touch h.c2 ht h.n2, fun x => ?_, fun x => ?_⟩
  · rcases hs _ x with y | y
    · exact h.n1 y
    · omega
  · rcases hs _ x with y | y
    · exact h.n2 y
    · omega
set_option maxRecDepth 20000 in
set_option maxHeartbeats 1600000 in
theorem ed_iter (b b' : Nat) (a : Int) (hp : HpI W w A c S H) (hb : w.heap[b]? = some (Obj.cells #[.pointer (some ⟨A.h, 0, none⟩)] 31)) (hb' : w.heap[b']? = some (Obj.cells #[.int .i64 a] 3)) (hn : b ∉ A.all ∧ b' ∉ A.all) :
    Iter Tryz.prog 56 #[.pointer (some ⟨b, 0, none⟩), .pointer (some ⟨b', 0, none⟩)] (fun p : Int × Int => #[.int .i64 p.1, .int .i64 p.2]) (AbE W A c S H) (KpE W A c S H) (edL S c a) (fun j => j = b ∨ j = b') w := by
  intro l J Jx W2 O hTo hJ hJx hY h0 hPr hO
  have hWS : HpI W W2 A c S H := hp.old hTo
  have HE : Hid (EdI W A c S H b b' a O W2) := ⟨⟨S.K, hWS⟩, blk_touch hb hTo (fun x => x), blk_touch hb' hTo (fun x => x), hPr b (.inl rfl), hPr b' (.inr rfl)⟩
  have HH := Lib.hid hWS
  have HN := Lib.hid hn
  have HJ := Lib.hid hJ
  have H0 : Hid (J (edR S c a 0) O W2) := h0
  have HO := Lib.hid (show J [] O W2 from h0)
  clear hTo hp hb hb' hJx hJ h0 hn hPr hO hWS
  refine callsIn_of_wp Tryz.func56 rfl trivial ?_ rfl
  simp only [Tryz.ntmps56, List.size_toArray, List.length_cons, List.length_nil, Nat.reduceAdd, Nat.reduceSub, Array.replicate_succ, Array.replicate_zero, List.push_toArray, List.append_toArray, List.nil_append, List.cons_append]
  obtain ⟨cb, fb⟩ := box1 HE.out.c1
  obtain ⟨cb', fb'⟩ := box1 HE.out.c2
  gi_wp2_with fail
  refine wpIn_wide.2 (wp_scope_straight ((wpIn_wide (n := 0)).1 ?_))
  gi_wp2_with fail
  refine ⟨trivial, rfl, ?_⟩
  refine (callsIn_wide.2 (heap_Is a HH.out.at')).mono ?_
  rintro e W3 ⟨rfl, rfl⟩
  by_cases ho : S.obj a = true
  · rw [ho]
    have hL : edL S c a = edR S c a (S.fldV c a).toNat := by unfold edL; rw [if_pos ho]
    have hfb := fldV_bd S c a
    obtain ⟨n, hn⟩ := Int.eq_ofNat_of_zero_le hfb.1
    rw [hn, Int.toNat_natCast] at hL
    have hf := hp_Fields a HH.out
    rw [hn] at hf
    have HL := Lib.hid hL
    have HF := Lib.hid hf
    have hn256 : n < 256 := by omega
    clear ho hL hf hfb hn
    gi_wp2_with fail
    refine ⟨trivial, rfl, ?_⟩
    refine (callsIn_wide.2 HF.out).mono ?_
    rintro e W4 ⟨rfl, t4, hp4⟩
    have H4 : Hid (J (edR S c a 0) O W4) := HJ.out _ _ _ _ H0.out (abE_step (K := S.K) HH.out t4 hp4)
    have HE4 := Lib.hid (HE.out.heap HN.out t4 ⟨S.K, hp4⟩)
    clear t4 hp4 cb fb cb' fb'
    gi_wp2_with fail
    refine wpIn_label ?_
    gi_wp2_with fail
    gi_loopw [20] (fun iv wr => ∃ (m : Nat) (O : Nat → Prop), m ≤ n ∧ iv = .int .i64 m ∧ Hid (J (edR S c a m) O wr) ∧ Hid (EdI W A c S H b b' a O wr)) (fun iv _ => n - (intOf iv).toNat)
    case atStart => exact ⟨0, O, Nat.zero_le _, rfl, H4, HE4⟩
    case round =>
      obtain ⟨m, O, hm, rfl, HJm, HEm⟩ := hrel
      clear H4 HE4 HE H0 HO HH
      obtain ⟨cb, fb⟩ := box1 HEm.out.c1
      obtain ⟨cb', fb'⟩ := box1 HEm.out.c2
      by_cases hmn : m < n
      · have hb : (m : Int) < (n : Int) := by omega
        obtain ⟨K, hpm⟩ := HEm.out.hp
        have hld := hp_Load a m hpm
        rw [ldV_K] at hld
        obtain ⟨v, hv⟩ : ∃ v, S.ldV c a m = v := ⟨_, rfl⟩
        obtain ⟨E, hE⟩ : ∃ E, ({ S with K := K } : HS).ldE c a m = E := ⟨_, rfl⟩
        rw [hv, hE] at hld
        have HLd := Lib.hid hld
        have HM := Lib.hid hpm
        have HV := Lib.hid hv
        clear hld hpm hv hE
        gi_wp2_with fail
        refine ⟨trivial, rfl, ?_⟩
        refine (callsIn_wide.2 HLd.out).mono ?_
        rintro e W5 ⟨rfl, t5, hp5⟩
        have H5 := Lib.hid (HJ.out _ _ _ _ HJm.out (abE_step HM.out t5 hp5))
        have HE5 := Lib.hid (HEm.out.heap HN.out t5 ⟨K, hp5⟩)
        clear t5 hp5 cb fb cb' fb' HJm HEm HLd HM
        by_cases hv0 : v = 0
        · subst hv0
          have hs : edR S c a (m + 1) = edR S c a m := by rw [edR_succ, HV.out, if_pos rfl, List.append_nil]
          have HJ5 : Hid (J (edR S c a (m + 1)) O W5) := by show J _ _ _; rw [hs]; exact H5.out
          clear hs
          gi_wp2
          refine ⟨fun f hf => (by cases hf), ?_⟩
          gi_wp2
          go_roundw
          case rel => exact ⟨m + 1, O, by omega, by go_num, HJ5, HE5⟩
          case measure => simp [intOf]; omega
        · have hs : edR S c a (m + 1) = edR S c a m ++ [((m : Int), v)] := by rw [edR_succ, HV.out, if_neg hv0]
          have hpre : edR S c a m ++ [((m : Int), v)] <+: edL S c a := by
            rw [← hs, HL.out]
            have := edR_pre S c a (m + 1) (n - (m + 1))
            rwa [show m + 1 + (n - (m + 1)) = n by omega] at this
          obtain ⟨fn, tmps, assign, body, hy, hR⟩ := hY (edR S c a m) ((m : Int), v) W5 O H5.out hpre
          have HR := Lib.hid hR
          have HP := Lib.hid (And.intro hpre hs)
          have hvb : (v != 0) = true := by simpa using hv0
          clear hR hpre hs
          gi_wp2_with fail
          refine ⟨rfl, HR.out.mono ?_⟩
          rintro e W6 ⟨O', hT, hsub, (⟨rfl, hJ', hK⟩ | ⟨rfl, hJx'⟩)⟩
          · have HJ' : Hid (J (edR S c a (m + 1)) O' W6) := by show J _ _ _; rw [HP.out.2]; exact hJ'
            have HE' := Lib.hid (HE5.out.round hT hsub hK)
            clear hT hsub hJ' hK
            gi_wp2
            go_roundw
            case rel => exact ⟨m + 1, O', by omega, by go_num, HJ', HE'⟩
            case measure => simp [intOf]; omega
          · have HJ' := Lib.hid hJx'
            clear hT hsub hJx'
            gi_wp2
            rw [Exit.noGoto_normal]
            go_end0
            exact ⟨⟨_, rfl⟩, O', .inr ⟨_, HP.out.1, HJ'.out⟩⟩
      · obtain rfl : m = n := by omega
        have hb : ¬ (m : Int) < (m : Int) := by omega
        have HJJ : Hid (J (edL S c a) O wr) := by show J _ _ _; rw [HL.out]; exact HJm.out
        clear hY
        gi_wp2_with fail
        go_end0
        exact ⟨⟨_, rfl⟩, O, .inl HJJ.out⟩
  · have hL : edL S c a = [] := by unfold edL; rw [if_neg ho]
    rw [Bool.not_eq_true] at ho
    rw [ho]
    have HJJ : Hid (J (edL S c a) O W2) := by show J _ _ _; rw [hL]; exact HO.out
    clear hL ho hY
    gi_wp2
    rw [Exit.noGoto_ret]
    refine bodyPost_ret (results_none rfl _ _ _) rfl ?_
    exact ⟨⟨_, rfl⟩, O, .inl HJJ.out⟩
end Go.Proofs.YtnobempbcdkoaaaGreatDoor
namespace Go.Proofs.YtnobempbcdkoaaaGreatDoor
open Go.RowKit

variable {S : HS} {c : Cf} {rt rs td : List Int} {M : Int → Bool} {x y : Int} {H : Nat → List Nat}
/-- What is reached from roots. -/
inductive Rch (S : HS) (c : Cf) (rt : List Int) : Int → Prop
  | root {x : Int} : x ∈ rt → S.obj x = true → Rch S c rt x
  | step {x y : Int} : Rch S c rt y → x ∈ edT S c y → S.obj x = true → Rch S c rt x
theorem Rch.obj (h : Rch S c rt x) : S.obj x = true := by cases h <;> assumption
theorem Rch.mono (h : Rch S c rt x) (hm : ∀ y ∈ rt, y ∈ rs) : Rch S c rs x := by
  induction h with
  | root h1 h2 => exact .root (hm _ h1) h2
  | step _ h2 h3 ih => exact .step ih h2 h3
theorem Rch.idem (hm : ∀ y, y ∈ rs ↔ Rch S c rt y) : Rch S c rs x ↔ Rch S c rt x := by
  constructor
  · intro h
    induction h with
    | root h1 _ => exact (hm _).1 h1
    | step _ h2 h3 ih => exact .step ih h2 h3
  · intro h
    exact .root ((hm _).2 h) h.obj
/-- While what is reached is sought: what is seen, what is to be done. -/
structure RcI (S : HS) (c : Cf) (rt : List Int) (M : Int → Bool) (td : List Int) : Prop where
  sr : ∀ x, M x = true → Rch S c rt x
  tr : ∀ x ∈ td, S.obj x = true → Rch S c rt x
  ro : ∀ x ∈ rt, S.obj x = true → M x = true ∨ x ∈ td
  ed : ∀ y, M y = true → ∀ x ∈ edT S c y, S.obj x = true → M x = true ∨ x ∈ td
theorem RcI.start : RcI S c rt (fun _ => false) rt :=
  ⟨fun _ h => (by cases h), fun _ h1 h2 => .root h1 h2, fun _ h _ => .inr h, fun _ h => (by cases h)⟩
theorem RcI.skip (h : RcI S c rt M (td ++ [x])) (hx : S.obj x = false ∨ M x = true) : RcI S c rt M td := by
  have key : ∀ y, S.obj y = true → M y = true ∨ y ∈ td ++ [x] → M y = true ∨ y ∈ td := fun y ho hy => by
    rcases hy with hy | hy
    · exact .inl hy
    · rcases List.mem_append.1 hy with hy | hy
      · exact .inr hy
      · obtain rfl := List.mem_singleton.1 hy
        rcases hx with hx | hx
        · rw [ho] at hx; cases hx
        · exact .inl hx
  exact ⟨h.sr, fun y hy => h.tr y (List.mem_append_left _ hy), fun y hy ho => key y ho (h.ro y hy ho), fun z hz y hy ho => key y ho (h.ed z hz y hy ho)⟩
/-- One more is seen. -/
def seeM (M : Int → Bool) (x : Int) : Int → Bool := fun y => if y = x then true else M y
theorem seeM_iff : seeM M x y = true ↔ y = x ∨ M y = true := by
  unfold seeM
  by_cases h : y = x
  · simp [h]
  · simp [h]
theorem RcI.see (h : RcI S c rt M (td ++ [x])) (ho : S.obj x = true) : RcI S c rt (seeM M x) (td ++ edT S c x) := by
  have hr : Rch S c rt x := h.tr x (List.mem_append_right _ (List.mem_singleton.2 rfl)) ho
  have key : ∀ y, M y = true ∨ y ∈ td ++ [x] → seeM M x y = true ∨ y ∈ td ++ edT S c x := fun y hy => by
    rcases hy with hy | hy
    · exact .inl (seeM_iff.2 (.inr hy))
    · rcases List.mem_append.1 hy with hy | hy
      · exact .inr (List.mem_append_left _ hy)
      · exact .inl (seeM_iff.2 (.inl (List.mem_singleton.1 hy)))
  refine ⟨fun y hy => ?_, fun y hy hoy => ?_, fun y hy hoy => key y (h.ro y hy hoy), fun z hz y hy hoy => ?_⟩
  · rcases seeM_iff.1 hy with rfl | hy
    · exact hr
    · exact h.sr y hy
  · rcases List.mem_append.1 hy with hy | hy
    · exact h.tr y (List.mem_append_left _ hy) hoy
    · exact .step hr hy hoy
  · rcases seeM_iff.1 hz with rfl | hz
    · exact .inr (List.mem_append_right _ hy)
    · exact key y (h.ed z hz y hy hoy)
theorem RcI.done (h : RcI S c rt M []) : M x = true ↔ Rch S c rt x := by
  refine ⟨h.sr x, fun hr => ?_⟩
  induction hr with
  | root h1 h2 => exact (h.ro _ h1 h2).resolve_right List.not_mem_nil
  | step _ h2 h3 ih => exact (h.ed _ ih _ h2 h3).resolve_right List.not_mem_nil
/-- How many are not seen. -/
def unseen (S : HS) (M : Int → Bool) : Nat := (S.objs.filter fun x => !M x).length
theorem unseen_see (ho : S.obj x = true) (hm : M x = false) : unseen S (seeM M x) < unseen S M := by
  unfold unseen
  have e : (S.objs.filter fun y => !seeM M x y) = (S.objs.filter fun y => !M y).filter fun y => !seeM M x y := by
    rw [List.filter_filter]
    apply List.filter_congr
    intro y _
    unfold seeM
    by_cases h : y = x
    · simp [h]
    · simp [h]
  rw [e]
  refine List.length_filter_lt_length_iff_exists.2 ⟨x, List.mem_filter.2 ⟨mem_objs.2 ho, by rw [hm]; rfl⟩, ?_⟩
  simp [seeM]
theorem edT_len (S : HS) (c : Cf) (x : Int) : (edT S c x).length ≤ 255 := by
  unfold edT edL
  split
  · rw [List.length_map]
    unfold edR
    refine Nat.le_trans (List.length_filter_le _ _) ?_
    rw [List.length_map, List.length_range]
    have h1 := S.flds_bd x
    unfold HS.fldV
    split <;> omega
  · simp
end Go.Proofs.YtnobempbcdkoaaaGreatDoor
