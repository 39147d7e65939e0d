/- A heap whose fields are laid by numbers: law16's Made, walked. Conditions: the tables of limits, of sizes and of de Bruijn's bits read as laid. The trace's law's example, walked. Conditions: the tables of limits, of sizes and of de Bruijn's bits read as laid. -/
import Derived.Test.YtnobempbcdkoaaaGreatDoorTrc
import Derived.Test.YtnobempbcdkoaaaGreatDoorMix
import Derived.Test.YtnobempbcdkoaaaGreatDoorMd
import Derived.Test.YtnobempbcdkoaaaGreatDoorLL
import Derived.Test.YtnobempbcdkoaaaGreatDoorIn
import Derived.Test.YtnobempbcdkoaaaGreatDoorHpP
import Derived.Test.YtnobempbcdkoaaaGreatDoorBlk
namespace Go.Proofs.YtnobempbcdkoaaaGreatDoor
open Go.RowKit

variable {W w w' : World} {A : HA} {c : Cf} {S S' : HS} {H : Nat → List Nat}
/-- What a number says of a field. -/
def grV (all : List Int) (x : Int) : Int := if 0 < x % 4 then all.getD ((x / 4).toNat % all.length) 0 else 0
/-- One field is laid, as long as there are numbers. -/
def grS (c : Cf) (all fs : List Int) (a : Int) (p : HS × Nat) (f : Nat) : HS × Nat := if p.2 < fs.length then (p.1.stS c a f (grV all (fs.getD p.2 0)), p.2 + 1) else p
def grO (c : Cf) (all fs : List Int) (p : HS × Nat) (a : Int) : HS × Nat := (List.range (p.1.fldV c a).toNat).foldl (grS c all fs a) p
/-- All fields are laid. -/
def grP (c : Cf) (all fs : List Int) (S : HS) : HS × Nat := all.foldl (grO c all fs) (S, 0)
/-- What stays. -/
structure GrK (S S' : HS) : Prop where
  B : S'.B = S.B
  len : S'.s.ws.length = S.s.ws.length
  ks : S'.s.ks = S.s.ks
  K : S'.K = S.K
theorem GrK.refl (S : HS) : GrK S S := ⟨rfl, rfl, rfl, rfl⟩
theorem GrK.trans {S'' : HS} (h : GrK S S') (g : GrK S' S'') : GrK S S'' := ⟨g.B.trans h.B, g.len.trans h.len, g.ks.trans h.ks, g.K.trans h.K⟩
theorem stS_k (a f v : Int) : GrK S (S.stS c a f v) := by
  unfold HS.stS
  split
  · exact ⟨rfl, List.length_set, rfl, rfl⟩
  · exact GrK.refl _
theorem GrK.objs (h : GrK S S') : S'.objs = S.objs := by unfold HS.objs; rw [h.B, h.len]
theorem GrK.obj (h : GrK S S') (a : Int) : S'.obj a = S.obj a := by unfold HS.obj; rw [h.B, h.len]
theorem grS_k (all fs : List Int) (a : Int) (p : HS × Nat) (f : Nat) : GrK p.1 (grS c all fs a p f).1 := by
  unfold grS
  split
  · exact stS_k _ _ _
  · exact GrK.refl _
theorem grF_k (all fs : List Int) (a : Int) (l : List Nat) (p : HS × Nat) : GrK p.1 (l.foldl (grS c all fs a) p).1 := by
  induction l generalizing p with
  | nil => exact GrK.refl _
  | cons f l ih => exact (grS_k all fs a p f).trans (ih _)
theorem grO_k (all fs : List Int) (p : HS × Nat) (a : Int) : GrK p.1 (grO c all fs p a).1 := grF_k _ _ _ _ _
theorem grA_k (all fs : List Int) (l : List Int) (p : HS × Nat) : GrK p.1 (l.foldl (grO c all fs) p).1 := by
  induction l generalizing p with
  | nil => exact GrK.refl _
  | cons f l ih => exact (grO_k all fs p f).trans (ih _)
theorem grF_done (all fs : List Int) (a : Int) (l : List Nat) (p : HS × Nat) (h : ¬ p.2 < fs.length) : l.foldl (grS c all fs a) p = p := by
  induction l with
  | nil => rfl
  | cons f l ih =>
    rw [List.foldl_cons, show grS c all fs a p f = p by unfold grS; rw [if_neg h]]
    exact ih
theorem range_foldl_succ {α : Type} (g : α → Nat → α) (p : α) (n : Nat) : (List.range (n + 1)).foldl g p = g ((List.range n).foldl g p) n := by
  rw [List.range_succ, List.foldl_append]
  rfl
theorem range_foldl_done (all fs : List Int) (a : Int) (p : HS × Nat) (m : Nat) (h : ¬ ((List.range m).foldl (grS c all fs a) p).2 < fs.length) (d : Nat) : (List.range (m + d)).foldl (grS c all fs a) p = (List.range m).foldl (grS c all fs a) p := by
  induction d with
  | zero => rfl
  | succ d ih =>
    rw [← Nat.add_assoc, range_foldl_succ, ih]
    obtain ⟨q, hq⟩ : ∃ q, (List.range m).foldl (grS c all fs a) p = q := ⟨_, rfl⟩
    rw [hq] at h ⊢
    show (if _ then _ else _) = _
    rw [if_neg h]
/-- While fields are laid. -/
structure GrI (W : World) (A : HA) (c : Cf) (H : Nat → List Nat) (B : Nat) (va : Value) (all : List Int) (S : HS) (wr : World) : Prop where
  hp : HpI W wr A c S H
  oa : Ow wr B va all
  lo : ∀ b ∈ A.all, b < B
theorem GrI.heap {B : Nat} {va : Value} {all : List Int} {wr w2 : World} (h : GrI W A c H B va all S wr) (ht : Touch (HT A) wr w2) (hp : HpI W w2 A c S' H) : GrI W A c H B va all S' w2 :=
  ⟨hp, h.oa.touch ht (fun g hg hm => Nat.lt_irrefl _ (Nat.lt_of_lt_of_le (h.lo g hm) (h.oa.new g hg))), h.lo⟩
/-- What is made. -/
def GrM (w w' : World) (c : Cf) (th : List (Int × Int × Bool)) (fs : List Int) (A : HA) : Prop :=
  ∃ W S H, Touch nob w W ∧ HpI W w' A c S H ∧ (A.L.n : Int) = c.c0 ∧ ∃ z n4 : Nat, (z : Int) = c.c0 * c.c1 ∧ c.c4 = n4 ∧ z ≤ 144 ∧ S.s.ws.length = z ∧ H = (mdF c A.L.n (th.take 40) (newS0 z n4, fun _ => [])).2 ∧
    S = (grP c (mdF c A.L.n (th.take 40) (newS0 z n4, fun _ => [])).1.objs fs (mdF c A.L.n (th.take 40) (newS0 z n4, fun _ => [])).1).1
set_option maxRecDepth 20000 in
set_option maxHeartbeats 4000000 in
theorem law16_Made (c0 c : Cf) (hlit : little c0 = c) (v : Value) (th : List (Int × Int × Bool)) (fv : Value) (fs : List Int) (hfs : ∀ j, j < fs.length → 0 ≤ fs.getD j 0 ∧ fs.getD j 0 < 65536) (hfl : fs.length ≤ 1000) (w : World) (hL : Laid w) (hTab : Tab w) (hth : ThIn w v th) (hfv : KIn .u16 w fv fs) :
    Calls Tryz.prog 14 #[c0.V, v, fv] w fun e w' => ∃ A, e = .returned (.pointer (some ⟨A.h, 0, none⟩)) ∧ GrM w w' c th fs A := by
  have hok : c.ok = true := by rw [← hlit]; exact little_ok _
  have hc4 : 0 ≤ c.c4 ∧ c.c4 ≤ 3 := by rw [← hlit]; simp only [little]; omega
  have hc01 : (0 ≤ c.c0 ∧ c.c0 ≤ 4) ∧ 0 ≤ c.c1 ∧ c.c1 ≤ 36 := by rw [← hlit]; simp only [little]; omega
  have hl := ref02_Little c0
  rw [hlit] at hl
  have hmb := mul_bd (a := c.c0) (b := c.c1) (A := 4) (B := 36) hc01.1.1 hc01.1.2 hc01.2.1 hc01.2.2
  obtain ⟨z, hz⟩ : ∃ z : Nat, (z : Int) = c.c0 * c.c1 := ⟨(c.c0 * c.c1).toNat, by omega⟩
  obtain ⟨n4, hn4⟩ : ∃ n4 : Nat, c.c4 = n4 := ⟨c.c4.toNat, by omega⟩
  have HC := Lib.hid (And.intro hok (And.intro hl (And.intro hz (And.intro (show z ≤ 144 by omega) (And.intro hn4 (show n4 ≤ 64 by omega))))))
  obtain ⟨ao, cap, rfl, -⟩ := id hth
  obtain ⟨N, hN⟩ : ∃ N, th.length = N := ⟨_, rfl⟩
  obtain ⟨af, cf, rfl⟩ := hfv.shape
  obtain ⟨M, hM⟩ : ∃ M, fs.length = M := ⟨_, rfl⟩
  have HTH := Lib.hid (And.intro hth hN)
  have HF := Lib.hid (And.intro hfv (And.intro hfs hM))
  have HL := Lib.hid (And.intro hL hTab)
  rw [hN, hM]
  rw [hM] at hfl
  clear hok hc4 hc01 hl hz hn4 hmb hlit hth hfv hfs hN hM hL hTab
  go_enter Tryz.func14, Tryz.ntmps14
  go_wp2_with fail
  obtain ⟨W0, hW⟩ : ∃ W, W = w.alloc (Obj.cells (CfgRow c0.c0 c0.c1 c0.c2 c0.c3 c0.c4 c0.c5 c0.c6) 23) := ⟨_, rfl⟩
  have hT : Touch nob w W0 := by rw [hW]; (repeat (first | with_reducible exact Touch.refl _ _ | with_reducible assumption | with_reducible apply Touch.alloc | with_reducible apply Touch.drewN | with_reducible apply Touch.drew | with_reducible refine Touch.setCell ?_ (.inr (by first | omega | (simp; done) | (simp; omega))) _))
  obtain ⟨b0, hb0⟩ : ∃ b, b = w.heap.size := ⟨_, rfl⟩
  rw [← hW, ← hb0]
  have HB := Lib.hid hT
  clear hW hb0 hT
  go_wp2_with (go_at_call 48; fail)
  refine (HC.out.2.1 W0).mono ?_
  rintro e w1 ⟨rfl, hT1⟩
  have H1 := Lib.hid (HB.out.trans hT1)
  clear hT1
  go_wp2_with (go_at_call 47; fail)
  have hmd := law15_Made c (.slice ao N cap) th z n4 HC.out.1 HC.out.2.2.1 (Nat.le_trans HC.out.2.2.2.1 (by decide)) HC.out.2.2.2.2.1 HC.out.2.2.2.2.2 w1 (HL.out.1.old H1.out) (by have := HTH.out.1.old H1.out; rwa [HTH.out.2] at this)
  refine hmd.mono ?_
  rintro e w2 ⟨W1, t1, A, m, rfl, hn, qx, O, h2, -⟩
  obtain ⟨p, hp⟩ : ∃ p, mdF c A.L.n (th.take 40) (newS0 z n4, fun _ => []) = p := ⟨_, rfl⟩
  rw [hp] at h2
  have H2 := Lib.hid (And.intro (H1.out.trans t1) (And.intro h2.hp (And.intro hn (And.intro hp h2.rv.hz))))
  clear t1 hn h2 hp hmd
  go_wp2_with (go_at_call 19; fail)
  refine (hp_Objects H2.out.2.1 ((HL.out.2.touch H2.out.1 (fun x => x)).touch H2.out.2.1.at'.base (fun x => x))).mono ?_
  rintro e w3 ⟨v3, rfl, t3, h3, o3⟩
  obtain ⟨ao3, cp3, rfl⟩ := o3.ints.shape
  have hl3 : p.1.objs.length ≤ 5000 := by have h1 := @objs_len p.1; have h2 := H2.out.2.2.2.2; omega
  obtain ⟨all, hall⟩ : ∃ all, p.1.objs = all := ⟨_, rfl⟩
  obtain ⟨n, hn⟩ : ∃ n, all.length = n := ⟨_, rfl⟩
  rw [hall] at o3 hl3 ⊢
  rw [hn] at hl3 ⊢
  have H3 : Hid (∃ S, GrI W1 A c p.2 w2.heap.size (.slice ao3 n cp3) all S w3 ∧ (S, 0) = (all.take 0).foldl (grO c all fs) (p.1, 0)) := ⟨p.1, ⟨h3, by rwa [hn] at o3, H2.out.2.1.at'.lt⟩, rfl⟩
  have HA := Lib.hid (And.intro hall hn)
  clear t3 h3 o3 hall
  go_wp2_with fail
  go_loopw [11, 10] (fun iv kv wr => ∃ j kk : Nat, j ≤ n ∧ iv = .int .i64 j ∧ kv = .int .i64 kk ∧ kk ≤ M ∧ Hid (∃ S, GrI W1 A c p.2 w2.heap.size (.slice ao3 n cp3) all S wr ∧ (S, kk) = (all.take j).foldl (grO c all fs) (p.1, 0))) (fun iv _ _ => n - (intOf iv).toNat)
  case atStart => exact ⟨0, 0, Nat.zero_le _, rfl, rfl, Nat.zero_le _, H3⟩
  case round =>
    obtain ⟨j, kk, hj, rfl, rfl, hkk, HR⟩ := hrel
    clear H3
    by_cases hlt : j < n
    · have hb : (j : Int) < (n : Int) := by omega
      obtain ⟨S, hI, hS⟩ := HR.out
      obtain ⟨g, rfl, hcap, hcell⟩ := own_at hI.oa rfl HA.out.2 hlt
      obtain ⟨a, ha⟩ : ∃ a, all.getD j 0 = a := ⟨_, rfl⟩
      rw [ha] at hcell
      have hfl2 := hp_Fields a hI.hp
      have hfb := fldV_bd S c a
      obtain ⟨nf, hnf⟩ := Int.eq_ofNat_of_zero_le hfb.1
      rw [hnf] at hfl2
      have hnf2 : nf < 256 := by omega
      have HI := Lib.hid (And.intro hI (And.intro hS (And.intro hfl2 (And.intro hnf ha))))
      clear hI hS hfl2 hfb hnf ha
      go_wp2_with (go_at_call 49; fail)
      refine HI.out.2.2.1.mono ?_
      rintro e w4 ⟨rfl, t4, h4⟩
      have H4 : Hid (∃ S2, GrI W1 A c p.2 w2.heap.size (.slice (some ⟨g, 0, none⟩) n cp3) all S2 w4 ∧ (S2, kk) = (List.range 0).foldl (grS c all fs a) (S, kk)) := ⟨S, HI.out.1.heap t4 h4, rfl⟩
      clear t4 h4 hcell
      go_wp2_with fail
      go_loopw [14, 10] (fun fv kv wr => ∃ f k2 : Nat, f ≤ nf ∧ fv = .int .i64 f ∧ kv = .int .i64 k2 ∧ k2 ≤ M ∧ Hid (∃ S2, GrI W1 A c p.2 w2.heap.size (.slice (some ⟨g, 0, none⟩) n cp3) all S2 wr ∧ (S2, k2) = (List.range f).foldl (grS c all fs a) (S, kk))) (fun fv _ _ => nf - (intOf fv).toNat)
      case atStart => exact ⟨0, kk, Nat.zero_le _, rfl, rfl, hkk, H4⟩
      case round =>
        obtain ⟨f, k2, hf, rfl, rfl, hk2, HR2⟩ := hrel
        clear H4
        by_cases hfn : f < nf ∧ k2 < M
        · obtain ⟨hf1, hf2⟩ := hfn
          have hb1 : (f : Int) < (nf : Int) := by omega
          have hb2 : (k2 : Int) < (M : Int) := by omega
          have hbase : Touch nob w wr := by
            obtain ⟨S2, hI2, _⟩ := HR2.out
            exact H2.out.1.trans hI2.hp.at'.base
          obtain ⟨bf, of, cpf, hfe, hfc, hfcell⟩ := (HF.out.1.old hbase).at (j := k2) (by rw [HF.out.2.2]; exact hf2)
          rw [HF.out.2.2] at hfe hfc
          injection hfe with e1 e2 e3
          subst e1 e3
          have hxb := HF.out.2.1 k2 (by rw [HF.out.2.2]; exact hf2)
          obtain ⟨x, hx⟩ : ∃ x, fs.getD k2 0 = x := ⟨_, rfl⟩
          rw [hx] at hxb hfcell
          obtain ⟨S2, hI2, hS2⟩ := HR2.out
          obtain ⟨g', hg', -, hac⟩ := own_at hI2.oa rfl HA.out.2 hlt
          cases hg'
          rw [HI.out.2.2.2.2] at hac
          obtain ⟨r4, hr4⟩ : ∃ r4, x % 4 = r4 := ⟨_, rfl⟩
          have hr4t : x.tmod 4 = r4 := by rw [Int.tmod_eq_emod_of_nonneg hxb.1]; exact hr4
          have hr4b : 0 ≤ r4 ∧ r4 < 4 := by omega
          have hwk : IntKind.i64.wrap ((k2 : Int) + 1) = (k2 : Int) + 1 := IntWalk.i64_in _ (by omega)
          have hstep : ∀ v, grV all x = v → (S2.stS c a f v, k2 + 1) = (List.range (f + 1)).foldl (grS c all fs a) (S, kk) := fun v hv => by
            rw [range_foldl_succ, ← hS2]
            unfold grS
            rw [if_pos (by rw [HF.out.2.2]; exact hf2), hx, hv]
          have HX := Lib.hid (And.intro hI2 (And.intro hS2 (And.intro hstep hr4)))
          obtain ⟨hr4b0, hr4b1⟩ := hr4b
          obtain ⟨hxb0, hxb1⟩ := hxb
          clear hI2 hS2 hstep hr4 hbase e2
          by_cases hp0 : 0 < r4
          · have hn1 : ¬ (n : Int) = 0 := by omega
            obtain ⟨q4, hq4⟩ : ∃ q4 : Nat, x / 4 = q4 := ⟨(x / 4).toNat, by omega⟩
            have hq4t : x.tdiv 4 = q4 := by rw [Int.tdiv_eq_ediv_of_nonneg hxb0]; exact hq4
            have hq4b : q4 < 65536 := by omega
            obtain ⟨r, hr⟩ : ∃ r : Nat, (q4 : Int) % n = r := ⟨((q4 : Int) % n).toNat, by have := Int.emod_nonneg (q4 : Int) hn1; omega⟩
            have hrm : r < n := by have := Int.emod_lt_of_pos (q4 : Int) (show (0 : Int) < n by omega); omega
            have hrt : (q4 : Int).tmod n = r := by rw [Int.tmod_eq_emod_of_nonneg (by omega)]; exact hr
            have hrb : (r : Int) < (n : Int) := by omega
            have hmm : ¬ (n : Int) = -1 := by omega
            obtain ⟨g2, hg2, -, hvc⟩ := own_at HX.out.1.oa rfl HA.out.2 hrm
            cases hg2
            obtain ⟨v, hv⟩ : ∃ v, all.getD r 0 = v := ⟨_, rfl⟩
            rw [hv] at hvc
            have hgv : grV all x = v := by
              unfold grV
              rw [HX.out.2.2.2, if_pos hp0, hq4, HA.out.2]
              have : (q4 : Int).toNat % n = r := by
                rw [Int.toNat_natCast]
                have h1 : ((q4 % n : Nat) : Int) = (r : Int) := by rw [Int.natCast_emod]; exact hr
                omega
              rw [this]
              exact hv
            have HV := Lib.hid hgv
            clear hq4 hr hv hgv
            go_wp2_with (go_at_call 50; fail)
            refine (hp_Store a f v HX.out.1.hp).mono ?_
            rintro e w6 ⟨rfl, t6, h6⟩
            have H6 : Hid (∃ S2, GrI W1 A c p.2 w2.heap.size (.slice (some ⟨g, 0, none⟩) n cp3) all S2 w6 ∧ (S2, k2 + 1) = (List.range (f + 1)).foldl (grS c all fs a) (S, kk)) := ⟨_, HX.out.1.heap t6 h6, HX.out.2.2.1 v HV.out⟩
            clear t6 h6 hfcell hac
            go_wp2_with fail
            go_roundw
            case rel => exact ⟨f + 1, k2 + 1, by omega, by go_num, by go_num, by omega, H6⟩
            case measure => simp [intOf]; omega
          · have hgv : grV all x = 0 := by
              unfold grV
              rw [HX.out.2.2.2, if_neg hp0]
            have HV := Lib.hid hgv
            clear hgv
            go_wp2_with (go_at_call 50; fail)
            refine (hp_Store a f 0 HX.out.1.hp).mono ?_
            rintro e w6 ⟨rfl, t6, h6⟩
            have H6 : Hid (∃ S2, GrI W1 A c p.2 w2.heap.size (.slice (some ⟨g, 0, none⟩) n cp3) all S2 w6 ∧ (S2, k2 + 1) = (List.range (f + 1)).foldl (grS c all fs a) (S, kk)) := ⟨_, HX.out.1.heap t6 h6, HX.out.2.2.1 0 HV.out⟩
            clear t6 h6 hfcell hac
            go_wp2_with fail
            go_roundw
            case rel => exact ⟨f + 1, k2 + 1, by omega, by go_num, by go_num, by omega, H6⟩
            case measure => simp [intOf]; omega
        · have HE : Hid (∃ S2, GrI W1 A c p.2 w2.heap.size (.slice (some ⟨g, 0, none⟩) n cp3) all S2 wr ∧ (S2, k2) = (all.take (j + 1)).foldl (grO c all fs) (p.1, 0)) := by
            obtain ⟨S2, hI2, hS2⟩ := HR2.out
            refine ⟨S2, hI2, ?_⟩
            rw [take_succ_getD (by rw [HA.out.2]; exact hlt), List.foldl_append, ← HI.out.2.1, HI.out.2.2.2.2]
            show _ = grO c all fs (S, kk) a
            unfold grO
            rw [hS2]
            show _ = (List.range (S.fldV c a).toNat).foldl _ _
            rw [HI.out.2.2.2.1, Int.toNat_natCast]
            by_cases hff : f < nf
            · have hk : ¬ k2 < fs.length := by rw [HF.out.2.2]; exact fun h => hfn ⟨hff, h⟩
              have h2 : ((List.range f).foldl (grS c all fs a) (S, kk)).2 = k2 := by rw [← hS2]
              rw [← show f + (nf - f) = nf by omega]
              exact (range_foldl_done all fs a (S, kk) f (by rw [h2]; exact hk) (nf - f)).symm
            · rw [show f = nf by omega]
          by_cases hff : f < nf
          · have hb1 : (f : Int) < (nf : Int) := by omega
            have hb2 : ¬ (k2 : Int) < (M : Int) := by omega
            clear HR2
            go_wp2_with fail
            go_roundw
            case rel => exact ⟨j + 1, k2, by omega, by go_num, rfl, hk2, HE⟩
            case measure => simp [intOf]; omega
          · have hb1 : ¬ (f : Int) < (nf : Int) := by omega
            clear HR2
            go_wp2_with fail
            go_roundw
            case rel => exact ⟨j + 1, k2, by omega, by go_num, rfl, hk2, HE⟩
            case measure => simp [intOf]; omega
    · obtain rfl : j = n := by omega
      have hb : ¬ (j : Int) < (j : Int) := by omega
      have HE : Hid (∃ S, HpI W1 wr A c S p.2 ∧ S = (grP c p.1.objs fs p.1).1 ∧ GrK p.1 S) := by
        obtain ⟨S, hI, hS⟩ := HR.out
        have e : S = (grP c p.1.objs fs p.1).1 := by
          unfold grP
          rw [HA.out.1]
          have := congrArg Prod.fst hS
          rw [List.take_of_length_le (by rw [HA.out.2]; exact Nat.le_refl _)] at this
          exact this
        exact ⟨S, hI.hp, e, by rw [e]; exact grA_k (p.1.objs) fs (p.1.objs) (p.1, 0)⟩
      clear HR
      go_wp2
      go_ret
      obtain ⟨S, e1, e2, e3⟩ := HE.out
      exact ⟨A, rfl, W1, S, p.2, H2.out.1, e1, H2.out.2.2.1, z, n4, HC.out.2.2.1, HC.out.2.2.2.2.1, HC.out.2.2.2.1, by have h1 := e1.inv.len; have h2 := HC.out.2.2.1; omega, by rw [H2.out.2.2.2.1], by rw [H2.out.2.2.2.1]; exact e2⟩
end Go.Proofs.YtnobempbcdkoaaaGreatDoor
namespace Go.Proofs.YtnobempbcdkoaaaGreatDoor
open Go.RowKit

variable {w : World}
def awakeC16 : Cf := little ⟨0, 0, 0, 0, 0, 0, 0⟩
def awakeT16 : List (Int × Int × Bool) := [(1, 0, false), (1, 0, false)]
def awakeP16 : HS × (Nat → List Nat) := mdF awakeC16 1 (awakeT16.take 40) (newS0 16 0, fun _ => [])
def awakeS16 : HS := (grP awakeC16 awakeP16.1.objs [5, 0] awakeP16.1).1
theorem aw16_objs : awakeS16.objs = [1, 3] := by decide +kernel
theorem aw16_e1 : edT awakeS16 awakeC16 1 = [3] := by decide +kernel
theorem aw16_e3 : edT awakeS16 awakeC16 3 = [] := by decide +kernel
theorem aw16_r1 : rchL awakeS16 awakeC16 [1] = [1, 3] := by
  have h1 : Rch awakeS16 awakeC16 [1] 1 := .root (by simp) (mem_objs.1 (by rw [aw16_objs]; simp))
  have h3 : Rch awakeS16 awakeC16 [1] 3 := .step h1 (by rw [aw16_e1]; simp) (mem_objs.1 (by rw [aw16_objs]; simp))
  unfold rchL
  rw [aw16_objs]
  simp [rchB_iff.2 h1, rchB_iff.2 h3]
theorem aw16_r3 : (awakeS16.objs.filter fun x => !rchB awakeS16 awakeC16 [3] x) = [1] := by
  have key : ∀ x, Rch awakeS16 awakeC16 [3] x → x = 3 := fun x h => by
    induction h with
    | root h1 _ => simpa using h1
    | step _ h2 _ ih => rw [ih, aw16_e3] at h2; cases h2
  have h3 : Rch awakeS16 awakeC16 [3] 3 := .root (by simp) (mem_objs.1 (by rw [aw16_objs]; simp))
  have h1 : rchB awakeS16 awakeC16 [3] 1 = false := by
    cases h : rchB awakeS16 awakeC16 [3] 1 with
    | false => rfl
    | true => exact absurd (key 1 (rchB_iff.1 h)) (by decide)
  rw [aw16_objs]
  simp [rchB_iff.2 h3, h1]
theorem ints_new (w : World) (xs : List Int) (b : Nat) (n : Nat) (hn : xs.length = n) (h : w.heap[b]? = some (Obj.cells (xs.map (Value.int .i64)).toArray 3)) : IntsIn w (.slice (some ⟨b, 0, none⟩) n n) xs := by
  subst hn
  refine ⟨_, _, rfl, .inr ⟨b, 0, rfl, Nat.le_refl _, fun j hj => ?_⟩⟩
  simp [World.cell?, h, List.getD_eq_getElem?_getD, hj]
set_option maxRecDepth 10000 in
set_option maxHeartbeats 1000000 in
theorem law16_awake (w : World) (hL : Laid w) (hTab : Tab w) : Calls Tryz.prog 13 #[] w fun e w' => e = .returned (.bool true) ∧ Touch nob w w' := by
  have HL := Lib.hid (And.intro hL hTab)
  clear hL hTab
  obtain ⟨W, hW⟩ : ∃ W, W = (w.alloc (Obj.cells #[.int .u8 1, .int .u8 0, .bool false, .int .u8 1, .int .u8 0, .bool false] 90)).alloc (Obj.cells #[.int .u16 5, .int .u16 0] 91) := ⟨_, rfl⟩
  have hT : Touch nob w W := by rw [hW]; (repeat (first | with_reducible exact Touch.refl _ _ | with_reducible assumption | with_reducible apply Touch.alloc | with_reducible apply Touch.drewN | with_reducible apply Touch.drew | with_reducible refine Touch.setCell ?_ (.inr (by first | omega | (simp; done) | (simp; omega))) _))
  have hb : W.heap[w.heap.size]? = some (Obj.cells #[.int .u8 1, .int .u8 0, .bool false, .int .u8 1, .int .u8 0, .bool false] 90) := by rw [hW]; exact alloc2_0 w _ _
  have hb2 : W.heap[w.heap.size + 1]? = some (Obj.cells #[.int .u16 5, .int .u16 0] 91) := by rw [hW]; exact alloc2_1 w _ _
  have hth : ThIn W (.slice (some ⟨w.heap.size, 0, none⟩) 2 2) awakeT16 := by
    refine ⟨_, _, rfl, .inr ⟨w.heap.size, 0, rfl, Nat.le_refl _, fun k t hk => ?_⟩⟩
    have key : ∀ j, W.cell? ⟨w.heap.size, j, none⟩ = #[Value.int .u8 1, .int .u8 0, .bool false, .int .u8 1, .int .u8 0, .bool false][j]? := fun j => by simp [World.cell?, hb]
    rw [key, key, key]
    rcases k with _ | _ | k
    · cases hk
      exact ⟨by decide, rfl, rfl, rfl⟩
    · cases hk
      exact ⟨by decide, rfl, rfl, rfl⟩
    · simp [awakeT16] at hk
  have hfv : KIn .u16 W (.slice (some ⟨w.heap.size + 1, 0, none⟩) 2 2) [5, 0] := by
    refine ⟨_, _, rfl, .inr ⟨w.heap.size + 1, 0, rfl, Nat.le_refl _, fun j hj => ?_⟩⟩
    rcases j with _ | _ | j
    · simp [World.cell?, hb2]
    · simp [World.cell?, hb2]
    · exact absurd hj (by simp)
  have HB := Lib.hid (And.intro hT (And.intro hth hfv))
  clear hT hb hb2 hth hfv
  go_enter Tryz.func13, Tryz.ntmps13
  go_wp2_with (go_at_call 14; fail)
  rw [← hW]
  obtain ⟨b0, hb0⟩ : ∃ b, b = w.heap.size := ⟨_, rfl⟩
  rw [← hb0] at HB ⊢
  clear hW hb0
  refine (law16_Made ⟨0, 0, 0, 0, 0, 0, 0⟩ awakeC16 rfl _ awakeT16 _ [5, 0] (by intro j hj; rcases j with _ | _ | j; exact ⟨by decide, by decide⟩; exact ⟨by decide, by decide⟩; exact absurd hj (by simp)) (by decide) W (HL.out.1.old HB.out.1) (HL.out.2.touch HB.out.1 (fun x => x)) HB.out.2.1 HB.out.2.2).mono ?_
  rintro e w1 ⟨A, rfl, W1, S, H, t1, hp, hn, z, n4, hz, h4, _, _, rfl, rfl⟩
  have hn1 : A.L.n = 1 := by have : (A.L.n : Int) = 1 := hn; omega
  have hz1 : z = 16 := by have : (z : Int) = 16 := hz; omega
  have h41 : n4 = 0 := by have : (0 : Int) = n4 := h4; omega
  subst hz1 h41
  rw [hn1] at hp
  have hp : HpI W1 w1 A awakeC16 awakeS16 awakeP16.2 := hp
  have ht : Tab W1 := (HL.out.2.touch HB.out.1 (fun x => x)).touch t1 (fun x => x)
  have hw : Touch nob w W1 := HB.out.1.trans t1
  have H1 := Lib.hid (And.intro hp (And.intro ht hw))
  clear t1 hp hn hz h4 hn1 ht hw
  go_wp2_with (go_at_call 15; fail)
  refine (tr_Reach (rt := [1]) _ (H1.out.1.old ((Touch.refl nob _).alloc _)) H1.out.2.1 (ints_new _ [1] _ 1 rfl (World.alloc_heap_new _ _)) (by rw [aw16_objs]; decide)).mono ?_
  rintro e w2 ⟨v2, rfl, t2, h2, o2⟩
  rw [aw16_r1] at o2
  obtain ⟨ao2, cp2, e2⟩ := o2.ints.shape
  subst e2
  have H2 := Lib.hid (And.intro h2 o2.ints)
  clear t2 h2 o2
  go_wp2_with (go_at_call 18; fail)
  refine (ref01_Same _ _ [1, 3] _ (H2.out.2.old ((Touch.refl nob _).alloc _)) (ints_new _ [1, 3] _ 2 rfl (World.alloc_heap_new _ _)) (by decide)).mono ?_
  rintro e w3 ⟨rfl, t3⟩
  have H3 := Lib.hid (H2.out.1.old (((Touch.refl nob _).alloc _).trans t3))
  clear t3
  go_wp2_with (go_at_call 17; fail)
  refine (tr_Garbage (rt := [3]) _ (H3.out.old ((Touch.refl nob _).alloc _)) H1.out.2.1 (ints_new _ [3] _ 1 rfl (World.alloc_heap_new _ _)) (by rw [aw16_objs]; decide)).mono ?_
  rintro e w4 ⟨v4, rfl, t4, h4, o4⟩
  rw [aw16_r3] at o4
  obtain ⟨ao4, cp4, e4⟩ := o4.ints.shape
  subst e4
  have H4 := Lib.hid (And.intro h4 o4.ints)
  clear t4 h4 o4
  go_wp2_with (go_at_call 18; fail)
  refine (ref01_Same _ _ [1] _ (H4.out.2.old ((Touch.refl nob _).alloc _)) (ints_new _ [1] _ 1 rfl (World.alloc_heap_new _ _)) (by decide)).mono ?_
  rintro e w5 ⟨rfl, t5⟩
  have H5 := Lib.hid ((H1.out.2.2.trans H4.out.1.at'.base).trans (((Touch.refl nob _).alloc _).trans t5))
  clear t5
  go_wp2
  go_ret
  exact ⟨rfl, H5.out⟩
end Go.Proofs.YtnobempbcdkoaaaGreatDoor
