/- slices.DeleteFunc with a set's method, walked. Conditions: none beyond what each says. -/
import Derived.Test.YtnobempbcdkoaaaGreatDoorHpC
import Derived.Test.YtnobempbcdkoaaaGreatDoorSla
import Derived.Test.YtnobempbcdkoaaaGreatDoorRf1
import Derived.Lib.SliceRun
namespace Go.Proofs.YtnobempbcdkoaaaGreatDoor
open Go.RowKit
attribute [local go_sem] Oper.semAt_some

variable {w w' : World} {p : Int → Bool} {xs zs : List Int}
/-- Where the first one is that a function tells; or -1. -/
def idxP (p : Int → Bool) (xs : List Int) : Int := match xs.findIdx? p with | some i => (i : Int) | none => -1
theorem index_func (v : Value) (s : Nat) (h : IntsIn w v xs) (hl : xs.length ≤ 1048576)
    (hp : ∀ x, Calls Tryz.prog 55 #[.pointer (some ⟨s, 0, none⟩), .int .i64 x] w fun e w' => e = .returned (.bool (p x)) ∧ w = w') :
    Calls Tryz.prog 103 #[v, .func (.func 55) #[.pointer (some ⟨s, 0, none⟩)] #[]] w fun e w' => e = .returned (.int .i64 (idxP p xs)) ∧ w = w' := by
  obtain ⟨ao1, c1, rfl⟩ : ∃ ao cap, v = .slice ao xs.length cap := by obtain ⟨a, b, rfl, _⟩ := h; exact ⟨a, b, rfl⟩
  obtain ⟨m, hm⟩ : ∃ m, xs.length = m := ⟨_, rfl⟩
  have H := Lib.hid h
  have HP := Lib.hid hp
  rw [hm] at hl
  have HM := Lib.hid hm
  rw [hm]
  clear h hm hp
  go_enter Tryz.func103, Tryz.ntmps103
  go_wp2_with fail
  go_loopw [8] (fun i wr => ∃ k : Nat, k ≤ m ∧ i = .int .i64 k ∧ w = wr ∧ Hid (∀ y ∈ xs.take k, p y = false)) (fun i _ => m - (intOf i).toNat)
  case atStart => exact ⟨0, Nat.zero_le _, rfl, rfl, by show ∀ y ∈ _, _; simp⟩
  case round =>
    obtain ⟨k, hk, rfl, rfl, HN⟩ := hrel
    by_cases hlt : k < m
    · obtain ⟨b, o, cap, hv, hc, hx⟩ := H.out.at (k := k) (by rw [HM.out]; exact hlt)
      rw [HM.out] at hv hc
      injection hv with hv1 hv2 hv3
      subst hv1 hv3
      obtain ⟨x, hxe⟩ : ∃ x, xs.getD k 0 = x := ⟨_, rfl⟩
      rw [hxe] at hx
      have hkl : k < xs.length := by rw [HM.out]; exact hlt
      have HX : Hid (xs.take (k + 1) = xs.take k ++ [x] ∧ xs[k]? = some x) := by
        refine ⟨?_, ?_⟩
        · rw [List.take_add_one, ← hxe, List.getD_eq_getElem?_getD, List.getElem?_eq_getElem hkl]; rfl
        · rw [← hxe, List.getD_eq_getElem?_getD, List.getElem?_eq_getElem hkl]; rfl
      have hbk : (k : Int) < (m : Int) := by omega
      clear hv2 hxe hkl
      go_wp2_with (go_at_call 55; fail)
      refine (HP.out x).mono ?_
      rintro e w1 ⟨rfl, rfl⟩
      cases hpx : p x
      · go_wp2
        go_roundw
        case rel =>
          refine ⟨k + 1, by omega, by go_num, by first | rfl | trivial, ?_⟩
          show ∀ y ∈ _, _
          rw [HX.out.1]
          intro y hy
          rcases List.mem_append.1 hy with hy | hy
          · exact HN.out y hy
          · rw [List.mem_singleton.1 hy]; exact hpx
        case measure => simp [intOf]; omega
      · have HE : Hid (idxP p xs = k) := by
          show _ = _
          unfold idxP
          have : xs.findIdx? p = some k := by
            rw [List.findIdx?_eq_some_iff_getElem]
            have hk' : k < xs.length := by rw [HM.out]; exact hlt
            refine ⟨hk', ?_, fun j hj => ?_⟩
            · have := HX.out.2
              rw [List.getElem?_eq_getElem hk'] at this
              rw [Option.some.inj this]; exact hpx
            · have hj' : j < xs.length := by omega
              have := HN.out xs[j] (List.mem_take_iff_getElem.2 ⟨j, by omega, rfl⟩)
              simp [this]
          rw [this]
        go_wp2
        go_ret
        exact ⟨ret_i HE.out.symm, rfl⟩
    · obtain rfl : k = m := by omega
      have HE : Hid (idxP p xs = -1) := by
        show _ = _
        unfold idxP
        have : xs.findIdx? p = none := by
          rw [List.findIdx?_eq_none_iff]
          have := HN.out
          rwa [List.take_of_length_le (by rw [HM.out]; exact Nat.le_refl _)] at this
        rw [this]
      have hb : ¬ (k : Int) < (k : Int) := by omega
      go_wp2
      go_ret
      exact ⟨ret_i HE.out.symm, rfl⟩
theorem touch_setCells (b : Nat) : ∀ (vs : List Value) (o : Nat) (w : World), Touch (fun k => k = b) w (w.setCells b o vs)
  | [], _, _ => Touch.refl _ _
  | v :: vs, o, w => (touch_set w b o v).trans (touch_setCells b vs (o + 1) _)
theorem RowAt.setCells {g cap : Nat} {e : TypeId} {ys : List Value} : ∀ (vs : List Value) (o : Nat) {w : World}, RowAt w g e cap ys → ys.length ≤ o → RowAt (w.setCells g o vs) g e cap ys
  | [], _, _, h, _ => h
  | v :: vs, o, _, h, ho => by
    have h1 := RowAt.set h o v
    rw [List.set_eq_of_length_le (by omega)] at h1
    exact RowAt.setCells vs (o + 1) h1 (by omega)
theorem RowAt.pre {w : World} {g cap : Nat} {e : TypeId} {ys : List Value} (h : RowAt w g e cap ys) (k : Nat) : RowAt w g e cap (ys.take k) := by
  obtain ⟨cur, h1, h2, h3, h4⟩ := h
  refine ⟨cur, h1, h2, by rw [List.length_take]; omega, ?_⟩
  have := congrArg (List.take k) h4
  rw [List.take_take] at this
  rw [List.length_take, this]
/-- While what is struck is taken out. -/
structure DlI (p : Int → Bool) (xs : List Int) (w : World) (g cap i j : Nat) (zs : List Int) (wr : World) : Prop where
  lt : i < j
  le : j ≤ xs.length
  len : zs.length = xs.length
  pre : zs.take i = (xs.take j).filter fun x => !p x
  post : ∀ k, j ≤ k → zs.getD k 0 = xs.getD k 0
  row : RowAt wr g 3 cap (zs.map (.int .i64))
  t : Touch (fun k => k = g) w wr
theorem take_succ_getD {l : List Int} {k : Nat} (h : k < l.length) : l.take (k + 1) = l.take k ++ [l.getD k 0] := by
  rw [List.take_add_one, List.getD_eq_getElem?_getD, List.getElem?_eq_getElem h]; rfl
theorem DlI.skip {g cap i j : Nat} {wr : World} (h : DlI p xs w g cap i j zs wr) (hj : j < xs.length) (hp : p (xs.getD j 0) = true) : DlI p xs w g cap i (j + 1) zs wr :=
  ⟨by have := h.lt; omega, hj, h.len, by rw [take_succ_getD hj, List.filter_append, h.pre]; simp only [List.filter_cons, hp]; simp, fun k hk => h.post k (by omega), h.row, h.t⟩
theorem DlI.keep {g cap i j : Nat} {wr : World} (h : DlI p xs w g cap i j zs wr) (hj : j < xs.length) (hp : p (xs.getD j 0) = false) : DlI p xs w g cap (i + 1) (j + 1) (zs.set i (xs.getD j 0)) (wr.setCell ⟨g, i, none⟩ (.int .i64 (xs.getD j 0))) := by
  have h1 := h.lt
  have h2 := h.len
  refine ⟨by omega, hj, by rw [List.length_set]; exact h.len, ?_, fun k hk => ?_, ?_, h.t.trans (touch_set _ _ _ _)⟩
  · rw [take_succ_getD (by rw [List.length_set]; omega), List.take_set_of_le (Nat.le_refl _), h.pre, take_succ_getD hj, List.filter_append]
    congr 1
    rw [getD_set_eq (by omega)]
    simp only [List.filter_cons, hp]
    rfl
  · rw [getD_set_ne (by omega)]
    exact h.post k (by omega)
  · rw [List.map_set]
    exact h.row.set _ _
theorem DlI.done {g cap i : Nat} {wr : World} (h : DlI p xs w g cap i xs.length zs wr) : zs.take i = xs.filter fun x => !p x := by
  have := h.pre
  rwa [List.take_length] at this
theorem DlI.start {g cap i : Nat} (h : RowAt w g 3 cap (xs.map (.int .i64))) (hi : idxP p xs = i) : i < xs.length ∧ DlI p xs w g cap i (i + 1) xs w := by
  unfold idxP at hi
  cases hf : xs.findIdx? p with
  | none => rw [hf] at hi; simp at hi
  | some k =>
    rw [hf] at hi
    obtain rfl : k = i := Int.ofNat.inj hi
    rw [List.findIdx?_eq_some_iff_getElem] at hf
    obtain ⟨hk, h1, h2⟩ := hf
    refine ⟨hk, by omega, hk, rfl, ?_, fun _ _ => rfl, h, Touch.refl _ _⟩
    rw [take_succ_getD hk, List.filter_append]
    have e1 : xs.getD k 0 = xs[k] := by simp [List.getD_eq_getElem?_getD, hk]
    rw [List.filter_eq_self.2, e1]
    · simp only [List.filter_cons, h1]
      simp
    · intro a ha
      obtain ⟨j, hj, rfl⟩ := List.mem_take_iff_getElem.1 ha
      have := h2 j (by omega)
      simpa using this
theorem idxP_none (h : idxP p xs = -1) : xs.filter (fun x => !p x) = xs := by
  unfold idxP at h
  cases hf : xs.findIdx? p with
  | none =>
    rw [List.findIdx?_eq_none_iff] at hf
    exact List.filter_eq_self.2 (fun a ha => by simp [hf a ha])
  | some k => rw [hf] at h; have h : (k : Int) = -1 := h; omega
theorem idxP_cases (p : Int → Bool) (xs : List Int) : idxP p xs = -1 ∨ ∃ i : Nat, idxP p xs = i := by
  unfold idxP
  cases xs.findIdx? p with
  | none => exact .inl rfl
  | some k => exact .inr ⟨k, rfl⟩
theorem zero_int : ∀ w, (zeroValue 3).run Tryz.prog w = .ok (.int .i64 0) w := fun _ => by kernel_rfl
set_option maxHeartbeats 1000000 in
theorem delete_func (B : Nat) (v : Value) (s : Nat) (h : Ow w B v xs) (hl : xs.length ≤ 1048576)
    (hp : ∀ W, Touch (fun k => v.ownBlock = some k) w W → ∀ x, Calls Tryz.prog 55 #[.pointer (some ⟨s, 0, none⟩), .int .i64 x] W fun e w' => e = .returned (.bool (p x)) ∧ W = w') :
    Calls Tryz.prog 54 #[v, .func (.func 55) #[.pointer (some ⟨s, 0, none⟩)] #[]] w fun e w' => ∃ v', e = .returned v' ∧ Touch (fun k => v.ownBlock = some k) w w' ∧ Ow w' B v' (xs.filter fun x => !p x) := by
  have HI := Lib.hid (index_func v s h.ints hl (hp w (Touch.refl _ _)))
  rcases idxP_cases p xs with hi | ⟨i, hi⟩
  · obtain ⟨ao, cap, rfl⟩ := h.ints.shape
    rw [hi] at HI
    have HO : Hid (Ow w B (.slice ao xs.length cap) (xs.filter fun x => !p x)) := by show Ow _ _ _ _; rw [idxP_none hi]; exact h
    clear h hp hi
    go_enter Tryz.func54, Tryz.ntmps54
    go_wp2_with (go_at_call 103; fail)
    refine HI.out.mono ?_
    rintro e w1 ⟨rfl, rfl⟩
    go_wp2
    go_ret
    exact ⟨_, rfl, Touch.refl _ _, HO.out⟩
  · rw [hi] at HI
    have hx : 0 < xs.length := by
      cases xs with
      | nil => unfold idxP at hi; simp at hi
      | cons => simp
    obtain ⟨g, cap, rfl, hg, hR, _, hcap⟩ := RowAt.of_owns_some h hx
    obtain ⟨hin, hst⟩ := DlI.start hR hi
    obtain ⟨n, hn⟩ : ∃ n, xs.length = n := ⟨_, rfl⟩
    have HS := Lib.hid hst
    have HP := Lib.hid hp
    have HN := Lib.hid (And.intro hn (And.intro hg hcap))
    have hin' : i + 1 ≤ n := by omega
    have hne : ((i : Int) == -1) = false := beq_eq_false_iff_ne.2 (by omega)
    rw [hn] at hl ⊢
    clear h hp hi hR hst hin hx hcap
    go_enter Tryz.func54, Tryz.ntmps54
    go_wp2_with (go_at_call 103; fail)
    rw [hn] at HI
    refine HI.out.mono ?_
    rintro e w1 ⟨rfl, rfl⟩
    clear HI hn
    go_wp2_with fail
    go_loopg [5, 6, 7] n (fun gg s5 s6 _ wr => ∃ (i j : Nat) (zs : List Int), s5 = .int .i64 i ∧ s6 = .int .i64 j ∧ i < j ∧ j ≤ n ∧ n - j ≤ gg ∧ Hid (DlI p xs w g cap i j zs wr))
    case atStart => exact ⟨i, i + 1, xs, rfl, by go_num, by omega, by omega, by omega, HS⟩
    case round =>
      obtain ⟨i, j, zs, rfl, rfl, hij, hjn, hgg, HD⟩ := hrel
      by_cases hlt : j < n
      · have hltz : (j : Int) < (n : Int) := by omega
        have hzl : zs.length = n := HD.out.len.trans HN.out.1
        have hcell := HD.out.row.cell (j := j) (by rw [List.length_map]; omega)
        obtain ⟨x, hxx⟩ : ∃ x, xs.getD j 0 = x := ⟨_, rfl⟩
        rw [List.getElem_map, show zs[j]'(by omega) = x by
          have := HD.out.post j (Nat.le_refl _)
          rw [hxx] at this
          rw [← this]; simp [List.getD_eq_getElem?_getD, show j < zs.length by omega]] at hcell
        obtain ⟨old, hci⟩ : ∃ old, wr.cell? ⟨g, i, none⟩ = some old := ⟨_, HD.out.row.cell (j := i) (by rw [List.length_map]; omega)⟩
        have hfi := HD.out.row.free i
        have hcall := HP.out wr (HD.out.t.mono fun b _ e => by rw [e]; rfl) x
        have HX := Lib.hid hxx
        have hjc : j < cap := by
          obtain ⟨_, _, _, h3, _⟩ := HD.out.row
          rw [List.length_map] at h3
          omega
        clear hxx hzl
        cases hq : p x with
        | true =>
          rw [hq] at hcall
          go_wp2_with (go_at_call 55; refine hcall.mono ?_; rintro e w' ⟨rfl, rfl⟩)
          go_roundg (n - (j + 1))
          case measure => omega
          case rel => exact ⟨i, j + 1, zs, rfl, by go_num, by omega, by omega, Nat.le_refl _, HD.out.skip (by rw [HN.out.1]; exact hlt) (by rw [HX.out]; exact hq)⟩
        | false =>
          rw [hq] at hcall
          go_wp2_with (go_at_call 55; refine hcall.mono ?_; rintro e w' ⟨rfl, rfl⟩)
          go_roundg (n - (j + 1))
          case measure => omega
          case rel =>
            have hk := HD.out.keep (by rw [HN.out.1]; exact hlt) (by rw [HX.out]; exact hq)
            rw [HX.out] at hk
            exact ⟨i + 1, j + 1, _, by go_num, by go_num, by omega, by omega, Nat.le_refl _, hk⟩
      · obtain rfl : j = n := by omega
        have hltz : ¬ (j : Int) < (j : Int) := by omega
        have hzl : zs.length = j := HD.out.len.trans HN.out.1
        have hcl : ∀ ty, (Builtin.clear_ #[28] ty #[.slice (some ⟨g, i, none⟩) (j - i) (cap - i)]).run Tryz.prog wr = .ok (.tuple #[]) (wr.setCells g i (List.replicate (j - i) (.int .i64 0))) :=
          fun ty => Lib.run_clear_slice wr _ _ ty _ Tryz.underlying28 zero_int rfl rfl g i _ _ (by omega) (fun t ht => by rw [HD.out.row.cell (j := i + t) (by rw [List.length_map]; omega)]; rfl) (fun t ht => HD.out.row.free _)
        have hic : j ≤ cap := by
          obtain ⟨_, _, _, h3, _⟩ := HD.out.row
          rw [List.length_map] at h3
          omega
        clear hzl
        go_wp2
        go_ret
        have hd := HD.out
        have hr := (hd.row.pre i).setCells (List.replicate (j - i) (.int .i64 0)) i (by rw [List.length_take]; omega)
        rw [← List.map_take] at hr
        have he := (show DlI p xs w g cap i xs.length zs wr by rw [HN.out.1]; exact hd).done
        rw [he] at hr
        have hlen : (xs.filter fun x => !p x).length = i := by rw [← he, List.length_take, hd.len, HN.out.1]; omega
        refine ⟨.slice (some ⟨g, 0, none⟩) i cap, rfl, (hd.t.trans (touch_setCells _ _ _ _)).mono (fun b _ e => by rw [e]; rfl), ?_⟩
        obtain ⟨cur, r1, r2, r3, r4⟩ := hr
        refine ⟨by simp, .inr ⟨g, cap, cur, by rw [hlen], HN.out.2.1, r1, by rw [List.length_map, hlen] at r3; rw [hlen]; omega, HN.out.2.2, by rw [r2]; omega, ?_⟩⟩
        rw [List.length_map] at r4
        simpa using r4
end Go.Proofs.YtnobempbcdkoaaaGreatDoor
