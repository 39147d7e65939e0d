/- The document's heap: what it holds, where it lies. Conditions: none. The document's heap: where a slot is, walked. Conditions: none. The document's heap: Put, walked. Conditions: none beyond what each says. The document's heap: Take, walked. Conditions: none beyond what each says. The document's heap: Bear, Color, Paint, walked. Conditions: none beyond what each says. The document's heap: Color, Paint, object, Fields, Load, walked. Conditions: none beyond what each says. The document's heap: Fields, Load, Begin, walked. Conditions: none beyond what each says. The document's heap: Begin, walked. Conditions: none beyond what each says. -/
import Derived.Test.YtnobempbcdkoaaaGreatDoorApp
import Derived.Test.YtnobempbcdkoaaaGreatDoorSla
import Derived.Test.YtnobempbcdkoaaaGreatDoorBlk
import Derived.Deep.AppendLies
import Derived.BigRegion
import Derived.Laws.OwnMore
namespace Go.Proofs.YtnobempbcdkoaaaGreatDoor
open Go.RowKit

/-- A slot of the document's; v: where its fields lie. -/
structure Rs where
  a : Int
  k : Int
  is : Int
  col : Int
  bg : Bool
  f : List Int
  v : Value
def Rs.row (s : Rs) : List Value := [.int .i64 s.a, .int .i64 s.k, .int .i64 s.is, .int .i64 s.col, .bool s.bg, s.v]
def rowsL (L : List Rs) : List Value := L.flatMap Rs.row
structure Rh where
  u : Int
  L : List Rs
  F : Nat → List Int
  x : List Int
theorem rowsL_len (L : List Rs) : (rowsL L).length = L.length * 6 := by
  induction L with
  | nil => rfl
  | cons s L ih => show (s.row ++ rowsL L).length = _; rw [List.length_append, ih]; show 6 + _ = (_ + 1) * 6; omega
theorem rowsL_get : ∀ (L : List Rs) (i j : Nat) (s : Rs), L[i]? = some s → j < 6 → (rowsL L)[i * 6 + j]? = s.row[j]?
  | [], i, j, s, h, _ => by simp at h
  | t :: L, 0, j, s, h, hj => by
    simp at h
    subst h
    show (t.row ++ rowsL L)[0 * 6 + j]? = _
    rw [List.getElem?_append_left (by show 0 * 6 + j < 6; omega)]
    congr 1
    omega
  | t :: L, i + 1, j, s, h, hj => by
    show (t.row ++ rowsL L)[(i + 1) * 6 + j]? = _
    have hl : t.row.length = 6 := rfl
    rw [List.getElem?_append_right (by omega), hl, show (i + 1) * 6 + j - 6 = i * 6 + j by omega]
    exact rowsL_get L i j s (by simpa using h) hj
theorem rowsL_set : ∀ (L : List Rs) (i j : Nat) (s : Rs) (u : Value) (s' : Rs), L[i]? = some s → j < 6 → s'.row = s.row.set j u → (rowsL L).set (i * 6 + j) u = rowsL (L.set i s')
  | [], i, j, s, u, s', h, _, _ => by simp at h
  | t :: L, 0, j, s, u, s', h, hj, hs => by
    simp at h
    subst h
    show (t.row ++ rowsL L).set (0 * 6 + j) u = s'.row ++ rowsL L
    rw [List.set_append_left _ _ (by show 0 * 6 + j < 6; omega), hs]
    congr 2
    omega
  | t :: L, i + 1, j, s, u, s', h, hj, hs => by
    have hl : t.row.length = 6 := rfl
    show (t.row ++ rowsL L).set ((i + 1) * 6 + j) u = t.row ++ rowsL (L.set i s')
    rw [List.set_append_right _ _ (by omega), hl, show (i + 1) * 6 + j - 6 = i * 6 + j by omega]
    rw [rowsL_set L i j s u s' (by simpa using h) hj hs]
theorem rowsL_snoc (L : List Rs) (s : Rs) : rowsL (L ++ [s]) = rowsL L ++ s.row := by
  unfold rowsL
  rw [List.flatMap_append]
  simp
/-- Where the document's heap lies, all told: O: its blocks. -/
structure RfB (w : World) (O : Nat → Prop) (m qx : Nat) (c : Cf) (R : Rh) (sv : Value) (v : Nat → Value) (cx : Nat) : Prop where
  box : w.heap[m]? = some (.cells #[.int .i64 c.c0, .int .i64 c.c1, .int .i64 c.c2, .int .i64 c.c3, .int .i64 c.c4, .int .i64 c.c5, .int .i64 c.c6, .int .i64 R.u, sv, v 0, v 1, v 2, v 3, .slice (some ⟨qx, 0, none⟩) R.x.length cx] 181)
  xs : RowAt w qx 3 cx (R.x.map (.int .i64))
  row : w.ownsRow 0 186 6 sv R.L.length (rowsL R.L)
  ff : ∀ k, k < 4 → SlAt w (v k) (R.F k)
  fs : ∀ s ∈ R.L, SlAt w s.v s.f
  om : O m
  ox : O qx
  os : ∀ b, sv.ownBlock = some b → O b
  of : ∀ k, k < 4 → ∀ b, (v k).ownBlock = some b → O b ∧ b ≠ qx
  og : ∀ s ∈ R.L, ∀ b, s.v.ownBlock = some b → O b ∧ b ≠ qx
  lt : ∀ b, O b → b < w.heap.size
def RfAt (w : World) (O : Nat → Prop) (m qx : Nat) (c : Cf) (R : Rh) : Prop := ∃ sv v cx, RfB w O m qx c R sv v cx
variable {w w' : World} {O T : Nat → Prop} {m qx : Nat} {c : Cf} {R : Rh} {sv : Value} {v : Nat → Value} {cx : Nat}
theorem owns_touch {e : TypeId} {base size n : Nat} {v : Value} {xs : List Value} (h : w.ownsRow base e size v n xs) (ht : Touch T w w') (hs : ∀ b, v.ownBlock = some b → ¬ T b) : w'.ownsRow base e size v n xs := by
  obtain ⟨h1, h2 | ⟨g, cap, cur, rfl, hg, hh, h3⟩⟩ := h
  · exact ⟨h1, .inl h2⟩
  · exact ⟨h1, .inr ⟨g, cap, cur, rfl, hg, blk_touch hh ht (hs g rfl), h3⟩⟩
theorem RfB.touch (h : RfB w O m qx c R sv v cx) (ht : Touch T w w') (hn : ∀ b, O b → ¬ T b) : RfB w' O m qx c R sv v cx :=
  ⟨blk_touch h.box ht (hn _ h.om), h.xs.touch ht (hn _ h.ox), owns_touch h.row ht (fun b hb => hn b (h.os b hb)),
    fun k hk => (h.ff k hk).touch ht (fun b hb => hn b (h.of k hk b hb).1),
    fun s hs => (h.fs s hs).touch ht (fun b hb => hn b (h.og s hs b hb).1), h.om, h.ox, h.os, h.of, h.og, fun b hb => Nat.lt_of_lt_of_le (h.lt b hb) ht.size⟩
theorem RfAt.touch (h : RfAt w O m qx c R) (ht : Touch T w w') (hn : ∀ b, O b → ¬ T b) : RfAt w' O m qx c R := by
  obtain ⟨sv, v, cx, h⟩ := h
  exact ⟨sv, v, cx, h.touch ht hn⟩
theorem RfAt.old (h : RfAt w O m qx c R) (ht : Touch nob w w') : RfAt w' O m qx c R := h.touch ht (fun _ _ x => x)
/-- A slot's cells. -/
theorem RfB.slot (h : RfB w O m qx c R sv v cx) (i : Nat) (s : Rs) (hi : R.L[i]? = some s) : ∃ g cap, sv = .slice (some ⟨g, 0, none⟩) R.L.length cap ∧ O g ∧ g ≠ m ∧ R.L.length ≤ cap ∧ i < R.L.length ∧
    w.cell? ⟨g, i * 6, none⟩ = some (.int .i64 s.a) ∧ w.cell? ⟨g, i * 6 + 1, none⟩ = some (.int .i64 s.k) ∧ w.cell? ⟨g, i * 6 + 2, none⟩ = some (.int .i64 s.is) ∧ w.cell? ⟨g, i * 6 + 3, none⟩ = some (.int .i64 s.col) ∧ w.cell? ⟨g, i * 6 + 4, none⟩ = some (.bool s.bg) ∧ w.cell? ⟨g, i * 6 + 5, none⟩ = some s.v ∧
    w.frozen? ⟨g, i * 6 + 2, none⟩ = false ∧ w.frozen? ⟨g, i * 6 + 3, none⟩ = false ∧ w.frozen? ⟨g, i * 6 + 4, none⟩ = false ∧ w.frozen? ⟨g, i * 6 + 5, none⟩ = false := by
  have hil := (List.getElem?_eq_some_iff.1 hi).1
  obtain ⟨h1, h2 | ⟨g, cap, cur, e, hg, hh, h3, h4, h5, h6⟩⟩ := h.row
  · omega
  have key : ∀ j, j < 6 → w.cell? ⟨g, i * 6 + j, none⟩ = s.row[j]? := fun j hj => by
    rw [← rowsL_get R.L i j s hi hj, ← h6, List.getElem?_take, if_pos (by omega)]
    simp [World.cell?, hh]
  have fz : ∀ j, w.frozen? ⟨g, j, none⟩ = false := fun j => by simp [World.frozen?, hh]
  refine ⟨g, cap, e, h.os g (by rw [e]; rfl), ?_, h3, hil, key 0 (by omega), key 1 (by omega), key 2 (by omega), key 3 (by omega), key 4 (by omega), key 5 (by omega), fz _, fz _, fz _, fz _⟩
  rintro rfl
  have := h.box.symm.trans hh
  simp at this
def Rh.setS (R : Rh) (i : Nat) (s : Rs) : Rh := { R with L := R.L.set i s }
theorem setS_setS (R : Rh) (i : Nat) (s s' : Rs) : (R.setS i s).setS i s' = R.setS i s' := by
  unfold Rh.setS
  simp only [List.set_set]
/-- A slot's cell is laid. -/
theorem RfB.set {g n cap i j : Nat} {s s' : Rs} {u : Value} (h : RfB w O m qx c R (.slice (some ⟨g, 0, none⟩) n cap) v cx) (hi : R.L[i]? = some s) (hj : j < 6) (hs : s'.row = s.row.set j u) (hf : SlAt w s'.v s'.f) (ho : ∀ b, s'.v.ownBlock = some b → O b ∧ b ≠ qx) {o : Nat} (he : o = i * 6 + j) :
    RfB (w.setCell ⟨g, o, none⟩ u) O m qx c (R.setS i s') (.slice (some ⟨g, 0, none⟩) n cap) v cx := by
  subst he
  obtain ⟨h1, ⟨h2, _⟩ | ⟨g', cap', cur, e, hg, hh, h3, h4, h5, h6⟩⟩ := h.row
  · cases h2
  cases e
  have ht : 186 ≠ 3 := by decide
  have hs2 : ∀ {v : Value} {xs : List Int}, SlAt w v xs → SlAt (w.setCell ⟨g, i * 6 + j, none⟩ u) v xs := fun hv => hv.set hh ht _ _
  have n1 : m ≠ g := by rintro rfl; have := h.box.symm.trans hh; simp at this
  have n2 : qx ≠ g := by
    rintro rfl
    obtain ⟨cur', hx, _⟩ := h.xs
    have := hx.symm.trans hh
    simp at this
  refine ⟨(set_other u n1).trans h.box, h.xs.other n2 _ _, ⟨?_, .inr ⟨g, cap, _, ?_, hg, set_cells _ u hh, ?_, h4, by simpa using h5, ?_⟩⟩, fun k hk => hs2 (h.ff k hk), fun t ht => ?_, h.om, h.ox, h.os, h.of, fun t ht b hb => ?_, fun b hb => by simpa [World.setCell] using h.lt b hb⟩
  · rw [rowsL_len]
  · show _ = Value.slice _ (R.L.set i s').length _
    rw [List.length_set]
  · show (R.L.set i s').length ≤ _
    rw [List.length_set]; exact h3
  · show _ = rowsL (R.L.set i s')
    show List.take ((R.L.set i s').length * 6) _ = _
    rw [List.length_set, Array.toList_setIfInBounds, List.take_set, h6]
    exact rowsL_set _ _ _ _ _ _ hi hj hs
  · rcases List.mem_or_eq_of_mem_set ht with ht | rfl
    · exact hs2 (h.fs t ht)
    · exact hs2 hf
  · rcases List.mem_or_eq_of_mem_set ht with ht | rfl
    · exact h.og t ht b hb
    · exact ho b hb
/-- What a slot is, and whether it is begun, is laid. -/
theorem RfB.mark {g n cap i : Nat} {s : Rs} (h : RfB w O m qx c R (.slice (some ⟨g, 0, none⟩) n cap) v cx) (hi : R.L[i]? = some s) (x : Int) (y : Bool) :
    RfB ((w.setCell ⟨g, i * 6 + 2, none⟩ (.int .i64 x)).setCell ⟨g, i * 6 + 4, none⟩ (.bool y)) O m qx c (R.setS i { s with is := x, bg := y }) (.slice (some ⟨g, 0, none⟩) n cap) v cx := by
  have hil := (List.getElem?_eq_some_iff.1 hi).1
  have h1 := h.set (s' := { s with is := x }) (u := .int .i64 x) (j := 2) hi (by omega) rfl (h.fs s (List.mem_of_getElem? hi)) (h.og s (List.mem_of_getElem? hi)) rfl
  have hi2 : (R.setS i { s with is := x }).L[i]? = some { s with is := x } := List.getElem?_set_self hil
  have h2 := h1.set (i := i) (s := { s with is := x }) (s' := { s with is := x, bg := y }) (u := .bool y) (j := 4) hi2 (by omega) rfl (h1.fs { s with is := x } (List.mem_of_getElem? hi2)) (h1.og { s with is := x } (List.mem_of_getElem? hi2)) rfl
  rwa [setS_setS] at h2
theorem mark_touch (w : World) (g i j : Nat) (u u' : Value) : Touch (fun b => b = g) w ((w.setCell ⟨g, i, none⟩ u).setCell ⟨g, j, none⟩ u') := (touch_set _ _ _ _).trans (touch_set _ _ _ _)
/-- Which slot has an address. -/
def posA (L : List Rs) (a : Int) : Nat := L.findIdx fun s => s.a == a
def atV (L : List Rs) (a : Int) : Int := if posA L a < L.length then posA L a else -1
def isV (L : List Rs) (a : Int) : Int := match L[posA L a]? with | some s => s.is | none => -1
theorem posA_le (L : List Rs) (a : Int) : posA L a ≤ L.length := List.findIdx_le_length
theorem posA_eq {L : List Rs} {a : Int} {i : Nat} {s : Rs} (hi : L[i]? = some s) (ha : s.a = a) (hn : ∀ j, j < i → ∀ t, L[j]? = some t → t.a ≠ a) : posA L a = i := by
  obtain ⟨hl, e⟩ := List.getElem?_eq_some_iff.1 hi
  refine (List.findIdx_eq hl).2 ⟨by rw [e]; simpa using ha, fun j hj => ?_⟩
  simpa using hn j hj _ (List.getElem?_eq_getElem (by omega))
theorem posA_no {L : List Rs} {a : Int} (hn : ∀ j, j < L.length → ∀ t, L[j]? = some t → t.a ≠ a) : posA L a = L.length := by
  refine List.findIdx_eq_length.2 fun s hs => ?_
  obtain ⟨j, hj, rfl⟩ := List.mem_iff_getElem.1 hs
  simpa using hn j hj _ (List.getElem?_eq_getElem hj)
end Go.Proofs.YtnobempbcdkoaaaGreatDoor
namespace Go.Proofs.YtnobempbcdkoaaaGreatDoor
open Go.RowKit

variable {w w' : World} {O T : Nat → Prop} {m qx : Nat} {c : Cf} {R : Rh}
theorem rf_At (a : Int) (h : RfAt w O m qx c R) (hl : R.L.length ≤ 4096) :
    Calls Tryz.prog 134 #[.pointer (some ⟨m, 0, none⟩), .int .i64 a] w fun e w' => e = .returned (.int .i64 (atV R.L a)) ∧ w = w' := by
  obtain ⟨sv, v, cx, hb⟩ := h
  obtain ⟨n, hn⟩ : ∃ n, R.L.length = n := ⟨_, rfl⟩
  obtain ⟨so, sc, rfl⟩ : ∃ so sc, sv = .slice so n sc := by
    obtain ⟨_, ⟨rfl, h2⟩ | ⟨g, cap, cur, rfl, _⟩⟩ := hb.row
    · exact ⟨none, 0, by rw [← hn, h2]⟩
    · exact ⟨_, _, by rw [← hn]⟩
  have d2 : w.cell? ⟨m, 8, none⟩ = some (.slice so n sc) := by simp [World.cell?, hb.box]
  have H := Lib.hid (And.intro hb hn)
  rw [hn] at hl
  clear hb hn
  go_enter Tryz.func134, Tryz.ntmps134
  go_wp2_with fail
  go_loopw [5] (fun i wr => w = wr ∧ ∃ k : Nat, k ≤ n ∧ i = .int .i64 k ∧ Hid (∀ j, j < k → ∀ t, R.L[j]? = some t → t.a ≠ a)) (fun i _ => n - (intOf i).toNat)
  case atStart => exact ⟨rfl, 0, Nat.zero_le _, rfl, Lib.hid fun j hj => by omega⟩
  case round =>
    obtain ⟨rfl, k, hk, rfl, HN⟩ := hrel
    by_cases hlt : k < n
    · obtain ⟨s, hs⟩ : ∃ s, R.L[k]? = some s := ⟨_, List.getElem?_eq_getElem (by rw [H.out.2]; exact hlt)⟩
      obtain ⟨g, cap, he, -, -, hcap, -, e0, -⟩ := H.out.1.slot k s hs
      have H2 := H.out.2
      rw [H2] at he hcap
      injection he with he1 he2 he3
      subst he1 he3
      have hbk : (k : Int) < (n : Int) := by omega
      have HS := Lib.hid hs
      clear hs H2 he2
      by_cases hx : s.a = a
      · have hp : Hid (atV R.L a = k) := by
          show _ = _
          unfold atV
          rw [posA_eq HS.out hx HN.out, if_pos (by rw [H.out.2]; exact hlt)]
        have hxb : (s.a == a) = true := by simpa using hx
        go_wp2
        go_ret
        exact ⟨ret_i hp.out.symm, rfl⟩
      · have hxb : (s.a == a) = false := by simpa using hx
        go_wp2
        go_roundw
        case rel =>
          refine ⟨trivial, k + 1, by omega, by go_num, Lib.hid fun j hj t ht => ?_⟩
          by_cases e : j = k
          · subst e
            rw [HS.out] at ht
            cases ht
            exact hx
          · exact HN.out j (by omega) t ht
        case measure => simp [intOf]; omega
    · obtain rfl : k = n := by omega
      have hp : Hid (atV R.L a = -1) := by
        show _ = _
        unfold atV
        rw [posA_no (fun j hj => HN.out j (by rw [← H.out.2]; exact hj)), if_neg (Nat.lt_irrefl _)]
      go_wp2
      go_ret
      exact ⟨ret_i hp.out.symm, rfl⟩
theorem rf_is (a : Int) (h : RfAt w O m qx c R) (hl : R.L.length ≤ 4096) :
    Calls Tryz.prog 133 #[.pointer (some ⟨m, 0, none⟩), .int .i64 a] w fun e w' => e = .returned (.int .i64 (isV R.L a)) ∧ w = w' := by
  have H := Lib.hid h
  obtain ⟨sv, v, cx, hb⟩ := h
  cases hs : R.L[posA R.L a]? with
  | none =>
    have hv : isV R.L a = -1 := by unfold isV; rw [hs]
    have ha : atV R.L a = -1 := by
      have := List.getElem?_eq_none_iff.1 hs
      unfold atV
      rw [if_neg (by omega)]
    have HA := Lib.hid ha
    rw [hv]
    clear hs hb ha hv
    go_enter Tryz.func133, Tryz.ntmps133
    go_wp2_with (go_at_call 134; fail)
    refine (rf_At a H.out hl).mono ?_
    rintro e w2 ⟨rfl, rfl⟩
    rw [HA.out]
    go_wp2
    go_ret
    exact ⟨rfl, rfl⟩
  | some s =>
    have hv : isV R.L a = s.is := by unfold isV; rw [hs]
    obtain ⟨i, hi⟩ : ∃ i, posA R.L a = i := ⟨_, rfl⟩
    rw [hi] at hs
    obtain ⟨g, cap, rfl, -, -, hcap, hil, -, -, e2, -⟩ := hb.slot i s hs
    have ha : atV R.L a = i := by
      unfold atV
      rw [hi, if_pos hil]
    have d2 : w.cell? ⟨m, 8, none⟩ = some (.slice (some ⟨g, 0, none⟩) R.L.length cap) := by simp [World.cell?, hb.box]
    obtain ⟨n, hn⟩ : ∃ n, R.L.length = n := ⟨_, rfl⟩
    rw [hn] at d2 hcap hil
    have HA := Lib.hid (And.intro ha hl)
    rw [hv]
    rw [hn] at hl
    clear hs hb ha hv hi hn
    have hb0 : (i : Int) < (n : Int) := by omega
    go_enter Tryz.func133, Tryz.ntmps133
    go_wp2_with (go_at_call 134; fail)
    refine (rf_At a H.out HA.out.2).mono ?_
    rintro e w2 ⟨rfl, rfl⟩
    rw [HA.out.1]
    go_wp2
    go_ret
    exact ⟨rfl, rfl⟩
end Go.Proofs.YtnobempbcdkoaaaGreatDoor
namespace Go.Proofs.YtnobempbcdkoaaaGreatDoor
open Go.RowKit

/-- append of a slice to a row of one. -/
theorem sl_prepend {w : World} {ao : Option Addr} {cap n : Nat} {ys : List Int} (h : SlAt w (.slice ao n cap) ys) (x : Int) (hl : n ≤ 4096) :
    ∃ g' cap' w3, (Appd #[28, 28] 28 #[.slice (some ⟨w.heap.size, 0, none⟩) 1 1, .slice ao n cap]).run Tryz.prog (w.alloc (Obj.cells #[.int .i64 x] 3)).drew = .ok (.slice (some ⟨g', 0, none⟩) (1 + n) cap') w3 ∧
      Hid (Touch nob w w3 ∧ SlAt w3 (.slice (some ⟨g', 0, none⟩) (1 + n) cap') (x :: ys) ∧ w.heap.size ≤ g') := by
  obtain ⟨i0, hi, hz0, hz1, hz2⟩ := info_parts info_int2
  have hn : n = ys.length := by
    obtain ⟨_, _, e, _⟩ := h.len
    injection e
  subst hn
  have hrow : (w.alloc (Obj.cells #[.int .i64 x] 3)).drew.ownsRow w.heap.size 3 1 (.slice (some ⟨w.heap.size, 0, none⟩) 1 1) 1 [.int .i64 x] :=
    ⟨rfl, .inr ⟨w.heap.size, 1, _, rfl, Nat.le_refl _, World.alloc_heap_new w _, Nat.le_refl _, by unfold maxLen; omega, rfl, rfl⟩⟩
  have fin : ∀ (v1 : Value) (w3 : World), w3.ownsRow w.heap.size 3 1 v1 (1 + ys.length) ([.int .i64 x] ++ ys.map (.int .i64)) → (w.alloc (Obj.cells #[.int .i64 x] 3)).drew.grownBy w3 (some w.heap.size) →
      ∃ g' cap', v1 = .slice (some ⟨g', 0, none⟩) (1 + ys.length) cap' ∧ Hid (Touch nob w w3 ∧ SlAt w3 (.slice (some ⟨g', 0, none⟩) (1 + ys.length) cap') (x :: ys) ∧ w.heap.size ≤ g') := by
    intro v1 w3 hown hgrow
    obtain ⟨g, c, rfl, hb, _, _, _⟩ := RowAt.of_owns_some hown (by omega)
    refine ⟨g, c, rfl, Touch.grown ((Touch.refl nob w).alloc _).drew hgrow (fun k h => by cases h; exact .inr (Nat.le_refl _)), ?_, hb⟩
    exact SlAt.of_owns (xs := x :: ys) hown
  rcases id h with ⟨h0, rfl⟩ | ⟨g, o, cap, cur, hv, h1, h2, h3⟩
  · cases h0
    have hrun := run_append_owned_none (P := Tryz.prog) (w := (w.alloc (Obj.cells #[.int .i64 x] 3)).drew) w.heap.size 28 28 3 i0 1 Tryz.underlying28 hi _ 1 _ hrow
    obtain ⟨g', c', e, H⟩ := fin (.slice (some ⟨w.heap.size, 0, none⟩) 1 1) _ (by simpa using hrow) (grown_refl _ _)
    refine ⟨g', c', _, ?_, H⟩
    rw [← e]
    exact hrun
  · cases hv
    have hgl := blk_lt h2
    have HC : ∀ j u, (ys.map (Value.int .i64))[j]? = some u → (w.alloc (Obj.cells #[.int .i64 x] 3)).drew.cell? ((⟨g, o, none⟩ : Addr).add j) = some u := fun j u hj => by
      obtain ⟨hl, rfl⟩ := List.getElem?_eq_some_iff.1 hj
      simp only [List.length_map] at hl
      rw [Addr.add_lit]
      refine (World.cell?_of_block (a := ⟨g, o + j, none⟩) (Below.heap_alloc _ _ _ hgl)).trans ?_
      rw [h.cell hl]
      simp [List.getD_eq_getElem?_getD, hl]
    obtain ⟨v1, w3, hrun, hown, hgrow, _⟩ := run_append_own (P := Tryz.prog) (w.alloc (Obj.cells #[.int .i64 x] 3)).drew w.heap.size 28 28 3 i0 (.int .i64 0) 1 8 Tryz.underlying28 hi hz0 hz1 hz2 rfl (by decide) _ 1 _ hrow
      ⟨g, o, none⟩ ys.length cap (ys.map (.int .i64)) (by simp) HC (ints_oneCell _ _) (by unfold maxLen; omega) (by omega) (by show w.heap.size ≤ (w.alloc _).heap.size; rw [World.size_alloc]; omega)
    obtain ⟨g', c', rfl, H⟩ := fin v1 w3 hown hgrow
    exact ⟨g', c', w3, hrun, H⟩
variable {w w' : World} {O T : Nat → Prop} {m qx : Nat} {c : Cf} {R : Rh}
theorem RfB.boxes {sv : Value} {v : Nat → Value} {cx : Nat} (h : RfB w O m qx c R sv v cx) : w.cell? ⟨m, 7, none⟩ = some (.int .i64 R.u) ∧ w.cell? ⟨m, 8, none⟩ = some sv ∧ w.cell? ⟨m, 9, none⟩ = some (v 0) ∧ w.cell? ⟨m, 10, none⟩ = some (v 1) ∧ w.cell? ⟨m, 11, none⟩ = some (v 2) ∧ w.cell? ⟨m, 12, none⟩ = some (v 3) ∧ w.cell? ⟨m, 13, none⟩ = some (.slice (some ⟨qx, 0, none⟩) R.x.length cx) ∧ ∀ j, w.frozen? ⟨m, j, none⟩ = false := by
  have hb := h.box
  exact ⟨by simp [World.cell?, hb], by simp [World.cell?, hb], by simp [World.cell?, hb], by simp [World.cell?, hb], by simp [World.cell?, hb], by simp [World.cell?, hb], by simp [World.cell?, hb], fun j => by simp [World.frozen?, hb]⟩
def Rh.setF (R : Rh) (k : Nat) (l : List Int) : Rh := { R with F := fun x => if x = k then l else R.F x }
def setV (v : Nat → Value) (k : Nat) (u : Value) : Nat → Value := fun x => if x = k then u else v x
/-- A list's head is laid: another slice, of a new row. -/
theorem RfB.setf {sv u : Value} {v : Nat → Value} {cx k : Nat} {l : List Int} {w3 : World} (h : RfB w O m qx c R sv v cx) (hk : k < 4) (ht : Touch nob w w3) (hu : SlAt w3 u l) (hn : ∀ b, u.ownBlock = some b → (O b ∧ b ≠ qx) ∨ w.heap.size ≤ b) {o : Nat} (he : o = 9 + k) :
    ∃ O', Touch O w (w3.setCell ⟨m, o, none⟩ u) ∧ Sub w O' O ∧ RfB (w3.setCell ⟨m, o, none⟩ u) O' m qx c (R.setF k l) sv (setV v k u) cx := by
  subst he
  have h3 := h.touch ht (fun _ _ x => x)
  have htt : Touch (fun b => b = m) w3 (w3.setCell ⟨m, 9 + k, none⟩ u) := touch_set _ _ _ _
  have tm : 181 ≠ 3 := by decide
  have hs2 : ∀ {v : Value} {xs : List Int}, SlAt w3 v xs → SlAt (w3.setCell ⟨m, 9 + k, none⟩ u) v xs := fun hv => hv.set h3.box tm _ _
  have nx : qx ≠ m := by
    rintro rfl
    obtain ⟨cur', hx, _⟩ := h.xs
    have := hx.symm.trans h.box
    simp at this
  have lx : qx < w.heap.size := h.xs.lt
  refine ⟨fun b => O b ∨ u.ownBlock = some b, (ht.mono (fun _ _ x => x.elim)).trans (htt.mono fun b _ e => by rw [e]; exact h.om), fun b hb => ?_, ?_⟩
  · rcases hb with hb | hb
    · exact .inl hb
    · exact (hn b hb).imp (fun x => x.1) id
  refine ⟨?_, h3.xs.other nx _ _, owns_touch h3.row htt (fun b hb e => ?_), fun x hx => ?_, fun s hs => hs2 (h3.fs s hs), .inl h.om, .inl h.ox, fun b hb => .inl (h.os b hb), fun x hx b hb => ?_, fun s hs b hb => ⟨.inl (h.og s hs b hb).1, (h.og s hs b hb).2⟩, fun b hb => ?_⟩
  · rw [set_cells (9 + k) u h3.box]
    rcases k with _ | _ | _ | _ | k
    · rfl
    · rfl
    · rfl
    · rfl
    · omega
  · subst e
    obtain ⟨_, ⟨h1, _⟩ | ⟨g, cap, cur, h1, _, hh, _⟩⟩ := h3.row
    · rw [h1] at hb; cases hb
    · rw [h1] at hb
      cases hb
      have := h3.box.symm.trans hh
      simp at this
  · show SlAt _ (if x = k then u else v x) (if x = k then l else R.F x)
    by_cases e : x = k
    · rw [if_pos e, if_pos e]; exact hs2 hu
    · rw [if_neg e, if_neg e]; exact hs2 (h3.ff x hx)
  · change (if x = k then u else v x).ownBlock = some b at hb
    by_cases e : x = k
    · rw [if_pos e] at hb
      refine ⟨.inr hb, ?_⟩
      rcases hn b hb with h | h
      · exact h.2
      · omega
    · rw [if_neg e] at hb
      exact ⟨.inl (h.of x hx b hb).1, (h.of x hx b hb).2⟩
  · have h1 : b < w3.heap.size := by
      rcases hb with hb | hb
      · exact h3.lt b hb
      · exact hu.lt b hb
    simpa [World.setCell] using h1
def Rs.free (s : Rs) : Rs := { s with is := 1, bg := false }
def Rh.put (R : Rh) (i k : Nat) (s : Rs) : Rh := (R.setS i s.free).setF k (s.a :: R.F k)
theorem rf_Put_no (a : Int) (h : RfAt w O m qx c R) (hl : R.L.length ≤ 4096) {e : Int} (he : isV R.L a = -1 ∧ e = 1 ∨ (isV R.L a = 1 ∨ isV R.L a = 2) ∧ e = 11) :
    Calls Tryz.prog 129 #[.pointer (some ⟨m, 0, none⟩), .int .i64 a] w fun x w' => x = .returned (.int .i64 e) ∧ w = w' := by
  have H := Lib.hid h
  clear h
  rcases he with ⟨h1, rfl⟩ | ⟨h1 | h1, rfl⟩
  all_goals
    have HI := Lib.hid h1
    clear h1
    go_enter Tryz.func129, Tryz.ntmps129
    go_wp2_with (go_at_call 133; fail)
    refine (rf_is a H.out hl).mono ?_
    rintro e w2 ⟨rfl, rfl⟩
    rw [HI.out]
    go_wp2
    go_ret
    exact ⟨rfl, rfl⟩
attribute [local go_sem ↓ high] builtin_appd
set_option maxHeartbeats 4000000 in
theorem rf_Put_ok (i k : Nat) (s : Rs) (h : RfAt w O m qx c R) (hl : R.L.length ≤ 4096) (hi : R.L[i]? = some s) (hp : posA R.L s.a = i) (his : s.is = 0) (hk : s.k = k) (k4 : k < 4) (hf : (R.F k).length ≤ 4096) :
    Calls Tryz.prog 129 #[.pointer (some ⟨m, 0, none⟩), .int .i64 s.a] w fun x w' => x = .returned (.int .i64 0) ∧ ∃ O', Touch O w w' ∧ Sub w O' O ∧ RfAt w' O' m qx c (R.put i k s) := by
  have hv : isV R.L s.a = 0 := by unfold isV; rw [hp, hi]; exact his
  have hil := (List.getElem?_eq_some_iff.1 hi).1
  have ha : atV R.L s.a = i := by unfold atV; rw [hp, if_pos hil]
  obtain ⟨sv, v, cx, hb⟩ := id h
  obtain ⟨g, cap, rfl, og, ngm, hcap, -, e0, e1, e2, e3, e4, e5, f2, f3, f4, f5⟩ := hb.slot i s hi
  obtain ⟨d7, d8, d9, d10, d11, d12, d13, fz⟩ := hb.boxes
  obtain ⟨n, hn⟩ : ∃ n, R.L.length = n := ⟨_, rfl⟩
  have H := Lib.hid h
  have HI := Lib.hid (And.intro hv (And.intro ha hl))
  have HM := Lib.hid hf
  rw [hn] at d8 hcap hil hl
  have hib : (i : Int) < (n : Int) := by omega
  have h6 : (i * 6 : Nat) < n * 6 := by omega
  have HB := Lib.hid (And.intro hb (And.intro hi (And.intro og hn)))
  rw [hk] at e1
  have HD := Lib.hid (fun n => H.out.old ((Touch.refl nob w).drewN n))
  clear h hv ha hb hn hcap hf
  go_enter Tryz.func129, Tryz.ntmps129
  go_wp2_with (go_at_call 133; fail)
  refine (rf_is s.a H.out HI.out.2.2).mono ?_
  rintro e w2 ⟨rfl, rfl⟩
  rw [HI.out.1]
  go_wp2_with fail
  go_quiet ((go_at_call 134; exact Calls.quiet_of_same ((rf_At s.a (HD.out _) HI.out.2.2).mono fun _ _ h => ⟨h.1.trans (by rw [HI.out.2.1]), h.2.symm⟩)))
  go_upto_region 9 with fail
  generalize hw : World.setCell (World.setCell (World.drewN w _) _ _) _ _ = w3
  have hb3 : RfB w3 O m qx c (R.setS i s.free) (.slice (some ⟨g, 0, none⟩) R.L.length cap) v cx := by
    rw [← hw]
    exact (HB.out.1.touch ((Touch.refl nob w).drewN _) (fun _ _ x => x)).mark HB.out.2.1 1 false
  have hT3 : Touch O w w3 := by
    rw [← hw]
    exact (((Touch.refl nob w).drewN _).mono fun _ _ x => x.elim).trans ((mark_touch _ _ _ _ _ _).mono fun b _ e => by rw [e]; exact HB.out.2.2.1)
  clear d7 d8 d9 d10 d11 d12 d13 fz e0 e1 e2 e3 e4 e5 f2 f3 f4 f5 hw HD
  obtain ⟨d7, d8, d9, d10, d11, d12, d13, fz⟩ := hb3.boxes
  obtain ⟨g', cap', ee, -, -, hcap, -, e0, e1, -⟩ := hb3.slot i s.free (List.getElem?_set_self (by rw [HB.out.2.2.2]; exact hil))
  rw [HB.out.2.2.2] at ee
  cases ee
  change w3.cell? _ = some (.int .i64 s.k) at e1
  rw [hk] at e1
  have hv := hb3.ff k k4
  obtain ⟨ao, co, ev, -⟩ := hv.len
  rw [ev] at hv
  obtain ⟨g1, c1, w4, hrun, HR⟩ := sl_prepend hv s.a HM.out
  have fk := fz (9 + k)
  have ml : m < w3.heap.size := blk_lt hb3.box
  have gl : g < w3.heap.size := cell_lt e1
  have x1 := (HR.out.1.cell gl (fun x => x)).trans e1
  have xk := HR.out.1.frozen (o := 9 + k) ml (fun x => x)
  rw [fk] at xk
  have H3 := Lib.hid (And.intro hb3 hT3)
  have HE := Lib.hid ev
  have HV := Lib.hid hv
  have HF := Lib.hid fz
  clear hb3 hT3 fz
  have fin : Hid (∃ O', Touch O w (w4.setCell ⟨m, 9 + k, none⟩ (.slice (some ⟨g1, 0, none⟩) (1 + (R.F k).length) c1)) ∧ Sub w O' O ∧ RfAt (w4.setCell ⟨m, 9 + k, none⟩ (.slice (some ⟨g1, 0, none⟩) (1 + (R.F k).length) c1)) O' m qx c (R.put i k s)) := by
    obtain ⟨O', t1, t2, t3⟩ := H3.out.1.setf (u := .slice (some ⟨g1, 0, none⟩) (1 + (R.F k).length) c1) (l := s.a :: R.F k) k4 HR.out.1 HR.out.2.1 (fun b hb => by cases hb; exact .inr HR.out.2.2) rfl
    exact ⟨O', H3.out.2.trans t1, fun b hb => (t2 b hb).imp id (fun h => Nat.le_trans H3.out.2.size h), _, _, _, t3⟩
  clear hi hp his ngm og h6 hcap HB HI HM
  rcases k with _ | _ | _ | _ | k
  · rw [ev] at d9
    have x9 := (HR.out.1.cell ml (fun x => x)).trans d9
    clear ev hv d10 d11 d12
    go_wp2_with fail
    go_region
    all_goals
      go_wp2
      go_ret
      exact ⟨rfl, fin.out⟩
  · rw [ev] at d10
    have x9 := (HR.out.1.cell ml (fun x => x)).trans d10
    clear ev hv d9 d11 d12
    go_wp2_with fail
    go_region
    all_goals
      go_wp2
      go_ret
      exact ⟨rfl, fin.out⟩
  · rw [ev] at d11
    have x9 := (HR.out.1.cell ml (fun x => x)).trans d11
    clear ev hv d9 d10 d12
    go_wp2_with fail
    go_region
    all_goals
      go_wp2
      go_ret
      exact ⟨rfl, fin.out⟩
  · rw [ev] at d12
    have x9 := (HR.out.1.cell ml (fun x => x)).trans d12
    clear ev hv d9 d10 d11
    go_wp2_with fail
    go_region
    all_goals
      go_wp2
      go_ret
      exact ⟨rfl, fin.out⟩
  · omega
end Go.Proofs.YtnobempbcdkoaaaGreatDoor
namespace Go.Proofs.YtnobempbcdkoaaaGreatDoor
open Go.RowKit

variable {w w' : World} {O T : Nat → Prop} {m qx : Nat} {c : Cf} {R : Rh}
theorem ref03_Is4 (k : Nat) (k4 : k < 4) (w : World) : Calls Tryz.prog 156 #[.int .i64 k] w fun e w' => e = .returned (.bool true) ∧ w = w' := by
  have h : isCls (k : Int) = true := by rcases k with _ | _ | _ | _ | k <;> first | rfl | omega
  have g := ref03_Is k w
  rwa [h] at g
def Rs.hand (s : Rs) : Rs := { s with is := 0, bg := false }
def Rh.take (R : Rh) (i k : Nat) (l : List Int) (s : Rs) : Rh := (R.setF k l).setS i s.hand
theorem rf_Take_no (k : Int) (hk : isCls k = false) (w : World) :
    Calls Tryz.prog 127 #[.pointer (some ⟨m, 0, none⟩), .int .i64 k] w fun x w' => x = .returned (.tuple #[.int .i64 0, .int .i64 1]) ∧ w = w' := by
  have HK := Lib.hid hk
  clear hk
  go_enter Tryz.func127, Tryz.ntmps127
  go_wp2_with (go_at_call 156; fail)
  refine (ref03_Is k w).mono ?_
  rintro e w2 ⟨rfl, rfl⟩
  rw [HK.out]
  go_wp2
  go_ret2
  exact ⟨rfl, rfl⟩
theorem rf_Take_none (k : Nat) (k4 : k < 4) (h : RfAt w O m qx c R) (hF : R.F k = []) :
    Calls Tryz.prog 127 #[.pointer (some ⟨m, 0, none⟩), .int .i64 k] w fun x w' => x = .returned (.tuple #[.int .i64 0, .int .i64 12]) ∧ w = w' := by
  obtain ⟨sv, v, cx, hb⟩ := h
  obtain ⟨d7, d8, d9, d10, d11, d12, d13, fz⟩ := hb.boxes
  have hv := hb.ff k k4
  rw [hF] at hv
  obtain ⟨ao, co, ev, -⟩ := hv.len
  rw [List.length_nil] at ev
  clear hv hb hF
  rcases k with _ | _ | _ | _ | k
  · rw [ev] at d9
    clear ev
    go_enter Tryz.func127, Tryz.ntmps127
    go_wp2_with (go_at_call 156; fail)
    refine (ref03_Is4 0 (by decide) w).mono ?_
    rintro e w2 ⟨rfl, rfl⟩
    go_wp2
    go_ret2
    exact ⟨rfl, rfl⟩
  · rw [ev] at d10
    clear ev
    go_enter Tryz.func127, Tryz.ntmps127
    go_wp2_with (go_at_call 156; fail)
    refine (ref03_Is4 1 (by decide) w).mono ?_
    rintro e w2 ⟨rfl, rfl⟩
    go_wp2
    go_ret2
    exact ⟨rfl, rfl⟩
  · rw [ev] at d11
    clear ev
    go_enter Tryz.func127, Tryz.ntmps127
    go_wp2_with (go_at_call 156; fail)
    refine (ref03_Is4 2 (by decide) w).mono ?_
    rintro e w2 ⟨rfl, rfl⟩
    go_wp2
    go_ret2
    exact ⟨rfl, rfl⟩
  · rw [ev] at d12
    clear ev
    go_enter Tryz.func127, Tryz.ntmps127
    go_wp2_with (go_at_call 156; fail)
    refine (ref03_Is4 3 (by decide) w).mono ?_
    rintro e w2 ⟨rfl, rfl⟩
    go_wp2
    go_ret2
    exact ⟨rfl, rfl⟩
  · omega
theorem rf_Take_ok (i k : Nat) (l : List Int) (s : Rs) (h : RfAt w O m qx c R) (hl : R.L.length ≤ 4096) (k4 : k < 4) (hF : R.F k = s.a :: l) (hi : R.L[i]? = some s) (hp : posA R.L s.a = i) :
    Calls Tryz.prog 127 #[.pointer (some ⟨m, 0, none⟩), .int .i64 k] w fun x w' => x = .returned (.tuple #[.int .i64 s.a, .int .i64 0]) ∧ ∃ O', Touch O w w' ∧ Sub w O' O ∧ RfAt w' O' m qx c (R.take i k l s) := by
  have hil := (List.getElem?_eq_some_iff.1 hi).1
  have ha : atV R.L s.a = i := by unfold atV; rw [hp, if_pos hil]
  obtain ⟨sv, v, cx, hb⟩ := h
  obtain ⟨g, cap, rfl, og, -, hcap, -⟩ := hb.slot i s hi
  obtain ⟨d7, d8, d9, d10, d11, d12, d13, fz⟩ := hb.boxes
  obtain ⟨n, hn⟩ : ∃ n, R.L.length = n := ⟨_, rfl⟩
  have hv := hb.ff k k4
  have hvo := hb.of k k4
  rw [hF] at hv
  rcases id hv with ⟨_, h0⟩ | ⟨g0, o0, c0, cur, ev, h1, h2, h3⟩
  · cases h0
  rw [ev] at hv hvo
  have hx := hv.cell (j := 0) (by simp)
  simp only [Nat.add_zero, List.length_cons, List.getD_cons_zero] at hx h1 ev hv hvo
  have hb' : Hid (∀ (w2 : World) (g' o' : Nat), Touch nob w w2 → g' = g0 → l = [] ∨ o' = o0 + 1 → ∃ O', Touch O w (w2.setCell ⟨m, 9 + k, none⟩ (.slice (some ⟨g', o', none⟩) l.length (c0 - 1))) ∧ Sub w O' O ∧ RfB (w2.setCell ⟨m, 9 + k, none⟩ (.slice (some ⟨g', o', none⟩) l.length (c0 - 1))) O' m qx c (R.setF k l) (.slice (some ⟨g, 0, none⟩) R.L.length cap) (setV v k (.slice (some ⟨g', o', none⟩) l.length (c0 - 1))) cx) := by
    intro w2 g' o' ht e1 e2
    have ht2 := (hv.old ht).tail e1 e2
    rw [Nat.add_sub_cancel] at ht2
    exact hb.setf k4 ht ht2 (fun b hb => by cases hb; subst e1; exact .inl (hvo _ rfl)) rfl
  have HI := Lib.hid (And.intro ha (And.intro hl (And.intro hn hi)))
  have gm : g0 ≠ m := hv.ne hb.box (by decide) g0 rfl
  have ml := blk_lt hb.box
  rw [hn] at d8 hil hl hcap
  have fk := fz (9 + k)
  obtain ⟨ln, hln⟩ : ∃ ln, l.length = ln := ⟨_, rfl⟩
  rw [hln] at ev h1
  have HL := Lib.hid hln
  have hb0 : (i : Int) < (n : Int) := by omega
  clear hb hF hv hvo h2 h3 hp hi ha hn hln d7 d13 fz
  rcases k with _ | _ | _ | _ | k
  · rw [ev] at d9
    clear ev d10 d11 d12
    go_enter Tryz.func127, Tryz.ntmps127
    go_wp2_with (go_at_call 156; fail)
    refine (ref03_Is4 0 (by decide) w).mono ?_
    rintro e w2 ⟨rfl, rfl⟩
    go_upto_region 6 with fail
    by_cases hc1 : c0 = 1
    · subst hc1
      obtain rfl : ln = 0 := by omega
      go_region
      all_goals
        have hnx := hb'.out w g0 o0 (Touch.refl _ _) rfl (by first | exact .inr rfl | exact .inl (List.eq_nil_of_length_eq_zero HL.out))
        rw [HL.out, HI.out.2.2.1] at hnx
        obtain ⟨O', t1, t2, t3⟩ := hnx
        generalize hw : World.drew (World.setCell w _ _) = w3
        replace t3 := t3.touch (w' := w3) (by rw [← hw]; exact (Touch.refl nob _).drew) (fun _ _ x => x)
        replace t1 : Touch O w w3 := by rw [← hw]; exact t1.drew
        clear hw d8 d9 fk hx
        obtain ⟨-, d8, -⟩ := t3.boxes
        obtain ⟨g', cap', ee, og', -, -, -, -, -, e2, -, e4, -, f2, -, f4, -⟩ := t3.slot i s HI.out.2.2.2
        rw [show (R.setF 0 l).L.length = n from HI.out.2.2.1] at ee
        cases ee
        have HD := Lib.hid (fun n => (show RfAt w3 O' m qx c (R.setF 0 l) from ⟨_, _, _, t3⟩).old ((Touch.refl nob w3).drewN n))
        have HT := Lib.hid (And.intro t1 (And.intro t2 (And.intro t3 og')))
        clear t1 t2 t3 og' hb'
        go_wp2_with fail
        go_quiet ((go_at_call 134; exact Calls.quiet_of_same ((rf_At s.a (HD.out _) HI.out.2.1).mono fun _ _ h => ⟨h.1.trans (by rw [show (R.setF 0 l).L = R.L from rfl, HI.out.1]), h.2.symm⟩)))
        go_wp2
        go_ret2
        have hfin := fun x => (HT.out.2.2.1.touch ((Touch.refl nob _).drewN x) (fun _ _ x => x)).mark HI.out.2.2.2 0 false
        exact ⟨rfl, O', (HT.out.1.drewN _).trans ((mark_touch _ _ _ _ _ _).mono fun b _ e => by rw [e]; exact og), HT.out.2.1, _, _, _, hfin _⟩
    · have hc2 : 1 < c0 := by omega
      go_region
      all_goals
        have hnx := hb'.out w g0 (o0 + 1) (Touch.refl _ _) rfl (by first | exact .inr rfl | exact .inl (List.eq_nil_of_length_eq_zero HL.out))
        rw [HL.out, HI.out.2.2.1] at hnx
        obtain ⟨O', t1, t2, t3⟩ := hnx
        generalize hw : World.drew (World.setCell w _ _) = w3
        replace t3 := t3.touch (w' := w3) (by rw [← hw]; exact (Touch.refl nob _).drew) (fun _ _ x => x)
        replace t1 : Touch O w w3 := by rw [← hw]; exact t1.drew
        clear hw d8 d9 fk hx
        obtain ⟨-, d8, -⟩ := t3.boxes
        obtain ⟨g', cap', ee, og', -, -, -, -, -, e2, -, e4, -, f2, -, f4, -⟩ := t3.slot i s HI.out.2.2.2
        rw [show (R.setF 0 l).L.length = n from HI.out.2.2.1] at ee
        cases ee
        have HD := Lib.hid (fun n => (show RfAt w3 O' m qx c (R.setF 0 l) from ⟨_, _, _, t3⟩).old ((Touch.refl nob w3).drewN n))
        have HT := Lib.hid (And.intro t1 (And.intro t2 (And.intro t3 og')))
        clear t1 t2 t3 og' hb'
        go_wp2_with fail
        go_quiet ((go_at_call 134; exact Calls.quiet_of_same ((rf_At s.a (HD.out _) HI.out.2.1).mono fun _ _ h => ⟨h.1.trans (by rw [show (R.setF 0 l).L = R.L from rfl, HI.out.1]), h.2.symm⟩)))
        go_wp2
        go_ret2
        have hfin := fun x => (HT.out.2.2.1.touch ((Touch.refl nob _).drewN x) (fun _ _ x => x)).mark HI.out.2.2.2 0 false
        exact ⟨rfl, O', (HT.out.1.drewN _).trans ((mark_touch _ _ _ _ _ _).mono fun b _ e => by rw [e]; exact og), HT.out.2.1, _, _, _, hfin _⟩
  · rw [ev] at d10
    clear ev d9 d11 d12
    go_enter Tryz.func127, Tryz.ntmps127
    go_wp2_with (go_at_call 156; fail)
    refine (ref03_Is4 1 (by decide) w).mono ?_
    rintro e w2 ⟨rfl, rfl⟩
    go_upto_region 6 with fail
    by_cases hc1 : c0 = 1
    · subst hc1
      obtain rfl : ln = 0 := by omega
      go_region
      all_goals
        have hnx := hb'.out w g0 o0 (Touch.refl _ _) rfl (by first | exact .inr rfl | exact .inl (List.eq_nil_of_length_eq_zero HL.out))
        rw [HL.out, HI.out.2.2.1] at hnx
        obtain ⟨O', t1, t2, t3⟩ := hnx
        generalize hw : World.drew (World.setCell w _ _) = w3
        replace t3 := t3.touch (w' := w3) (by rw [← hw]; exact (Touch.refl nob _).drew) (fun _ _ x => x)
        replace t1 : Touch O w w3 := by rw [← hw]; exact t1.drew
        clear hw d8 d10 fk hx
        obtain ⟨-, d8, -⟩ := t3.boxes
        obtain ⟨g', cap', ee, og', -, -, -, -, -, e2, -, e4, -, f2, -, f4, -⟩ := t3.slot i s HI.out.2.2.2
        rw [show (R.setF 1 l).L.length = n from HI.out.2.2.1] at ee
        cases ee
        have HD := Lib.hid (fun n => (show RfAt w3 O' m qx c (R.setF 1 l) from ⟨_, _, _, t3⟩).old ((Touch.refl nob w3).drewN n))
        have HT := Lib.hid (And.intro t1 (And.intro t2 (And.intro t3 og')))
        clear t1 t2 t3 og' hb'
        go_wp2_with fail
        go_quiet ((go_at_call 134; exact Calls.quiet_of_same ((rf_At s.a (HD.out _) HI.out.2.1).mono fun _ _ h => ⟨h.1.trans (by rw [show (R.setF 1 l).L = R.L from rfl, HI.out.1]), h.2.symm⟩)))
        go_wp2
        go_ret2
        have hfin := fun x => (HT.out.2.2.1.touch ((Touch.refl nob _).drewN x) (fun _ _ x => x)).mark HI.out.2.2.2 0 false
        exact ⟨rfl, O', (HT.out.1.drewN _).trans ((mark_touch _ _ _ _ _ _).mono fun b _ e => by rw [e]; exact og), HT.out.2.1, _, _, _, hfin _⟩
    · have hc2 : 1 < c0 := by omega
      go_region
      all_goals
        have hnx := hb'.out w g0 (o0 + 1) (Touch.refl _ _) rfl (by first | exact .inr rfl | exact .inl (List.eq_nil_of_length_eq_zero HL.out))
        rw [HL.out, HI.out.2.2.1] at hnx
        obtain ⟨O', t1, t2, t3⟩ := hnx
        generalize hw : World.drew (World.setCell w _ _) = w3
        replace t3 := t3.touch (w' := w3) (by rw [← hw]; exact (Touch.refl nob _).drew) (fun _ _ x => x)
        replace t1 : Touch O w w3 := by rw [← hw]; exact t1.drew
        clear hw d8 d10 fk hx
        obtain ⟨-, d8, -⟩ := t3.boxes
        obtain ⟨g', cap', ee, og', -, -, -, -, -, e2, -, e4, -, f2, -, f4, -⟩ := t3.slot i s HI.out.2.2.2
        rw [show (R.setF 1 l).L.length = n from HI.out.2.2.1] at ee
        cases ee
        have HD := Lib.hid (fun n => (show RfAt w3 O' m qx c (R.setF 1 l) from ⟨_, _, _, t3⟩).old ((Touch.refl nob w3).drewN n))
        have HT := Lib.hid (And.intro t1 (And.intro t2 (And.intro t3 og')))
        clear t1 t2 t3 og' hb'
        go_wp2_with fail
        go_quiet ((go_at_call 134; exact Calls.quiet_of_same ((rf_At s.a (HD.out _) HI.out.2.1).mono fun _ _ h => ⟨h.1.trans (by rw [show (R.setF 1 l).L = R.L from rfl, HI.out.1]), h.2.symm⟩)))
        go_wp2
        go_ret2
        have hfin := fun x => (HT.out.2.2.1.touch ((Touch.refl nob _).drewN x) (fun _ _ x => x)).mark HI.out.2.2.2 0 false
        exact ⟨rfl, O', (HT.out.1.drewN _).trans ((mark_touch _ _ _ _ _ _).mono fun b _ e => by rw [e]; exact og), HT.out.2.1, _, _, _, hfin _⟩
  · rw [ev] at d11
    clear ev d9 d10 d12
    go_enter Tryz.func127, Tryz.ntmps127
    go_wp2_with (go_at_call 156; fail)
    refine (ref03_Is4 2 (by decide) w).mono ?_
    rintro e w2 ⟨rfl, rfl⟩
    go_upto_region 6 with fail
    by_cases hc1 : c0 = 1
    · subst hc1
      obtain rfl : ln = 0 := by omega
      go_region
      all_goals
        have hnx := hb'.out w g0 o0 (Touch.refl _ _) rfl (by first | exact .inr rfl | exact .inl (List.eq_nil_of_length_eq_zero HL.out))
        rw [HL.out, HI.out.2.2.1] at hnx
        obtain ⟨O', t1, t2, t3⟩ := hnx
        generalize hw : World.drew (World.setCell w _ _) = w3
        replace t3 := t3.touch (w' := w3) (by rw [← hw]; exact (Touch.refl nob _).drew) (fun _ _ x => x)
        replace t1 : Touch O w w3 := by rw [← hw]; exact t1.drew
        clear hw d8 d11 fk hx
        obtain ⟨-, d8, -⟩ := t3.boxes
        obtain ⟨g', cap', ee, og', -, -, -, -, -, e2, -, e4, -, f2, -, f4, -⟩ := t3.slot i s HI.out.2.2.2
        rw [show (R.setF 2 l).L.length = n from HI.out.2.2.1] at ee
        cases ee
        have HD := Lib.hid (fun n => (show RfAt w3 O' m qx c (R.setF 2 l) from ⟨_, _, _, t3⟩).old ((Touch.refl nob w3).drewN n))
        have HT := Lib.hid (And.intro t1 (And.intro t2 (And.intro t3 og')))
        clear t1 t2 t3 og' hb'
        go_wp2_with fail
        go_quiet ((go_at_call 134; exact Calls.quiet_of_same ((rf_At s.a (HD.out _) HI.out.2.1).mono fun _ _ h => ⟨h.1.trans (by rw [show (R.setF 2 l).L = R.L from rfl, HI.out.1]), h.2.symm⟩)))
        go_wp2
        go_ret2
        have hfin := fun x => (HT.out.2.2.1.touch ((Touch.refl nob _).drewN x) (fun _ _ x => x)).mark HI.out.2.2.2 0 false
        exact ⟨rfl, O', (HT.out.1.drewN _).trans ((mark_touch _ _ _ _ _ _).mono fun b _ e => by rw [e]; exact og), HT.out.2.1, _, _, _, hfin _⟩
    · have hc2 : 1 < c0 := by omega
      go_region
      all_goals
        have hnx := hb'.out w g0 (o0 + 1) (Touch.refl _ _) rfl (by first | exact .inr rfl | exact .inl (List.eq_nil_of_length_eq_zero HL.out))
        rw [HL.out, HI.out.2.2.1] at hnx
        obtain ⟨O', t1, t2, t3⟩ := hnx
        generalize hw : World.drew (World.setCell w _ _) = w3
        replace t3 := t3.touch (w' := w3) (by rw [← hw]; exact (Touch.refl nob _).drew) (fun _ _ x => x)
        replace t1 : Touch O w w3 := by rw [← hw]; exact t1.drew
        clear hw d8 d11 fk hx
        obtain ⟨-, d8, -⟩ := t3.boxes
        obtain ⟨g', cap', ee, og', -, -, -, -, -, e2, -, e4, -, f2, -, f4, -⟩ := t3.slot i s HI.out.2.2.2
        rw [show (R.setF 2 l).L.length = n from HI.out.2.2.1] at ee
        cases ee
        have HD := Lib.hid (fun n => (show RfAt w3 O' m qx c (R.setF 2 l) from ⟨_, _, _, t3⟩).old ((Touch.refl nob w3).drewN n))
        have HT := Lib.hid (And.intro t1 (And.intro t2 (And.intro t3 og')))
        clear t1 t2 t3 og' hb'
        go_wp2_with fail
        go_quiet ((go_at_call 134; exact Calls.quiet_of_same ((rf_At s.a (HD.out _) HI.out.2.1).mono fun _ _ h => ⟨h.1.trans (by rw [show (R.setF 2 l).L = R.L from rfl, HI.out.1]), h.2.symm⟩)))
        go_wp2
        go_ret2
        have hfin := fun x => (HT.out.2.2.1.touch ((Touch.refl nob _).drewN x) (fun _ _ x => x)).mark HI.out.2.2.2 0 false
        exact ⟨rfl, O', (HT.out.1.drewN _).trans ((mark_touch _ _ _ _ _ _).mono fun b _ e => by rw [e]; exact og), HT.out.2.1, _, _, _, hfin _⟩
  · rw [ev] at d12
    clear ev d9 d10 d11
    go_enter Tryz.func127, Tryz.ntmps127
    go_wp2_with (go_at_call 156; fail)
    refine (ref03_Is4 3 (by decide) w).mono ?_
    rintro e w2 ⟨rfl, rfl⟩
    go_upto_region 6 with fail
    by_cases hc1 : c0 = 1
    · subst hc1
      obtain rfl : ln = 0 := by omega
      go_region
      all_goals
        have hnx := hb'.out w g0 o0 (Touch.refl _ _) rfl (by first | exact .inr rfl | exact .inl (List.eq_nil_of_length_eq_zero HL.out))
        rw [HL.out, HI.out.2.2.1] at hnx
        obtain ⟨O', t1, t2, t3⟩ := hnx
        generalize hw : World.drew (World.setCell w _ _) = w3
        replace t3 := t3.touch (w' := w3) (by rw [← hw]; exact (Touch.refl nob _).drew) (fun _ _ x => x)
        replace t1 : Touch O w w3 := by rw [← hw]; exact t1.drew
        clear hw d8 d12 fk hx
        obtain ⟨-, d8, -⟩ := t3.boxes
        obtain ⟨g', cap', ee, og', -, -, -, -, -, e2, -, e4, -, f2, -, f4, -⟩ := t3.slot i s HI.out.2.2.2
        rw [show (R.setF 3 l).L.length = n from HI.out.2.2.1] at ee
        cases ee
        have HD := Lib.hid (fun n => (show RfAt w3 O' m qx c (R.setF 3 l) from ⟨_, _, _, t3⟩).old ((Touch.refl nob w3).drewN n))
        have HT := Lib.hid (And.intro t1 (And.intro t2 (And.intro t3 og')))
        clear t1 t2 t3 og' hb'
        go_wp2_with fail
        go_quiet ((go_at_call 134; exact Calls.quiet_of_same ((rf_At s.a (HD.out _) HI.out.2.1).mono fun _ _ h => ⟨h.1.trans (by rw [show (R.setF 3 l).L = R.L from rfl, HI.out.1]), h.2.symm⟩)))
        go_wp2
        go_ret2
        have hfin := fun x => (HT.out.2.2.1.touch ((Touch.refl nob _).drewN x) (fun _ _ x => x)).mark HI.out.2.2.2 0 false
        exact ⟨rfl, O', (HT.out.1.drewN _).trans ((mark_touch _ _ _ _ _ _).mono fun b _ e => by rw [e]; exact og), HT.out.2.1, _, _, _, hfin _⟩
    · have hc2 : 1 < c0 := by omega
      go_region
      all_goals
        have hnx := hb'.out w g0 (o0 + 1) (Touch.refl _ _) rfl (by first | exact .inr rfl | exact .inl (List.eq_nil_of_length_eq_zero HL.out))
        rw [HL.out, HI.out.2.2.1] at hnx
        obtain ⟨O', t1, t2, t3⟩ := hnx
        generalize hw : World.drew (World.setCell w _ _) = w3
        replace t3 := t3.touch (w' := w3) (by rw [← hw]; exact (Touch.refl nob _).drew) (fun _ _ x => x)
        replace t1 : Touch O w w3 := by rw [← hw]; exact t1.drew
        clear hw d8 d12 fk hx
        obtain ⟨-, d8, -⟩ := t3.boxes
        obtain ⟨g', cap', ee, og', -, -, -, -, -, e2, -, e4, -, f2, -, f4, -⟩ := t3.slot i s HI.out.2.2.2
        rw [show (R.setF 3 l).L.length = n from HI.out.2.2.1] at ee
        cases ee
        have HD := Lib.hid (fun n => (show RfAt w3 O' m qx c (R.setF 3 l) from ⟨_, _, _, t3⟩).old ((Touch.refl nob w3).drewN n))
        have HT := Lib.hid (And.intro t1 (And.intro t2 (And.intro t3 og')))
        clear t1 t2 t3 og' hb'
        go_wp2_with fail
        go_quiet ((go_at_call 134; exact Calls.quiet_of_same ((rf_At s.a (HD.out _) HI.out.2.1).mono fun _ _ h => ⟨h.1.trans (by rw [show (R.setF 3 l).L = R.L from rfl, HI.out.1]), h.2.symm⟩)))
        go_wp2
        go_ret2
        have hfin := fun x => (HT.out.2.2.1.touch ((Touch.refl nob _).drewN x) (fun _ _ x => x)).mark HI.out.2.2.2 0 false
        exact ⟨rfl, O', (HT.out.1.drewN _).trans ((mark_touch _ _ _ _ _ _).mono fun b _ e => by rw [e]; exact og), HT.out.2.1, _, _, _, hfin _⟩
  · omega
end Go.Proofs.YtnobempbcdkoaaaGreatDoor
namespace Go.Proofs.YtnobempbcdkoaaaGreatDoor
open Go.RowKit

variable {w w' : World} {O T : Nat → Prop} {m qx : Nat} {c : Cf} {R : Rh}
theorem rf_is_eq {a x : Int} (h : RfAt w O m qx c R) (hl : R.L.length ≤ 4096) (hx : isV R.L a = x) :
    Calls Tryz.prog 133 #[.pointer (some ⟨m, 0, none⟩), .int .i64 a] w fun e w' => e = .returned (.int .i64 x) ∧ w = w' := by
  rw [← hx]
  exact rf_is a h hl
theorem rf_At_eq {a : Int} {i : Nat} (h : RfAt w O m qx c R) (hl : R.L.length ≤ 4096) (hp : posA R.L a = i) (hi : i < R.L.length) :
    Calls Tryz.prog 134 #[.pointer (some ⟨m, 0, none⟩), .int .i64 a] w fun e w' => e = .returned (.int .i64 i) ∧ w = w' := by
  have := rf_At a h hl
  unfold atV at this
  rwa [hp, if_pos hi] at this
/-- What a walk to one slot wants. -/
structure Sa (w : World) (m n i g cap : Nat) (s : Rs) : Prop where
  d8 : w.cell? ⟨m, 8, none⟩ = some (.slice (some ⟨g, 0, none⟩) n cap)
  e0 : w.cell? ⟨g, i * 6, none⟩ = some (.int .i64 s.a)
  e1 : w.cell? ⟨g, i * 6 + 1, none⟩ = some (.int .i64 s.k)
  e2 : w.cell? ⟨g, i * 6 + 2, none⟩ = some (.int .i64 s.is)
  e3 : w.cell? ⟨g, i * 6 + 3, none⟩ = some (.int .i64 s.col)
  e4 : w.cell? ⟨g, i * 6 + 4, none⟩ = some (.bool s.bg)
  e5 : w.cell? ⟨g, i * 6 + 5, none⟩ = some s.v
  f2 : w.frozen? ⟨g, i * 6 + 2, none⟩ = false
  f3 : w.frozen? ⟨g, i * 6 + 3, none⟩ = false
  f4 : w.frozen? ⟨g, i * 6 + 4, none⟩ = false
  f5 : w.frozen? ⟨g, i * 6 + 5, none⟩ = false
  cap' : n ≤ cap
  lt : i < n
  bd : (i : Int) < (n : Int)
theorem RfAt.sa {n i : Nat} {s : Rs} (h : RfAt w O m qx c R) (hn : R.L.length = n) (hi : R.L[i]? = some s) : ∃ g cap v cx, RfB w O m qx c R (.slice (some ⟨g, 0, none⟩) n cap) v cx ∧ O g ∧ Sa w m n i g cap s := by
  subst hn
  obtain ⟨sv, v, cx, hb⟩ := h
  obtain ⟨g, cap, rfl, og, -, h1, h2, e0, e1, e2, e3, e4, e5, f2, f3, f4, f5⟩ := hb.slot i s hi
  obtain ⟨-, d8, -⟩ := hb.boxes
  exact ⟨g, cap, v, cx, hb, og, d8, e0, e1, e2, e3, e4, e5, f2, f3, f4, f5, h1, h2, by omega⟩
theorem isV_at {L : List Rs} {a : Int} {i : Nat} {s : Rs} (hi : L[i]? = some s) (hp : posA L a = i) : isV L a = s.is := by
  unfold isV
  rw [hp, hi]
/-- Two cells of a slot are laid. -/
theorem RfB.bearn {g n cap i : Nat} {s : Rs} {v : Nat → Value} {cx : Nat} (h : RfB w O m qx c R (.slice (some ⟨g, 0, none⟩) n cap) v cx) (hi : R.L[i]? = some s) (x y : Int) :
    RfB ((w.setCell ⟨g, i * 6 + 2, none⟩ (.int .i64 x)).setCell ⟨g, i * 6 + 3, none⟩ (.int .i64 y)) O m qx c (R.setS i { s with is := x, col := y }) (.slice (some ⟨g, 0, none⟩) n cap) v cx := by
  have hil := (List.getElem?_eq_some_iff.1 hi).1
  have h1 := h.set (s' := { s with is := x }) (u := .int .i64 x) (j := 2) hi (by omega) rfl (h.fs s (List.mem_of_getElem? hi)) (h.og s (List.mem_of_getElem? hi)) rfl
  have hi2 : (R.setS i { s with is := x }).L[i]? = some { s with is := x } := List.getElem?_set_self hil
  have h2 := h1.set (i := i) (s := { s with is := x }) (s' := { s with is := x, col := y }) (u := .int .i64 y) (j := 3) hi2 (by omega) rfl (h1.fs { s with is := x } (List.mem_of_getElem? hi2)) (h1.og { s with is := x } (List.mem_of_getElem? hi2)) rfl
  rwa [setS_setS] at h2
/-- One cell of a slot is laid. -/
theorem RfB.one {g n cap i j : Nat} {s s' : Rs} {u : Value} {v : Nat → Value} {cx : Nat} (h : RfB w O m qx c R (.slice (some ⟨g, 0, none⟩) n cap) v cx) (hi : R.L[i]? = some s) (hj : j < 5) (hs : s'.row = s.row.set j u) (hf : s'.f = s.f) (hv : s'.v = s.v) :
    RfB (w.setCell ⟨g, i * 6 + j, none⟩ u) O m qx c (R.setS i s') (.slice (some ⟨g, 0, none⟩) n cap) v cx :=
  h.set hi (by omega) hs (by rw [hf, hv]; exact h.fs s (List.mem_of_getElem? hi)) (by rw [hv]; exact h.og s (List.mem_of_getElem? hi)) rfl
theorem rf_Bear_no (a col x : Int) (h : RfAt w O m qx c R) (hl : R.L.length ≤ 4096) (hx : isV R.L a = x) (hb : x ≠ 0 ∨ (x = 0 ∧ col ≠ 0 ∧ col ≠ 1)) :
    Calls Tryz.prog 131 #[.pointer (some ⟨m, 0, none⟩), .int .i64 a, .int .i64 col] w fun e w' => e = .returned (.int .i64 1) ∧ w = w' := by
  have H := Lib.hid (rf_is_eq h hl hx)
  clear h hx
  rcases hb with hb | ⟨rfl, h0, h1⟩
  · have hb1 : (x == 0) = false := by simpa using hb
    go_enter Tryz.func131, Tryz.ntmps131
    go_wp2_with (go_at_call 133; fail)
    refine H.out.mono ?_
    rintro e w2 ⟨rfl, rfl⟩
    go_wp2
    go_ret
    exact ⟨rfl, rfl⟩
  · have hb1 : (col != 0) = true := by simpa using h0
    have hb2 : (col != 1) = true := by simpa using h1
    go_enter Tryz.func131, Tryz.ntmps131
    go_wp2_with (go_at_call 133; fail)
    refine H.out.mono ?_
    rintro e w2 ⟨rfl, rfl⟩
    go_wp2
    go_ret
    exact ⟨rfl, rfl⟩
theorem rf_Bear (i : Nat) (col : Int) (s : Rs) (h : RfAt w O m qx c R) (hl : R.L.length ≤ 4096) (hi : R.L[i]? = some s) (hp : posA R.L s.a = i) (his : s.is = 0) (hc : col = 0 ∨ col = 1) :
    Calls Tryz.prog 131 #[.pointer (some ⟨m, 0, none⟩), .int .i64 s.a, .int .i64 col] w fun e w' => e = .returned (.int .i64 (if s.bg = true then 0 else 11)) ∧ Touch O w w' ∧ RfAt w' O m qx c (if s.bg = true then R.setS i { s with is := 2, col := col } else R) := by
  obtain ⟨n, hn⟩ : ∃ n, R.L.length = n := ⟨_, rfl⟩
  obtain ⟨g, cap, v, cx, hb, og, S⟩ := h.sa hn hi
  have H := Lib.hid (rf_is_eq h hl ((isV_at hi hp).trans his))
  have HA := Lib.hid (fun nn => rf_At_eq (h.old ((Touch.refl nob w).drewN nn)) hl hp (by rw [hn]; exact S.lt))
  have HB := Lib.hid (And.intro hb (And.intro og hi))
  rw [hn] at hl
  obtain ⟨d8, -, -, e2, e3, e4, -, f2, f3, -, -, hcap, hlt, hbd⟩ := S
  clear h hi hp hb og hn his
  by_cases hbg : s.bg = true
  · rw [if_pos hbg, if_pos hbg]
    rw [hbg] at e4
    clear hbg
    rcases hc with rfl | rfl
    all_goals
      go_enter Tryz.func131, Tryz.ntmps131
      go_wp2_with (go_at_call 133; fail)
      refine H.out.mono ?_
      rintro e w2 ⟨rfl, rfl⟩
      go_wp2_with fail
      go_quiet ((go_at_call 134; exact Calls.quiet_of_same ((HA.out _).mono fun _ _ h => ⟨h.1, h.2.symm⟩)))
      go_wp2
      go_ret
      have hfin := fun x y => RfB.bearn (HB.out.1.touch ((Touch.refl nob _).drewN x) (fun _ _ x => x)) HB.out.2.2 2 y
      exact ⟨rfl, (((Touch.refl _ _).drewN _).trans ((mark_touch _ _ _ _ _ _).mono fun b _ e => by rw [e]; exact HB.out.2.1)), _, _, _, hfin _ _⟩
  · rw [if_neg hbg, if_neg hbg]
    rw [show s.bg = false by simpa using hbg] at e4
    clear hbg
    rcases hc with rfl | rfl
    all_goals
      go_enter Tryz.func131, Tryz.ntmps131
      go_wp2_with (go_at_call 133; fail)
      refine H.out.mono ?_
      rintro e w2 ⟨rfl, rfl⟩
      go_wp2_with fail
      go_quiet ((go_at_call 134; exact Calls.quiet_of_same ((HA.out _).mono fun _ _ h => ⟨h.1, h.2.symm⟩)))
      go_wp2
      go_ret
      have hfin := fun x => HB.out.1.touch ((Touch.refl nob _).drewN x) (fun _ _ x => x)
      exact ⟨rfl, (Touch.refl _ _).drewN _, _, _, _, hfin _⟩
end Go.Proofs.YtnobempbcdkoaaaGreatDoor
namespace Go.Proofs.YtnobempbcdkoaaaGreatDoor
open Go.RowKit

variable {w w' : World} {O T : Nat → Prop} {m qx : Nat} {c : Cf} {R : Rh}
/-- May a slot's fields be seen? -/
def Rs.may (s : Rs) : Bool := !(s.is == 1) && !(s.is == 0 && !s.bg)
end Go.Proofs.YtnobempbcdkoaaaGreatDoor
namespace Go.Proofs.YtnobempbcdkoaaaGreatDoor
open Go.RowKit

variable {w w' : World} {O T : Nat → Prop} {m qx : Nat} {c : Cf} {R : Rh}
/-- No fields are to be seen at an address. -/
def NoObj (R : Rh) (a e : Int) : Prop := (a = 0 ∧ e = 6) ∨ (a ≠ 0 ∧ (posA R.L a = R.L.length ∨ ∃ s, R.L[posA R.L a]? = some s ∧ s.may = false) ∧ e = 1)
theorem NoObj.ne {a e : Int} (h : NoObj R a e) : (e != 0) = true ∧ e ≠ 0 := by
  rcases h with ⟨_, rfl⟩ | ⟨_, _, rfl⟩ <;> exact ⟨rfl, by decide⟩
end Go.Proofs.YtnobempbcdkoaaaGreatDoor
namespace Go.Proofs.YtnobempbcdkoaaaGreatDoor
open Go.RowKit

variable {w w' : World} {O T : Nat → Prop} {m qx : Nat} {c : Cf} {R : Rh} {v : Nat → Value} {sv : Value} {cx : Nat}
theorem RfB.more {O' : Nat → Prop} (h : RfB w O m qx c R sv v cx) (hO : ∀ b, O b → O' b) (hO2 : ∀ b, O' b → b < w.heap.size) : RfB w O' m qx c R sv v cx :=
  ⟨h.box, h.xs, h.row, h.ff, h.fs, hO _ h.om, hO _ h.ox, fun b hb => hO _ (h.os b hb), fun k hk b hb => ⟨hO _ (h.of k hk b hb).1, (h.of k hk b hb).2⟩, fun s hs b hb => ⟨hO _ (h.og s hs b hb).1, (h.og s hs b hb).2⟩, hO2⟩
/-- A slot's fields are laid: another slice, of a new row. -/
theorem RfB.setfld {g n cap i : Nat} {s : Rs} {u : Value} {l : List Int} {w6 : World} (h : RfB w O m qx c R (.slice (some ⟨g, 0, none⟩) n cap) v cx) (og : O g) (hi : R.L[i]? = some s) (ht : Touch nob w w6) (hu : SlAt w6 u l) (hn : ∀ b, u.ownBlock = some b → w.heap.size ≤ b) :
    ∃ O', Touch O w (w6.setCell ⟨g, i * 6 + 5, none⟩ u) ∧ Sub w O' O ∧ RfB (w6.setCell ⟨g, i * 6 + 5, none⟩ u) O' m qx c (R.setS i { s with f := l, v := u }) (.slice (some ⟨g, 0, none⟩) n cap) v cx := by
  have lx : qx < w.heap.size := h.xs.lt
  refine ⟨fun b => O b ∨ u.ownBlock = some b, (ht.mono (fun _ _ x => x.elim)).trans ((touch_set _ _ _ _).mono fun b _ e => by rw [e]; exact og), fun b hb => hb.imp id (hn b), ?_⟩
  refine ((h.touch ht (fun _ _ x => x)).more (O' := fun b => O b ∨ u.ownBlock = some b) (fun b hb => .inl hb) (fun b hb => hb.elim (fun hb => Nat.lt_of_lt_of_le (h.lt b hb) ht.size) (fun hb => hu.lt b hb))).set (s' := { s with f := l, v := u }) (j := 5) hi (by omega) rfl hu (fun b hb => ⟨.inr hb, ?_⟩) rfl
  have := hn b hb
  omega
theorem rf_Begin_no (a f x : Int) (h : RfAt w O m qx c R) (hl : R.L.length ≤ 4096) (hx : isV R.L a = x) (hb : x ≠ 0) :
    Calls Tryz.prog 130 #[.pointer (some ⟨m, 0, none⟩), .int .i64 a, .int .i64 f] w fun e w' => e = .returned (.int .i64 1) ∧ w = w' := by
  have H := Lib.hid (rf_is_eq h hl hx)
  have hb1 : (x != 0) = true := by simpa using hb
  clear h hx
  go_enter Tryz.func130, Tryz.ntmps130
  go_wp2_with (go_at_call 133; fail)
  refine H.out.mono ?_
  rintro e w2 ⟨rfl, rfl⟩
  go_wp2
  go_ret
  exact ⟨rfl, rfl⟩
theorem rf_Begin_out (i k : Nat) (f : Int) (s : Rs) (h : RfAt w O m qx c R) (hl : R.L.length ≤ 4096) (hi : R.L[i]? = some s) (hp : posA R.L s.a = i) (his : s.is = 0) (hk : s.k = k) (hf : f < 0 ∨ clsSize k - 1 < f) :
    Calls Tryz.prog 130 #[.pointer (some ⟨m, 0, none⟩), .int .i64 s.a, .int .i64 f] w fun e w' => e = .returned (.int .i64 8) ∧ Touch nob w w' := by
  obtain ⟨n, hn⟩ : ∃ n, R.L.length = n := ⟨_, rfl⟩
  obtain ⟨g, cap, v, cx, hb, og, S⟩ := h.sa hn hi
  have H := Lib.hid (rf_is_eq h hl ((isV_at hi hp).trans his))
  have HA := Lib.hid (fun nn => rf_At_eq (h.old ((Touch.refl nob w).drewN nn)) hl hp (by rw [hn]; exact S.lt))
  rw [hn] at hl
  obtain ⟨d8, -, e1, e2, -, e4, e5, f2, f3, -, -, hcap, hlt, hbd⟩ := S
  rw [hk] at e1
  obtain ⟨z, hz⟩ : ∃ z, clsSize (k : Int) = z := ⟨_, rfl⟩
  have hz1 := clsSize_bd (k : Int)
  rw [hz] at hz1 hf
  have HZ := Lib.hid hz
  clear h hi hp hb og hn his hz hk
  by_cases hf0 : f < 0
  · clear hf
    go_enter Tryz.func130, Tryz.ntmps130
    go_wp2_with (go_at_call 133; fail)
    refine H.out.mono ?_
    rintro e w2 ⟨rfl, rfl⟩
    go_wp2_with fail
    go_quiet ((go_at_call 134; exact Calls.quiet_of_same ((HA.out _).mono fun _ _ h => ⟨h.1, h.2.symm⟩)))
    go_wp2
    go_ret
    exact ⟨rfl, (Touch.refl _ _).drewN _⟩
  · have hf1 : z - 1 < f := by omega
    have hf2 : 0 ≤ f := by omega
    clear hf hf0
    go_enter Tryz.func130, Tryz.ntmps130
    go_wp2_with (go_at_call 133; fail)
    refine H.out.mono ?_
    rintro e w2 ⟨rfl, rfl⟩
    go_wp2_with fail
    go_quiet ((go_at_call 134; exact Calls.quiet_of_same ((HA.out _).mono fun _ _ h => ⟨h.1, h.2.symm⟩)))
    go_wp2_with (go_at_call 155; fail)
    refine (ref03_Size _ _).mono ?_
    rintro e w2 ⟨rfl, rfl⟩
    rw [HZ.out]
    go_wp2
    go_ret
    exact ⟨rfl, (Touch.refl _ _).drewN _⟩
theorem rf_Begin (i k nf : Nat) (s : Rs) (h : RfAt w O m qx c R) (hl : R.L.length ≤ 4096) (hi : R.L[i]? = some s) (hp : posA R.L s.a = i) (his : s.is = 0) (hk : s.k = k) (hf : (nf : Int) ≤ clsSize k - 1) :
    Calls Tryz.prog 130 #[.pointer (some ⟨m, 0, none⟩), .int .i64 s.a, .int .i64 nf] w fun e w' => e = .returned (.int .i64 0) ∧ ∃ O' u, Touch O w w' ∧ Sub w O' O ∧ RfAt w' O' m qx c (R.setS i { s with bg := true, f := List.replicate nf 0, v := u }) := by
  obtain ⟨n, hn⟩ : ∃ n, R.L.length = n := ⟨_, rfl⟩
  obtain ⟨g, cap, v, cx, hb, og, S⟩ := h.sa hn hi
  have H := Lib.hid (rf_is_eq h hl ((isV_at hi hp).trans his))
  have HA := Lib.hid (fun nn => rf_At_eq (h.old ((Touch.refl nob w).drewN nn)) hl hp (by rw [hn]; exact S.lt))
  have HB := Lib.hid (And.intro hb (And.intro og hi))
  rw [hn] at hl
  obtain ⟨d8, -, e1, e2, -, e4, e5, -, -, f4, -, hcap, hlt, hbd⟩ := S
  rw [hk] at e1
  obtain ⟨z, hz⟩ : ∃ z, clsSize (k : Int) = z := ⟨_, rfl⟩
  have hz1 := clsSize_bd (k : Int)
  rw [hz] at hz1 hf
  have HZ := Lib.hid hz
  clear h hi hp hb og his hz hk
  go_enter Tryz.func130, Tryz.ntmps130
  go_wp2_with (go_at_call 133; fail)
  refine H.out.mono ?_
  rintro e w2 ⟨rfl, rfl⟩
  go_wp2_with fail
  go_quiet ((go_at_call 134; exact Calls.quiet_of_same ((HA.out _).mono fun _ _ h => ⟨h.1, h.2.symm⟩)))
  go_wp2_with (go_at_call 155; fail)
  refine (ref03_Size _ _).mono ?_
  rintro e w2 ⟨rfl, rfl⟩
  rw [HZ.out]
  go_upto_region 7 with fail
  generalize hw : World.setCell (World.drewN w _) _ _ = w3
  have hb3 : RfB w3 O m qx c (R.setS i { s with bg := true }) (.slice (some ⟨g, 0, none⟩) n cap) v cx := by
    rw [← hw]
    exact (HB.out.1.touch ((Touch.refl nob w).drewN _) (fun _ _ x => x)).one (j := 4) HB.out.2.2 (by omega) rfl rfl rfl
  have hT3 : Touch O w w3 := by
    rw [← hw]
    exact (((Touch.refl nob w).drewN _).mono fun _ _ x => x.elim).trans ((touch_set _ _ _ _).mono fun b _ e => by rw [e]; exact HB.out.2.1)
  have hi3 : (R.setS i { s with bg := true }).L[i]? = some { s with bg := true } := List.getElem?_set_self (by rw [hn]; exact hlt)
  obtain ⟨g', cap', ee, -, -, -, -, -, -, -, -, -, y5, -, -, -, x5⟩ := hb3.slot i _ hi3
  rw [show (R.setS i { s with bg := true }).L.length = n by unfold Rh.setS; simp only [List.length_set]; exact hn] at ee
  cases ee
  have gl := cell_lt y5
  have H3 := Lib.hid (And.intro hb3 (And.intro hT3 hi3))
  obtain ⟨i0, hi, hz0, hzs, hzb⟩ := info_parts info_int2
  clear hw hb3 hT3 hi3 d8 e1 e2 e4 e5 f4 HA
  have hnf : nf ≤ 15 := by omega
  go_wp2_with (at_make; refine wpList_make_full _ rfl _ _ 28 rfl w3.heap.size 3 i0 (.int .i64 0) 1 Tryz.underlying28 hi hz0 hzs .i64 .i64 _ _ nf rfl rfl (by omega) (by omega) (by rw [hzb]; omega) (by unfold maxLen; omega) (Nat.le_refl _) ?_; intro w6 hown hgrow; have HX := Lib.hid (And.intro hown hgrow); have hT6 : Touch nob w3 w6 := (Touch.refl nob w3).grown hgrow (fun _ h => by cases h); have y5' := (hT6.cell gl (fun x => x)).trans y5; have x5' := (hT6.frozen gl (fun x => x)).trans x5; have HT6 := Lib.hid hT6; clear hown hgrow hT6 y5 x5)
  go_ret
  obtain ⟨hown, hgrow⟩ := HX.out
  rw [made_ints] at hown
  have hkk : kint [] nf = List.replicate nf 0 := by unfold kint; simp
  rw [hkk] at hown
  obtain ⟨O', t1, t2, t3⟩ := H3.out.1.setfld (u := .slice (some ⟨w3.heap.size, 0, none⟩) nf nf) HB.out.2.1 H3.out.2.2 HT6.out (SlAt.of_owns hown) (fun b hb => by cases hb; exact Nat.le_refl _)
  rw [setS_setS] at t3
  exact ⟨rfl, H3.out.2.1.trans t1, O', fun b hb => (t2 b hb).imp id (fun h => Nat.le_trans H3.out.2.1.size h), _, _, _, _, t3⟩
end Go.Proofs.YtnobempbcdkoaaaGreatDoor
