/- The walks of SameRows and same: Parse agrees with the definition. -/
import Derived.Test.YtkllpfijeglppaaDoorHsU
import Derived.Laws.StructEq
namespace Go.Proofs.YtkllpfijeglppaaDoor.HsV
open Go.RowKit Hs HsB HsC HsD HsF HsG HsH HsE HsI HsJ HsK HsL HsM HsN HsO HsP HsQ HsR HsS HsT HsU
theorem row_und : Tryd.prog.underlying 39 = some (.struct (Tryd.prog.fieldsOf 39)) := by kernel_rfl
theorem row_held : Tryd.prog.stoodInHeld 39 = false := by kernel_rfl
theorem row_guard : Tryd.prog.eqGuardType Tryd.prog.depth 39 = false := by kernel_rfl
theorem row_fields : Tryd.prog.fieldsOf 39 = #[Tryd.prog.fieldsOf 39 |>.getD 0 default, Tryd.prog.fieldsOf 39 |>.getD 1 default, Tryd.prog.fieldsOf 39 |>.getD 2 default, Tryd.prog.fieldsOf 39 |>.getD 3 default, Tryd.prog.fieldsOf 39 |>.getD 4 default, Tryd.prog.fieldsOf 39 |>.getD 5 default] := by kernel_rfl
theorem row_neq (a b c d e f : Int) (W : World) : (binOp .neq 39 (.agg #[.int .i64 a, .int .i64 b, .int .i64 c, .int .i64 d, .int .i64 e, .int .i64 f]) (.agg #[.int .i64 a, .int .i64 b, .int .i64 c, .int .i64 d, .int .i64 e, .int .i64 f])).run Tryd.prog W = .ok (.bool false) W := by
  rw [run_neq_struct, run_equalIn_agg W 9999 _ _ _ row_und row_held, row_fields]
  simp [go_sem]
theorem rvals_get : ∀ (l : List HRow) (k : Nat) (r : HRow), l[k]? = some r → ∀ j, j < 6 → (rvals l)[k * 6 + j]? = r.vals[j]?
  | [], _, _, h, _, _ => by simp at h
  | a :: l, 0, r, h, j, hj => by
    obtain rfl : a = r := by simpa using h
    have e : rvals (a :: l) = a.vals ++ rvals l := by simp [rvals]
    rw [e, List.getElem?_append_left (by simp [HRow.vals]; omega)]
    simp
  | a :: l, k + 1, r, h, j, hj => by
    have ih := rvals_get l k r (by simpa using h) j hj
    have e : rvals (a :: l) = a.vals ++ rvals l := by simp [rvals]
    have hl : a.vals.length = 6 := rfl
    rw [e, List.getElem?_append_right (by omega), hl, ← ih]
    congr 1
    omega
theorem rows_of_own {w : World} {B : Nat} {l : List HRow} {A : Option Addr} {c : Nat} (h : w.ownsRow B 39 6 (.slice A l.length c) l.length (rvals l)) (hl : l.length ≤ maxLen) : RowsAt w w.heap.size A l := by
  refine ⟨hl, fun hp => ?_⟩
  obtain ⟨g, cg, hA, _, hlt⟩ := h.form hp
  cases hA
  refine ⟨g, 0, rfl, hlt, fun k r hk => ?_⟩
  have hkl : k < l.length := (List.getElem?_eq_some_iff.1 hk).1
  have key : ∀ j, j < 6 → w.cell? ⟨g, k * 6 + j, none⟩ = r.vals[j]? := fun j hj => by
    rw [h.cellAt (k * 6 + j) (by omega), rvals_get l k r hk j hj]
  rw [Nat.zero_add]
  exact ⟨key 0 (by omega), key 1 (by omega), key 2 (by omega), key 3 (by omega), key 4 (by omega), key 5 (by omega)⟩
set_option maxHeartbeats 2000000 in
set_option maxRecDepth 100000 in
theorem sameRows_yes (l : List HRow) (A A' : Option Addr) (c c' : Nat) (w : World) (h : RowsAt w w.heap.size A l) (h' : RowsAt w w.heap.size A' l) :
    Calls Tryd.prog 19 #[.slice A l.length c, .slice A' l.length c'] w fun e w' => e = .returned (.bool true) ∧ Below w.heap.size w w' := by
  have hlen := h.1
  unfold maxLen at hlen
  have H := hide h
  have H' := hide h'
  have hrn := row_neq
  have HRN := Lib.hid hrn
  have hrg := row_guard
  have hn : ((l.length : Int) != (l.length : Int)) = false := by simp
  clear h h' hrn
  go_enter Tryd.func19, Tryd.ntmps19
  go_wp2_with fail
  go_loopw [5] (fun vi wr => ∃ (k : Nat), k ≤ l.length ∧ vi = .int .i64 k ∧ Below w.heap.size w wr) (fun vi _ => l.length - (intOf vi).toNat)
  case atStart => exact ⟨0, by omega, rfl, Below.refl _ _⟩
  case round =>
    obtain ⟨k, hk, rfl, hbr⟩ := hrel
    by_cases hlt : k < l.length
    · obtain ⟨r, hr⟩ : ∃ r, l[k]? = some r := ⟨_, List.getElem?_eq_getElem hlt⟩
      obtain ⟨b, off, rfl, hbw, hc⟩ := (H.out.below hbr).2 (by omega)
      obtain ⟨b', off', rfl, hbw', hc'⟩ := (H'.out.below hbr).2 (by omega)
      obtain ⟨c0, c1, c2, c3, c4, c5⟩ := hc k r hr
      obtain ⟨d0, d1, d2, d3, d4, d5⟩ := hc' k r hr
      clear hr hc hc'
      have hrn := HRN.out
      go_wp2_with fail
      go_quiet (fail)
      go_wp2_with fail
      go_roundw
      case rel => exact ⟨k + 1, by omega, by go_num, below_drewN hbr _⟩
      case measure => simp [intOf]; omega
    · go_wp2_with fail
      go_ret
      exact ⟨rfl, hbr⟩
theorem own_len {w : World} {B e size n c : Nat} {A : Option Addr} {xs : List Value} (h : w.ownsRow B e size (.slice A n c) n xs) : n ≤ maxLen := by
  rcases h.2 with ⟨h', _⟩ | ⟨g, cap, cur, h', _, _, h1, h2, _⟩
  · injection h' with _ h3 _; subst h3; exact Nat.zero_le _
  · omega
set_option maxHeartbeats 2000000 in
set_option maxRecDepth 100000 in
theorem same_any (s : ByteArray) (w : World) (hs : s.size ≤ 1000000) (he : Env w) :
    Calls Tryd.prog 17 #[.string s] w fun e w' => e = .returned (.bool true) ∧ Below w.heap.size w w' := by
  go_enter Tryd.func17, Tryd.ntmps17
  go_wp2_with fail
  refine (parse_any s _ hs he).mono ?_
  rintro e w1 ⟨v1, rfl, hown1, hb1⟩
  obtain ⟨A, c, rfl⟩ := own_slice hown1
  go_wp2_with fail
  refine (rparse_any s _ hs).mono ?_
  rintro e w2 ⟨v2, rfl, hown2, hb2⟩
  obtain ⟨A', c', rfl⟩ := own_slice hown2
  have hr1 : RowsAt w2 w2.heap.size A (parseOf s.data.toList).1 := rows_of_own (own_below hown1 hb2) (own_len hown1)
  have hr2 : RowsAt w2 w2.heap.size A' (parseOf s.data.toList).1 := rows_of_own hown2 (own_len hown2)
  go_wp2_with (go_at_call 19; refine (sameRows_yes _ _ _ _ _ _ hr1 hr2).mono ?_; rintro e w3 ⟨rfl, hb3⟩)
  go_ret
  exact ⟨rfl, (hb1.trans (hb2.mono hb1.size)).trans (hb3.mono (Nat.le_trans hb1.size hb2.size))⟩
end Go.Proofs.YtkllpfijeglppaaDoor.HsV
