/- Checks of clauses (reference); the texts of clauses. -/
import Derived.Test.YtnbdckfnohagbaaGreatDoorPqS
import Derived.Test.YtnbdckfnohagbaaGreatDoorPqM
import Derived.Test.YtnbdckfnohagbaaGreatDoorHsE
import Derived.Test.YtnbdckfnohagbaaGreatDoorShelf
import Derived.Test.YtnbdckfnohagbaaGreatDoorRtD
namespace Go.Proofs.YtnbdckfnohagbaaGreatDoor.PqT
set_option linter.unusedVariables false
open Go.RowKit Lx Wd RnW PqA PqB PqC PqD PqG NmA PqS RnQ RnR RnP RtA RpC RpE RpF RpI RtH RoA RoL RnD
/-- the error of the list of a class -/
def lsCode (l : List ByteArray) : Nat := if l.all plB = false then 11 else if l.length = 0 then 21 else if 32 < l.length then 2 else 0
set_option maxHeartbeats 4000000 in
set_option maxRecDepth 100000 in
theorem rchk_class (nm ot : ByteArray) (l : List ByteArray) (A : Option Addr) (c : Nat) (b : Bool) (x y : ByteArray) (z : Int) (w : World) (h1 : nm.size ≤ maxLen) (h2 : ot.size ≤ maxLen) (h3 : Strs (fun _ => True) w A c l) (h4 : ∀ s ∈ l, s.size ≤ maxLen) (h5 : x.size ≤ 50000) (h6 : y.size ≤ 50000) (hn : plB nm = true) :
    Calls Tryz.prog 34 #[.agg #[.int .i64 1, .string nm, .string ot, .slice A l.length c, .bool b, .string x, .string y, .int .i64 z]] w fun e w' => e = .returned (.int .i64 (lsCode l : Nat)) ∧ Below w.heap.size w w' := by
  have hlen := h3.1
  unfold maxLen at hlen
  obtain ⟨V0, hV0, HX, HB0, hl0⟩ := new8 w (.int .i64 1) (.string nm) (.string ot) (.slice A l.length c) (.bool b) (.string x) (.string y) (.int .i64 z) 45
  obtain ⟨c0, c1, c2, c3, c4, c5, c6, c7⟩ := cells8 HX.out
  have HN := Lib.hid (fun w => rplain_any nm w h1)
  rw [hn] at HN
  have HL := hide (h3.below HB0.out)
  have HZ := Lib.hid h4
  clear h1 h2 h3 h4 h5 h6 hn
  go_enter Tryz.func34, Tryz.ntmps34
  go_wp2_with (first | (go_at_call 62; (with_reducible refine (HN.out _).mono ?_); rintro e w' ⟨rfl, rfl⟩))
  go_loop [3] (fun v => ∃ k : Nat, k ≤ l.length ∧ v = .int .i64 k ∧ Hid ((l.take k).all plB = true)) (fun v => l.length - (intOf v).toNat)
  case atStart => exact ⟨0, Nat.zero_le _, rfl, rfl⟩
  case round =>
    obtain ⟨k, hk, rfl, HA⟩ := hrel
    by_cases hlt : k < l.length
    · obtain ⟨s, hr⟩ : ∃ r, l[k]? = some r := ⟨_, List.getElem?_eq_getElem hlt⟩
      obtain ⟨bb, off, rfl, hbw, _, hc⟩ := HL.out.2 (by omega)
      have k0 := hc k s hr
      have hz := HZ.out s (List.mem_of_getElem? hr)
      have HR := hide hr
      clear hr hc
      cases hp : plB s
      · have HP := hide hp
        have HC := hide (show lsCode l = 11 by unfold lsCode; rw [if_pos (all_no HR.out hp)])
        clear hp
        go_wp2_with (go_at_call 62; (with_reducible refine (rplain_any s _ hz).mono ?_); rintro e w' ⟨rfl, rfl⟩; rw [HP.out])
        go_ret
        exact ⟨ret_int (by rw [HC.out]; rfl), HB0.out⟩
      · have HP := hide hp
        clear hp
        go_wp2_with (go_at_call 62; (with_reducible refine (rplain_any s _ hz).mono ?_); rintro e w' ⟨rfl, rfl⟩; rw [HP.out])
        go_round
        case rel => exact ⟨k + 1, by omega, by go_num, all_snoc HR.out HP.out HA.out⟩
        case measure => simp [intOf]; omega
    · have hkl : l.take k = l := List.take_of_length_le (by omega)
      have hA := HA.out
      rw [hkl] at hA
      have HA2 := hide hA
      clear hA hkl
      by_cases h0 : l.length = 0
      · have HC := hide (show lsCode l = 21 by unfold lsCode; rw [if_neg (by rw [HA2.out]; decide), if_pos h0])
        have hl0' : (l.length : Int) = 0 := by omega
        go_wp2_with fail
        go_ret
        exact ⟨ret_int (by rw [HC.out]; rfl), HB0.out⟩
      · by_cases h9 : 32 < l.length
        · have HC := hide (show lsCode l = 2 by unfold lsCode; rw [if_neg (by rw [HA2.out]; decide), if_neg h0, if_pos h9])
          have hp0 : 0 < l.length := by omega
          go_wp2_with fail
          go_ret
          exact ⟨ret_int (by rw [HC.out]; rfl), HB0.out⟩
        · have HC := hide (show lsCode l = 0 by unfold lsCode; rw [if_neg (by rw [HA2.out]; decide), if_neg h0, if_neg h9])
          have hp0 : 0 < l.length := by omega
          have hp9 : l.length ≤ 32 := by omega
          go_wp2_with fail
          go_ret
          exact ⟨ret_int (by rw [HC.out]; rfl), HB0.out⟩
set_option maxHeartbeats 2000000 in
set_option maxRecDepth 100000 in
theorem rchk_kind (k : Int) (nm ot : ByteArray) (l : List ByteArray) (A : Option Addr) (c : Nat) (b : Bool) (x y : ByteArray) (z : Int) (w : World) (hk : k < 1 ∨ 4 < k) :
    Calls Tryz.prog 34 #[.agg #[.int .i64 k, .string nm, .string ot, .slice A l.length c, .bool b, .string x, .string y, .int .i64 z]] w fun e w' => e = .returned (.int .i64 10) ∧ Below w.heap.size w w' := by
  obtain ⟨V0, hV0, HX, HB0, hl0⟩ := new8 w (.int .i64 k) (.string nm) (.string ot) (.slice A l.length c) (.bool b) (.string x) (.string y) (.int .i64 z) 45
  obtain ⟨c0, c1, c2, c3, c4, c5, c6, c7⟩ := cells8 HX.out
  rcases hk with hk | hk
  · go_enter Tryz.func34, Tryz.ntmps34
    go_wp2_with fail
    go_ret
    exact ⟨rfl, HB0.out⟩
  · have hk1 : 1 ≤ k := by omega
    go_enter Tryz.func34, Tryz.ntmps34
    go_wp2_with fail
    go_ret
    exact ⟨rfl, HB0.out⟩
set_option maxHeartbeats 2000000 in
set_option maxRecDepth 100000 in
theorem rchk_name1 (nm ot : ByteArray) (l : List ByteArray) (A : Option Addr) (c : Nat) (b : Bool) (x y : ByteArray) (z : Int) (w : World) (h1 : nm.size ≤ maxLen) (h2 : ot.size ≤ maxLen) (h3 : Strs (fun _ => True) w A c l) (h4 : ∀ s ∈ l, s.size ≤ maxLen) (h5 : x.size ≤ 50000) (h6 : y.size ≤ 50000) (hn : plB nm = false) :
    Calls Tryz.prog 34 #[.agg #[.int .i64 1, .string nm, .string ot, .slice A l.length c, .bool b, .string x, .string y, .int .i64 z]] w fun e w' => e = .returned (.int .i64 11) ∧ Below w.heap.size w w' := by
  obtain ⟨V0, hV0, HX, HB0, hl0⟩ := new8 w (.int .i64 1) (.string nm) (.string ot) (.slice A l.length c) (.bool b) (.string x) (.string y) (.int .i64 z) 45
  obtain ⟨c0, c1, c2, c3, c4, c5, c6, c7⟩ := cells8 HX.out
  have HN := Lib.hid (fun w => rplain_any nm w h1)
  rw [hn] at HN
  clear hn h1 h2 h3 h4 h5 h6
  go_enter Tryz.func34, Tryz.ntmps34
  go_wp2_with (first | (go_at_call 62; (with_reducible refine (HN.out _).mono ?_); rintro e w' ⟨rfl, rfl⟩))
  go_ret
  exact ⟨rfl, HB0.out⟩
set_option maxHeartbeats 2000000 in
set_option maxRecDepth 100000 in
theorem rchk_name2 (nm ot : ByteArray) (l : List ByteArray) (A : Option Addr) (c : Nat) (b : Bool) (x y : ByteArray) (z : Int) (w : World) (h1 : nm.size ≤ maxLen) (h2 : ot.size ≤ maxLen) (h3 : Strs (fun _ => True) w A c l) (h4 : ∀ s ∈ l, s.size ≤ maxLen) (h5 : x.size ≤ 50000) (h6 : y.size ≤ 50000) (hn : plB nm = false) :
    Calls Tryz.prog 34 #[.agg #[.int .i64 2, .string nm, .string ot, .slice A l.length c, .bool b, .string x, .string y, .int .i64 z]] w fun e w' => e = .returned (.int .i64 11) ∧ Below w.heap.size w w' := by
  obtain ⟨V0, hV0, HX, HB0, hl0⟩ := new8 w (.int .i64 2) (.string nm) (.string ot) (.slice A l.length c) (.bool b) (.string x) (.string y) (.int .i64 z) 45
  obtain ⟨c0, c1, c2, c3, c4, c5, c6, c7⟩ := cells8 HX.out
  have HN := Lib.hid (fun w => rplain_any nm w h1)
  rw [hn] at HN
  clear hn h1 h2 h3 h4 h5 h6
  go_enter Tryz.func34, Tryz.ntmps34
  go_wp2_with (first | (go_at_call 62; (with_reducible refine (HN.out _).mono ?_); rintro e w' ⟨rfl, rfl⟩))
  go_ret
  exact ⟨rfl, HB0.out⟩
set_option maxHeartbeats 2000000 in
set_option maxRecDepth 100000 in
theorem rchk_name3 (nm ot : ByteArray) (l : List ByteArray) (A : Option Addr) (c : Nat) (b : Bool) (x y : ByteArray) (z : Int) (w : World) (h1 : nm.size ≤ maxLen) (h2 : ot.size ≤ maxLen) (h3 : Strs (fun _ => True) w A c l) (h4 : ∀ s ∈ l, s.size ≤ maxLen) (h5 : x.size ≤ 50000) (h6 : y.size ≤ 50000) (hn : plB nm = false) :
    Calls Tryz.prog 34 #[.agg #[.int .i64 3, .string nm, .string ot, .slice A l.length c, .bool b, .string x, .string y, .int .i64 z]] w fun e w' => e = .returned (.int .i64 11) ∧ Below w.heap.size w w' := by
  obtain ⟨V0, hV0, HX, HB0, hl0⟩ := new8 w (.int .i64 3) (.string nm) (.string ot) (.slice A l.length c) (.bool b) (.string x) (.string y) (.int .i64 z) 45
  obtain ⟨c0, c1, c2, c3, c4, c5, c6, c7⟩ := cells8 HX.out
  have HN := Lib.hid (fun w => rplain_any nm w h1)
  rw [hn] at HN
  clear hn h1 h2 h3 h4 h5 h6
  go_enter Tryz.func34, Tryz.ntmps34
  go_wp2_with (first | (go_at_call 62; (with_reducible refine (HN.out _).mono ?_); rintro e w' ⟨rfl, rfl⟩))
  go_ret
  exact ⟨rfl, HB0.out⟩
set_option maxHeartbeats 2000000 in
set_option maxRecDepth 100000 in
theorem rchk_name4 (nm ot : ByteArray) (l : List ByteArray) (A : Option Addr) (c : Nat) (b : Bool) (x y : ByteArray) (z : Int) (w : World) (h1 : nm.size ≤ maxLen) (h2 : ot.size ≤ maxLen) (h3 : Strs (fun _ => True) w A c l) (h4 : ∀ s ∈ l, s.size ≤ maxLen) (h5 : x.size ≤ 50000) (h6 : y.size ≤ 50000) (hn : plB nm = false) :
    Calls Tryz.prog 34 #[.agg #[.int .i64 4, .string nm, .string ot, .slice A l.length c, .bool b, .string x, .string y, .int .i64 z]] w fun e w' => e = .returned (.int .i64 11) ∧ Below w.heap.size w w' := by
  obtain ⟨V0, hV0, HX, HB0, hl0⟩ := new8 w (.int .i64 4) (.string nm) (.string ot) (.slice A l.length c) (.bool b) (.string x) (.string y) (.int .i64 z) 45
  obtain ⟨c0, c1, c2, c3, c4, c5, c6, c7⟩ := cells8 HX.out
  have HN := Lib.hid (fun w => rplain_any nm w h1)
  rw [hn] at HN
  clear hn h1 h2 h3 h4 h5 h6
  go_enter Tryz.func34, Tryz.ntmps34
  go_wp2_with (first | (go_at_call 62; (with_reducible refine (HN.out _).mono ?_); rintro e w' ⟨rfl, rfl⟩))
  go_ret
  exact ⟨rfl, HB0.out⟩
set_option maxHeartbeats 2000000 in
set_option maxRecDepth 100000 in
theorem rchk_other2 (nm ot : ByteArray) (l : List ByteArray) (A : Option Addr) (c : Nat) (b : Bool) (x y : ByteArray) (z : Int) (w : World) (h1 : nm.size ≤ maxLen) (h2 : ot.size ≤ maxLen) (h3 : Strs (fun _ => True) w A c l) (h4 : ∀ s ∈ l, s.size ≤ maxLen) (h5 : x.size ≤ 50000) (h6 : y.size ≤ 50000) (hn : plB nm = true) (ho : plB ot = false) :
    Calls Tryz.prog 34 #[.agg #[.int .i64 2, .string nm, .string ot, .slice A l.length c, .bool b, .string x, .string y, .int .i64 z]] w fun e w' => e = .returned (.int .i64 11) ∧ Below w.heap.size w w' := by
  obtain ⟨V0, hV0, HX, HB0, hl0⟩ := new8 w (.int .i64 2) (.string nm) (.string ot) (.slice A l.length c) (.bool b) (.string x) (.string y) (.int .i64 z) 45
  obtain ⟨c0, c1, c2, c3, c4, c5, c6, c7⟩ := cells8 HX.out
  have HN := Lib.hid (fun w => rplain_any nm w h1)
  rw [hn] at HN
  have HO := Lib.hid (fun w => rplain_any ot w h2)
  rw [ho] at HO
  clear hn h1 h2 h3 h4 h5 h6 ho
  go_enter Tryz.func34, Tryz.ntmps34
  go_wp2_with (first | (go_at_call 62; (first | (with_reducible refine (HN.out _).mono ?_) | (with_reducible refine (HO.out _).mono ?_)); rintro e w' ⟨rfl, rfl⟩))
  go_ret
  exact ⟨rfl, HB0.out⟩
set_option maxHeartbeats 2000000 in
set_option maxRecDepth 100000 in
theorem rchk_ok2 (nm ot : ByteArray) (l : List ByteArray) (A : Option Addr) (c : Nat) (b : Bool) (x y : ByteArray) (z : Int) (w : World) (h1 : nm.size ≤ maxLen) (h2 : ot.size ≤ maxLen) (h3 : Strs (fun _ => True) w A c l) (h4 : ∀ s ∈ l, s.size ≤ maxLen) (h5 : x.size ≤ 50000) (h6 : y.size ≤ 50000) (hn : plB nm = true) (ho : plB ot = true) :
    Calls Tryz.prog 34 #[.agg #[.int .i64 2, .string nm, .string ot, .slice A l.length c, .bool b, .string x, .string y, .int .i64 z]] w fun e w' => e = .returned (.int .i64 0) ∧ Below w.heap.size w w' := by
  obtain ⟨V0, hV0, HX, HB0, hl0⟩ := new8 w (.int .i64 2) (.string nm) (.string ot) (.slice A l.length c) (.bool b) (.string x) (.string y) (.int .i64 z) 45
  obtain ⟨c0, c1, c2, c3, c4, c5, c6, c7⟩ := cells8 HX.out
  have HN := Lib.hid (fun w => rplain_any nm w h1)
  rw [hn] at HN
  have HO := Lib.hid (fun w => rplain_any ot w h2)
  rw [ho] at HO
  clear hn h1 h2 h3 h4 h5 h6 ho
  go_enter Tryz.func34, Tryz.ntmps34
  go_wp2_with (first | (go_at_call 62; (first | (with_reducible refine (HN.out _).mono ?_) | (with_reducible refine (HO.out _).mono ?_)); rintro e w' ⟨rfl, rfl⟩))
  go_ret
  exact ⟨rfl, HB0.out⟩
set_option maxHeartbeats 2000000 in
set_option maxRecDepth 100000 in
theorem rchk_neg3 (nm ot : ByteArray) (l : List ByteArray) (A : Option Addr) (c : Nat) (b : Bool) (x y : ByteArray) (z : Int) (w : World) (h1 : nm.size ≤ maxLen) (h2 : ot.size ≤ maxLen) (h3 : Strs (fun _ => True) w A c l) (h4 : ∀ s ∈ l, s.size ≤ maxLen) (h5 : x.size ≤ 50000) (h6 : y.size ≤ 50000) (hn : plB nm = true) (hg : sgC b x y < 0) :
    Calls Tryz.prog 34 #[.agg #[.int .i64 3, .string nm, .string ot, .slice A l.length c, .bool b, .string x, .string y, .int .i64 z]] w fun e w' => e = .returned (.int .i64 7) ∧ Below w.heap.size w w' := by
  obtain ⟨V0, hV0, HX, HB0, hl0⟩ := new8 w (.int .i64 3) (.string nm) (.string ot) (.slice A l.length c) (.bool b) (.string x) (.string y) (.int .i64 z) 45
  obtain ⟨c0, c1, c2, c3, c4, c5, c6, c7⟩ := cells8 HX.out
  have HN := Lib.hid (fun w => rplain_any nm w h1)
  rw [hn] at HN
  have HS := Lib.hid (fun w => rsign_any b x y w (by omega) (by omega))
  change Hid (∀ w, Calls _ _ _ w fun e w' => e = .returned (.int .i64 (sgC b x y)) ∧ Below w.heap.size w w') at HS
  generalize sgC b x y = g at *
  clear hn h1 h2 h3 h4 h5 h6
  go_enter Tryz.func34, Tryz.ntmps34
  go_wp2_with (first | (go_at_call 62; (with_reducible refine (HN.out _).mono ?_); rintro e w' ⟨rfl, rfl⟩) | (go_at_call 63; (with_reducible refine (HS.out _).mono ?_); rintro e w2 ⟨rfl, hb2⟩))
  go_ret
  exact ⟨rfl, HB0.out.trans (hb2.mono HB0.out.size)⟩
set_option maxHeartbeats 2000000 in
set_option maxRecDepth 100000 in
theorem rchk_ok3 (nm ot : ByteArray) (l : List ByteArray) (A : Option Addr) (c : Nat) (b : Bool) (x y : ByteArray) (z : Int) (w : World) (h1 : nm.size ≤ maxLen) (h2 : ot.size ≤ maxLen) (h3 : Strs (fun _ => True) w A c l) (h4 : ∀ s ∈ l, s.size ≤ maxLen) (h5 : x.size ≤ 50000) (h6 : y.size ≤ 50000) (hn : plB nm = true) (hg : ¬ sgC b x y < 0) :
    Calls Tryz.prog 34 #[.agg #[.int .i64 3, .string nm, .string ot, .slice A l.length c, .bool b, .string x, .string y, .int .i64 z]] w fun e w' => e = .returned (.int .i64 0) ∧ Below w.heap.size w w' := by
  obtain ⟨V0, hV0, HX, HB0, hl0⟩ := new8 w (.int .i64 3) (.string nm) (.string ot) (.slice A l.length c) (.bool b) (.string x) (.string y) (.int .i64 z) 45
  obtain ⟨c0, c1, c2, c3, c4, c5, c6, c7⟩ := cells8 HX.out
  have HN := Lib.hid (fun w => rplain_any nm w h1)
  rw [hn] at HN
  have HS := Lib.hid (fun w => rsign_any b x y w (by omega) (by omega))
  change Hid (∀ w, Calls _ _ _ w fun e w' => e = .returned (.int .i64 (sgC b x y)) ∧ Below w.heap.size w w') at HS
  generalize sgC b x y = g at *
  clear hn h1 h2 h3 h4 h5 h6
  go_enter Tryz.func34, Tryz.ntmps34
  go_wp2_with (first | (go_at_call 62; (with_reducible refine (HN.out _).mono ?_); rintro e w' ⟨rfl, rfl⟩) | (go_at_call 63; (with_reducible refine (HS.out _).mono ?_); rintro e w2 ⟨rfl, hb2⟩))
  go_ret
  exact ⟨rfl, HB0.out.trans (hb2.mono HB0.out.size)⟩
set_option maxHeartbeats 2000000 in
set_option maxRecDepth 100000 in
theorem rchk_ok4 (nm ot : ByteArray) (l : List ByteArray) (A : Option Addr) (c : Nat) (b : Bool) (x y : ByteArray) (z : Int) (w : World) (h1 : nm.size ≤ maxLen) (h2 : ot.size ≤ maxLen) (h3 : Strs (fun _ => True) w A c l) (h4 : ∀ s ∈ l, s.size ≤ maxLen) (h5 : x.size ≤ 50000) (h6 : y.size ≤ 50000) (hn : plB nm = true) :
    Calls Tryz.prog 34 #[.agg #[.int .i64 4, .string nm, .string ot, .slice A l.length c, .bool b, .string x, .string y, .int .i64 z]] w fun e w' => e = .returned (.int .i64 0) ∧ Below w.heap.size w w' := by
  obtain ⟨V0, hV0, HX, HB0, hl0⟩ := new8 w (.int .i64 4) (.string nm) (.string ot) (.slice A l.length c) (.bool b) (.string x) (.string y) (.int .i64 z) 45
  obtain ⟨c0, c1, c2, c3, c4, c5, c6, c7⟩ := cells8 HX.out
  have HN := Lib.hid (fun w => rplain_any nm w h1)
  rw [hn] at HN
  clear hn h1 h2 h3 h4 h5 h6
  go_enter Tryz.func34, Tryz.ntmps34
  go_wp2_with (first | (go_at_call 62; (with_reducible refine (HN.out _).mono ?_); rintro e w' ⟨rfl, rfl⟩))
  go_ret
  exact ⟨rfl, HB0.out⟩
theorem rchk_any (k : Int) (nm ot : ByteArray) (l : List ByteArray) (A : Option Addr) (c : Nat) (b : Bool) (x y : ByteArray) (z : Int) (w : World) (h1 : nm.size ≤ maxLen) (h2 : ot.size ≤ maxLen) (h3 : Strs (fun _ => True) w A c l) (h4 : ∀ s ∈ l, s.size ≤ maxLen) (h5 : x.size ≤ 50000) (h6 : y.size ≤ 50000) :
    Calls Tryz.prog 34 #[.agg #[.int .i64 k, .string nm, .string ot, .slice A l.length c, .bool b, .string x, .string y, .int .i64 z]] w fun e w' => e = .returned (.int .i64 (codeOf ⟨k, nm, ot, l, b, x, y, z⟩ : Nat)) ∧ Below w.heap.size w w' := by
  unfold codeOf
  dsimp only
  by_cases hk : k < 1 ∨ 4 < k
  · rw [if_pos hk]; exact rchk_kind k nm ot l A c b x y z w hk
  rw [if_neg hk]
  cases hn : plB nm
  · rw [if_pos rfl]
    rcases (by omega : k = 1 ∨ k = 2 ∨ k = 3 ∨ k = 4) with rfl | rfl | rfl | rfl
    · exact rchk_name1 nm ot l A c b x y z w h1 h2 h3 h4 h5 h6 hn
    · exact rchk_name2 nm ot l A c b x y z w h1 h2 h3 h4 h5 h6 hn
    · exact rchk_name3 nm ot l A c b x y z w h1 h2 h3 h4 h5 h6 hn
    · exact rchk_name4 nm ot l A c b x y z w h1 h2 h3 h4 h5 h6 hn
  rw [if_neg (by decide)]
  rcases (by omega : k = 1 ∨ k = 2 ∨ k = 3 ∨ k = 4) with rfl | rfl | rfl | rfl
  · rw [if_pos rfl]; exact rchk_class nm ot l A c b x y z w h1 h2 h3 h4 h5 h6 hn
  · rw [if_neg (by decide), if_pos rfl]
    cases ho : plB ot
    · rw [if_pos rfl]; exact rchk_other2 nm ot l A c b x y z w h1 h2 h3 h4 h5 h6 hn ho
    · rw [if_neg (by decide)]; exact rchk_ok2 nm ot l A c b x y z w h1 h2 h3 h4 h5 h6 hn ho
  · rw [if_neg (by decide), if_neg (by decide), if_pos rfl]
    by_cases hg : sgC b x y < 0
    · rw [if_pos hg]; exact rchk_neg3 nm ot l A c b x y z w h1 h2 h3 h4 h5 h6 hn hg
    · rw [if_neg hg]; exact rchk_ok3 nm ot l A c b x y z w h1 h2 h3 h4 h5 h6 hn hg
  · rw [if_neg (by decide), if_neg (by decide), if_neg (by decide)]; exact rchk_ok4 nm ot l A c b x y z w h1 h2 h3 h4 h5 h6 hn
theorem app_data (a b : ByteArray) : (a ++ b).data.toList = a.data.toList ++ b.data.toList := by simp
/-- the text of a clause, without its end -/
def headL (x : Cl) : List UInt8 :=
  if x.kind = 1 then [99, 108, 97, 115, 115, 32] ++ x.name.data.toList ++ [32, 61, 32] ++ Lib.join (x.list.map (·.data.toList)) [44, 32]
  else if x.kind = 2 then x.name.data.toList ++ [32, 98, 101, 102, 111, 114, 101, 32] ++ x.other.data.toList
  else if x.kind = 3 then [108, 105, 109, 105, 116, 32] ++ x.name.data.toList ++ [32] ++ formatQ (fixQ x.neg x.num.data.toList x.den.data.toList)
  else [115, 117, 98, 111, 114, 100, 105, 110, 97, 116, 101, 32] ++ x.name.data.toList
/-- the line of a clause -/
def lineL (x : Cl) : List UInt8 := headL x ++ [59, 10]
theorem fq_size {b : Bool} {x y : ByteArray} (hx : x.size ≤ 50000) (hy : y.size ≤ 50000) : (st (formatQ (fixQ b x.data.toList y.data.toList))).size ≤ 400000 := by
  obtain ⟨hs1, hs2⟩ := fix_size (n := b) (a := x) (d := y)
  generalize fixQ b x.data.toList y.data.toList = q at *
  have h1 := dec_size (nm q)
  have h2 := dec_size q.den
  have h3 := den_size q
  rw [fmt_eq, ByteArray.size_append, ByteArray.size_append]
  have e1 : (if negB q then st [45] else st []).size ≤ 1 := by split <;> simp [st_size]
  have e2 : (if q.den = 1 then st [] else (st [47] ++ st (decOf q.den))).size ≤ 1 + (st (decOf q.den)).size := by
    split
    · simp [st_size]
    · rw [ByteArray.size_append]; simp [st_size]
  omega
theorem join_len : ∀ (l : List ByteArray), (∀ s ∈ l, s.size ≤ 32) → (Lib.join (l.map (·.data.toList)) [44, 32]).length ≤ 34 * l.length
  | [], _ => by simp [Lib.join_nil]
  | x :: l, h => by
    rw [List.map_cons, Lib.join_cons, List.length_append, Lib.joinTail_length]
    have hl : ∀ (l : List ByteArray), (∀ s ∈ l, s.size ≤ 32) → Lib.lens (l.map (·.data.toList)) ≤ 32 * l.length := by
      intro l
      induction l with
      | nil => intro _; simp [Lib.lens]
      | cons y l ih =>
        intro h
        have h1 := h y (by simp)
        have h2 := ih (fun s hs => h s (by simp [hs]))
        simp only [Lib.lens, List.map_cons, List.sum_cons, List.length_cons] at h2 ⊢
        have h3 : y.data.toList.length = y.size := by simp
        omega
    have h1 := h x (by simp)
    have h2 := hl l (fun s hs => h s (by simp [hs]))
    have h3 : x.data.toList.length = x.size := by simp
    simp only [List.length_map, List.length_cons, List.length_nil]
    omega
theorem nm_small {s : ByteArray} (h : plB s = true) : s.size ≤ 32 := by
  unfold plB nmB at h
  simp only [Bool.and_eq_true, decide_eq_true_eq] at h
  exact h.1.2.1
set_option maxHeartbeats 4000000 in
set_option maxRecDepth 100000 in
theorem text4 (nm ot : ByteArray) (l : List ByteArray) (A : Option Addr) (c : Nat) (b : Bool) (x y : ByteArray) (z : Int) (w : World) (h1 : nm.size ≤ 32) :
    Calls Tryz.prog 31 #[.agg #[.int .i64 4, .string nm, .string ot, .slice A l.length c, .bool b, .string x, .string y, .int .i64 z]] w (SPost (st (headL ⟨4, nm, ot, l, b, x, y, z⟩)) w) := by
  obtain ⟨V0, hV0, HX, HB0, hl0⟩ := new8 w (.int .i64 4) (.string nm) (.string ot) (.slice A l.length c) (.bool b) (.string x) (.string y) (.int .i64 z) 45
  obtain ⟨c0, c1, c2, c3, c4, c5, c6, c7⟩ := cells8 HX.out
  have HO := hide (show ⟨#[115, 117, 98, 111, 114, 100, 105, 110, 97, 116, 101, 32]⟩ ++ nm = st (headL ⟨4, nm, ot, l, b, x, y, z⟩) from ext_bytes (by rw [st_data]; unfold headL; simp only [app_data]; rfl))
  go_enter Tryz.func31, Tryz.ntmps31
  go_wp2_with fail
  go_ret
  exact ⟨ret_str (HO.out), HB0.out⟩
set_option maxHeartbeats 4000000 in
set_option maxRecDepth 100000 in
theorem text2 (nm ot : ByteArray) (l : List ByteArray) (A : Option Addr) (c : Nat) (b : Bool) (x y : ByteArray) (z : Int) (w : World) (h1 : nm.size ≤ 32) (h2 : ot.size ≤ 32) :
    Calls Tryz.prog 31 #[.agg #[.int .i64 2, .string nm, .string ot, .slice A l.length c, .bool b, .string x, .string y, .int .i64 z]] w (SPost (st (headL ⟨2, nm, ot, l, b, x, y, z⟩)) w) := by
  obtain ⟨V0, hV0, HX, HB0, hl0⟩ := new8 w (.int .i64 2) (.string nm) (.string ot) (.slice A l.length c) (.bool b) (.string x) (.string y) (.int .i64 z) 45
  obtain ⟨c0, c1, c2, c3, c4, c5, c6, c7⟩ := cells8 HX.out
  have HO := hide (show nm ++ ⟨#[32, 98, 101, 102, 111, 114, 101, 32]⟩ ++ ot = st (headL ⟨2, nm, ot, l, b, x, y, z⟩) from ext_bytes (by rw [st_data]; unfold headL; simp only [app_data]; rfl))
  go_enter Tryz.func31, Tryz.ntmps31
  go_wp2_with fail
  go_ret
  exact ⟨ret_str (HO.out), HB0.out⟩
set_option maxHeartbeats 4000000 in
set_option maxRecDepth 100000 in
theorem text3 (nm ot : ByteArray) (l : List ByteArray) (A : Option Addr) (c : Nat) (b : Bool) (x y : ByteArray) (z : Int) (w : World) (h1 : nm.size ≤ 32) (h5 : x.size ≤ 50000) (h6 : y.size ≤ 50000) :
    Calls Tryz.prog 31 #[.agg #[.int .i64 3, .string nm, .string ot, .slice A l.length c, .bool b, .string x, .string y, .int .i64 z]] w (SPost (st (headL ⟨3, nm, ot, l, b, x, y, z⟩)) w) := by
  obtain ⟨V0, hV0, HX, HB0, hl0⟩ := new8 w (.int .i64 3) (.string nm) (.string ot) (.slice A l.length c) (.bool b) (.string x) (.string y) (.int .i64 z) 45
  obtain ⟨c0, c1, c2, c3, c4, c5, c6, c7⟩ := cells8 HX.out
  have hF := fq_size (b := b) h5 h6
  have HF := Lib.hid (fun (v : Qin.In (Below V0.heap.size V0)) => (show Calls Tryz.prog 61 #[.agg #[.bool b, .string x, .string y]] v.val fun e w' => e = .returned (.string (st (formatQ (fixQ b x.data.toList y.data.toList)))) ∧ ∃ y : Qin.In (Below V0.heap.size V0), w' = y.val from Qin.call ((format_any b x y v.val h5 h6).mono fun e w' ⟨h1, h2⟩ => ⟨h1, v.ok.trans (h2.mono v.ok.size)⟩)))
  have HO := hide (show ((⟨#[108, 105, 109, 105, 116, 32]⟩ ++ nm) ++ ⟨#[32]⟩) ++ st (formatQ (fixQ b x.data.toList y.data.toList)) = st (headL ⟨3, nm, ot, l, b, x, y, z⟩) from ext_bytes (by rw [st_data]; unfold headL; simp only [app_data, st_data]; rfl))
  generalize st (formatQ (fixQ b x.data.toList y.data.toList)) = F at *
  have hw := HX.out.lt
  have k0 := at_kin hw c0
  have k1 := at_kin hw c1
  have k4 := at_kin hw c4
  have k5 := at_kin hw c5
  have k6 := at_kin hw c6
  clear h5 h6 hl0
  go_enter Tryz.func31, Tryz.ntmps31
  go_wp2_with fail
  refine Qin.region (I := Below V0.heap.size V0) (Qin.start _ V0) (by kernel_rfl) (by kernel_rfl) ?_
  repeat (go_big_quiet_step ((go_at_call 61; with_reducible exact HF.out _)))
  refine wpQuiet_nil ?_
  intro v
  go_wp2_with fail
  go_ret
  exact ⟨ret_str HO.out, HB0.out.trans (v.ok.mono HB0.out.size)⟩
set_option maxHeartbeats 4000000 in
set_option maxRecDepth 100000 in
theorem rtext4 (nm ot : ByteArray) (l : List ByteArray) (A : Option Addr) (c : Nat) (b : Bool) (x y : ByteArray) (z : Int) (w : World) (h1 : nm.size ≤ 32) :
    Calls Tryz.prog 35 #[.agg #[.int .i64 4, .string nm, .string ot, .slice A l.length c, .bool b, .string x, .string y, .int .i64 z]] w (SPost (st (lineL ⟨4, nm, ot, l, b, x, y, z⟩)) w) := by
  obtain ⟨V0, hV0, HX, HB0, hl0⟩ := new8 w (.int .i64 4) (.string nm) (.string ot) (.slice A l.length c) (.bool b) (.string x) (.string y) (.int .i64 z) 45
  obtain ⟨c0, c1, c2, c3, c4, c5, c6, c7⟩ := cells8 HX.out
  have HO := hide (show ⟨#[115, 117, 98, 111, 114, 100, 105, 110, 97, 116, 101, 32]⟩ ++ nm ++ ⟨#[59, 10]⟩ = st (lineL ⟨4, nm, ot, l, b, x, y, z⟩) from ext_bytes (by rw [st_data]; unfold lineL headL; simp only [app_data]; rfl))
  go_enter Tryz.func35, Tryz.ntmps35
  go_wp2_with fail
  go_ret
  exact ⟨ret_str (HO.out), HB0.out⟩
set_option maxHeartbeats 4000000 in
set_option maxRecDepth 100000 in
theorem rtext2 (nm ot : ByteArray) (l : List ByteArray) (A : Option Addr) (c : Nat) (b : Bool) (x y : ByteArray) (z : Int) (w : World) (h1 : nm.size ≤ 32) (h2 : ot.size ≤ 32) :
    Calls Tryz.prog 35 #[.agg #[.int .i64 2, .string nm, .string ot, .slice A l.length c, .bool b, .string x, .string y, .int .i64 z]] w (SPost (st (lineL ⟨2, nm, ot, l, b, x, y, z⟩)) w) := by
  obtain ⟨V0, hV0, HX, HB0, hl0⟩ := new8 w (.int .i64 2) (.string nm) (.string ot) (.slice A l.length c) (.bool b) (.string x) (.string y) (.int .i64 z) 45
  obtain ⟨c0, c1, c2, c3, c4, c5, c6, c7⟩ := cells8 HX.out
  have HO := hide (show nm ++ ⟨#[32, 98, 101, 102, 111, 114, 101, 32]⟩ ++ ot ++ ⟨#[59, 10]⟩ = st (lineL ⟨2, nm, ot, l, b, x, y, z⟩) from ext_bytes (by rw [st_data]; unfold lineL headL; simp only [app_data]; rfl))
  go_enter Tryz.func35, Tryz.ntmps35
  go_wp2_with fail
  go_ret
  exact ⟨ret_str (HO.out), HB0.out⟩
set_option maxHeartbeats 4000000 in
set_option maxRecDepth 100000 in
theorem rtext3 (nm ot : ByteArray) (l : List ByteArray) (A : Option Addr) (c : Nat) (b : Bool) (x y : ByteArray) (z : Int) (w : World) (h1 : nm.size ≤ 32) (h5 : x.size ≤ 50000) (h6 : y.size ≤ 50000) :
    Calls Tryz.prog 35 #[.agg #[.int .i64 3, .string nm, .string ot, .slice A l.length c, .bool b, .string x, .string y, .int .i64 z]] w (SPost (st (lineL ⟨3, nm, ot, l, b, x, y, z⟩)) w) := by
  obtain ⟨V0, hV0, HX, HB0, hl0⟩ := new8 w (.int .i64 3) (.string nm) (.string ot) (.slice A l.length c) (.bool b) (.string x) (.string y) (.int .i64 z) 45
  obtain ⟨c0, c1, c2, c3, c4, c5, c6, c7⟩ := cells8 HX.out
  have hF := fq_size (b := b) h5 h6
  have HF := Lib.hid (fun (v : Qin.In (Below V0.heap.size V0)) => (show Calls Tryz.prog 64 #[.agg #[.bool b, .string x, .string y]] v.val fun e w' => e = .returned (.string (st (formatQ (fixQ b x.data.toList y.data.toList)))) ∧ ∃ y : Qin.In (Below V0.heap.size V0), w' = y.val from Qin.call ((RtD.rformat_any b x y v.val h5 h6).mono fun e w' ⟨h1, h2⟩ => ⟨h1, v.ok.trans (h2.mono v.ok.size)⟩)))
  have HO := hide (show ((⟨#[108, 105, 109, 105, 116, 32]⟩ ++ nm) ++ ⟨#[32]⟩) ++ st (formatQ (fixQ b x.data.toList y.data.toList)) ++ ⟨#[59, 10]⟩ = st (lineL ⟨3, nm, ot, l, b, x, y, z⟩) from ext_bytes (by rw [st_data]; unfold lineL headL; simp only [app_data, st_data]; rfl))
  generalize st (formatQ (fixQ b x.data.toList y.data.toList)) = F at *
  have hw := HX.out.lt
  have k0 := at_kin hw c0
  have k1 := at_kin hw c1
  have k4 := at_kin hw c4
  have k5 := at_kin hw c5
  have k6 := at_kin hw c6
  clear h5 h6 hl0
  go_enter Tryz.func35, Tryz.ntmps35
  go_wp2_with fail
  refine Qin.region (I := Below V0.heap.size V0) (Qin.start _ V0) (by kernel_rfl) (by kernel_rfl) ?_
  repeat (go_big_quiet_step ((go_at_call 64; with_reducible exact HF.out _)))
  refine wpQuiet_nil ?_
  intro v
  go_wp2_with fail
  go_ret
  exact ⟨ret_str HO.out, HB0.out.trans (v.ok.mono HB0.out.size)⟩
set_option maxHeartbeats 4000000 in
set_option maxRecDepth 100000 in
theorem text1 (nm ot : ByteArray) (l : List ByteArray) (A : Option Addr) (c : Nat) (b : Bool) (x y : ByteArray) (z : Int) (w : World) (h1 : nm.size ≤ 32) (h3 : Strs (fun _ => True) w A c l) (h4 : ∀ s ∈ l, s.size ≤ 32) (h7 : 0 < l.length) (h8 : l.length ≤ 32) :
    Calls Tryz.prog 31 #[.agg #[.int .i64 1, .string nm, .string ot, .slice A l.length c, .bool b, .string x, .string y, .int .i64 z]] w (SPost (st (headL ⟨1, nm, ot, l, b, x, y, z⟩)) w) := by
  obtain ⟨V0, hV0, HX, HB0, hl0⟩ := new8 w (.int .i64 1) (.string nm) (.string ot) (.slice A l.length c) (.bool b) (.string x) (.string y) (.int .i64 z) 45
  obtain ⟨c0, c1, c2, c3, c4, c5, c6, c7⟩ := cells8 HX.out
  have hJ := join_len l h4
  obtain ⟨bb, off, hA, hbw, hcap, hc⟩ := h3.2 h7
  subst hA
  have HF := Lib.hid (fun (v : Qin.In (Below V0.heap.size V0)) => (show Calls Tryz.prog 60 #[.slice (some ⟨bb, off, none⟩) l.length c, .string ⟨#[44, 32]⟩] v.val fun e w' => e = .returned (.string (st (Lib.join (l.map (·.data.toList)) [44, 32]))) ∧ ∃ y : Qin.In (Below V0.heap.size V0), w' = y.val from Qin.call ((Tryz.strings_Join bb off c l ⟨#[44, 32]⟩ v.val (fun j s hj => (((HB0.out.trans (v.ok.mono HB0.out.size))).cell (p := ⟨bb, off + j, none⟩) hbw).trans (hc j s hj)) (by have := HB0.out.size; have := v.ok.size; omega) (by omega) hcap.2 (by show (Lib.join (l.map (·.data.toList)) [44, 32]).length ≤ _; omega)).mono fun e w' ⟨h1, h2⟩ => ⟨h1, v.ok.trans (h2.mono v.ok.size)⟩)))
  have hJs : (st (Lib.join (l.map (·.data.toList)) [44, 32])).size ≤ 2000 := by rw [st_size]; omega
  have HO := hide (show ((⟨#[99, 108, 97, 115, 115, 32]⟩ ++ nm) ++ ⟨#[32, 61, 32]⟩) ++ st (Lib.join (l.map (·.data.toList)) [44, 32]) = st (headL ⟨1, nm, ot, l, b, x, y, z⟩) from ext_bytes (by rw [st_data]; unfold headL; simp only [app_data, st_data]; rfl))
  generalize st (Lib.join (l.map (·.data.toList)) [44, 32]) = F at *
  have hw := HX.out.lt
  have k0 := at_kin hw c0
  have k1 := at_kin hw c1
  have k3 := at_kin hw c3
  clear h3 h4 h7 h8 hc hJ hcap hl0
  go_enter Tryz.func31, Tryz.ntmps31
  go_wp2_with fail
  refine Qin.region (I := Below V0.heap.size V0) (Qin.start _ V0) (by kernel_rfl) (by kernel_rfl) ?_
  repeat (go_big_quiet_step ((go_at_call 60; with_reducible exact HF.out _)))
  refine wpQuiet_nil ?_
  intro v
  go_wp2_with fail
  go_ret
  exact ⟨ret_str HO.out, HB0.out.trans (v.ok.mono HB0.out.size)⟩
theorem join_snoc {l : List ByteArray} {s0 u : ByteArray} {k : Nat} (h0 : l[0]? = some s0) (hu : l[k]? = some u) (hk : 1 ≤ k) : Lib.join ((l.take (k + 1)).map (·.data.toList)) [44, 32] = Lib.join ((l.take k).map (·.data.toList)) [44, 32] ++ [44, 32] ++ u.data.toList := by
  match l, h0 with
  | x :: r, h0 =>
    obtain ⟨k, rfl⟩ : ∃ j, k = j + 1 := ⟨k - 1, by omega⟩
    rw [List.getElem?_cons_succ] at hu
    rw [List.take_succ_cons, List.take_succ_cons, List.map_cons, List.map_cons, Lib.join_cons, Lib.join_cons, List.map_take, List.map_take, Lib.joinTail_take_succ _ _ _ u.data.toList (by rw [List.getElem?_map, hu]; rfl)]
    simp only [List.append_assoc]
set_option maxHeartbeats 4000000 in
set_option maxRecDepth 100000 in
theorem rtext1 (nm ot : ByteArray) (l : List ByteArray) (A : Option Addr) (c : Nat) (b : Bool) (x y : ByteArray) (z : Int) (w : World) (h1 : nm.size ≤ 32) (h3 : Strs (fun _ => True) w A c l) (h4 : ∀ s ∈ l, s.size ≤ 32) (h7 : 0 < l.length) (h8 : l.length ≤ 32) :
    Calls Tryz.prog 35 #[.agg #[.int .i64 1, .string nm, .string ot, .slice A l.length c, .bool b, .string x, .string y, .int .i64 z]] w (SPost (st (lineL ⟨1, nm, ot, l, b, x, y, z⟩)) w) := by
  obtain ⟨V0, hV0, HX, HB0, hl0⟩ := new8 w (.int .i64 1) (.string nm) (.string ot) (.slice A l.length c) (.bool b) (.string x) (.string y) (.int .i64 z) 45
  obtain ⟨c0, c1, c2, c3, c4, c5, c6, c7⟩ := cells8 HX.out
  have HL := hide (h3.below HB0.out)
  have HZ := Lib.hid h4
  obtain ⟨s0, hs0⟩ : ∃ r, l[0]? = some r := ⟨_, List.getElem?_eq_getElem h7⟩
  obtain ⟨bb, off, hA, hbw, hcap, hc⟩ := HL.out.2 h7
  subst hA
  have q0 : V0.cell? ⟨bb, off, none⟩ = some (.string s0) := hc 0 s0 hs0
  have hz0 := h4 s0 (List.mem_of_getElem? hs0)
  have H0 := hide hs0
  have HC := Lib.hid (fun (v : Qin.In (Below V0.heap.size V0)) j s (h : l[j]? = some s) => at_kin hbw (hc j s h) v)
  have hw := HX.out.lt
  have j0 := at_kin hw c0
  have j1 := at_kin hw c1
  have j3 := at_kin hw c3
  have m0 := at_kin hbw q0
  clear h3 h4 hs0 hc hcap hl0 q0 c1 c3
  go_enter Tryz.func35, Tryz.ntmps35
  go_wp2_with fail
  refine Qin.region (I := Below V0.heap.size V0) (Qin.start _ V0) (by kernel_rfl) (by kernel_rfl) ?_
  repeat (go_big_quiet_step (fail))
  refine wpQuiet_nil ?_
  intro v
  have HV := Lib.hid (fun j s (h : l[j]? = some s) => HC.out v j s h)
  go_wp2_with fail
  go_loop [3, 4] (fun vs vi => ∃ (k : Nat) (s : ByteArray), 1 ≤ k ∧ k ≤ l.length ∧ vi = .int .i64 k ∧ vs = .string s ∧ s.size ≤ 34 * k + 100 ∧ Hid (s.data.toList = [99, 108, 97, 115, 115, 32] ++ nm.data.toList ++ [32, 61, 32] ++ Lib.join ((l.take k).map (·.data.toList)) [44, 32])) (fun _ vi => l.length - (intOf vi).toNat)
  case atStart =>
    refine ⟨1, _, Nat.le_refl _, h7, rfl, rfl, ?_, ?_⟩
    · simp only [ByteArray.size_append]
      show 6 + nm.size + 3 + s0.size ≤ _
      omega
    · show _ = _
      have e1 : l.take 1 = [s0] := by
        rw [show (1 : Nat) = 0 + 1 from rfl, List.take_add_one, H0.out]; rfl
      rw [e1]
      simp only [app_data, List.map_cons, List.map_nil, Lib.join_one]
  case round =>
    obtain ⟨k, s, hk1, hk, rfl, rfl, hsz, HS⟩ := hrel
    by_cases hlt : k < l.length
    · obtain ⟨u, hu⟩ : ∃ r, l[k]? = some r := ⟨_, List.getElem?_eq_getElem hlt⟩
      have k0 := HV.out k u hu
      have hzu := HZ.out u (List.mem_of_getElem? hu)
      have HU := hide hu
      clear hu
      go_wp2_with fail
      go_round
      case rel =>
        refine ⟨k + 1, _, by omega, by omega, by go_num, rfl, ?_, ?_⟩
        · simp only [ByteArray.size_append]
          show s.size + 2 + u.size ≤ _
          omega
        · show _ = _
          rw [join_snoc H0.out HU.out hk1]
          simp only [app_data, HS.out, List.append_assoc]
      case measure => simp [intOf]; omega
    · have hkl : l.take k = l := List.take_of_length_le (by omega)
      have hS := HS.out
      rw [hkl] at hS
      have HO := hide (show s ++ ⟨#[59, 10]⟩ = st (lineL ⟨1, nm, ot, l, b, x, y, z⟩) from ext_bytes (by rw [st_data, app_data, hS]; rfl))
      clear hS hkl
      go_wp2_with fail
      go_ret
      exact ⟨ret_str HO.out, HB0.out.trans (v.ok.mono HB0.out.size)⟩
end Go.Proofs.YtnbdckfnohagbaaGreatDoor.PqT
