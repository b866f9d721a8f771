/- The walks of Check and of the law HistoryCheck. -/
import Derived.Test.YtkllpfijeglppaaDoorHsLaw5
import Derived.IntWalk
namespace Go.Proofs.YtkllpfijeglppaaDoor.HsLaw6
open Go.RowKit Hs HsB HsC HsD HsF HsG HsH HsE HsI HsJ HsK HsL HsM HsN HsO HsP HsQ HsR HsS HsT HsU HsV HsW HsLaw1 HsPa HsLaw2 HsLaw3 HsLaw4 HsLaw5
theorem check_many {n : Int} {l : List HRow} (h : 256 < l.length) : checkOf n l = 2 := by unfold checkOf; rw [if_pos h]
theorem check_few {n : Int} {l : List HRow} (h : ¬ 256 < l.length) : checkOf n l = checkFrom n 0 l := by unfold checkOf; rw [if_neg h]
theorem check_bad {n b : Int} {r : HRow} {l : List HRow} (h : rowErr n r b ≠ 0) : checkFrom n b (r :: l) = rowErr n r b := by rw [checkFrom, if_neg h]
theorem check_next {n b : Int} {r : HRow} {l : List HRow} (h : rowErr n r b = 0) : checkFrom n b (r :: l) = checkFrom n r.day l := by rw [checkFrom, if_pos h]
set_option maxHeartbeats 2000000 in
set_option maxRecDepth 100000 in
theorem check_any (n : Int) (l : List HRow) (A : Option Addr) (c : Nat) (w : World) (h : RowsAt w w.heap.size A l) :
    Calls Tryd.prog 26 #[.int .i64 n, .slice A l.length c] w fun e w' => e = .returned (.int .i64 (checkOf n l : Nat)) ∧ Below w.heap.size w w' := by
  have hlen := h.1
  unfold maxLen at hlen
  have H := hide h
  clear h
  by_cases hbig : 256 < l.length
  · have hz := hide (check_many (n := n) hbig)
    go_enter Tryd.func26, Tryd.ntmps26
    go_wp2_with fail
    go_ret
    exact ⟨ret_nat hz.out.symm, Below.refl _ _⟩
  · have hz := hide (check_few (n := n) hbig)
    go_enter Tryd.func26, Tryd.ntmps26
    go_wp2_with fail
    go_loopw [5, 14] (fun vb vi wr => ∃ (k : Nat) (b : Int), k ≤ l.length ∧ vi = .int .i64 k ∧ vb = .int .i64 b ∧ checkOf n l = checkFrom n b (l.drop k) ∧ Below w.heap.size w wr) (fun _ vi _ => l.length - (intOf vi).toNat)
    case atStart => exact ⟨0, 0, by omega, rfl, rfl, hz.out, Below.refl _ _⟩
    case round =>
      obtain ⟨k, b, hk, rfl, rfl, hch, hbr⟩ := hrel
      have HC := hide hch
      clear hch hz
      by_cases hlt : k < l.length
      · obtain ⟨r, hr⟩ : ∃ r, l[k]? = some r := ⟨_, List.getElem?_eq_getElem hlt⟩
        obtain ⟨b', off, rfl, hbw, hc⟩ := (H.out.below hbr).2 (by omega)
        obtain ⟨c0, c1, c2, c3, c4, c5⟩ := hc k r hr
        have hdr := hide (drop_get hr)
        clear hr hc
        by_cases he : rowErr n r b = 0
        · have hn : Hid (checkOf n l = checkFrom n r.day (l.drop (k + 1))) := by
            show _ = _
            rw [HC.out, hdr.out, check_next he]
          have HE := hide he
          clear he
          go_wp2_with (go_at_call 42; refine (checkRow_any n b r _).mono ?_; rw [HE.out]; rintro e w' ⟨rfl, rfl⟩)
          go_roundw
          case rel => exact ⟨k + 1, r.day, by omega, by go_num, rfl, hn.out, (hbr.alloc hbr.size _).alloc (by have := hbr.size; simp; omega) _⟩
          case measure => simp [intOf]; omega
        · have hn : Hid (checkOf n l = rowErr n r b) := by
            show _ = _
            rw [HC.out, hdr.out, check_bad he]
          have hneq : (((rowErr n r b : Nat) : Int) != 0) = true := by simp; omega
          clear he
          go_wp2_with (go_at_call 42; refine (checkRow_any n b r _).mono ?_; rintro e w' ⟨rfl, rfl⟩)
          go_ret
          exact ⟨ret_nat hn.out.symm, (hbr.alloc hbr.size _).alloc (by have := hbr.size; simp; omega) _⟩
      · have hn : Hid (checkOf n l = 0) := by
          show _ = _
          rw [HC.out, List.drop_eq_nil_of_le (by omega)]; rfl
        go_wp2_with fail
        go_ret
        exact ⟨ret_nat (b := checkOf n l) (a := 0) hn.out.symm, hbr⟩
theorem day_yes (n : Int) (w : World) (h0 : 0 ≤ n) (h1 : n ≤ 1048576) : Calls Tryd.prog 43 #[.int .i64 n] w fun e w' => e = .returned (.bool true) ∧ w = w' := by
  have hd := decide_eq_true h1
  clear h1
  go_enter Tryd.func43, Tryd.ntmps43
  go_wp2_with fail
  go_ret
  exact ⟨rfl, rfl⟩
theorem day_no (n : Int) (w : World) (h : n < 0 ∨ 1048576 < n) : Calls Tryd.prog 43 #[.int .i64 n] w fun e w' => e = .returned (.bool false) ∧ w = w' := by
  rcases h with h | h
  · go_enter Tryd.func43, Tryd.ntmps43
    go_wp2_with fail
    go_ret
    exact ⟨rfl, rfl⟩
  · have h0 : 0 ≤ n := by omega
    have hd : decide (n ≤ 1048576) = false := by simp; omega
    clear h
    go_enter Tryd.func43, Tryd.ntmps43
    go_wp2_with fail
    go_ret
    exact ⟨rfl, rfl⟩
theorem cents_yes (n : Int) (w : World) (h0 : 0 ≤ n) (h1 : n ≤ 1125899906842624) : Calls Tryd.prog 44 #[.int .i64 n] w fun e w' => e = .returned (.bool true) ∧ w = w' := by
  have hd := decide_eq_true h1
  clear h1
  go_enter Tryd.func44, Tryd.ntmps44
  go_wp2_with fail
  go_ret
  exact ⟨rfl, rfl⟩
theorem cents_no (n : Int) (w : World) (h : n < 0 ∨ 1125899906842624 < n) : Calls Tryd.prog 44 #[.int .i64 n] w fun e w' => e = .returned (.bool false) ∧ w = w' := by
  rcases h with h | h
  · go_enter Tryd.func44, Tryd.ntmps44
    go_wp2_with fail
    go_ret
    exact ⟨rfl, rfl⟩
  · have h0 : 0 ≤ n := by omega
    have hd : decide (n ≤ 1125899906842624) = false := by simp; omega
    clear h
    go_enter Tryd.func44, Tryd.ntmps44
    go_wp2_with fail
    go_ret
    exact ⟨rfl, rfl⟩
set_option maxHeartbeats 16000000 in
set_option maxRecDepth 100000 in
theorem rcheck_any (n : Int) (l : List HRow) (A : Option Addr) (c : Nat) (w : World) (h : RowsAt w w.heap.size A l) :
    Calls Tryd.prog 27 #[.int .i64 n, .slice A l.length c] w fun e w' => e = .returned (.int .i64 (checkOf n l : Nat)) ∧ Below w.heap.size w w' := by
  have hlen := h.1
  unfold maxLen at hlen
  have H := hide h
  clear h
  by_cases hbig : 256 < l.length
  · have hz := hide (check_many (n := n) hbig)
    go_enter Tryd.func27, Tryd.ntmps27
    go_wp2_with fail
    go_ret
    exact ⟨ret_nat hz.out.symm, Below.refl _ _⟩
  · have hz := hide (check_few (n := n) hbig)
    go_enter Tryd.func27, Tryd.ntmps27
    go_wp2_with fail
    go_loopw [5] (fun vi wr => ∃ (k : Nat) (b : Int), k ≤ l.length ∧ vi = .int .i64 k ∧ (k = 0 → b = 0) ∧ (∀ j, k = j + 1 → ∃ r, l[j]? = some r ∧ b = r.day) ∧ checkOf n l = checkFrom n b (l.drop k) ∧ Below w.heap.size w wr) (fun vi _ => l.length - (intOf vi).toNat)
    case atStart => exact ⟨0, 0, by omega, rfl, fun _ => rfl, fun j h => by omega, hz.out, Below.refl _ _⟩
    case round =>
      obtain ⟨k, b, hk, rfl, hb0, hbk, hch, hbr⟩ := hrel
      have HC := hide hch
      have HB0 := hide hb0
      have HBK := hide hbk
      clear hch hz hb0 hbk
      by_cases hlt : k < l.length
      · obtain ⟨r, hr⟩ : ∃ r, l[k]? = some r := ⟨_, List.getElem?_eq_getElem hlt⟩
        obtain ⟨b', off, rfl, hbw, hc⟩ := (H.out.below hbr).2 (by omega)
        have hbw2 : b' < wr.heap.size := Nat.lt_of_lt_of_le hbw hbr.size
        obtain ⟨c0, c1, c2, c3, c4, c5⟩ := hc k r hr
        have hdr := hide (drop_get hr)
        have HR := hide hr
        have HCC := Lib.hid hc
        clear hr hc
        have hend := hbr.alloc hbr.size (.cells #[.int .i64 r.day, .int .i64 r.kind, .int .i64 r.src, .int .i64 r.dst, .int .i64 r.amount, .int .i64 r.worth] 39)
        by_cases hn0 : ¬ (0 ≤ r.day)
        · skip
          have he : rowErr n r b = 1 := err_range (by unfold inRange; omega)
          have hz : Hid (checkOf n l = 1) := by
            show _ = _
            rw [HC.out, hdr.out, check_bad (by omega), he]
          clear he
          skip
          go_wp2_with (first | (go_at_call 43; (with_reducible refine (day_yes _ _ ?_ ?_).mono ?_); (· omega); (· omega); rintro e w' ⟨rfl, rfl⟩) | (go_at_call 43; (with_reducible refine (day_no _ _ ?_).mono ?_); (· omega); rintro e w' ⟨rfl, rfl⟩) | (go_at_call 44; (with_reducible refine (cents_yes _ _ ?_ ?_).mono ?_); (· omega); (· omega); rintro e w' ⟨rfl, rfl⟩) | (go_at_call 44; (with_reducible refine (cents_no _ _ ?_).mono ?_); (· omega); rintro e w' ⟨rfl, rfl⟩))
          all_goals (go_ret; first | exact ⟨ret_nat hz.out.symm, hend⟩ | (refine ⟨ret_nat hz.out.symm, ?_⟩; have h0 : r.worth = 0 := (by assumption); rw [h0] at hend; exact hend))
        have hc0 : 0 ≤ r.day := Decidable.of_not_not hn0
        clear hn0
        by_cases hn1 : ¬ (r.day ≤ 1048576)
        · skip
          have he : rowErr n r b = 1 := err_range (by unfold inRange; omega)
          have hz : Hid (checkOf n l = 1) := by
            show _ = _
            rw [HC.out, hdr.out, check_bad (by omega), he]
          clear he
          skip
          go_wp2_with (first | (go_at_call 43; (with_reducible refine (day_yes _ _ ?_ ?_).mono ?_); (· omega); (· omega); rintro e w' ⟨rfl, rfl⟩) | (go_at_call 43; (with_reducible refine (day_no _ _ ?_).mono ?_); (· omega); rintro e w' ⟨rfl, rfl⟩) | (go_at_call 44; (with_reducible refine (cents_yes _ _ ?_ ?_).mono ?_); (· omega); (· omega); rintro e w' ⟨rfl, rfl⟩) | (go_at_call 44; (with_reducible refine (cents_no _ _ ?_).mono ?_); (· omega); rintro e w' ⟨rfl, rfl⟩))
          all_goals (go_ret; first | exact ⟨ret_nat hz.out.symm, hend⟩ | (refine ⟨ret_nat hz.out.symm, ?_⟩; have h0 : r.worth = 0 := (by assumption); rw [h0] at hend; exact hend))
        have hc1 : r.day ≤ 1048576 := Decidable.of_not_not hn1
        clear hn1
        by_cases hn2 : ¬ (1 ≤ r.kind)
        · skip
          have he : rowErr n r b = 1 := err_range (by unfold inRange; omega)
          have hz : Hid (checkOf n l = 1) := by
            show _ = _
            rw [HC.out, hdr.out, check_bad (by omega), he]
          clear he
          skip
          go_wp2_with (first | (go_at_call 43; (with_reducible refine (day_yes _ _ ?_ ?_).mono ?_); (· omega); (· omega); rintro e w' ⟨rfl, rfl⟩) | (go_at_call 43; (with_reducible refine (day_no _ _ ?_).mono ?_); (· omega); rintro e w' ⟨rfl, rfl⟩) | (go_at_call 44; (with_reducible refine (cents_yes _ _ ?_ ?_).mono ?_); (· omega); (· omega); rintro e w' ⟨rfl, rfl⟩) | (go_at_call 44; (with_reducible refine (cents_no _ _ ?_).mono ?_); (· omega); rintro e w' ⟨rfl, rfl⟩))
          all_goals (go_ret; first | exact ⟨ret_nat hz.out.symm, hend⟩ | (refine ⟨ret_nat hz.out.symm, ?_⟩; have h0 : r.worth = 0 := (by assumption); rw [h0] at hend; exact hend))
        have hc2 : 1 ≤ r.kind := Decidable.of_not_not hn2
        clear hn2
        by_cases hn3 : ¬ (r.kind ≤ 3)
        · skip
          have he : rowErr n r b = 1 := err_range (by unfold inRange; omega)
          have hz : Hid (checkOf n l = 1) := by
            show _ = _
            rw [HC.out, hdr.out, check_bad (by omega), he]
          clear he
          skip
          go_wp2_with (first | (go_at_call 43; (with_reducible refine (day_yes _ _ ?_ ?_).mono ?_); (· omega); (· omega); rintro e w' ⟨rfl, rfl⟩) | (go_at_call 43; (with_reducible refine (day_no _ _ ?_).mono ?_); (· omega); rintro e w' ⟨rfl, rfl⟩) | (go_at_call 44; (with_reducible refine (cents_yes _ _ ?_ ?_).mono ?_); (· omega); (· omega); rintro e w' ⟨rfl, rfl⟩) | (go_at_call 44; (with_reducible refine (cents_no _ _ ?_).mono ?_); (· omega); rintro e w' ⟨rfl, rfl⟩))
          all_goals (go_ret; first | exact ⟨ret_nat hz.out.symm, hend⟩ | (refine ⟨ret_nat hz.out.symm, ?_⟩; have h0 : r.worth = 0 := (by assumption); rw [h0] at hend; exact hend))
        have hc3 : r.kind ≤ 3 := Decidable.of_not_not hn3
        clear hn3
        by_cases hn4 : ¬ (0 ≤ r.amount)
        · skip
          have he : rowErr n r b = 1 := err_range (by unfold inRange; omega)
          have hz : Hid (checkOf n l = 1) := by
            show _ = _
            rw [HC.out, hdr.out, check_bad (by omega), he]
          clear he
          skip
          go_wp2_with (first | (go_at_call 43; (with_reducible refine (day_yes _ _ ?_ ?_).mono ?_); (· omega); (· omega); rintro e w' ⟨rfl, rfl⟩) | (go_at_call 43; (with_reducible refine (day_no _ _ ?_).mono ?_); (· omega); rintro e w' ⟨rfl, rfl⟩) | (go_at_call 44; (with_reducible refine (cents_yes _ _ ?_ ?_).mono ?_); (· omega); (· omega); rintro e w' ⟨rfl, rfl⟩) | (go_at_call 44; (with_reducible refine (cents_no _ _ ?_).mono ?_); (· omega); rintro e w' ⟨rfl, rfl⟩))
          all_goals (go_ret; first | exact ⟨ret_nat hz.out.symm, hend⟩ | (refine ⟨ret_nat hz.out.symm, ?_⟩; have h0 : r.worth = 0 := (by assumption); rw [h0] at hend; exact hend))
        have hc4 : 0 ≤ r.amount := Decidable.of_not_not hn4
        clear hn4
        by_cases hn5 : ¬ (r.amount ≤ 1125899906842624)
        · skip
          have he : rowErr n r b = 1 := err_range (by unfold inRange; omega)
          have hz : Hid (checkOf n l = 1) := by
            show _ = _
            rw [HC.out, hdr.out, check_bad (by omega), he]
          clear he
          skip
          go_wp2_with (first | (go_at_call 43; (with_reducible refine (day_yes _ _ ?_ ?_).mono ?_); (· omega); (· omega); rintro e w' ⟨rfl, rfl⟩) | (go_at_call 43; (with_reducible refine (day_no _ _ ?_).mono ?_); (· omega); rintro e w' ⟨rfl, rfl⟩) | (go_at_call 44; (with_reducible refine (cents_yes _ _ ?_ ?_).mono ?_); (· omega); (· omega); rintro e w' ⟨rfl, rfl⟩) | (go_at_call 44; (with_reducible refine (cents_no _ _ ?_).mono ?_); (· omega); rintro e w' ⟨rfl, rfl⟩))
          all_goals (go_ret; first | exact ⟨ret_nat hz.out.symm, hend⟩ | (refine ⟨ret_nat hz.out.symm, ?_⟩; have h0 : r.worth = 0 := (by assumption); rw [h0] at hend; exact hend))
        have hc5 : r.amount ≤ 1125899906842624 := Decidable.of_not_not hn5
        clear hn5
        by_cases hn6 : ¬ (0 ≤ r.worth)
        · skip
          have he : rowErr n r b = 1 := err_range (by unfold inRange; omega)
          have hz : Hid (checkOf n l = 1) := by
            show _ = _
            rw [HC.out, hdr.out, check_bad (by omega), he]
          clear he
          skip
          go_wp2_with (first | (go_at_call 43; (with_reducible refine (day_yes _ _ ?_ ?_).mono ?_); (· omega); (· omega); rintro e w' ⟨rfl, rfl⟩) | (go_at_call 43; (with_reducible refine (day_no _ _ ?_).mono ?_); (· omega); rintro e w' ⟨rfl, rfl⟩) | (go_at_call 44; (with_reducible refine (cents_yes _ _ ?_ ?_).mono ?_); (· omega); (· omega); rintro e w' ⟨rfl, rfl⟩) | (go_at_call 44; (with_reducible refine (cents_no _ _ ?_).mono ?_); (· omega); rintro e w' ⟨rfl, rfl⟩))
          all_goals (go_ret; first | exact ⟨ret_nat hz.out.symm, hend⟩ | (refine ⟨ret_nat hz.out.symm, ?_⟩; have h0 : r.worth = 0 := (by assumption); rw [h0] at hend; exact hend))
        have hc6 : 0 ≤ r.worth := Decidable.of_not_not hn6
        clear hn6
        by_cases hn7 : ¬ (r.worth ≤ 1125899906842624)
        · skip
          have he : rowErr n r b = 1 := err_range (by unfold inRange; omega)
          have hz : Hid (checkOf n l = 1) := by
            show _ = _
            rw [HC.out, hdr.out, check_bad (by omega), he]
          clear he
          skip
          go_wp2_with (first | (go_at_call 43; (with_reducible refine (day_yes _ _ ?_ ?_).mono ?_); (· omega); (· omega); rintro e w' ⟨rfl, rfl⟩) | (go_at_call 43; (with_reducible refine (day_no _ _ ?_).mono ?_); (· omega); rintro e w' ⟨rfl, rfl⟩) | (go_at_call 44; (with_reducible refine (cents_yes _ _ ?_ ?_).mono ?_); (· omega); (· omega); rintro e w' ⟨rfl, rfl⟩) | (go_at_call 44; (with_reducible refine (cents_no _ _ ?_).mono ?_); (· omega); rintro e w' ⟨rfl, rfl⟩))
          all_goals (go_ret; first | exact ⟨ret_nat hz.out.symm, hend⟩ | (refine ⟨ret_nat hz.out.symm, ?_⟩; have h0 : r.worth = 0 := (by assumption); rw [h0] at hend; exact hend))
        have hc7 : r.worth ≤ 1125899906842624 := Decidable.of_not_not hn7
        clear hn7
        by_cases hc8 : r.worth ≠ 0 ∧ r.kind ≠ 3
        · have hw1 : (r.worth != 0) = true := by simpa using hc8.1
          have hw2 : (r.kind != 3) = true := by simpa using hc8.2
          have he : rowErr n r b = 1 := err_range (by unfold inRange; omega)
          have hz : Hid (checkOf n l = 1) := by
            show _ = _
            rw [HC.out, hdr.out, check_bad (by omega), he]
          clear he
          skip
          go_wp2_with (first | (go_at_call 43; (with_reducible refine (day_yes _ _ ?_ ?_).mono ?_); (· omega); (· omega); rintro e w' ⟨rfl, rfl⟩) | (go_at_call 43; (with_reducible refine (day_no _ _ ?_).mono ?_); (· omega); rintro e w' ⟨rfl, rfl⟩) | (go_at_call 44; (with_reducible refine (cents_yes _ _ ?_ ?_).mono ?_); (· omega); (· omega); rintro e w' ⟨rfl, rfl⟩) | (go_at_call 44; (with_reducible refine (cents_no _ _ ?_).mono ?_); (· omega); rintro e w' ⟨rfl, rfl⟩))
          all_goals (go_ret; first | exact ⟨ret_nat hz.out.symm, hend⟩ | (refine ⟨ret_nat hz.out.symm, ?_⟩; have h0 : r.worth = 0 := (by assumption); rw [h0] at hend; exact hend))
        have hwk : ((r.worth != 0) && (r.kind != 3)) = false := by
          rw [Bool.and_eq_false_iff]
          by_cases h : r.worth = 0
          · left; simpa using h
          · right; simp only [bne_eq_false_iff_eq]; exact Decidable.of_not_not fun h' => hc8 ⟨h, h'⟩
        by_cases hn9 : ¬ (0 ≤ r.src)
        · skip
          have he : rowErr n r b = 14 := err_party (by unfold inRange; omega) (by unfold inParties; omega)
          have hz : Hid (checkOf n l = 14) := by
            show _ = _
            rw [HC.out, hdr.out, check_bad (by omega), he]
          clear he
          clear hc8
          go_wp2_with (first | (go_at_call 43; (with_reducible refine (day_yes _ _ ?_ ?_).mono ?_); (· omega); (· omega); rintro e w' ⟨rfl, rfl⟩) | (go_at_call 43; (with_reducible refine (day_no _ _ ?_).mono ?_); (· omega); rintro e w' ⟨rfl, rfl⟩) | (go_at_call 44; (with_reducible refine (cents_yes _ _ ?_ ?_).mono ?_); (· omega); (· omega); rintro e w' ⟨rfl, rfl⟩) | (go_at_call 44; (with_reducible refine (cents_no _ _ ?_).mono ?_); (· omega); rintro e w' ⟨rfl, rfl⟩))
          all_goals (go_ret; first | exact ⟨ret_nat hz.out.symm, hend⟩ | (refine ⟨ret_nat hz.out.symm, ?_⟩; have h0 : r.worth = 0 := (by assumption); rw [h0] at hend; exact hend))
        have hc9 : 0 ≤ r.src := Decidable.of_not_not hn9
        clear hn9
        by_cases hn10 : ¬ (r.src < n)
        · skip
          have he : rowErr n r b = 14 := err_party (by unfold inRange; omega) (by unfold inParties; omega)
          have hz : Hid (checkOf n l = 14) := by
            show _ = _
            rw [HC.out, hdr.out, check_bad (by omega), he]
          clear he
          clear hc8
          go_wp2_with (first | (go_at_call 43; (with_reducible refine (day_yes _ _ ?_ ?_).mono ?_); (· omega); (· omega); rintro e w' ⟨rfl, rfl⟩) | (go_at_call 43; (with_reducible refine (day_no _ _ ?_).mono ?_); (· omega); rintro e w' ⟨rfl, rfl⟩) | (go_at_call 44; (with_reducible refine (cents_yes _ _ ?_ ?_).mono ?_); (· omega); (· omega); rintro e w' ⟨rfl, rfl⟩) | (go_at_call 44; (with_reducible refine (cents_no _ _ ?_).mono ?_); (· omega); rintro e w' ⟨rfl, rfl⟩))
          all_goals (go_ret; first | exact ⟨ret_nat hz.out.symm, hend⟩ | (refine ⟨ret_nat hz.out.symm, ?_⟩; have h0 : r.worth = 0 := (by assumption); rw [h0] at hend; exact hend))
        have hc10 : r.src < n := Decidable.of_not_not hn10
        clear hn10
        by_cases hn11 : ¬ (0 ≤ r.dst)
        · skip
          have he : rowErr n r b = 14 := err_party (by unfold inRange; omega) (by unfold inParties; omega)
          have hz : Hid (checkOf n l = 14) := by
            show _ = _
            rw [HC.out, hdr.out, check_bad (by omega), he]
          clear he
          clear hc8
          go_wp2_with (first | (go_at_call 43; (with_reducible refine (day_yes _ _ ?_ ?_).mono ?_); (· omega); (· omega); rintro e w' ⟨rfl, rfl⟩) | (go_at_call 43; (with_reducible refine (day_no _ _ ?_).mono ?_); (· omega); rintro e w' ⟨rfl, rfl⟩) | (go_at_call 44; (with_reducible refine (cents_yes _ _ ?_ ?_).mono ?_); (· omega); (· omega); rintro e w' ⟨rfl, rfl⟩) | (go_at_call 44; (with_reducible refine (cents_no _ _ ?_).mono ?_); (· omega); rintro e w' ⟨rfl, rfl⟩))
          all_goals (go_ret; first | exact ⟨ret_nat hz.out.symm, hend⟩ | (refine ⟨ret_nat hz.out.symm, ?_⟩; have h0 : r.worth = 0 := (by assumption); rw [h0] at hend; exact hend))
        have hc11 : 0 ≤ r.dst := Decidable.of_not_not hn11
        clear hn11
        by_cases hn12 : ¬ (r.dst < n)
        · skip
          have he : rowErr n r b = 14 := err_party (by unfold inRange; omega) (by unfold inParties; omega)
          have hz : Hid (checkOf n l = 14) := by
            show _ = _
            rw [HC.out, hdr.out, check_bad (by omega), he]
          clear he
          clear hc8
          go_wp2_with (first | (go_at_call 43; (with_reducible refine (day_yes _ _ ?_ ?_).mono ?_); (· omega); (· omega); rintro e w' ⟨rfl, rfl⟩) | (go_at_call 43; (with_reducible refine (day_no _ _ ?_).mono ?_); (· omega); rintro e w' ⟨rfl, rfl⟩) | (go_at_call 44; (with_reducible refine (cents_yes _ _ ?_ ?_).mono ?_); (· omega); (· omega); rintro e w' ⟨rfl, rfl⟩) | (go_at_call 44; (with_reducible refine (cents_no _ _ ?_).mono ?_); (· omega); rintro e w' ⟨rfl, rfl⟩))
          all_goals (go_ret; first | exact ⟨ret_nat hz.out.symm, hend⟩ | (refine ⟨ret_nat hz.out.symm, ?_⟩; have h0 : r.worth = 0 := (by assumption); rw [h0] at hend; exact hend))
        have hc12 : r.dst < n := Decidable.of_not_not hn12
        clear hn12
        by_cases hn13 : ¬ (r.src ≠ r.dst)
        · skip
          have hsd : (r.src == r.dst) = true := by simpa using hn13
          have he : rowErr n r b = 14 := err_party (by unfold inRange; omega) (by unfold inParties; omega)
          have hz : Hid (checkOf n l = 14) := by
            show _ = _
            rw [HC.out, hdr.out, check_bad (by omega), he]
          clear he
          clear hc8
          go_wp2_with (first | (go_at_call 43; (with_reducible refine (day_yes _ _ ?_ ?_).mono ?_); (· omega); (· omega); rintro e w' ⟨rfl, rfl⟩) | (go_at_call 43; (with_reducible refine (day_no _ _ ?_).mono ?_); (· omega); rintro e w' ⟨rfl, rfl⟩) | (go_at_call 44; (with_reducible refine (cents_yes _ _ ?_ ?_).mono ?_); (· omega); (· omega); rintro e w' ⟨rfl, rfl⟩) | (go_at_call 44; (with_reducible refine (cents_no _ _ ?_).mono ?_); (· omega); rintro e w' ⟨rfl, rfl⟩))
          all_goals (go_ret; first | exact ⟨ret_nat hz.out.symm, hend⟩ | (refine ⟨ret_nat hz.out.symm, ?_⟩; have h0 : r.worth = 0 := (by assumption); rw [h0] at hend; exact hend))
        have hc13 : r.src ≠ r.dst := Decidable.of_not_not hn13
        clear hn13
        have hsd : (r.src == r.dst) = false := by simpa using hc13
        have hir : inRange r := by unfold inRange; omega
        have hip : inParties n r := by unfold inParties; omega
        clear hc8
        by_cases hk0 : k = 0
        · subst hk0
          rw [Nat.zero_mul, Nat.add_zero] at c0 c1 c2 c3 c4 c5
          have hz : Hid (checkOf n l = checkFrom n r.day (l.drop (0 + 1))) := by
            show _ = _
            rw [HC.out, hdr.out, check_next (err_none hir hip (by rw [HB0.out rfl]; omega))]
          have hrl : Hid (∀ j, 0 + 1 = j + 1 → ∃ r', l[j]? = some r' ∧ r.day = r'.day) := fun j hj => ⟨r, by rw [show j = 0 by omega]; exact HR.out, rfl⟩
          clear hir hip
          go_wp2_with (first | (go_at_call 43; (with_reducible refine (day_yes _ _ ?_ ?_).mono ?_); (· omega); (· omega); rintro e w' ⟨rfl, rfl⟩) | (go_at_call 43; (with_reducible refine (day_no _ _ ?_).mono ?_); (· omega); rintro e w' ⟨rfl, rfl⟩) | (go_at_call 44; (with_reducible refine (cents_yes _ _ ?_ ?_).mono ?_); (· omega); (· omega); rintro e w' ⟨rfl, rfl⟩) | (go_at_call 44; (with_reducible refine (cents_no _ _ ?_).mono ?_); (· omega); rintro e w' ⟨rfl, rfl⟩))
          all_goals
            try go_quiet (fail)
            try go_wp2_with fail
            go_roundw
            case rel => first | exact ⟨0 + 1, r.day, by omega, by go_num, fun h => by omega, hrl.out, hz.out, below_drewN hend _⟩ | exact ⟨0 + 1, r.day, by omega, by go_num, fun h => by omega, hrl.out, hz.out, hend⟩ | (have h0 : r.worth = 0 := (by assumption); rw [h0] at hend; first | exact ⟨0 + 1, r.day, by omega, by go_num, fun h => by omega, hrl.out, hz.out, below_drewN hend _⟩ | exact ⟨0 + 1, r.day, by omega, by go_num, fun h => by omega, hrl.out, hz.out, hend⟩)
            case measure => simp [intOf]; omega
        · obtain ⟨j, rfl⟩ : ∃ j, k = j + 1 := ⟨k - 1, by omega⟩
          obtain ⟨r', hr', rfl⟩ := HBK.out j rfl
          obtain ⟨d0, _⟩ := HCC.out j r' hr'
          clear hr'
          have ec : ((j + 1 : Nat) : Int) = (j : Int) + 1 := by omega
          rw [ec]
          clear ec
          have hj0 : (0 : Int) < (j : Int) + 1 := by omega
          have hsub : IntKind.i64.wrap ((j : Int) + 1 - 1) = (j : Int) := by rw [IntWalk.i64_in _ (by omega)]; omega
          have HSUB := Lib.hid hsub
          have hjl : (j : Int) < (l.length : Int) := by omega
          have hj1 : (0 : Int) ≤ (j : Int) := by omega
          clear hsub
          by_cases hlt2 : r.day < r'.day
          · have hz : Hid (checkOf n l = 15) := by
              show _ = _
              have he := err_order hir hip hlt2
              rw [HC.out, hdr.out, check_bad (by omega), he]
            clear hir hip
            go_wp2_with (first | (go_at_call 43; (with_reducible refine (day_yes _ _ ?_ ?_).mono ?_); (· omega); (· omega); rintro e w' ⟨rfl, rfl⟩) | (go_at_call 43; (with_reducible refine (day_no _ _ ?_).mono ?_); (· omega); rintro e w' ⟨rfl, rfl⟩) | (go_at_call 44; (with_reducible refine (cents_yes _ _ ?_ ?_).mono ?_); (· omega); (· omega); rintro e w' ⟨rfl, rfl⟩) | (go_at_call 44; (with_reducible refine (cents_no _ _ ?_).mono ?_); (· omega); rintro e w' ⟨rfl, rfl⟩))
            all_goals
              have hsub := HSUB.out
              go_quiet (fail)
              go_wp2_with fail
              go_ret
              first
                | exact ⟨ret_nat hz.out.symm, below_drewN hend _⟩
                | (refine ⟨ret_nat hz.out.symm, ?_⟩; have h0 : r.worth = 0 := (by assumption); rw [h0] at hend; exact below_drewN hend _)
          · have hz : Hid (checkOf n l = checkFrom n r.day (l.drop (j + 1 + 1))) := by
              show _ = _
              rw [HC.out, hdr.out, check_next (err_none hir hip hlt2)]
            have hrl : Hid (∀ i, j + 1 + 1 = i + 1 → ∃ r', l[i]? = some r' ∧ r.day = r'.day) := fun i hi => ⟨r, by rw [show i = j + 1 by omega]; exact HR.out, rfl⟩
            clear hir hip
            go_wp2_with (first | (go_at_call 43; (with_reducible refine (day_yes _ _ ?_ ?_).mono ?_); (· omega); (· omega); rintro e w' ⟨rfl, rfl⟩) | (go_at_call 43; (with_reducible refine (day_no _ _ ?_).mono ?_); (· omega); rintro e w' ⟨rfl, rfl⟩) | (go_at_call 44; (with_reducible refine (cents_yes _ _ ?_ ?_).mono ?_); (· omega); (· omega); rintro e w' ⟨rfl, rfl⟩) | (go_at_call 44; (with_reducible refine (cents_no _ _ ?_).mono ?_); (· omega); rintro e w' ⟨rfl, rfl⟩))
            all_goals
              have hsub := HSUB.out
              go_quiet (fail)
              go_wp2_with fail
              go_roundw
              case rel => first | exact ⟨j + 1 + 1, r.day, by omega, by go_num, fun h => by omega, hrl.out, hz.out, below_drewN hend _⟩ | (have h0 : r.worth = 0 := (by assumption); rw [h0] at hend; exact ⟨j + 1 + 1, r.day, by omega, by go_num, fun h => by omega, hrl.out, hz.out, below_drewN hend _⟩)
              case measure => simp [intOf]; omega
      · have hn : Hid (checkOf n l = 0) := by
          show _ = _
          rw [HC.out, List.drop_eq_nil_of_le (by omega)]; rfl
        go_wp2_with fail
        go_ret
        exact ⟨ret_nat (b := checkOf n l) (a := 0) hn.out.symm, hbr⟩
end Go.Proofs.YtkllpfijeglppaaDoor.HsLaw6
