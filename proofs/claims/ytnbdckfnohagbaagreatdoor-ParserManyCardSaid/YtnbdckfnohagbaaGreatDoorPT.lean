/- PqS, PqT, PqU, in one text. -/
import Derived.Test.YtnbdckfnohagbaaGreatDoorPqG
import Derived.Test.YtnbdckfnohagbaaGreatDoorNm
import Derived.Test.YtnbdckfnohagbaaGreatDoorRP
import Derived.Test.YtnbdckfnohagbaaGreatDoorRT
import Derived.Test.YtnbdckfnohagbaaGreatDoorPqM
import Derived.Test.YtnbdckfnohagbaaGreatDoorHsE
import Derived.Test.YtnbdckfnohagbaaGreatDoorShelf
import Derived.Test.YtnbdckfnohagbaaGreatDoorRtD
namespace Go.Proofs.YtnbdckfnohagbaaGreatDoor.PqS
set_option linter.unusedVariables false
theorem here : True := trivial
open Go.RowKit Lx Wd RnW PqA PqB PqC PqD PqG NmA RnQ RnR RnP RtA RpC RpF RpI RtH
/-- a name that is not reserved -/
def plB (s : ByteArray) : Bool := nmB s && !resv s
set_option maxHeartbeats 1000000 in
theorem plain_any (s : ByteArray) (w : World) (hs : s.size ≤ maxLen) :
    Calls Tryz.prog 55 #[.string s] w fun e w' => e = .returned (.bool (plB s)) ∧ w = w' := by
  cases h1 : nmB s <;> cases h2 : resv s
  all_goals
    have H1 := hide h1
    have H2 := hide h2
    clear h1 h2
    go_enter Tryz.func55, Tryz.ntmps55
    go_wp2_with (first | (go_at_call 87; refine (nm_any _ _ hs).mono ?_; rintro e w' ⟨rfl, rfl⟩; rw [H1.out]) | (go_at_call 71; refine (LxB.reserved_any _ _).mono ?_; rintro e w' ⟨rfl, rfl⟩; rw [H2.out]))
    go_ret
    exact ⟨ret_bool (by simp only [plB, H1.out, H2.out]; rfl), rfl⟩
set_option maxHeartbeats 1000000 in
theorem rplain_any (s : ByteArray) (w : World) (hs : s.size ≤ maxLen) :
    Calls Tryz.prog 62 #[.string s] w fun e w' => e = .returned (.bool (plB s)) ∧ w = w' := by
  cases h1 : nmB s <;> cases h2 : resv s
  all_goals
    have H1 := hide h1
    have H2 := hide h2
    clear h1 h2
    go_enter Tryz.func62, Tryz.ntmps62
    go_wp2_with (first | (go_at_call 94; refine (rnm_any _ _ hs).mono ?_; rintro e w' ⟨rfl, rfl⟩; rw [H1.out]) | (go_at_call 78; refine (LxR.reserved_any _ _).mono ?_; rintro e w' ⟨rfl, rfl⟩; rw [H2.out]))
    go_ret
    exact ⟨ret_bool (by simp only [plB, H1.out, H2.out]; rfl), rfl⟩
theorem not_any (s : ByteArray) (w : World) (hs : s.size ≤ maxLen) :
    Calls Tryz.prog 57 #[.string s] w fun e w' => e = .returned (.bool (!plB s)) ∧ w = w' := by
  cases h1 : plB s
  all_goals
    have H1 := hide h1
    clear h1
    go_enter Tryz.func57, Tryz.ntmps57
    go_wp2_with (go_at_call 55; refine (plain_any _ _ hs).mono ?_; rintro e w' ⟨rfl, rfl⟩; rw [H1.out])
    go_ret
    exact ⟨rfl, rfl⟩
def IdxP (l : List ByteArray) (w : World) (e : Ending) (w' : World) : Prop := ∃ n : Int, e = .returned (.int .i64 n) ∧ decide (0 ≤ n) = !(l.all plB) ∧ w = w'
theorem all_no {l : List ByteArray} {k : Nat} {s : ByteArray} (h : l[k]? = some s) (hp : plB s = false) : l.all plB = false := by
  rw [List.all_eq_false]
  exact ⟨s, List.mem_of_getElem? h, by rw [hp]; exact Bool.false_ne_true⟩
theorem all_snoc {l : List ByteArray} {k : Nat} {s : ByteArray} (h : l[k]? = some s) (hp : plB s = true) (ha : (l.take k).all plB = true) : (l.take (k + 1)).all plB = true := by
  rw [List.take_add_one, h, List.all_append, ha]; simp [hp]
set_option maxHeartbeats 2000000 in
theorem index_any (l : List ByteArray) (P : Nat → Prop) (A : Option Addr) (c : Nat) (w : World) (h : Strs P w A c l) (hs : ∀ s ∈ l, s.size ≤ maxLen) :
    Calls Tryz.prog 88 #[.slice A l.length c, .func (.func 57) #[] #[]] w (IdxP l w) := by
  have hlen := h.1
  unfold maxLen at hlen
  have H := hide h
  have HS := Lib.hid hs
  clear h hs
  go_enter Tryz.func88, Tryz.ntmps88
  go_wp2_with fail
  go_loop [8] (fun v => ∃ k : Nat, k ≤ l.length ∧ v = .int .i64 k ∧ Hid ((l.take k).all plB = true)) (fun v => l.length - (intOf v).toNat)
  case atStart => exact ⟨0, Nat.zero_le _, rfl, rfl⟩
  case round =>
    obtain ⟨k, hk, rfl, HA⟩ := hrel
    by_cases hlt : k < l.length
    · obtain ⟨s, hr⟩ : ∃ r, l[k]? = some r := ⟨_, List.getElem?_eq_getElem hlt⟩
      obtain ⟨b, off, rfl, hbw, _, hc⟩ := H.out.2 (by omega)
      have c0 := hc k s hr
      have hz := HS.out s (List.mem_of_getElem? hr)
      have HR := hide hr
      clear hr hc
      cases hp : plB s
      · have HP := hide hp
        clear hp
        go_wp2_with (go_at_call 57; refine (not_any _ _ hz).mono ?_; rintro e w' ⟨rfl, rfl⟩; rw [HP.out])
        go_ret
        exact ⟨k, rfl, by rw [all_no HR.out HP.out]; exact decide_eq_true (by omega), rfl⟩
      · have HP := hide hp
        clear hp
        go_wp2_with (go_at_call 57; refine (not_any _ _ hz).mono ?_; rintro e w' ⟨rfl, rfl⟩; rw [HP.out])
        go_round
        case rel => exact ⟨k + 1, by omega, by go_num, all_snoc HR.out HP.out HA.out⟩
        case measure => simp [intOf]; omega
    · have hkl : l.take k = l := List.take_of_length_le (by omega)
      have hA := HA.out
      rw [hkl] at hA
      have HA2 := hide hA
      clear hA hkl
      go_wp2_with fail
      go_ret
      exact ⟨-1, rfl, by rw [HA2.out]; rfl, rfl⟩
set_option maxHeartbeats 2000000 in
theorem contains_any (l : List ByteArray) (P : Nat → Prop) (A : Option Addr) (c : Nat) (w : World) (h : Strs P w A c l) (hs : ∀ s ∈ l, s.size ≤ maxLen) :
    Calls Tryz.prog 56 #[.slice A l.length c, .func (.func 57) #[] #[]] w fun e w' => e = .returned (.bool (!(l.all plB))) ∧ w = w' := by
  have HI := hide (index_any l P A c w h hs)
  unfold IdxP at HI
  clear h hs
  go_enter Tryz.func56, Tryz.ntmps56
  go_wp2_with fail
  refine HI.out.mono ?_
  rintro e w' ⟨n, rfl, hn, rfl⟩
  have HN := hide hn
  clear hn
  go_wp2_with fail
  go_ret
  exact ⟨ret_bool HN.out, rfl⟩
/-- the sign of a clause's amount -/
def sgC (b : Bool) (x y : ByteArray) : Int := sgnQ (fixQ b x.data.toList y.data.toList)
/-- the error of a clause that is to be written -/
def codeOf (x : Cl) : Nat :=
  if x.kind < 1 ∨ 4 < x.kind then 10
  else if plB x.name = false then 11
  else if x.kind = 1 then (if x.list.all plB = false then 11 else if x.list.length = 0 then 21 else if 32 < x.list.length then 2 else 0)
  else if x.kind = 2 then (if plB x.other = false then 11 else 0)
  else if x.kind = 3 then (if sgC x.neg x.num x.den < 0 then 7 else 0)
  else 0
theorem all_len {l : List ByteArray} (h : l.length = 0) : l.all plB = true := by rw [List.eq_nil_of_length_eq_zero h]; rfl
set_option maxHeartbeats 2000000 in
set_option maxRecDepth 100000 in
theorem chk_kind (k : Int) (nm ot : ByteArray) (l : List ByteArray) (A : Option Addr) (c : Nat) (b : Bool) (x y : ByteArray) (z : Int) (w : World) (hk : k < 1 ∨ 4 < k) :
    Calls Tryz.prog 29 #[.agg #[.int .i64 k, .string nm, .string ot, .slice A l.length c, .bool b, .string x, .string y, .int .i64 z]] w fun e w' => e = .returned (.int .i64 10) ∧ Below w.heap.size w w' := by
  obtain ⟨V0, hV0, HX, HB0, hl0⟩ := new8 w (.int .i64 k) (.string nm) (.string ot) (.slice A l.length c) (.bool b) (.string x) (.string y) (.int .i64 z) 45
  obtain ⟨c0, c1, c2, c3, c4, c5, c6, c7⟩ := cells8 HX.out
  rcases hk with hk | hk
  · go_enter Tryz.func29, Tryz.ntmps29
    go_wp2_with fail
    go_ret
    exact ⟨rfl, HB0.out⟩
  · have hk1 : 1 ≤ k := by omega
    go_enter Tryz.func29, Tryz.ntmps29
    go_wp2_with fail
    go_ret
    exact ⟨rfl, HB0.out⟩
set_option maxHeartbeats 2000000 in
set_option maxRecDepth 100000 in
theorem chk_name1 (nm ot : ByteArray) (l : List ByteArray) (A : Option Addr) (c : Nat) (b : Bool) (x y : ByteArray) (z : Int) (w : World) (h1 : nm.size ≤ maxLen) (h2 : ot.size ≤ maxLen) (h3 : Strs (fun _ => True) w A c l) (h4 : ∀ s ∈ l, s.size ≤ maxLen) (h5 : x.size ≤ 50000) (h6 : y.size ≤ 50000) (hn : plB nm = false) :
    Calls Tryz.prog 29 #[.agg #[.int .i64 1, .string nm, .string ot, .slice A l.length c, .bool b, .string x, .string y, .int .i64 z]] w fun e w' => e = .returned (.int .i64 11) ∧ Below w.heap.size w w' := by
  obtain ⟨V0, hV0, HX, HB0, hl0⟩ := new8 w (.int .i64 1) (.string nm) (.string ot) (.slice A l.length c) (.bool b) (.string x) (.string y) (.int .i64 z) 45
  obtain ⟨c0, c1, c2, c3, c4, c5, c6, c7⟩ := cells8 HX.out
  have HN := Lib.hid (fun w => plain_any nm w h1)
  rw [hn] at HN
  clear hn h1 h2 h3 h4 h5 h6
  go_enter Tryz.func29, Tryz.ntmps29
  go_wp2_with (first | (go_at_call 55; (with_reducible refine (HN.out _).mono ?_); rintro e w' ⟨rfl, rfl⟩))
  go_ret
  exact ⟨rfl, HB0.out⟩
set_option maxHeartbeats 2000000 in
set_option maxRecDepth 100000 in
theorem chk_name2 (nm ot : ByteArray) (l : List ByteArray) (A : Option Addr) (c : Nat) (b : Bool) (x y : ByteArray) (z : Int) (w : World) (h1 : nm.size ≤ maxLen) (h2 : ot.size ≤ maxLen) (h3 : Strs (fun _ => True) w A c l) (h4 : ∀ s ∈ l, s.size ≤ maxLen) (h5 : x.size ≤ 50000) (h6 : y.size ≤ 50000) (hn : plB nm = false) :
    Calls Tryz.prog 29 #[.agg #[.int .i64 2, .string nm, .string ot, .slice A l.length c, .bool b, .string x, .string y, .int .i64 z]] w fun e w' => e = .returned (.int .i64 11) ∧ Below w.heap.size w w' := by
  obtain ⟨V0, hV0, HX, HB0, hl0⟩ := new8 w (.int .i64 2) (.string nm) (.string ot) (.slice A l.length c) (.bool b) (.string x) (.string y) (.int .i64 z) 45
  obtain ⟨c0, c1, c2, c3, c4, c5, c6, c7⟩ := cells8 HX.out
  have HN := Lib.hid (fun w => plain_any nm w h1)
  rw [hn] at HN
  clear hn h1 h2 h3 h4 h5 h6
  go_enter Tryz.func29, Tryz.ntmps29
  go_wp2_with (first | (go_at_call 55; (with_reducible refine (HN.out _).mono ?_); rintro e w' ⟨rfl, rfl⟩))
  go_ret
  exact ⟨rfl, HB0.out⟩
set_option maxHeartbeats 2000000 in
set_option maxRecDepth 100000 in
theorem chk_name3 (nm ot : ByteArray) (l : List ByteArray) (A : Option Addr) (c : Nat) (b : Bool) (x y : ByteArray) (z : Int) (w : World) (h1 : nm.size ≤ maxLen) (h2 : ot.size ≤ maxLen) (h3 : Strs (fun _ => True) w A c l) (h4 : ∀ s ∈ l, s.size ≤ maxLen) (h5 : x.size ≤ 50000) (h6 : y.size ≤ 50000) (hn : plB nm = false) :
    Calls Tryz.prog 29 #[.agg #[.int .i64 3, .string nm, .string ot, .slice A l.length c, .bool b, .string x, .string y, .int .i64 z]] w fun e w' => e = .returned (.int .i64 11) ∧ Below w.heap.size w w' := by
  obtain ⟨V0, hV0, HX, HB0, hl0⟩ := new8 w (.int .i64 3) (.string nm) (.string ot) (.slice A l.length c) (.bool b) (.string x) (.string y) (.int .i64 z) 45
  obtain ⟨c0, c1, c2, c3, c4, c5, c6, c7⟩ := cells8 HX.out
  have HN := Lib.hid (fun w => plain_any nm w h1)
  rw [hn] at HN
  clear hn h1 h2 h3 h4 h5 h6
  go_enter Tryz.func29, Tryz.ntmps29
  go_wp2_with (first | (go_at_call 55; (with_reducible refine (HN.out _).mono ?_); rintro e w' ⟨rfl, rfl⟩))
  go_ret
  exact ⟨rfl, HB0.out⟩
set_option maxHeartbeats 2000000 in
set_option maxRecDepth 100000 in
theorem chk_name4 (nm ot : ByteArray) (l : List ByteArray) (A : Option Addr) (c : Nat) (b : Bool) (x y : ByteArray) (z : Int) (w : World) (h1 : nm.size ≤ maxLen) (h2 : ot.size ≤ maxLen) (h3 : Strs (fun _ => True) w A c l) (h4 : ∀ s ∈ l, s.size ≤ maxLen) (h5 : x.size ≤ 50000) (h6 : y.size ≤ 50000) (hn : plB nm = false) :
    Calls Tryz.prog 29 #[.agg #[.int .i64 4, .string nm, .string ot, .slice A l.length c, .bool b, .string x, .string y, .int .i64 z]] w fun e w' => e = .returned (.int .i64 11) ∧ Below w.heap.size w w' := by
  obtain ⟨V0, hV0, HX, HB0, hl0⟩ := new8 w (.int .i64 4) (.string nm) (.string ot) (.slice A l.length c) (.bool b) (.string x) (.string y) (.int .i64 z) 45
  obtain ⟨c0, c1, c2, c3, c4, c5, c6, c7⟩ := cells8 HX.out
  have HN := Lib.hid (fun w => plain_any nm w h1)
  rw [hn] at HN
  clear hn h1 h2 h3 h4 h5 h6
  go_enter Tryz.func29, Tryz.ntmps29
  go_wp2_with (first | (go_at_call 55; (with_reducible refine (HN.out _).mono ?_); rintro e w' ⟨rfl, rfl⟩))
  go_ret
  exact ⟨rfl, HB0.out⟩
set_option maxHeartbeats 2000000 in
set_option maxRecDepth 100000 in
theorem chk_list1 (nm ot : ByteArray) (l : List ByteArray) (A : Option Addr) (c : Nat) (b : Bool) (x y : ByteArray) (z : Int) (w : World) (h1 : nm.size ≤ maxLen) (h2 : ot.size ≤ maxLen) (h3 : Strs (fun _ => True) w A c l) (h4 : ∀ s ∈ l, s.size ≤ maxLen) (h5 : x.size ≤ 50000) (h6 : y.size ≤ 50000) (hn : plB nm = true) (ha : l.all plB = false) :
    Calls Tryz.prog 29 #[.agg #[.int .i64 1, .string nm, .string ot, .slice A l.length c, .bool b, .string x, .string y, .int .i64 z]] w fun e w' => e = .returned (.int .i64 11) ∧ Below w.heap.size w w' := by
  obtain ⟨V0, hV0, HX, HB0, hl0⟩ := new8 w (.int .i64 1) (.string nm) (.string ot) (.slice A l.length c) (.bool b) (.string x) (.string y) (.int .i64 z) 45
  obtain ⟨c0, c1, c2, c3, c4, c5, c6, c7⟩ := cells8 HX.out
  have HN := Lib.hid (fun w => plain_any nm w h1)
  rw [hn] at HN
  have HC := Lib.hid (fun w' (hb : Below w.heap.size w w') => contains_any l _ A c w' (h3.below hb) h4)
  rw [ha] at HC
  simp only [Bool.not_false] at HC
  have HA := hide ha
  clear hn h1 h2 h3 h4 h5 h6 ha
  go_enter Tryz.func29, Tryz.ntmps29
  go_wp2_with (first | (go_at_call 55; (with_reducible refine (HN.out _).mono ?_); rintro e w' ⟨rfl, rfl⟩) | (go_at_call 56; (with_reducible refine (HC.out _ HB0.out).mono ?_); rintro e w' ⟨rfl, rfl⟩))
  go_ret
  exact ⟨rfl, HB0.out⟩
set_option maxHeartbeats 2000000 in
set_option maxRecDepth 100000 in
theorem chk_empty1 (nm ot : ByteArray) (l : List ByteArray) (A : Option Addr) (c : Nat) (b : Bool) (x y : ByteArray) (z : Int) (w : World) (h1 : nm.size ≤ maxLen) (h2 : ot.size ≤ maxLen) (h3 : Strs (fun _ => True) w A c l) (h4 : ∀ s ∈ l, s.size ≤ maxLen) (h5 : x.size ≤ 50000) (h6 : y.size ≤ 50000) (hn : plB nm = true) (ha : l.length = 0) :
    Calls Tryz.prog 29 #[.agg #[.int .i64 1, .string nm, .string ot, .slice A l.length c, .bool b, .string x, .string y, .int .i64 z]] w fun e w' => e = .returned (.int .i64 21) ∧ Below w.heap.size w w' := by
  obtain ⟨V0, hV0, HX, HB0, hl0⟩ := new8 w (.int .i64 1) (.string nm) (.string ot) (.slice A l.length c) (.bool b) (.string x) (.string y) (.int .i64 z) 45
  obtain ⟨c0, c1, c2, c3, c4, c5, c6, c7⟩ := cells8 HX.out
  have HN := Lib.hid (fun w => plain_any nm w h1)
  rw [hn] at HN
  have HC := Lib.hid (fun w' (hb : Below w.heap.size w w') => contains_any l _ A c w' (h3.below hb) h4)
  rw [all_len ha] at HC
  simp only [Bool.not_true] at HC
  have hl0' : (l.length : Int) = 0 := by omega
  have HL := hide ha
  clear hn h1 h2 h3 h4 h5 h6 ha
  go_enter Tryz.func29, Tryz.ntmps29
  go_wp2_with (first | (go_at_call 55; (with_reducible refine (HN.out _).mono ?_); rintro e w' ⟨rfl, rfl⟩) | (go_at_call 56; (with_reducible refine (HC.out _ HB0.out).mono ?_); rintro e w' ⟨rfl, rfl⟩))
  go_ret
  exact ⟨rfl, HB0.out⟩
set_option maxHeartbeats 2000000 in
set_option maxRecDepth 100000 in
theorem chk_long1 (nm ot : ByteArray) (l : List ByteArray) (A : Option Addr) (c : Nat) (b : Bool) (x y : ByteArray) (z : Int) (w : World) (h1 : nm.size ≤ maxLen) (h2 : ot.size ≤ maxLen) (h3 : Strs (fun _ => True) w A c l) (h4 : ∀ s ∈ l, s.size ≤ maxLen) (h5 : x.size ≤ 50000) (h6 : y.size ≤ 50000) (hn : plB nm = true) (ha : l.all plB = true) (hl : 32 < l.length) :
    Calls Tryz.prog 29 #[.agg #[.int .i64 1, .string nm, .string ot, .slice A l.length c, .bool b, .string x, .string y, .int .i64 z]] w fun e w' => e = .returned (.int .i64 2) ∧ Below w.heap.size w w' := by
  obtain ⟨V0, hV0, HX, HB0, hl0⟩ := new8 w (.int .i64 1) (.string nm) (.string ot) (.slice A l.length c) (.bool b) (.string x) (.string y) (.int .i64 z) 45
  obtain ⟨c0, c1, c2, c3, c4, c5, c6, c7⟩ := cells8 HX.out
  have HN := Lib.hid (fun w => plain_any nm w h1)
  rw [hn] at HN
  have HC := Lib.hid (fun w' (hb : Below w.heap.size w w') => contains_any l _ A c w' (h3.below hb) h4)
  rw [ha] at HC
  simp only [Bool.not_true] at HC
  have HA := hide ha
  clear hn h1 h2 h3 h4 h5 h6 ha
  go_enter Tryz.func29, Tryz.ntmps29
  go_wp2_with (first | (go_at_call 55; (with_reducible refine (HN.out _).mono ?_); rintro e w' ⟨rfl, rfl⟩) | (go_at_call 56; (with_reducible refine (HC.out _ HB0.out).mono ?_); rintro e w' ⟨rfl, rfl⟩))
  go_ret
  exact ⟨rfl, HB0.out⟩
set_option maxHeartbeats 2000000 in
set_option maxRecDepth 100000 in
theorem chk_ok1 (nm ot : ByteArray) (l : List ByteArray) (A : Option Addr) (c : Nat) (b : Bool) (x y : ByteArray) (z : Int) (w : World) (h1 : nm.size ≤ maxLen) (h2 : ot.size ≤ maxLen) (h3 : Strs (fun _ => True) w A c l) (h4 : ∀ s ∈ l, s.size ≤ maxLen) (h5 : x.size ≤ 50000) (h6 : y.size ≤ 50000) (hn : plB nm = true) (ha : l.all plB = true) (hl : 1 ≤ l.length) (hm : l.length ≤ 32) :
    Calls Tryz.prog 29 #[.agg #[.int .i64 1, .string nm, .string ot, .slice A l.length c, .bool b, .string x, .string y, .int .i64 z]] w fun e w' => e = .returned (.int .i64 0) ∧ Below w.heap.size w w' := by
  obtain ⟨V0, hV0, HX, HB0, hl0⟩ := new8 w (.int .i64 1) (.string nm) (.string ot) (.slice A l.length c) (.bool b) (.string x) (.string y) (.int .i64 z) 45
  obtain ⟨c0, c1, c2, c3, c4, c5, c6, c7⟩ := cells8 HX.out
  have HN := Lib.hid (fun w => plain_any nm w h1)
  rw [hn] at HN
  have HC := Lib.hid (fun w' (hb : Below w.heap.size w w') => contains_any l _ A c w' (h3.below hb) h4)
  rw [ha] at HC
  simp only [Bool.not_true] at HC
  have HA := hide ha
  clear hn h1 h2 h3 h4 h5 h6 ha
  go_enter Tryz.func29, Tryz.ntmps29
  go_wp2_with (first | (go_at_call 55; (with_reducible refine (HN.out _).mono ?_); rintro e w' ⟨rfl, rfl⟩) | (go_at_call 56; (with_reducible refine (HC.out _ HB0.out).mono ?_); rintro e w' ⟨rfl, rfl⟩))
  go_ret
  exact ⟨rfl, HB0.out⟩
set_option maxHeartbeats 2000000 in
set_option maxRecDepth 100000 in
theorem chk_other2 (nm ot : ByteArray) (l : List ByteArray) (A : Option Addr) (c : Nat) (b : Bool) (x y : ByteArray) (z : Int) (w : World) (h1 : nm.size ≤ maxLen) (h2 : ot.size ≤ maxLen) (h3 : Strs (fun _ => True) w A c l) (h4 : ∀ s ∈ l, s.size ≤ maxLen) (h5 : x.size ≤ 50000) (h6 : y.size ≤ 50000) (hn : plB nm = true) (ho : plB ot = false) :
    Calls Tryz.prog 29 #[.agg #[.int .i64 2, .string nm, .string ot, .slice A l.length c, .bool b, .string x, .string y, .int .i64 z]] w fun e w' => e = .returned (.int .i64 11) ∧ Below w.heap.size w w' := by
  obtain ⟨V0, hV0, HX, HB0, hl0⟩ := new8 w (.int .i64 2) (.string nm) (.string ot) (.slice A l.length c) (.bool b) (.string x) (.string y) (.int .i64 z) 45
  obtain ⟨c0, c1, c2, c3, c4, c5, c6, c7⟩ := cells8 HX.out
  have HN := Lib.hid (fun w => plain_any nm w h1)
  rw [hn] at HN
  have HO := Lib.hid (fun w => plain_any ot w h2)
  rw [ho] at HO
  clear hn h1 h2 h3 h4 h5 h6 ho
  go_enter Tryz.func29, Tryz.ntmps29
  go_wp2_with (first | (go_at_call 55; (first | (with_reducible refine (HN.out _).mono ?_) | (with_reducible refine (HO.out _).mono ?_)); rintro e w' ⟨rfl, rfl⟩))
  go_ret
  exact ⟨rfl, HB0.out⟩
set_option maxHeartbeats 2000000 in
set_option maxRecDepth 100000 in
theorem chk_ok2 (nm ot : ByteArray) (l : List ByteArray) (A : Option Addr) (c : Nat) (b : Bool) (x y : ByteArray) (z : Int) (w : World) (h1 : nm.size ≤ maxLen) (h2 : ot.size ≤ maxLen) (h3 : Strs (fun _ => True) w A c l) (h4 : ∀ s ∈ l, s.size ≤ maxLen) (h5 : x.size ≤ 50000) (h6 : y.size ≤ 50000) (hn : plB nm = true) (ho : plB ot = true) :
    Calls Tryz.prog 29 #[.agg #[.int .i64 2, .string nm, .string ot, .slice A l.length c, .bool b, .string x, .string y, .int .i64 z]] w fun e w' => e = .returned (.int .i64 0) ∧ Below w.heap.size w w' := by
  obtain ⟨V0, hV0, HX, HB0, hl0⟩ := new8 w (.int .i64 2) (.string nm) (.string ot) (.slice A l.length c) (.bool b) (.string x) (.string y) (.int .i64 z) 45
  obtain ⟨c0, c1, c2, c3, c4, c5, c6, c7⟩ := cells8 HX.out
  have HN := Lib.hid (fun w => plain_any nm w h1)
  rw [hn] at HN
  have HO := Lib.hid (fun w => plain_any ot w h2)
  rw [ho] at HO
  clear hn h1 h2 h3 h4 h5 h6 ho
  go_enter Tryz.func29, Tryz.ntmps29
  go_wp2_with (first | (go_at_call 55; (first | (with_reducible refine (HN.out _).mono ?_) | (with_reducible refine (HO.out _).mono ?_)); rintro e w' ⟨rfl, rfl⟩))
  go_ret
  exact ⟨rfl, HB0.out⟩
set_option maxHeartbeats 2000000 in
set_option maxRecDepth 100000 in
theorem chk_neg3 (nm ot : ByteArray) (l : List ByteArray) (A : Option Addr) (c : Nat) (b : Bool) (x y : ByteArray) (z : Int) (w : World) (h1 : nm.size ≤ maxLen) (h2 : ot.size ≤ maxLen) (h3 : Strs (fun _ => True) w A c l) (h4 : ∀ s ∈ l, s.size ≤ maxLen) (h5 : x.size ≤ 50000) (h6 : y.size ≤ 50000) (hn : plB nm = true) (hg : sgC b x y < 0) :
    Calls Tryz.prog 29 #[.agg #[.int .i64 3, .string nm, .string ot, .slice A l.length c, .bool b, .string x, .string y, .int .i64 z]] w fun e w' => e = .returned (.int .i64 7) ∧ Below w.heap.size w w' := by
  obtain ⟨V0, hV0, HX, HB0, hl0⟩ := new8 w (.int .i64 3) (.string nm) (.string ot) (.slice A l.length c) (.bool b) (.string x) (.string y) (.int .i64 z) 45
  obtain ⟨c0, c1, c2, c3, c4, c5, c6, c7⟩ := cells8 HX.out
  have HN := Lib.hid (fun w => plain_any nm w h1)
  rw [hn] at HN
  have HS := Lib.hid (fun w => sign_any b x y w (by omega) (by omega))
  change Hid (∀ w, Calls _ _ _ w fun e w' => e = .returned (.int .i64 (sgC b x y)) ∧ Below w.heap.size w w') at HS
  generalize sgC b x y = g at *
  clear hn h1 h2 h3 h4 h5 h6
  go_enter Tryz.func29, Tryz.ntmps29
  go_wp2_with (first | (go_at_call 55; (with_reducible refine (HN.out _).mono ?_); rintro e w' ⟨rfl, rfl⟩) | (go_at_call 58; (with_reducible refine (HS.out _).mono ?_); rintro e w2 ⟨rfl, hb2⟩))
  go_ret
  exact ⟨rfl, HB0.out.trans (hb2.mono HB0.out.size)⟩
set_option maxHeartbeats 2000000 in
set_option maxRecDepth 100000 in
theorem chk_ok3 (nm ot : ByteArray) (l : List ByteArray) (A : Option Addr) (c : Nat) (b : Bool) (x y : ByteArray) (z : Int) (w : World) (h1 : nm.size ≤ maxLen) (h2 : ot.size ≤ maxLen) (h3 : Strs (fun _ => True) w A c l) (h4 : ∀ s ∈ l, s.size ≤ maxLen) (h5 : x.size ≤ 50000) (h6 : y.size ≤ 50000) (hn : plB nm = true) (hg : ¬ sgC b x y < 0) :
    Calls Tryz.prog 29 #[.agg #[.int .i64 3, .string nm, .string ot, .slice A l.length c, .bool b, .string x, .string y, .int .i64 z]] w fun e w' => e = .returned (.int .i64 0) ∧ Below w.heap.size w w' := by
  obtain ⟨V0, hV0, HX, HB0, hl0⟩ := new8 w (.int .i64 3) (.string nm) (.string ot) (.slice A l.length c) (.bool b) (.string x) (.string y) (.int .i64 z) 45
  obtain ⟨c0, c1, c2, c3, c4, c5, c6, c7⟩ := cells8 HX.out
  have HN := Lib.hid (fun w => plain_any nm w h1)
  rw [hn] at HN
  have HS := Lib.hid (fun w => sign_any b x y w (by omega) (by omega))
  change Hid (∀ w, Calls _ _ _ w fun e w' => e = .returned (.int .i64 (sgC b x y)) ∧ Below w.heap.size w w') at HS
  generalize sgC b x y = g at *
  clear hn h1 h2 h3 h4 h5 h6
  go_enter Tryz.func29, Tryz.ntmps29
  go_wp2_with (first | (go_at_call 55; (with_reducible refine (HN.out _).mono ?_); rintro e w' ⟨rfl, rfl⟩) | (go_at_call 58; (with_reducible refine (HS.out _).mono ?_); rintro e w2 ⟨rfl, hb2⟩))
  go_ret
  exact ⟨rfl, HB0.out.trans (hb2.mono HB0.out.size)⟩
set_option maxHeartbeats 2000000 in
set_option maxRecDepth 100000 in
theorem chk_ok4 (nm ot : ByteArray) (l : List ByteArray) (A : Option Addr) (c : Nat) (b : Bool) (x y : ByteArray) (z : Int) (w : World) (h1 : nm.size ≤ maxLen) (h2 : ot.size ≤ maxLen) (h3 : Strs (fun _ => True) w A c l) (h4 : ∀ s ∈ l, s.size ≤ maxLen) (h5 : x.size ≤ 50000) (h6 : y.size ≤ 50000) (hn : plB nm = true) :
    Calls Tryz.prog 29 #[.agg #[.int .i64 4, .string nm, .string ot, .slice A l.length c, .bool b, .string x, .string y, .int .i64 z]] w fun e w' => e = .returned (.int .i64 0) ∧ Below w.heap.size w w' := by
  obtain ⟨V0, hV0, HX, HB0, hl0⟩ := new8 w (.int .i64 4) (.string nm) (.string ot) (.slice A l.length c) (.bool b) (.string x) (.string y) (.int .i64 z) 45
  obtain ⟨c0, c1, c2, c3, c4, c5, c6, c7⟩ := cells8 HX.out
  have HN := Lib.hid (fun w => plain_any nm w h1)
  rw [hn] at HN
  clear hn h1 h2 h3 h4 h5 h6
  go_enter Tryz.func29, Tryz.ntmps29
  go_wp2_with (first | (go_at_call 55; (with_reducible refine (HN.out _).mono ?_); rintro e w' ⟨rfl, rfl⟩))
  go_ret
  exact ⟨rfl, HB0.out⟩
theorem chk_any (k : Int) (nm ot : ByteArray) (l : List ByteArray) (A : Option Addr) (c : Nat) (b : Bool) (x y : ByteArray) (z : Int) (w : World) (h1 : nm.size ≤ maxLen) (h2 : ot.size ≤ maxLen) (h3 : Strs (fun _ => True) w A c l) (h4 : ∀ s ∈ l, s.size ≤ maxLen) (h5 : x.size ≤ 50000) (h6 : y.size ≤ 50000) :
    Calls Tryz.prog 29 #[.agg #[.int .i64 k, .string nm, .string ot, .slice A l.length c, .bool b, .string x, .string y, .int .i64 z]] w fun e w' => e = .returned (.int .i64 (codeOf ⟨k, nm, ot, l, b, x, y, z⟩ : Nat)) ∧ Below w.heap.size w w' := by
  unfold codeOf
  dsimp only
  by_cases hk : k < 1 ∨ 4 < k
  · rw [if_pos hk]; exact chk_kind k nm ot l A c b x y z w hk
  rw [if_neg hk]
  cases hn : plB nm
  · rw [if_pos rfl]
    rcases (by omega : k = 1 ∨ k = 2 ∨ k = 3 ∨ k = 4) with rfl | rfl | rfl | rfl
    · exact chk_name1 nm ot l A c b x y z w h1 h2 h3 h4 h5 h6 hn
    · exact chk_name2 nm ot l A c b x y z w h1 h2 h3 h4 h5 h6 hn
    · exact chk_name3 nm ot l A c b x y z w h1 h2 h3 h4 h5 h6 hn
    · exact chk_name4 nm ot l A c b x y z w h1 h2 h3 h4 h5 h6 hn
  rw [if_neg (by decide)]
  rcases (by omega : k = 1 ∨ k = 2 ∨ k = 3 ∨ k = 4) with rfl | rfl | rfl | rfl
  · rw [if_pos rfl]
    cases ha : l.all plB
    · rw [if_pos rfl]; exact chk_list1 nm ot l A c b x y z w h1 h2 h3 h4 h5 h6 hn ha
    · rw [if_neg (by decide)]
      by_cases he : l.length = 0
      · rw [if_pos he]; exact chk_empty1 nm ot l A c b x y z w h1 h2 h3 h4 h5 h6 hn he
      · rw [if_neg he]
        by_cases hl : 32 < l.length
        · rw [if_pos hl]; exact chk_long1 nm ot l A c b x y z w h1 h2 h3 h4 h5 h6 hn ha hl
        · rw [if_neg hl]; exact chk_ok1 nm ot l A c b x y z w h1 h2 h3 h4 h5 h6 hn ha (by omega) (by omega)
  · rw [if_neg (by decide), if_pos rfl]
    cases ho : plB ot
    · rw [if_pos rfl]; exact chk_other2 nm ot l A c b x y z w h1 h2 h3 h4 h5 h6 hn ho
    · rw [if_neg (by decide)]; exact chk_ok2 nm ot l A c b x y z w h1 h2 h3 h4 h5 h6 hn ho
  · rw [if_neg (by decide), if_neg (by decide), if_pos rfl]
    by_cases hg : sgC b x y < 0
    · rw [if_pos hg]; exact chk_neg3 nm ot l A c b x y z w h1 h2 h3 h4 h5 h6 hn hg
    · rw [if_neg hg]; exact chk_ok3 nm ot l A c b x y z w h1 h2 h3 h4 h5 h6 hn hg
  · rw [if_neg (by decide), if_neg (by decide), if_neg (by decide)]; exact chk_ok4 nm ot l A c b x y z w h1 h2 h3 h4 h5 h6 hn
end Go.Proofs.YtnbdckfnohagbaaGreatDoor.PqS
namespace Go.Proofs.YtnbdckfnohagbaaGreatDoor.PqT
set_option linter.unusedVariables false
theorem here : True := trivial
open Go.RowKit Lx Wd RnW PqA PqB PqC PqD PqG NmA PqS RnQ RnR RnP RtA RpC RpE RpF RpI RtH RoA RoL RnD
/-- the error of the list of a class -/
def lsCode (l : List ByteArray) : Nat := if l.all plB = false then 11 else if l.length = 0 then 21 else if 32 < l.length then 2 else 0
set_option maxHeartbeats 4000000 in
set_option maxRecDepth 100000 in
theorem rchk_class (nm ot : ByteArray) (l : List ByteArray) (A : Option Addr) (c : Nat) (b : Bool) (x y : ByteArray) (z : Int) (w : World) (h1 : nm.size ≤ maxLen) (h2 : ot.size ≤ maxLen) (h3 : Strs (fun _ => True) w A c l) (h4 : ∀ s ∈ l, s.size ≤ maxLen) (h5 : x.size ≤ 50000) (h6 : y.size ≤ 50000) (hn : plB nm = true) :
    Calls Tryz.prog 34 #[.agg #[.int .i64 1, .string nm, .string ot, .slice A l.length c, .bool b, .string x, .string y, .int .i64 z]] w fun e w' => e = .returned (.int .i64 (lsCode l : Nat)) ∧ Below w.heap.size w w' := by
  have hlen := h3.1
  unfold maxLen at hlen
  obtain ⟨V0, hV0, HX, HB0, hl0⟩ := new8 w (.int .i64 1) (.string nm) (.string ot) (.slice A l.length c) (.bool b) (.string x) (.string y) (.int .i64 z) 45
  obtain ⟨c0, c1, c2, c3, c4, c5, c6, c7⟩ := cells8 HX.out
  have HN := Lib.hid (fun w => rplain_any nm w h1)
  rw [hn] at HN
  have HL := hide (h3.below HB0.out)
  have HZ := Lib.hid h4
  clear h1 h2 h3 h4 h5 h6 hn
  go_enter Tryz.func34, Tryz.ntmps34
  go_wp2_with (first | (go_at_call 62; (with_reducible refine (HN.out _).mono ?_); rintro e w' ⟨rfl, rfl⟩))
  go_loop [3] (fun v => ∃ k : Nat, k ≤ l.length ∧ v = .int .i64 k ∧ Hid ((l.take k).all plB = true)) (fun v => l.length - (intOf v).toNat)
  case atStart => exact ⟨0, Nat.zero_le _, rfl, rfl⟩
  case round =>
    obtain ⟨k, hk, rfl, HA⟩ := hrel
    by_cases hlt : k < l.length
    · obtain ⟨s, hr⟩ : ∃ r, l[k]? = some r := ⟨_, List.getElem?_eq_getElem hlt⟩
      obtain ⟨bb, off, rfl, hbw, _, hc⟩ := HL.out.2 (by omega)
      have k0 := hc k s hr
      have hz := HZ.out s (List.mem_of_getElem? hr)
      have HR := hide hr
      clear hr hc
      cases hp : plB s
      · have HP := hide hp
        have HC := hide (show lsCode l = 11 by unfold lsCode; rw [if_pos (all_no HR.out hp)])
        clear hp
        go_wp2_with (go_at_call 62; (with_reducible refine (rplain_any s _ hz).mono ?_); rintro e w' ⟨rfl, rfl⟩; rw [HP.out])
        go_ret
        exact ⟨ret_int (by rw [HC.out]; rfl), HB0.out⟩
      · have HP := hide hp
        clear hp
        go_wp2_with (go_at_call 62; (with_reducible refine (rplain_any s _ hz).mono ?_); rintro e w' ⟨rfl, rfl⟩; rw [HP.out])
        go_round
        case rel => exact ⟨k + 1, by omega, by go_num, all_snoc HR.out HP.out HA.out⟩
        case measure => simp [intOf]; omega
    · have hkl : l.take k = l := List.take_of_length_le (by omega)
      have hA := HA.out
      rw [hkl] at hA
      have HA2 := hide hA
      clear hA hkl
      by_cases h0 : l.length = 0
      · have HC := hide (show lsCode l = 21 by unfold lsCode; rw [if_neg (by rw [HA2.out]; decide), if_pos h0])
        have hl0' : (l.length : Int) = 0 := by omega
        go_wp2_with fail
        go_ret
        exact ⟨ret_int (by rw [HC.out]; rfl), HB0.out⟩
      · by_cases h9 : 32 < l.length
        · have HC := hide (show lsCode l = 2 by unfold lsCode; rw [if_neg (by rw [HA2.out]; decide), if_neg h0, if_pos h9])
          have hp0 : 0 < l.length := by omega
          go_wp2_with fail
          go_ret
          exact ⟨ret_int (by rw [HC.out]; rfl), HB0.out⟩
        · have HC := hide (show lsCode l = 0 by unfold lsCode; rw [if_neg (by rw [HA2.out]; decide), if_neg h0, if_neg h9])
          have hp0 : 0 < l.length := by omega
          have hp9 : l.length ≤ 32 := by omega
          go_wp2_with fail
          go_ret
          exact ⟨ret_int (by rw [HC.out]; rfl), HB0.out⟩
set_option maxHeartbeats 2000000 in
set_option maxRecDepth 100000 in
theorem rchk_kind (k : Int) (nm ot : ByteArray) (l : List ByteArray) (A : Option Addr) (c : Nat) (b : Bool) (x y : ByteArray) (z : Int) (w : World) (hk : k < 1 ∨ 4 < k) :
    Calls Tryz.prog 34 #[.agg #[.int .i64 k, .string nm, .string ot, .slice A l.length c, .bool b, .string x, .string y, .int .i64 z]] w fun e w' => e = .returned (.int .i64 10) ∧ Below w.heap.size w w' := by
  obtain ⟨V0, hV0, HX, HB0, hl0⟩ := new8 w (.int .i64 k) (.string nm) (.string ot) (.slice A l.length c) (.bool b) (.string x) (.string y) (.int .i64 z) 45
  obtain ⟨c0, c1, c2, c3, c4, c5, c6, c7⟩ := cells8 HX.out
  rcases hk with hk | hk
  · go_enter Tryz.func34, Tryz.ntmps34
    go_wp2_with fail
    go_ret
    exact ⟨rfl, HB0.out⟩
  · have hk1 : 1 ≤ k := by omega
    go_enter Tryz.func34, Tryz.ntmps34
    go_wp2_with fail
    go_ret
    exact ⟨rfl, HB0.out⟩
set_option maxHeartbeats 2000000 in
set_option maxRecDepth 100000 in
theorem rchk_name1 (nm ot : ByteArray) (l : List ByteArray) (A : Option Addr) (c : Nat) (b : Bool) (x y : ByteArray) (z : Int) (w : World) (h1 : nm.size ≤ maxLen) (h2 : ot.size ≤ maxLen) (h3 : Strs (fun _ => True) w A c l) (h4 : ∀ s ∈ l, s.size ≤ maxLen) (h5 : x.size ≤ 50000) (h6 : y.size ≤ 50000) (hn : plB nm = false) :
    Calls Tryz.prog 34 #[.agg #[.int .i64 1, .string nm, .string ot, .slice A l.length c, .bool b, .string x, .string y, .int .i64 z]] w fun e w' => e = .returned (.int .i64 11) ∧ Below w.heap.size w w' := by
  obtain ⟨V0, hV0, HX, HB0, hl0⟩ := new8 w (.int .i64 1) (.string nm) (.string ot) (.slice A l.length c) (.bool b) (.string x) (.string y) (.int .i64 z) 45
  obtain ⟨c0, c1, c2, c3, c4, c5, c6, c7⟩ := cells8 HX.out
  have HN := Lib.hid (fun w => rplain_any nm w h1)
  rw [hn] at HN
  clear hn h1 h2 h3 h4 h5 h6
  go_enter Tryz.func34, Tryz.ntmps34
  go_wp2_with (first | (go_at_call 62; (with_reducible refine (HN.out _).mono ?_); rintro e w' ⟨rfl, rfl⟩))
  go_ret
  exact ⟨rfl, HB0.out⟩
set_option maxHeartbeats 2000000 in
set_option maxRecDepth 100000 in
theorem rchk_name2 (nm ot : ByteArray) (l : List ByteArray) (A : Option Addr) (c : Nat) (b : Bool) (x y : ByteArray) (z : Int) (w : World) (h1 : nm.size ≤ maxLen) (h2 : ot.size ≤ maxLen) (h3 : Strs (fun _ => True) w A c l) (h4 : ∀ s ∈ l, s.size ≤ maxLen) (h5 : x.size ≤ 50000) (h6 : y.size ≤ 50000) (hn : plB nm = false) :
    Calls Tryz.prog 34 #[.agg #[.int .i64 2, .string nm, .string ot, .slice A l.length c, .bool b, .string x, .string y, .int .i64 z]] w fun e w' => e = .returned (.int .i64 11) ∧ Below w.heap.size w w' := by
  obtain ⟨V0, hV0, HX, HB0, hl0⟩ := new8 w (.int .i64 2) (.string nm) (.string ot) (.slice A l.length c) (.bool b) (.string x) (.string y) (.int .i64 z) 45
  obtain ⟨c0, c1, c2, c3, c4, c5, c6, c7⟩ := cells8 HX.out
  have HN := Lib.hid (fun w => rplain_any nm w h1)
  rw [hn] at HN
  clear hn h1 h2 h3 h4 h5 h6
  go_enter Tryz.func34, Tryz.ntmps34
  go_wp2_with (first | (go_at_call 62; (with_reducible refine (HN.out _).mono ?_); rintro e w' ⟨rfl, rfl⟩))
  go_ret
  exact ⟨rfl, HB0.out⟩
set_option maxHeartbeats 2000000 in
set_option maxRecDepth 100000 in
theorem rchk_name3 (nm ot : ByteArray) (l : List ByteArray) (A : Option Addr) (c : Nat) (b : Bool) (x y : ByteArray) (z : Int) (w : World) (h1 : nm.size ≤ maxLen) (h2 : ot.size ≤ maxLen) (h3 : Strs (fun _ => True) w A c l) (h4 : ∀ s ∈ l, s.size ≤ maxLen) (h5 : x.size ≤ 50000) (h6 : y.size ≤ 50000) (hn : plB nm = false) :
    Calls Tryz.prog 34 #[.agg #[.int .i64 3, .string nm, .string ot, .slice A l.length c, .bool b, .string x, .string y, .int .i64 z]] w fun e w' => e = .returned (.int .i64 11) ∧ Below w.heap.size w w' := by
  obtain ⟨V0, hV0, HX, HB0, hl0⟩ := new8 w (.int .i64 3) (.string nm) (.string ot) (.slice A l.length c) (.bool b) (.string x) (.string y) (.int .i64 z) 45
  obtain ⟨c0, c1, c2, c3, c4, c5, c6, c7⟩ := cells8 HX.out
  have HN := Lib.hid (fun w => rplain_any nm w h1)
  rw [hn] at HN
  clear hn h1 h2 h3 h4 h5 h6
  go_enter Tryz.func34, Tryz.ntmps34
  go_wp2_with (first | (go_at_call 62; (with_reducible refine (HN.out _).mono ?_); rintro e w' ⟨rfl, rfl⟩))
  go_ret
  exact ⟨rfl, HB0.out⟩
set_option maxHeartbeats 2000000 in
set_option maxRecDepth 100000 in
theorem rchk_name4 (nm ot : ByteArray) (l : List ByteArray) (A : Option Addr) (c : Nat) (b : Bool) (x y : ByteArray) (z : Int) (w : World) (h1 : nm.size ≤ maxLen) (h2 : ot.size ≤ maxLen) (h3 : Strs (fun _ => True) w A c l) (h4 : ∀ s ∈ l, s.size ≤ maxLen) (h5 : x.size ≤ 50000) (h6 : y.size ≤ 50000) (hn : plB nm = false) :
    Calls Tryz.prog 34 #[.agg #[.int .i64 4, .string nm, .string ot, .slice A l.length c, .bool b, .string x, .string y, .int .i64 z]] w fun e w' => e = .returned (.int .i64 11) ∧ Below w.heap.size w w' := by
  obtain ⟨V0, hV0, HX, HB0, hl0⟩ := new8 w (.int .i64 4) (.string nm) (.string ot) (.slice A l.length c) (.bool b) (.string x) (.string y) (.int .i64 z) 45
  obtain ⟨c0, c1, c2, c3, c4, c5, c6, c7⟩ := cells8 HX.out
  have HN := Lib.hid (fun w => rplain_any nm w h1)
  rw [hn] at HN
  clear hn h1 h2 h3 h4 h5 h6
  go_enter Tryz.func34, Tryz.ntmps34
  go_wp2_with (first | (go_at_call 62; (with_reducible refine (HN.out _).mono ?_); rintro e w' ⟨rfl, rfl⟩))
  go_ret
  exact ⟨rfl, HB0.out⟩
set_option maxHeartbeats 2000000 in
set_option maxRecDepth 100000 in
theorem rchk_other2 (nm ot : ByteArray) (l : List ByteArray) (A : Option Addr) (c : Nat) (b : Bool) (x y : ByteArray) (z : Int) (w : World) (h1 : nm.size ≤ maxLen) (h2 : ot.size ≤ maxLen) (h3 : Strs (fun _ => True) w A c l) (h4 : ∀ s ∈ l, s.size ≤ maxLen) (h5 : x.size ≤ 50000) (h6 : y.size ≤ 50000) (hn : plB nm = true) (ho : plB ot = false) :
    Calls Tryz.prog 34 #[.agg #[.int .i64 2, .string nm, .string ot, .slice A l.length c, .bool b, .string x, .string y, .int .i64 z]] w fun e w' => e = .returned (.int .i64 11) ∧ Below w.heap.size w w' := by
  obtain ⟨V0, hV0, HX, HB0, hl0⟩ := new8 w (.int .i64 2) (.string nm) (.string ot) (.slice A l.length c) (.bool b) (.string x) (.string y) (.int .i64 z) 45
  obtain ⟨c0, c1, c2, c3, c4, c5, c6, c7⟩ := cells8 HX.out
  have HN := Lib.hid (fun w => rplain_any nm w h1)
  rw [hn] at HN
  have HO := Lib.hid (fun w => rplain_any ot w h2)
  rw [ho] at HO
  clear hn h1 h2 h3 h4 h5 h6 ho
  go_enter Tryz.func34, Tryz.ntmps34
  go_wp2_with (first | (go_at_call 62; (first | (with_reducible refine (HN.out _).mono ?_) | (with_reducible refine (HO.out _).mono ?_)); rintro e w' ⟨rfl, rfl⟩))
  go_ret
  exact ⟨rfl, HB0.out⟩
set_option maxHeartbeats 2000000 in
set_option maxRecDepth 100000 in
theorem rchk_ok2 (nm ot : ByteArray) (l : List ByteArray) (A : Option Addr) (c : Nat) (b : Bool) (x y : ByteArray) (z : Int) (w : World) (h1 : nm.size ≤ maxLen) (h2 : ot.size ≤ maxLen) (h3 : Strs (fun _ => True) w A c l) (h4 : ∀ s ∈ l, s.size ≤ maxLen) (h5 : x.size ≤ 50000) (h6 : y.size ≤ 50000) (hn : plB nm = true) (ho : plB ot = true) :
    Calls Tryz.prog 34 #[.agg #[.int .i64 2, .string nm, .string ot, .slice A l.length c, .bool b, .string x, .string y, .int .i64 z]] w fun e w' => e = .returned (.int .i64 0) ∧ Below w.heap.size w w' := by
  obtain ⟨V0, hV0, HX, HB0, hl0⟩ := new8 w (.int .i64 2) (.string nm) (.string ot) (.slice A l.length c) (.bool b) (.string x) (.string y) (.int .i64 z) 45
  obtain ⟨c0, c1, c2, c3, c4, c5, c6, c7⟩ := cells8 HX.out
  have HN := Lib.hid (fun w => rplain_any nm w h1)
  rw [hn] at HN
  have HO := Lib.hid (fun w => rplain_any ot w h2)
  rw [ho] at HO
  clear hn h1 h2 h3 h4 h5 h6 ho
  go_enter Tryz.func34, Tryz.ntmps34
  go_wp2_with (first | (go_at_call 62; (first | (with_reducible refine (HN.out _).mono ?_) | (with_reducible refine (HO.out _).mono ?_)); rintro e w' ⟨rfl, rfl⟩))
  go_ret
  exact ⟨rfl, HB0.out⟩
set_option maxHeartbeats 2000000 in
set_option maxRecDepth 100000 in
theorem rchk_neg3 (nm ot : ByteArray) (l : List ByteArray) (A : Option Addr) (c : Nat) (b : Bool) (x y : ByteArray) (z : Int) (w : World) (h1 : nm.size ≤ maxLen) (h2 : ot.size ≤ maxLen) (h3 : Strs (fun _ => True) w A c l) (h4 : ∀ s ∈ l, s.size ≤ maxLen) (h5 : x.size ≤ 50000) (h6 : y.size ≤ 50000) (hn : plB nm = true) (hg : sgC b x y < 0) :
    Calls Tryz.prog 34 #[.agg #[.int .i64 3, .string nm, .string ot, .slice A l.length c, .bool b, .string x, .string y, .int .i64 z]] w fun e w' => e = .returned (.int .i64 7) ∧ Below w.heap.size w w' := by
  obtain ⟨V0, hV0, HX, HB0, hl0⟩ := new8 w (.int .i64 3) (.string nm) (.string ot) (.slice A l.length c) (.bool b) (.string x) (.string y) (.int .i64 z) 45
  obtain ⟨c0, c1, c2, c3, c4, c5, c6, c7⟩ := cells8 HX.out
  have HN := Lib.hid (fun w => rplain_any nm w h1)
  rw [hn] at HN
  have HS := Lib.hid (fun w => rsign_any b x y w (by omega) (by omega))
  change Hid (∀ w, Calls _ _ _ w fun e w' => e = .returned (.int .i64 (sgC b x y)) ∧ Below w.heap.size w w') at HS
  generalize sgC b x y = g at *
  clear hn h1 h2 h3 h4 h5 h6
  go_enter Tryz.func34, Tryz.ntmps34
  go_wp2_with (first | (go_at_call 62; (with_reducible refine (HN.out _).mono ?_); rintro e w' ⟨rfl, rfl⟩) | (go_at_call 63; (with_reducible refine (HS.out _).mono ?_); rintro e w2 ⟨rfl, hb2⟩))
  go_ret
  exact ⟨rfl, HB0.out.trans (hb2.mono HB0.out.size)⟩
set_option maxHeartbeats 2000000 in
set_option maxRecDepth 100000 in
theorem rchk_ok3 (nm ot : ByteArray) (l : List ByteArray) (A : Option Addr) (c : Nat) (b : Bool) (x y : ByteArray) (z : Int) (w : World) (h1 : nm.size ≤ maxLen) (h2 : ot.size ≤ maxLen) (h3 : Strs (fun _ => True) w A c l) (h4 : ∀ s ∈ l, s.size ≤ maxLen) (h5 : x.size ≤ 50000) (h6 : y.size ≤ 50000) (hn : plB nm = true) (hg : ¬ sgC b x y < 0) :
    Calls Tryz.prog 34 #[.agg #[.int .i64 3, .string nm, .string ot, .slice A l.length c, .bool b, .string x, .string y, .int .i64 z]] w fun e w' => e = .returned (.int .i64 0) ∧ Below w.heap.size w w' := by
  obtain ⟨V0, hV0, HX, HB0, hl0⟩ := new8 w (.int .i64 3) (.string nm) (.string ot) (.slice A l.length c) (.bool b) (.string x) (.string y) (.int .i64 z) 45
  obtain ⟨c0, c1, c2, c3, c4, c5, c6, c7⟩ := cells8 HX.out
  have HN := Lib.hid (fun w => rplain_any nm w h1)
  rw [hn] at HN
  have HS := Lib.hid (fun w => rsign_any b x y w (by omega) (by omega))
  change Hid (∀ w, Calls _ _ _ w fun e w' => e = .returned (.int .i64 (sgC b x y)) ∧ Below w.heap.size w w') at HS
  generalize sgC b x y = g at *
  clear hn h1 h2 h3 h4 h5 h6
  go_enter Tryz.func34, Tryz.ntmps34
  go_wp2_with (first | (go_at_call 62; (with_reducible refine (HN.out _).mono ?_); rintro e w' ⟨rfl, rfl⟩) | (go_at_call 63; (with_reducible refine (HS.out _).mono ?_); rintro e w2 ⟨rfl, hb2⟩))
  go_ret
  exact ⟨rfl, HB0.out.trans (hb2.mono HB0.out.size)⟩
set_option maxHeartbeats 2000000 in
set_option maxRecDepth 100000 in
theorem rchk_ok4 (nm ot : ByteArray) (l : List ByteArray) (A : Option Addr) (c : Nat) (b : Bool) (x y : ByteArray) (z : Int) (w : World) (h1 : nm.size ≤ maxLen) (h2 : ot.size ≤ maxLen) (h3 : Strs (fun _ => True) w A c l) (h4 : ∀ s ∈ l, s.size ≤ maxLen) (h5 : x.size ≤ 50000) (h6 : y.size ≤ 50000) (hn : plB nm = true) :
    Calls Tryz.prog 34 #[.agg #[.int .i64 4, .string nm, .string ot, .slice A l.length c, .bool b, .string x, .string y, .int .i64 z]] w fun e w' => e = .returned (.int .i64 0) ∧ Below w.heap.size w w' := by
  obtain ⟨V0, hV0, HX, HB0, hl0⟩ := new8 w (.int .i64 4) (.string nm) (.string ot) (.slice A l.length c) (.bool b) (.string x) (.string y) (.int .i64 z) 45
  obtain ⟨c0, c1, c2, c3, c4, c5, c6, c7⟩ := cells8 HX.out
  have HN := Lib.hid (fun w => rplain_any nm w h1)
  rw [hn] at HN
  clear hn h1 h2 h3 h4 h5 h6
  go_enter Tryz.func34, Tryz.ntmps34
  go_wp2_with (first | (go_at_call 62; (with_reducible refine (HN.out _).mono ?_); rintro e w' ⟨rfl, rfl⟩))
  go_ret
  exact ⟨rfl, HB0.out⟩
theorem rchk_any (k : Int) (nm ot : ByteArray) (l : List ByteArray) (A : Option Addr) (c : Nat) (b : Bool) (x y : ByteArray) (z : Int) (w : World) (h1 : nm.size ≤ maxLen) (h2 : ot.size ≤ maxLen) (h3 : Strs (fun _ => True) w A c l) (h4 : ∀ s ∈ l, s.size ≤ maxLen) (h5 : x.size ≤ 50000) (h6 : y.size ≤ 50000) :
    Calls Tryz.prog 34 #[.agg #[.int .i64 k, .string nm, .string ot, .slice A l.length c, .bool b, .string x, .string y, .int .i64 z]] w fun e w' => e = .returned (.int .i64 (codeOf ⟨k, nm, ot, l, b, x, y, z⟩ : Nat)) ∧ Below w.heap.size w w' := by
  unfold codeOf
  dsimp only
  by_cases hk : k < 1 ∨ 4 < k
  · rw [if_pos hk]; exact rchk_kind k nm ot l A c b x y z w hk
  rw [if_neg hk]
  cases hn : plB nm
  · rw [if_pos rfl]
    rcases (by omega : k = 1 ∨ k = 2 ∨ k = 3 ∨ k = 4) with rfl | rfl | rfl | rfl
    · exact rchk_name1 nm ot l A c b x y z w h1 h2 h3 h4 h5 h6 hn
    · exact rchk_name2 nm ot l A c b x y z w h1 h2 h3 h4 h5 h6 hn
    · exact rchk_name3 nm ot l A c b x y z w h1 h2 h3 h4 h5 h6 hn
    · exact rchk_name4 nm ot l A c b x y z w h1 h2 h3 h4 h5 h6 hn
  rw [if_neg (by decide)]
  rcases (by omega : k = 1 ∨ k = 2 ∨ k = 3 ∨ k = 4) with rfl | rfl | rfl | rfl
  · rw [if_pos rfl]; exact rchk_class nm ot l A c b x y z w h1 h2 h3 h4 h5 h6 hn
  · rw [if_neg (by decide), if_pos rfl]
    cases ho : plB ot
    · rw [if_pos rfl]; exact rchk_other2 nm ot l A c b x y z w h1 h2 h3 h4 h5 h6 hn ho
    · rw [if_neg (by decide)]; exact rchk_ok2 nm ot l A c b x y z w h1 h2 h3 h4 h5 h6 hn ho
  · rw [if_neg (by decide), if_neg (by decide), if_pos rfl]
    by_cases hg : sgC b x y < 0
    · rw [if_pos hg]; exact rchk_neg3 nm ot l A c b x y z w h1 h2 h3 h4 h5 h6 hn hg
    · rw [if_neg hg]; exact rchk_ok3 nm ot l A c b x y z w h1 h2 h3 h4 h5 h6 hn hg
  · rw [if_neg (by decide), if_neg (by decide), if_neg (by decide)]; exact rchk_ok4 nm ot l A c b x y z w h1 h2 h3 h4 h5 h6 hn
theorem app_data (a b : ByteArray) : (a ++ b).data.toList = a.data.toList ++ b.data.toList := by simp
/-- the text of a clause, without its end -/
def headL (x : Cl) : List UInt8 :=
  if x.kind = 1 then [99, 108, 97, 115, 115, 32] ++ x.name.data.toList ++ [32, 61, 32] ++ Lib.join (x.list.map (·.data.toList)) [44, 32]
  else if x.kind = 2 then x.name.data.toList ++ [32, 98, 101, 102, 111, 114, 101, 32] ++ x.other.data.toList
  else if x.kind = 3 then [108, 105, 109, 105, 116, 32] ++ x.name.data.toList ++ [32] ++ formatQ (fixQ x.neg x.num.data.toList x.den.data.toList)
  else [115, 117, 98, 111, 114, 100, 105, 110, 97, 116, 101, 32] ++ x.name.data.toList
/-- the line of a clause -/
def lineL (x : Cl) : List UInt8 := headL x ++ [59, 10]
theorem fq_size {b : Bool} {x y : ByteArray} (hx : x.size ≤ 50000) (hy : y.size ≤ 50000) : (st (formatQ (fixQ b x.data.toList y.data.toList))).size ≤ 400000 := by
  obtain ⟨hs1, hs2⟩ := fix_size (n := b) (a := x) (d := y)
  generalize fixQ b x.data.toList y.data.toList = q at *
  have h1 := dec_size (nm q)
  have h2 := dec_size q.den
  have h3 := den_size q
  rw [fmt_eq, ByteArray.size_append, ByteArray.size_append]
  have e1 : (if negB q then st [45] else st []).size ≤ 1 := by split <;> simp [st_size]
  have e2 : (if q.den = 1 then st [] else (st [47] ++ st (decOf q.den))).size ≤ 1 + (st (decOf q.den)).size := by
    split
    · simp [st_size]
    · rw [ByteArray.size_append]; simp [st_size]
  omega
theorem join_len : ∀ (l : List ByteArray), (∀ s ∈ l, s.size ≤ 32) → (Lib.join (l.map (·.data.toList)) [44, 32]).length ≤ 34 * l.length
  | [], _ => by simp [Lib.join_nil]
  | x :: l, h => by
    rw [List.map_cons, Lib.join_cons, List.length_append, Lib.joinTail_length]
    have hl : ∀ (l : List ByteArray), (∀ s ∈ l, s.size ≤ 32) → Lib.lens (l.map (·.data.toList)) ≤ 32 * l.length := by
      intro l
      induction l with
      | nil => intro _; simp [Lib.lens]
      | cons y l ih =>
        intro h
        have h1 := h y (by simp)
        have h2 := ih (fun s hs => h s (by simp [hs]))
        simp only [Lib.lens, List.map_cons, List.sum_cons, List.length_cons] at h2 ⊢
        have h3 : y.data.toList.length = y.size := by simp
        omega
    have h1 := h x (by simp)
    have h2 := hl l (fun s hs => h s (by simp [hs]))
    have h3 : x.data.toList.length = x.size := by simp
    simp only [List.length_map, List.length_cons, List.length_nil]
    omega
theorem nm_small {s : ByteArray} (h : plB s = true) : s.size ≤ 32 := by
  unfold plB nmB at h
  simp only [Bool.and_eq_true, decide_eq_true_eq] at h
  exact h.1.2.1
set_option maxHeartbeats 4000000 in
set_option maxRecDepth 100000 in
theorem text4 (nm ot : ByteArray) (l : List ByteArray) (A : Option Addr) (c : Nat) (b : Bool) (x y : ByteArray) (z : Int) (w : World) (h1 : nm.size ≤ 32) :
    Calls Tryz.prog 31 #[.agg #[.int .i64 4, .string nm, .string ot, .slice A l.length c, .bool b, .string x, .string y, .int .i64 z]] w (SPost (st (headL ⟨4, nm, ot, l, b, x, y, z⟩)) w) := by
  obtain ⟨V0, hV0, HX, HB0, hl0⟩ := new8 w (.int .i64 4) (.string nm) (.string ot) (.slice A l.length c) (.bool b) (.string x) (.string y) (.int .i64 z) 45
  obtain ⟨c0, c1, c2, c3, c4, c5, c6, c7⟩ := cells8 HX.out
  have HO := hide (show ⟨#[115, 117, 98, 111, 114, 100, 105, 110, 97, 116, 101, 32]⟩ ++ nm = st (headL ⟨4, nm, ot, l, b, x, y, z⟩) from ext_bytes (by rw [st_data]; unfold headL; simp only [app_data]; rfl))
  go_enter Tryz.func31, Tryz.ntmps31
  go_wp2_with fail
  go_ret
  exact ⟨ret_str (HO.out), HB0.out⟩
set_option maxHeartbeats 4000000 in
set_option maxRecDepth 100000 in
theorem text2 (nm ot : ByteArray) (l : List ByteArray) (A : Option Addr) (c : Nat) (b : Bool) (x y : ByteArray) (z : Int) (w : World) (h1 : nm.size ≤ 32) (h2 : ot.size ≤ 32) :
    Calls Tryz.prog 31 #[.agg #[.int .i64 2, .string nm, .string ot, .slice A l.length c, .bool b, .string x, .string y, .int .i64 z]] w (SPost (st (headL ⟨2, nm, ot, l, b, x, y, z⟩)) w) := by
  obtain ⟨V0, hV0, HX, HB0, hl0⟩ := new8 w (.int .i64 2) (.string nm) (.string ot) (.slice A l.length c) (.bool b) (.string x) (.string y) (.int .i64 z) 45
  obtain ⟨c0, c1, c2, c3, c4, c5, c6, c7⟩ := cells8 HX.out
  have HO := hide (show nm ++ ⟨#[32, 98, 101, 102, 111, 114, 101, 32]⟩ ++ ot = st (headL ⟨2, nm, ot, l, b, x, y, z⟩) from ext_bytes (by rw [st_data]; unfold headL; simp only [app_data]; rfl))
  go_enter Tryz.func31, Tryz.ntmps31
  go_wp2_with fail
  go_ret
  exact ⟨ret_str (HO.out), HB0.out⟩
set_option maxHeartbeats 4000000 in
set_option maxRecDepth 100000 in
theorem text3 (nm ot : ByteArray) (l : List ByteArray) (A : Option Addr) (c : Nat) (b : Bool) (x y : ByteArray) (z : Int) (w : World) (h1 : nm.size ≤ 32) (h5 : x.size ≤ 50000) (h6 : y.size ≤ 50000) :
    Calls Tryz.prog 31 #[.agg #[.int .i64 3, .string nm, .string ot, .slice A l.length c, .bool b, .string x, .string y, .int .i64 z]] w (SPost (st (headL ⟨3, nm, ot, l, b, x, y, z⟩)) w) := by
  obtain ⟨V0, hV0, HX, HB0, hl0⟩ := new8 w (.int .i64 3) (.string nm) (.string ot) (.slice A l.length c) (.bool b) (.string x) (.string y) (.int .i64 z) 45
  obtain ⟨c0, c1, c2, c3, c4, c5, c6, c7⟩ := cells8 HX.out
  have hF := fq_size (b := b) h5 h6
  have HF := Lib.hid (fun (v : Qin.In (Below V0.heap.size V0)) => (show Calls Tryz.prog 61 #[.agg #[.bool b, .string x, .string y]] v.val fun e w' => e = .returned (.string (st (formatQ (fixQ b x.data.toList y.data.toList)))) ∧ ∃ y : Qin.In (Below V0.heap.size V0), w' = y.val from Qin.call ((format_any b x y v.val h5 h6).mono fun e w' ⟨h1, h2⟩ => ⟨h1, v.ok.trans (h2.mono v.ok.size)⟩)))
  have HO := hide (show ((⟨#[108, 105, 109, 105, 116, 32]⟩ ++ nm) ++ ⟨#[32]⟩) ++ st (formatQ (fixQ b x.data.toList y.data.toList)) = st (headL ⟨3, nm, ot, l, b, x, y, z⟩) from ext_bytes (by rw [st_data]; unfold headL; simp only [app_data, st_data]; rfl))
  generalize st (formatQ (fixQ b x.data.toList y.data.toList)) = F at *
  have hw := HX.out.lt
  have k0 := at_kin hw c0
  have k1 := at_kin hw c1
  have k4 := at_kin hw c4
  have k5 := at_kin hw c5
  have k6 := at_kin hw c6
  clear h5 h6 hl0
  go_enter Tryz.func31, Tryz.ntmps31
  go_wp2_with fail
  refine Qin.region (I := Below V0.heap.size V0) (Qin.start _ V0) (by kernel_rfl) (by kernel_rfl) ?_
  repeat (go_big_quiet_step ((go_at_call 61; with_reducible exact HF.out _)))
  refine wpQuiet_nil ?_
  intro v
  go_wp2_with fail
  go_ret
  exact ⟨ret_str HO.out, HB0.out.trans (v.ok.mono HB0.out.size)⟩
set_option maxHeartbeats 4000000 in
set_option maxRecDepth 100000 in
theorem rtext4 (nm ot : ByteArray) (l : List ByteArray) (A : Option Addr) (c : Nat) (b : Bool) (x y : ByteArray) (z : Int) (w : World) (h1 : nm.size ≤ 32) :
    Calls Tryz.prog 35 #[.agg #[.int .i64 4, .string nm, .string ot, .slice A l.length c, .bool b, .string x, .string y, .int .i64 z]] w (SPost (st (lineL ⟨4, nm, ot, l, b, x, y, z⟩)) w) := by
  obtain ⟨V0, hV0, HX, HB0, hl0⟩ := new8 w (.int .i64 4) (.string nm) (.string ot) (.slice A l.length c) (.bool b) (.string x) (.string y) (.int .i64 z) 45
  obtain ⟨c0, c1, c2, c3, c4, c5, c6, c7⟩ := cells8 HX.out
  have HO := hide (show ⟨#[115, 117, 98, 111, 114, 100, 105, 110, 97, 116, 101, 32]⟩ ++ nm ++ ⟨#[59, 10]⟩ = st (lineL ⟨4, nm, ot, l, b, x, y, z⟩) from ext_bytes (by rw [st_data]; unfold lineL headL; simp only [app_data]; rfl))
  go_enter Tryz.func35, Tryz.ntmps35
  go_wp2_with fail
  go_ret
  exact ⟨ret_str (HO.out), HB0.out⟩
set_option maxHeartbeats 4000000 in
set_option maxRecDepth 100000 in
theorem rtext2 (nm ot : ByteArray) (l : List ByteArray) (A : Option Addr) (c : Nat) (b : Bool) (x y : ByteArray) (z : Int) (w : World) (h1 : nm.size ≤ 32) (h2 : ot.size ≤ 32) :
    Calls Tryz.prog 35 #[.agg #[.int .i64 2, .string nm, .string ot, .slice A l.length c, .bool b, .string x, .string y, .int .i64 z]] w (SPost (st (lineL ⟨2, nm, ot, l, b, x, y, z⟩)) w) := by
  obtain ⟨V0, hV0, HX, HB0, hl0⟩ := new8 w (.int .i64 2) (.string nm) (.string ot) (.slice A l.length c) (.bool b) (.string x) (.string y) (.int .i64 z) 45
  obtain ⟨c0, c1, c2, c3, c4, c5, c6, c7⟩ := cells8 HX.out
  have HO := hide (show nm ++ ⟨#[32, 98, 101, 102, 111, 114, 101, 32]⟩ ++ ot ++ ⟨#[59, 10]⟩ = st (lineL ⟨2, nm, ot, l, b, x, y, z⟩) from ext_bytes (by rw [st_data]; unfold lineL headL; simp only [app_data]; rfl))
  go_enter Tryz.func35, Tryz.ntmps35
  go_wp2_with fail
  go_ret
  exact ⟨ret_str (HO.out), HB0.out⟩
set_option maxHeartbeats 4000000 in
set_option maxRecDepth 100000 in
theorem rtext3 (nm ot : ByteArray) (l : List ByteArray) (A : Option Addr) (c : Nat) (b : Bool) (x y : ByteArray) (z : Int) (w : World) (h1 : nm.size ≤ 32) (h5 : x.size ≤ 50000) (h6 : y.size ≤ 50000) :
    Calls Tryz.prog 35 #[.agg #[.int .i64 3, .string nm, .string ot, .slice A l.length c, .bool b, .string x, .string y, .int .i64 z]] w (SPost (st (lineL ⟨3, nm, ot, l, b, x, y, z⟩)) w) := by
  obtain ⟨V0, hV0, HX, HB0, hl0⟩ := new8 w (.int .i64 3) (.string nm) (.string ot) (.slice A l.length c) (.bool b) (.string x) (.string y) (.int .i64 z) 45
  obtain ⟨c0, c1, c2, c3, c4, c5, c6, c7⟩ := cells8 HX.out
  have hF := fq_size (b := b) h5 h6
  have HF := Lib.hid (fun (v : Qin.In (Below V0.heap.size V0)) => (show Calls Tryz.prog 64 #[.agg #[.bool b, .string x, .string y]] v.val fun e w' => e = .returned (.string (st (formatQ (fixQ b x.data.toList y.data.toList)))) ∧ ∃ y : Qin.In (Below V0.heap.size V0), w' = y.val from Qin.call ((RtD.rformat_any b x y v.val h5 h6).mono fun e w' ⟨h1, h2⟩ => ⟨h1, v.ok.trans (h2.mono v.ok.size)⟩)))
  have HO := hide (show ((⟨#[108, 105, 109, 105, 116, 32]⟩ ++ nm) ++ ⟨#[32]⟩) ++ st (formatQ (fixQ b x.data.toList y.data.toList)) ++ ⟨#[59, 10]⟩ = st (lineL ⟨3, nm, ot, l, b, x, y, z⟩) from ext_bytes (by rw [st_data]; unfold lineL headL; simp only [app_data, st_data]; rfl))
  generalize st (formatQ (fixQ b x.data.toList y.data.toList)) = F at *
  have hw := HX.out.lt
  have k0 := at_kin hw c0
  have k1 := at_kin hw c1
  have k4 := at_kin hw c4
  have k5 := at_kin hw c5
  have k6 := at_kin hw c6
  clear h5 h6 hl0
  go_enter Tryz.func35, Tryz.ntmps35
  go_wp2_with fail
  refine Qin.region (I := Below V0.heap.size V0) (Qin.start _ V0) (by kernel_rfl) (by kernel_rfl) ?_
  repeat (go_big_quiet_step ((go_at_call 64; with_reducible exact HF.out _)))
  refine wpQuiet_nil ?_
  intro v
  go_wp2_with fail
  go_ret
  exact ⟨ret_str HO.out, HB0.out.trans (v.ok.mono HB0.out.size)⟩
set_option maxHeartbeats 4000000 in
set_option maxRecDepth 100000 in
theorem text1 (nm ot : ByteArray) (l : List ByteArray) (A : Option Addr) (c : Nat) (b : Bool) (x y : ByteArray) (z : Int) (w : World) (h1 : nm.size ≤ 32) (h3 : Strs (fun _ => True) w A c l) (h4 : ∀ s ∈ l, s.size ≤ 32) (h7 : 0 < l.length) (h8 : l.length ≤ 32) :
    Calls Tryz.prog 31 #[.agg #[.int .i64 1, .string nm, .string ot, .slice A l.length c, .bool b, .string x, .string y, .int .i64 z]] w (SPost (st (headL ⟨1, nm, ot, l, b, x, y, z⟩)) w) := by
  obtain ⟨V0, hV0, HX, HB0, hl0⟩ := new8 w (.int .i64 1) (.string nm) (.string ot) (.slice A l.length c) (.bool b) (.string x) (.string y) (.int .i64 z) 45
  obtain ⟨c0, c1, c2, c3, c4, c5, c6, c7⟩ := cells8 HX.out
  have hJ := join_len l h4
  obtain ⟨bb, off, hA, hbw, hcap, hc⟩ := h3.2 h7
  subst hA
  have HF := Lib.hid (fun (v : Qin.In (Below V0.heap.size V0)) => (show Calls Tryz.prog 60 #[.slice (some ⟨bb, off, none⟩) l.length c, .string ⟨#[44, 32]⟩] v.val fun e w' => e = .returned (.string (st (Lib.join (l.map (·.data.toList)) [44, 32]))) ∧ ∃ y : Qin.In (Below V0.heap.size V0), w' = y.val from Qin.call ((Tryz.strings_Join bb off c l ⟨#[44, 32]⟩ v.val (fun j s hj => (((HB0.out.trans (v.ok.mono HB0.out.size))).cell (p := ⟨bb, off + j, none⟩) hbw).trans (hc j s hj)) (by have := HB0.out.size; have := v.ok.size; omega) (by omega) hcap.2 (by show (Lib.join (l.map (·.data.toList)) [44, 32]).length ≤ _; omega)).mono fun e w' ⟨h1, h2⟩ => ⟨h1, v.ok.trans (h2.mono v.ok.size)⟩)))
  have hJs : (st (Lib.join (l.map (·.data.toList)) [44, 32])).size ≤ 2000 := by rw [st_size]; omega
  have HO := hide (show ((⟨#[99, 108, 97, 115, 115, 32]⟩ ++ nm) ++ ⟨#[32, 61, 32]⟩) ++ st (Lib.join (l.map (·.data.toList)) [44, 32]) = st (headL ⟨1, nm, ot, l, b, x, y, z⟩) from ext_bytes (by rw [st_data]; unfold headL; simp only [app_data, st_data]; rfl))
  generalize st (Lib.join (l.map (·.data.toList)) [44, 32]) = F at *
  have hw := HX.out.lt
  have k0 := at_kin hw c0
  have k1 := at_kin hw c1
  have k3 := at_kin hw c3
  clear h3 h4 h7 h8 hc hJ hcap hl0
  go_enter Tryz.func31, Tryz.ntmps31
  go_wp2_with fail
  refine Qin.region (I := Below V0.heap.size V0) (Qin.start _ V0) (by kernel_rfl) (by kernel_rfl) ?_
  repeat (go_big_quiet_step ((go_at_call 60; with_reducible exact HF.out _)))
  refine wpQuiet_nil ?_
  intro v
  go_wp2_with fail
  go_ret
  exact ⟨ret_str HO.out, HB0.out.trans (v.ok.mono HB0.out.size)⟩
theorem join_snoc {l : List ByteArray} {s0 u : ByteArray} {k : Nat} (h0 : l[0]? = some s0) (hu : l[k]? = some u) (hk : 1 ≤ k) : Lib.join ((l.take (k + 1)).map (·.data.toList)) [44, 32] = Lib.join ((l.take k).map (·.data.toList)) [44, 32] ++ [44, 32] ++ u.data.toList := by
  match l, h0 with
  | x :: r, h0 =>
    obtain ⟨k, rfl⟩ : ∃ j, k = j + 1 := ⟨k - 1, by omega⟩
    rw [List.getElem?_cons_succ] at hu
    rw [List.take_succ_cons, List.take_succ_cons, List.map_cons, List.map_cons, Lib.join_cons, Lib.join_cons, List.map_take, List.map_take, Lib.joinTail_take_succ _ _ _ u.data.toList (by rw [List.getElem?_map, hu]; rfl)]
    simp only [List.append_assoc]
set_option maxHeartbeats 4000000 in
set_option maxRecDepth 100000 in
theorem rtext1 (nm ot : ByteArray) (l : List ByteArray) (A : Option Addr) (c : Nat) (b : Bool) (x y : ByteArray) (z : Int) (w : World) (h1 : nm.size ≤ 32) (h3 : Strs (fun _ => True) w A c l) (h4 : ∀ s ∈ l, s.size ≤ 32) (h7 : 0 < l.length) (h8 : l.length ≤ 32) :
    Calls Tryz.prog 35 #[.agg #[.int .i64 1, .string nm, .string ot, .slice A l.length c, .bool b, .string x, .string y, .int .i64 z]] w (SPost (st (lineL ⟨1, nm, ot, l, b, x, y, z⟩)) w) := by
  obtain ⟨V0, hV0, HX, HB0, hl0⟩ := new8 w (.int .i64 1) (.string nm) (.string ot) (.slice A l.length c) (.bool b) (.string x) (.string y) (.int .i64 z) 45
  obtain ⟨c0, c1, c2, c3, c4, c5, c6, c7⟩ := cells8 HX.out
  have HL := hide (h3.below HB0.out)
  have HZ := Lib.hid h4
  obtain ⟨s0, hs0⟩ : ∃ r, l[0]? = some r := ⟨_, List.getElem?_eq_getElem h7⟩
  obtain ⟨bb, off, hA, hbw, hcap, hc⟩ := HL.out.2 h7
  subst hA
  have q0 : V0.cell? ⟨bb, off, none⟩ = some (.string s0) := hc 0 s0 hs0
  have hz0 := h4 s0 (List.mem_of_getElem? hs0)
  have H0 := hide hs0
  have HC := Lib.hid (fun (v : Qin.In (Below V0.heap.size V0)) j s (h : l[j]? = some s) => at_kin hbw (hc j s h) v)
  have hw := HX.out.lt
  have j0 := at_kin hw c0
  have j1 := at_kin hw c1
  have j3 := at_kin hw c3
  have m0 := at_kin hbw q0
  clear h3 h4 hs0 hc hcap hl0 q0 c1 c3
  go_enter Tryz.func35, Tryz.ntmps35
  go_wp2_with fail
  refine Qin.region (I := Below V0.heap.size V0) (Qin.start _ V0) (by kernel_rfl) (by kernel_rfl) ?_
  repeat (go_big_quiet_step (fail))
  refine wpQuiet_nil ?_
  intro v
  have HV := Lib.hid (fun j s (h : l[j]? = some s) => HC.out v j s h)
  go_wp2_with fail
  go_loop [3, 4] (fun vs vi => ∃ (k : Nat) (s : ByteArray), 1 ≤ k ∧ k ≤ l.length ∧ vi = .int .i64 k ∧ vs = .string s ∧ s.size ≤ 34 * k + 100 ∧ Hid (s.data.toList = [99, 108, 97, 115, 115, 32] ++ nm.data.toList ++ [32, 61, 32] ++ Lib.join ((l.take k).map (·.data.toList)) [44, 32])) (fun _ vi => l.length - (intOf vi).toNat)
  case atStart =>
    refine ⟨1, _, Nat.le_refl _, h7, rfl, rfl, ?_, ?_⟩
    · simp only [ByteArray.size_append]
      show 6 + nm.size + 3 + s0.size ≤ _
      omega
    · show _ = _
      have e1 : l.take 1 = [s0] := by
        rw [show (1 : Nat) = 0 + 1 from rfl, List.take_add_one, H0.out]; rfl
      rw [e1]
      simp only [app_data, List.map_cons, List.map_nil, Lib.join_one]
  case round =>
    obtain ⟨k, s, hk1, hk, rfl, rfl, hsz, HS⟩ := hrel
    by_cases hlt : k < l.length
    · obtain ⟨u, hu⟩ : ∃ r, l[k]? = some r := ⟨_, List.getElem?_eq_getElem hlt⟩
      have k0 := HV.out k u hu
      have hzu := HZ.out u (List.mem_of_getElem? hu)
      have HU := hide hu
      clear hu
      go_wp2_with fail
      go_round
      case rel =>
        refine ⟨k + 1, _, by omega, by omega, by go_num, rfl, ?_, ?_⟩
        · simp only [ByteArray.size_append]
          show s.size + 2 + u.size ≤ _
          omega
        · show _ = _
          rw [join_snoc H0.out HU.out hk1]
          simp only [app_data, HS.out, List.append_assoc]
      case measure => simp [intOf]; omega
    · have hkl : l.take k = l := List.take_of_length_le (by omega)
      have hS := HS.out
      rw [hkl] at hS
      have HO := hide (show s ++ ⟨#[59, 10]⟩ = st (lineL ⟨1, nm, ot, l, b, x, y, z⟩) from ext_bytes (by rw [st_data, app_data, hS]; rfl))
      clear hS hkl
      go_wp2_with fail
      go_ret
      exact ⟨ret_str HO.out, HB0.out.trans (v.ok.mono HB0.out.size)⟩
end Go.Proofs.YtnbdckfnohagbaaGreatDoor.PqT
namespace Go.Proofs.YtnbdckfnohagbaaGreatDoor.PqU
theorem here : True := trivial
open Go.RowKit Lx LxD Wd RnW PqA PqB PqC PqD PqG PqM NmA PqS PqT HsE RnQ RnR RnP RtA RpE RpI RtH RoA RoL
theorem builder_below {T e B b : Nat} {bs : List Value} {w w' : World} (h : Lib.IsBuilder T e B b bs w) (hb : Below w.heap.size w w') : Lib.IsBuilder T e B b bs w' := by
  have key : ∀ p, Lib.BuilderAt T e B b p bs w → Lib.BuilderAt T e B b p bs w' := by
    intro p hp
    have hlt := hp.lt
    obtain ⟨h1, v, h2, h3, h4⟩ := hp
    exact ⟨h1, v, (hb.block b hlt).trans h2, LxD.own_below h3 hb, h4⟩
  rcases h with h | h
  · exact .inl (key _ h)
  · exact .inr (key _ h)
/-- the text of clauses -/
def textOf (l : List Cl) : List UInt8 := l.flatMap lineL
def okAll (l : List Cl) : Bool := l.all fun x => codeOf x == 0
def firstErr : List Cl → Nat
  | [] => 0
  | x :: l => if codeOf x = 0 then firstErr l else codeOf x
/-- what Format returns -/
def fmtOf (l : List Cl) : List UInt8 × Nat :=
  if 64 < l.length then ([], 2) else if firstErr l ≠ 0 then ([], firstErr l) else if 8192 < (textOf l).length then ([], 2) else (textOf l, 0)
theorem textOf_snoc (l : List Cl) (x : Cl) : textOf (l ++ [x]) = textOf l ++ lineL x := by simp [textOf]
theorem take_snoc {α : Type} {l : List α} {k : Nat} {r : α} (h : l[k]? = some r) : l.take (k + 1) = l.take k ++ [r] := by rw [List.take_add_one, h]; rfl
theorem ok_snoc {l : List Cl} {k : Nat} {x : Cl} (h : l[k]? = some x) (ha : okAll (l.take k) = true) (hx : codeOf x = 0) : okAll (l.take (k + 1)) = true := by
  rw [take_snoc h]; unfold okAll at ha ⊢; rw [List.all_append, ha]; simp [hx]
theorem err_ok : ∀ {l : List Cl}, okAll l = true → firstErr l = 0
  | [], _ => rfl
  | x :: l, h => by
    unfold okAll at h
    rw [List.all_cons, Bool.and_eq_true] at h
    have hx : codeOf x = 0 := by simpa using h.1
    unfold firstErr
    rw [if_pos hx]
    exact err_ok h.2
theorem err_at : ∀ {l : List Cl} {k : Nat} {x : Cl}, l[k]? = some x → okAll (l.take k) = true → codeOf x ≠ 0 → firstErr l = codeOf x
  | [], k, x, h, _, _ => by simp at h
  | y :: l, 0, x, h, _, hx => by
    simp only [List.getElem?_cons_zero, Option.some.injEq] at h
    subst h
    unfold firstErr
    rw [if_neg hx]
  | y :: l, k + 1, x, h, ha, hx => by
    rw [List.getElem?_cons_succ] at h
    rw [List.take_succ_cons] at ha
    unfold okAll at ha
    rw [List.all_cons, Bool.and_eq_true] at ha
    have hy : codeOf y = 0 := by simpa using ha.1
    unfold firstErr
    rw [if_pos hy]
    exact err_at h ha.2 hx
theorem fmt_err {l : List Cl} {c : Nat} (h : ¬ 64 < l.length) (he : firstErr l = c) (hc : c ≠ 0) : fmtOf l = ([], c) := by
  unfold fmtOf; rw [if_neg h, if_pos (by rw [he]; exact hc), he]
theorem fmt_long {l : List Cl} (h : 64 < l.length) : fmtOf l = ([], 2) := by unfold fmtOf; rw [if_pos h]
theorem fmt_big {l : List Cl} (h : ¬ 64 < l.length) (he : firstErr l = 0) (hb : 8192 < (textOf l).length) : fmtOf l = ([], 2) := by
  unfold fmtOf; rw [if_neg h, if_neg (by rw [he]; simp), if_pos hb]
theorem fmt_ok {l : List Cl} (h : ¬ 64 < l.length) (he : firstErr l = 0) (hb : ¬ 8192 < (textOf l).length) : fmtOf l = (textOf l, 0) := by
  unfold fmtOf; rw [if_neg h, if_neg (by rw [he]; simp), if_neg hb]
theorem ok_kinds {x : Cl} (h : codeOf x = 0) : plB x.name = true ∧ ((x.kind = 1 ∧ x.list.all plB = true ∧ 0 < x.list.length ∧ x.list.length ≤ 32) ∨ (x.kind = 2 ∧ plB x.other = true) ∨ (x.kind = 3 ∧ ¬ sgC x.neg x.num x.den < 0) ∨ x.kind = 4) := by
  unfold codeOf at h
  by_cases hk : x.kind < 1 ∨ 4 < x.kind
  · rw [if_pos hk] at h; omega
  rw [if_neg hk] at h
  cases hn : plB x.name
  · rw [if_pos hn] at h; omega
  rw [if_neg (by rw [hn]; decide)] at h
  refine ⟨rfl, ?_⟩
  by_cases h1 : x.kind = 1
  · rw [if_pos h1] at h
    cases ha : x.list.all plB
    · rw [if_pos ha] at h; omega
    rw [if_neg (by rw [ha]; decide)] at h
    by_cases he : x.list.length = 0
    · rw [if_pos he] at h; omega
    rw [if_neg he] at h
    by_cases hl : 32 < x.list.length
    · rw [if_pos hl] at h; omega
    exact .inl ⟨h1, rfl, by omega, by omega⟩
  rw [if_neg h1] at h
  by_cases h2 : x.kind = 2
  · rw [if_pos h2] at h
    cases ho : plB x.other
    · rw [if_pos ho] at h; omega
    exact .inr (.inl ⟨h2, rfl⟩)
  rw [if_neg h2] at h
  by_cases h3 : x.kind = 3
  · rw [if_pos h3] at h
    by_cases hg : sgC x.neg x.num x.den < 0
    · rw [if_pos hg] at h; omega
    exact .inr (.inr (.inl ⟨h3, hg⟩))
  · exact .inr (.inr (.inr (by omega)))
theorem all_small {l : List ByteArray} (h : l.all plB = true) : ∀ s ∈ l, s.size ≤ 32 := fun s hs => nm_small (List.all_eq_true.1 h s hs)
theorem head_len {x : Cl} (h : codeOf x = 0) (h5 : x.num.size ≤ 50000) (h6 : x.den.size ≤ 50000) : (headL x).length ≤ 410000 := by
  obtain ⟨hn, hk⟩ := ok_kinds h
  have h1 : x.name.data.toList.length ≤ 32 := by have := nm_small hn; simpa using this
  unfold headL
  rcases hk with ⟨k1, ha, h2, h3⟩ | ⟨k2, ho⟩ | ⟨k3, _⟩ | k4
  · rw [if_pos k1]
    have := join_len x.list (all_small ha)
    simp only [List.length_append, List.length_cons, List.length_nil]
    omega
  · rw [if_neg (by omega), if_pos k2]
    have : x.other.data.toList.length ≤ 32 := by have := nm_small ho; simpa using this
    simp only [List.length_append, List.length_cons, List.length_nil]
    omega
  · rw [if_neg (by omega), if_neg (by omega), if_pos k3]
    have := fq_size (b := x.neg) h5 h6
    rw [st_size] at this
    simp only [List.length_append, List.length_cons, List.length_nil]
    omega
  · rw [if_neg (by omega), if_neg (by omega), if_neg (by omega)]
    simp only [List.length_append, List.length_cons, List.length_nil]
    omega
/-- the strings of clauses fit -/
structure Fit (x : Cl) : Prop where
  name : x.name.size ≤ maxLen
  other : x.other.size ≤ maxLen
  list : ∀ s ∈ x.list, s.size ≤ maxLen
  num : x.num.size ≤ 50000
  den : x.den.size ≤ 50000
theorem text_len : ∀ (l : List Cl), okAll l = true → (∀ x ∈ l, Fit x) → (textOf l).length ≤ 410002 * l.length
  | [], _, _ => by simp [textOf]
  | x :: l, h, hf => by
    unfold okAll at h
    rw [List.all_cons, Bool.and_eq_true] at h
    have hx : codeOf x = 0 := by simpa using h.1
    have h1 := text_len l h.2 (fun y hy => hf y (by simp [hy]))
    have h2 := head_len hx (hf x (by simp)).num (hf x (by simp)).den
    unfold textOf at h1 ⊢
    have h3 : (lineL x).length = (headL x).length + 2 := by unfold lineL; rw [List.length_append]; rfl
    rw [List.flatMap_cons, List.length_append, List.length_cons]
    omega
theorem text_any (x : Cl) (A : Option Addr) (c : Nat) (w : World) (h : codeOf x = 0) (h3 : Strs (fun _ => True) w A c x.list) (hf : Fit x) :
    Calls Tryz.prog 31 #[.agg #[.int .i64 x.kind, .string x.name, .string x.other, .slice A x.list.length c, .bool x.neg, .string x.num, .string x.den, .int .i64 x.off]] w (SPost (st (headL x)) w) := by
  obtain ⟨hn, hk⟩ := ok_kinds h
  have h1 := nm_small hn
  obtain ⟨k, nm, ot, l, b, p, q, z⟩ := x
  dsimp only at hk h1 h3 ⊢
  rcases hk with ⟨rfl, ha, h7, h8⟩ | ⟨rfl, ho⟩ | ⟨rfl, _⟩ | rfl
  · exact text1 nm ot l A c b p q z w h1 h3 (all_small ha) h7 h8
  · exact text2 nm ot l A c b p q z w h1 (nm_small ho)
  · exact text3 nm ot l A c b p q z w h1 hf.num hf.den
  · exact text4 nm ot l A c b p q z w h1
theorem rtext_any (x : Cl) (A : Option Addr) (c : Nat) (w : World) (h : codeOf x = 0) (h3 : Strs (fun _ => True) w A c x.list) (hf : Fit x) :
    Calls Tryz.prog 35 #[.agg #[.int .i64 x.kind, .string x.name, .string x.other, .slice A x.list.length c, .bool x.neg, .string x.num, .string x.den, .int .i64 x.off]] w (SPost (st (lineL x)) w) := by
  obtain ⟨hn, hk⟩ := ok_kinds h
  have h1 := nm_small hn
  obtain ⟨k, nm, ot, l, b, p, q, z⟩ := x
  dsimp only at hk h1 h3 ⊢
  rcases hk with ⟨rfl, ha, h7, h8⟩ | ⟨rfl, ho⟩ | ⟨rfl, _⟩ | rfl
  · exact rtext1 nm ot l A c b p q z w h1 h3 (all_small ha) h7 h8
  · exact rtext2 nm ot l A c b p q z w h1 (nm_small ho)
  · exact rtext3 nm ot l A c b p q z w h1 hf.num hf.den
  · exact rtext4 nm ot l A c b p q z w h1
def FmtP (p : List UInt8 × Nat) (w : World) (e : Ending) (w' : World) : Prop := e = .returned (.tuple #[.string (st p.1), .int .i64 (p.2 : Nat)]) ∧ Below w.heap.size w w'
theorem fmt_post {p q : List UInt8 × Nat} {w w' : World} (h : p = q) (hb : Below w.heap.size w w') : FmtP p w (.returned (.tuple #[.string (st q.1), .int .i64 (q.2 : Nat)])) w' := ⟨by rw [h], hb⟩
set_option maxHeartbeats 8000000 in
set_option maxRecDepth 100000 in
theorem format_cl (l : List Cl) (A : Option Addr) (c : Nat) (w : World) (h : ClsAt w A l) (hf : ∀ x ∈ l, Fit x) :
    Calls Tryz.prog 15 #[.slice A l.length c] w (FmtP (fmtOf l) w) := by
  have hlen := h.1
  unfold maxLen at hlen
  have H := hide h
  have HF := Lib.hid hf
  clear h hf
  by_cases hbig : 64 < l.length
  · have hout := hide (fmt_long hbig)
    go_enter Tryz.func15, Tryz.ntmps15
    go_wp2_with fail
    go_ret2
    exact fmt_post hout.out (Below.refl _ _)
  · have HB := hide hbig
    have hb' : l.length ≤ 64 := by omega
    clear hbig
    go_enter Tryz.func15, Tryz.ntmps15
    go_wp2_with fail
    go_loopw [13] (fun vi wr => ∃ k : Nat, k ≤ l.length ∧ vi = .int .i64 k ∧ Hid (okAll (l.take k) = true) ∧ Hid (Lib.IsBuilder 74 5 w.heap.size w.heap.size (Lib.byteCells (textOf (l.take k))) wr) ∧ Hid (Below w.heap.size w wr)) (fun vi _ => l.length - (intOf vi).toNat)
    case atStart => exact ⟨0, by omega, rfl, rfl, Lib.fresh_isBuilder _ _ w, (Below.refl _ _).alloc (Nat.le_refl _) _⟩
    case round =>
      obtain ⟨k, hk, rfl, HAL, HIB, HBR⟩ := hrel
      by_cases hlt : k < l.length
      · obtain ⟨x, hx⟩ : ∃ r, l[k]? = some r := ⟨_, List.getElem?_eq_getElem hlt⟩
        have hfx := HF.out x (List.mem_of_getElem? hx)
        obtain ⟨b1, o1, A1, c1, rfl, hb1, p0, p1, p2, p3, p4, p5, p6, p7, hS1⟩ := ClsAt.at (H.out.below HBR.out) hx
        obtain ⟨V, hV, HX, HBV, hlV⟩ := new8 wr (.int .i64 x.kind) (.string x.name) (.string x.other) (.slice A1 x.list.length c1) (.bool x.neg) (.string x.num) (.string x.den) (.int .i64 x.off) 45
        have HCK := Lib.hid (chk_any x.kind x.name x.other x.list A1 c1 x.neg x.num x.den x.off V hfx.name hfx.other (hS1.below HBV.out) hfx.list hfx.num hfx.den)
        change Hid (Calls _ _ _ _ fun e w' => e = .returned (.int .i64 (codeOf x : Nat)) ∧ Below V.heap.size V w') at HCK
        have HTX := Lib.hid (fun (h0 : codeOf x = 0) w' (hb : Below V.heap.size V w') => text_any x A1 c1 w' h0 ((hS1.below HBV.out).below hb) hfx)
        have HHL := Lib.hid (fun (h0 : codeOf x = 0) => head_len h0 hfx.num hfx.den)
        have htl := text_len (l.take k) HAL.out (fun x hx => HF.out x (List.mem_of_mem_take hx))
        rw [List.length_take] at htl
        have htl' : (textOf (l.take k)).length ≤ 50000000 := by omega
        have HER := Lib.hid (fun (h0 : codeOf x ≠ 0) => err_at hx HAL.out h0)
        have HOK := Lib.hid (fun (h0 : codeOf x = 0) => ok_snoc hx HAL.out h0)
        have HTK := hide (take_snoc hx)
        have HXX := hide (show ∀ y, codeOf x = y → codeOf x = y from fun _ h => h)
        have HBW := hide (HBR.out.trans (HBV.out.mono HBR.out.size))
        have HIV := hide (builder_below HIB.out HBV.out)
        have hsV := HBW.out.size
        clear hx hS1 hfx htl HIB hlV
        obtain ⟨d0, d1, d2, d3, d4, d5, d6, d7⟩ := cells8 HX.out
        generalize hcd : codeOf x = cd at *
        by_cases h0 : cd = 0
        · subst h0
          have HT := Lib.hid (HTX.out rfl)
          have HH := HHL.out rfl
          have HOK0 := hide (HOK.out rfl)
          clear HTX HHL HER HOK
          go_wp2_with fail
          refine HCK.out.mono ?_
          rintro e w3 ⟨rfl, hb3⟩
          have HX3 := hide (HX.out.below hb3)
          obtain ⟨e0, e1, e2, e3, e4, e5, e6, e7⟩ := cells8 HX3.out
          have HB3 := hide hb3
          clear hb3 d0 d1 d2 d3 d4 d5 d6 d7
          go_wp2_with fail
          refine (HT.out _ HB3.out).mono ?_
          rintro e w4 ⟨rfl, hb4⟩
          have HB4 := hide (HB3.out.trans (hb4.mono HB3.out.size))
          have hs4 := HB4.out.size
          have hw4 : w.heap.size ≤ w4.heap.size := by omega
          have hst : (st (headL x)).size ≤ 410000 := by rw [st_size]; exact HH
          have HIB4 := hide (builder_below HIV.out HB4.out)
          have HW := Lib.hid (writeString_any w.heap.size w.heap.size _ (st (headL x) ++ ⟨#[59, 10]⟩) w4 HIB4.out (by rw [Lib.byteCells_length, ByteArray.size_append]; show _ + ((st (headL x)).size + 2) ≤ _; omega) hw4)
          have HLN := hide (show Lib.strCells (st (headL x) ++ ⟨#[59, 10]⟩) = Lib.byteCells (lineL x) by rw [Lib.strCells_eq, app_data, st_data]; rfl)
          clear hb4 HH HT e0 e1 e2 e3 e4 e5 e6 e7 HX3
          generalize st (headL x) = F at *
          go_wp2_with fail
          refine HW.out.mono ?_
          rintro e w5 ⟨rfl, hib5, hb5⟩
          go_wp2_with fail
          go_roundw
          case rel =>
            refine ⟨k + 1, by omega, by go_num, HOK0.out, .inr ?_, (HBW.out.trans (HB4.out.mono hsV)).trans hb5⟩
            rw [HTK.out, textOf_snoc, Lib.byteCells_append, ← HLN.out]; exact hib5
          case measure => simp [intOf]; omega
        · have hE := hide (fmt_err HB.out (HER.out h0) h0)
          have hne : ((cd : Int) != 0) = true := by simpa using h0
          clear h0 HTX HHL HER HOK
          go_wp2_with fail
          refine HCK.out.mono ?_
          rintro e w3 ⟨rfl, hb3⟩
          go_wp2_with fail
          go_ret2
          exact fmt_post hE.out (HBW.out.trans (hb3.mono hsV))
      · obtain rfl : k = l.length := by omega
        have hib := HIB.out
        rw [List.take_length] at hib
        have hal := HAL.out
        rw [List.take_length] at hal
        have hE := hide (err_ok hal)
        have hszr := HBR.out.size
        have hlb := Lib.byteCells_length (textOf l)
        have HIB2 := Lib.hid hib
        clear hib hal HIB HAL
        cases hlong : decide (8192 < (textOf l).length)
        · have hl2 := hide (fmt_ok HB.out hE.out (of_decide_eq_false hlong))
          have hl3 : (textOf l).length ≤ 8192 := by have := of_decide_eq_false hlong; omega
          clear hlong
          go_wp2_with (first
            | (go_at_call 32; refine (Tryz.Builder_Len _ _ _ _ HIB2.out).mono ?_; rintro e w2 ⟨rfl, rfl⟩; rw [hlb])
            | (go_at_call 33; refine (Tryz.Builder_String_any _ _ _ _ HIB2.out hszr).mono ?_; rintro e w3 ⟨rfl, hb3⟩))
          go_ret2
          exact fmt_post hl2.out (HBR.out.trans hb3)
        · have hl3 := of_decide_eq_true hlong
          have hl2 := hide (fmt_big HB.out hE.out hl3)
          clear hlong
          go_wp2_with (first
            | (go_at_call 32; refine (Tryz.Builder_Len _ _ _ _ HIB2.out).mono ?_; rintro e w2 ⟨rfl, rfl⟩; rw [hlb]))
          go_ret2
          exact fmt_post hl2.out HBR.out
set_option maxHeartbeats 8000000 in
set_option maxRecDepth 100000 in
theorem rformat_cl (l : List Cl) (A : Option Addr) (c : Nat) (w : World) (h : ClsAt w A l) (hf : ∀ x ∈ l, Fit x) :
    Calls Tryz.prog 16 #[.slice A l.length c] w (FmtP (fmtOf l) w) := by
  have hlen := h.1
  unfold maxLen at hlen
  have H := hide h
  have HF := Lib.hid hf
  clear h hf
  by_cases hbig : 64 < l.length
  · have hout := hide (fmt_long hbig)
    go_enter Tryz.func16, Tryz.ntmps16
    go_wp2_with fail
    go_ret2
    exact fmt_post hout.out (Below.refl _ _)
  · have HB := hide hbig
    have hb' : l.length ≤ 64 := by omega
    clear hbig
    go_enter Tryz.func16, Tryz.ntmps16
    go_wp2_with fail
    go_loopw [5] (fun vi wr => ∃ k : Nat, k ≤ l.length ∧ vi = .int .i64 k ∧ Hid (okAll (l.take k) = true) ∧ Hid (Below w.heap.size w wr)) (fun vi _ => l.length - (intOf vi).toNat)
    case atStart => exact ⟨0, by omega, rfl, rfl, Below.refl _ _⟩
    case round =>
      obtain ⟨k, hk, rfl, HAL, HBR⟩ := hrel
      by_cases hlt : k < l.length
      · obtain ⟨x, hx⟩ : ∃ r, l[k]? = some r := ⟨_, List.getElem?_eq_getElem hlt⟩
        have hfx := HF.out x (List.mem_of_getElem? hx)
        obtain ⟨b1, o1, A1, c1, rfl, hb1, p0, p1, p2, p3, p4, p5, p6, p7, hS1⟩ := ClsAt.at (H.out.below HBR.out) hx
        have HCK := Lib.hid (rchk_any x.kind x.name x.other x.list A1 c1 x.neg x.num x.den x.off wr hfx.name hfx.other hS1 hfx.list hfx.num hfx.den)
        change Hid (Calls _ _ _ _ fun e w' => e = .returned (.int .i64 (codeOf x : Nat)) ∧ Below wr.heap.size wr w') at HCK
        have HER := Lib.hid (fun (h0 : codeOf x ≠ 0) => err_at hx HAL.out h0)
        have HOK := Lib.hid (fun (h0 : codeOf x = 0) => ok_snoc hx HAL.out h0)
        clear hx hS1 hfx
        generalize hcd : codeOf x = cd at *
        by_cases h0 : cd = 0
        · subst h0
          have HOK0 := hide (HOK.out rfl)
          clear HER HOK
          go_wp2_with fail
          refine HCK.out.mono ?_
          rintro e w3 ⟨rfl, hb3⟩
          have HB3 := hide (HBR.out.trans (hb3.mono HBR.out.size))
          clear hb3
          go_wp2_with fail
          go_roundw
          case rel => exact ⟨k + 1, by omega, by go_num, HOK0.out, HB3.out⟩
          case measure => simp [intOf]; omega
        · have hE := hide (fmt_err HB.out (HER.out h0) h0)
          have hne : ((cd : Int) != 0) = true := by simpa using h0
          clear h0 HER HOK
          go_wp2_with fail
          refine HCK.out.mono ?_
          rintro e w3 ⟨rfl, hb3⟩
          go_wp2_with fail
          go_ret2
          exact fmt_post hE.out (HBR.out.trans (hb3.mono HBR.out.size))
      · obtain rfl : k = l.length := by omega
        have hal := HAL.out
        rw [List.take_length] at hal
        have HA := hide hal
        have hE := hide (err_ok hal)
        clear hal HAL hlt hk
        go_wp2_with fail
        obtain ⟨wo, rfl⟩ : ∃ wo : World, wo = wr := ⟨_, rfl⟩
        go_loopw [4, 7] (fun vs vi w2 => ∃ k : Nat, k ≤ l.length ∧ vi = .int .i64 k ∧ vs = .string (st (textOf (l.take k))) ∧ Hid (Below w.heap.size w w2)) (fun _ vi _ => l.length - (intOf vi).toNat)
        case atStart => exact ⟨0, by omega, rfl, rfl, HBR.out⟩
        case round =>
          clear HBR
          obtain ⟨k, hk, rfl, rfl, HBR⟩ := hrel
          by_cases hlt : k < l.length
          · obtain ⟨x, hx⟩ : ∃ r, l[k]? = some r := ⟨_, List.getElem?_eq_getElem hlt⟩
            have hfx := HF.out x (List.mem_of_getElem? hx)
            have hok : codeOf x = 0 := by
              have h1 := HA.out
              unfold okAll at h1
              have := List.all_eq_true.1 h1 x (List.mem_of_getElem? hx)
              simpa using this
            have hoks : okAll (l.take k) = true := by
              have h1 := HA.out
              unfold okAll at h1 ⊢
              exact List.all_eq_true.2 fun y hy => List.all_eq_true.1 h1 y (List.mem_of_mem_take hy)
            obtain ⟨b1, o1, A1, c1, rfl, hb1, p0, p1, p2, p3, p4, p5, p6, p7, hS1⟩ := ClsAt.at (H.out.below HBR.out) hx
            have HTX := Lib.hid (rtext_any x A1 c1 wr hok hS1 hfx)
            have hh := head_len hok hfx.num hfx.den
            have hln : (st (lineL x)).size ≤ 410002 := by
              rw [st_size]; unfold lineL; rw [List.length_append]
              simp only [List.length_cons, List.length_nil]; omega
            have htl := text_len (l.take k) hoks (fun x hx => HF.out x (List.mem_of_mem_take hx))
            rw [List.length_take] at htl
            have htl' : (st (textOf (l.take k))).size ≤ 50000000 := by rw [st_size]; omega
            have HJ := hide (show st (textOf (l.take k)) ++ st (lineL x) = st (textOf (l.take (k + 1))) by rw [st_app, take_snoc hx, textOf_snoc])
            clear hx hS1 hfx htl hok hoks hh
            generalize st (lineL x) = L at *
            generalize st (textOf (l.take k)) = T at *
            go_wp2_with fail
            refine HTX.out.mono ?_
            rintro e w3 ⟨rfl, hb3⟩
            have HB3 := hide (HBR.out.trans (hb3.mono HBR.out.size))
            clear hb3
            go_wp2_with fail
            go_roundw
            case rel => exact ⟨k + 1, by omega, by go_num, by rw [HJ.out], HB3.out⟩
            case measure => simp [intOf]; omega
          · obtain rfl : k = l.length := by omega
            rw [List.take_length]
            have hsz : (st (textOf l)).size = (textOf l).length := st_size _
            have HSZ := hide hsz
            clear hsz
            cases hlong : decide (8192 < (textOf l).length)
            · have hl2 := hide (fmt_ok HB.out hE.out (of_decide_eq_false hlong))
              have hl3 : (st (textOf l)).size ≤ 8192 := by have := of_decide_eq_false hlong; rw [HSZ.out]; omega
              clear hlong
              go_wp2_with fail
              go_ret2
              exact fmt_post hl2.out HBR.out
            · have hl3 := of_decide_eq_true hlong
              have hl2 := hide (fmt_big HB.out hE.out hl3)
              have hl4 : 8192 < (st (textOf l)).size := by rw [HSZ.out]; exact hl3
              clear hlong hl3
              go_wp2_with fail
              go_ret2
              exact fmt_post hl2.out HBR.out
end Go.Proofs.YtnbdckfnohagbaaGreatDoor.PqU
