/- Checks of clauses: program and reference. -/
import Derived.Test.YtnbdckfnohagbaaGreatDoorPqG
import Derived.Test.YtnbdckfnohagbaaGreatDoorNm
import Derived.Test.YtnbdckfnohagbaaGreatDoorRP
import Derived.Test.YtnbdckfnohagbaaGreatDoorRT
namespace Go.Proofs.YtnbdckfnohagbaaGreatDoor.PqS
set_option linter.unusedVariables false
theorem here : True := trivial
open Go.RowKit Lx Wd RnW PqA PqB PqC PqD PqG NmA RnQ RnR RnP RtA RpC RpF RpI RtH
/-- a name that is not reserved -/
def plB (s : ByteArray) : Bool := nmB s && !resv s
set_option maxHeartbeats 1000000 in
theorem plain_any (s : ByteArray) (w : World) (hs : s.size ≤ maxLen) :
    Calls Tryz.prog 55 #[.string s] w fun e w' => e = .returned (.bool (plB s)) ∧ w = w' := by
  cases h1 : nmB s <;> cases h2 : resv s
  all_goals
    have H1 := hide h1
    have H2 := hide h2
    clear h1 h2
    go_enter Tryz.func55, Tryz.ntmps55
    go_wp2_with (first | (go_at_call 87; refine (nm_any _ _ hs).mono ?_; rintro e w' ⟨rfl, rfl⟩; rw [H1.out]) | (go_at_call 71; refine (LxB.reserved_any _ _).mono ?_; rintro e w' ⟨rfl, rfl⟩; rw [H2.out]))
    go_ret
    exact ⟨ret_bool (by simp only [plB, H1.out, H2.out]; rfl), rfl⟩
set_option maxHeartbeats 1000000 in
theorem rplain_any (s : ByteArray) (w : World) (hs : s.size ≤ maxLen) :
    Calls Tryz.prog 62 #[.string s] w fun e w' => e = .returned (.bool (plB s)) ∧ w = w' := by
  cases h1 : nmB s <;> cases h2 : resv s
  all_goals
    have H1 := hide h1
    have H2 := hide h2
    clear h1 h2
    go_enter Tryz.func62, Tryz.ntmps62
    go_wp2_with (first | (go_at_call 94; refine (rnm_any _ _ hs).mono ?_; rintro e w' ⟨rfl, rfl⟩; rw [H1.out]) | (go_at_call 78; refine (LxR.reserved_any _ _).mono ?_; rintro e w' ⟨rfl, rfl⟩; rw [H2.out]))
    go_ret
    exact ⟨ret_bool (by simp only [plB, H1.out, H2.out]; rfl), rfl⟩
theorem not_any (s : ByteArray) (w : World) (hs : s.size ≤ maxLen) :
    Calls Tryz.prog 57 #[.string s] w fun e w' => e = .returned (.bool (!plB s)) ∧ w = w' := by
  cases h1 : plB s
  all_goals
    have H1 := hide h1
    clear h1
    go_enter Tryz.func57, Tryz.ntmps57
    go_wp2_with (go_at_call 55; refine (plain_any _ _ hs).mono ?_; rintro e w' ⟨rfl, rfl⟩; rw [H1.out])
    go_ret
    exact ⟨rfl, rfl⟩
def IdxP (l : List ByteArray) (w : World) (e : Ending) (w' : World) : Prop := ∃ n : Int, e = .returned (.int .i64 n) ∧ decide (0 ≤ n) = !(l.all plB) ∧ w = w'
theorem all_no {l : List ByteArray} {k : Nat} {s : ByteArray} (h : l[k]? = some s) (hp : plB s = false) : l.all plB = false := by
  rw [List.all_eq_false]
  exact ⟨s, List.mem_of_getElem? h, by rw [hp]; exact Bool.false_ne_true⟩
theorem all_snoc {l : List ByteArray} {k : Nat} {s : ByteArray} (h : l[k]? = some s) (hp : plB s = true) (ha : (l.take k).all plB = true) : (l.take (k + 1)).all plB = true := by
  rw [List.take_add_one, h, List.all_append, ha]; simp [hp]
set_option maxHeartbeats 2000000 in
theorem index_any (l : List ByteArray) (P : Nat → Prop) (A : Option Addr) (c : Nat) (w : World) (h : Strs P w A c l) (hs : ∀ s ∈ l, s.size ≤ maxLen) :
    Calls Tryz.prog 88 #[.slice A l.length c, .func (.func 57) #[] #[]] w (IdxP l w) := by
  have hlen := h.1
  unfold maxLen at hlen
  have H := hide h
  have HS := Lib.hid hs
  clear h hs
  go_enter Tryz.func88, Tryz.ntmps88
  go_wp2_with fail
  go_loop [8] (fun v => ∃ k : Nat, k ≤ l.length ∧ v = .int .i64 k ∧ Hid ((l.take k).all plB = true)) (fun v => l.length - (intOf v).toNat)
  case atStart => exact ⟨0, Nat.zero_le _, rfl, rfl⟩
  case round =>
    obtain ⟨k, hk, rfl, HA⟩ := hrel
    by_cases hlt : k < l.length
    · obtain ⟨s, hr⟩ : ∃ r, l[k]? = some r := ⟨_, List.getElem?_eq_getElem hlt⟩
      obtain ⟨b, off, rfl, hbw, _, hc⟩ := H.out.2 (by omega)
      have c0 := hc k s hr
      have hz := HS.out s (List.mem_of_getElem? hr)
      have HR := hide hr
      clear hr hc
      cases hp : plB s
      · have HP := hide hp
        clear hp
        go_wp2_with (go_at_call 57; refine (not_any _ _ hz).mono ?_; rintro e w' ⟨rfl, rfl⟩; rw [HP.out])
        go_ret
        exact ⟨k, rfl, by rw [all_no HR.out HP.out]; exact decide_eq_true (by omega), rfl⟩
      · have HP := hide hp
        clear hp
        go_wp2_with (go_at_call 57; refine (not_any _ _ hz).mono ?_; rintro e w' ⟨rfl, rfl⟩; rw [HP.out])
        go_round
        case rel => exact ⟨k + 1, by omega, by go_num, all_snoc HR.out HP.out HA.out⟩
        case measure => simp [intOf]; omega
    · have hkl : l.take k = l := List.take_of_length_le (by omega)
      have hA := HA.out
      rw [hkl] at hA
      have HA2 := hide hA
      clear hA hkl
      go_wp2_with fail
      go_ret
      exact ⟨-1, rfl, by rw [HA2.out]; rfl, rfl⟩
set_option maxHeartbeats 2000000 in
theorem contains_any (l : List ByteArray) (P : Nat → Prop) (A : Option Addr) (c : Nat) (w : World) (h : Strs P w A c l) (hs : ∀ s ∈ l, s.size ≤ maxLen) :
    Calls Tryz.prog 56 #[.slice A l.length c, .func (.func 57) #[] #[]] w fun e w' => e = .returned (.bool (!(l.all plB))) ∧ w = w' := by
  have HI := hide (index_any l P A c w h hs)
  unfold IdxP at HI
  clear h hs
  go_enter Tryz.func56, Tryz.ntmps56
  go_wp2_with fail
  refine HI.out.mono ?_
  rintro e w' ⟨n, rfl, hn, rfl⟩
  have HN := hide hn
  clear hn
  go_wp2_with fail
  go_ret
  exact ⟨ret_bool HN.out, rfl⟩
/-- the sign of a clause's amount -/
def sgC (b : Bool) (x y : ByteArray) : Int := sgnQ (fixQ b x.data.toList y.data.toList)
/-- the error of a clause that is to be written -/
def codeOf (x : Cl) : Nat :=
  if x.kind < 1 ∨ 4 < x.kind then 10
  else if plB x.name = false then 11
  else if x.kind = 1 then (if x.list.all plB = false then 11 else if x.list.length = 0 then 21 else if 32 < x.list.length then 2 else 0)
  else if x.kind = 2 then (if plB x.other = false then 11 else 0)
  else if x.kind = 3 then (if sgC x.neg x.num x.den < 0 then 7 else 0)
  else 0
theorem all_len {l : List ByteArray} (h : l.length = 0) : l.all plB = true := by rw [List.eq_nil_of_length_eq_zero h]; rfl
set_option maxHeartbeats 2000000 in
set_option maxRecDepth 100000 in
theorem chk_kind (k : Int) (nm ot : ByteArray) (l : List ByteArray) (A : Option Addr) (c : Nat) (b : Bool) (x y : ByteArray) (z : Int) (w : World) (hk : k < 1 ∨ 4 < k) :
    Calls Tryz.prog 29 #[.agg #[.int .i64 k, .string nm, .string ot, .slice A l.length c, .bool b, .string x, .string y, .int .i64 z]] w fun e w' => e = .returned (.int .i64 10) ∧ Below w.heap.size w w' := by
  obtain ⟨V0, hV0, HX, HB0, hl0⟩ := new8 w (.int .i64 k) (.string nm) (.string ot) (.slice A l.length c) (.bool b) (.string x) (.string y) (.int .i64 z) 45
  obtain ⟨c0, c1, c2, c3, c4, c5, c6, c7⟩ := cells8 HX.out
  rcases hk with hk | hk
  · go_enter Tryz.func29, Tryz.ntmps29
    go_wp2_with fail
    go_ret
    exact ⟨rfl, HB0.out⟩
  · have hk1 : 1 ≤ k := by omega
    go_enter Tryz.func29, Tryz.ntmps29
    go_wp2_with fail
    go_ret
    exact ⟨rfl, HB0.out⟩
set_option maxHeartbeats 2000000 in
set_option maxRecDepth 100000 in
theorem chk_name1 (nm ot : ByteArray) (l : List ByteArray) (A : Option Addr) (c : Nat) (b : Bool) (x y : ByteArray) (z : Int) (w : World) (h1 : nm.size ≤ maxLen) (h2 : ot.size ≤ maxLen) (h3 : Strs (fun _ => True) w A c l) (h4 : ∀ s ∈ l, s.size ≤ maxLen) (h5 : x.size ≤ 50000) (h6 : y.size ≤ 50000) (hn : plB nm = false) :
    Calls Tryz.prog 29 #[.agg #[.int .i64 1, .string nm, .string ot, .slice A l.length c, .bool b, .string x, .string y, .int .i64 z]] w fun e w' => e = .returned (.int .i64 11) ∧ Below w.heap.size w w' := by
  obtain ⟨V0, hV0, HX, HB0, hl0⟩ := new8 w (.int .i64 1) (.string nm) (.string ot) (.slice A l.length c) (.bool b) (.string x) (.string y) (.int .i64 z) 45
  obtain ⟨c0, c1, c2, c3, c4, c5, c6, c7⟩ := cells8 HX.out
  have HN := Lib.hid (fun w => plain_any nm w h1)
  rw [hn] at HN
  clear hn h1 h2 h3 h4 h5 h6
  go_enter Tryz.func29, Tryz.ntmps29
  go_wp2_with (first | (go_at_call 55; (with_reducible refine (HN.out _).mono ?_); rintro e w' ⟨rfl, rfl⟩))
  go_ret
  exact ⟨rfl, HB0.out⟩
set_option maxHeartbeats 2000000 in
set_option maxRecDepth 100000 in
theorem chk_name2 (nm ot : ByteArray) (l : List ByteArray) (A : Option Addr) (c : Nat) (b : Bool) (x y : ByteArray) (z : Int) (w : World) (h1 : nm.size ≤ maxLen) (h2 : ot.size ≤ maxLen) (h3 : Strs (fun _ => True) w A c l) (h4 : ∀ s ∈ l, s.size ≤ maxLen) (h5 : x.size ≤ 50000) (h6 : y.size ≤ 50000) (hn : plB nm = false) :
    Calls Tryz.prog 29 #[.agg #[.int .i64 2, .string nm, .string ot, .slice A l.length c, .bool b, .string x, .string y, .int .i64 z]] w fun e w' => e = .returned (.int .i64 11) ∧ Below w.heap.size w w' := by
  obtain ⟨V0, hV0, HX, HB0, hl0⟩ := new8 w (.int .i64 2) (.string nm) (.string ot) (.slice A l.length c) (.bool b) (.string x) (.string y) (.int .i64 z) 45
  obtain ⟨c0, c1, c2, c3, c4, c5, c6, c7⟩ := cells8 HX.out
  have HN := Lib.hid (fun w => plain_any nm w h1)
  rw [hn] at HN
  clear hn h1 h2 h3 h4 h5 h6
  go_enter Tryz.func29, Tryz.ntmps29
  go_wp2_with (first | (go_at_call 55; (with_reducible refine (HN.out _).mono ?_); rintro e w' ⟨rfl, rfl⟩))
  go_ret
  exact ⟨rfl, HB0.out⟩
set_option maxHeartbeats 2000000 in
set_option maxRecDepth 100000 in
theorem chk_name3 (nm ot : ByteArray) (l : List ByteArray) (A : Option Addr) (c : Nat) (b : Bool) (x y : ByteArray) (z : Int) (w : World) (h1 : nm.size ≤ maxLen) (h2 : ot.size ≤ maxLen) (h3 : Strs (fun _ => True) w A c l) (h4 : ∀ s ∈ l, s.size ≤ maxLen) (h5 : x.size ≤ 50000) (h6 : y.size ≤ 50000) (hn : plB nm = false) :
    Calls Tryz.prog 29 #[.agg #[.int .i64 3, .string nm, .string ot, .slice A l.length c, .bool b, .string x, .string y, .int .i64 z]] w fun e w' => e = .returned (.int .i64 11) ∧ Below w.heap.size w w' := by
  obtain ⟨V0, hV0, HX, HB0, hl0⟩ := new8 w (.int .i64 3) (.string nm) (.string ot) (.slice A l.length c) (.bool b) (.string x) (.string y) (.int .i64 z) 45
  obtain ⟨c0, c1, c2, c3, c4, c5, c6, c7⟩ := cells8 HX.out
  have HN := Lib.hid (fun w => plain_any nm w h1)
  rw [hn] at HN
  clear hn h1 h2 h3 h4 h5 h6
  go_enter Tryz.func29, Tryz.ntmps29
  go_wp2_with (first | (go_at_call 55; (with_reducible refine (HN.out _).mono ?_); rintro e w' ⟨rfl, rfl⟩))
  go_ret
  exact ⟨rfl, HB0.out⟩
set_option maxHeartbeats 2000000 in
set_option maxRecDepth 100000 in
theorem chk_name4 (nm ot : ByteArray) (l : List ByteArray) (A : Option Addr) (c : Nat) (b : Bool) (x y : ByteArray) (z : Int) (w : World) (h1 : nm.size ≤ maxLen) (h2 : ot.size ≤ maxLen) (h3 : Strs (fun _ => True) w A c l) (h4 : ∀ s ∈ l, s.size ≤ maxLen) (h5 : x.size ≤ 50000) (h6 : y.size ≤ 50000) (hn : plB nm = false) :
    Calls Tryz.prog 29 #[.agg #[.int .i64 4, .string nm, .string ot, .slice A l.length c, .bool b, .string x, .string y, .int .i64 z]] w fun e w' => e = .returned (.int .i64 11) ∧ Below w.heap.size w w' := by
  obtain ⟨V0, hV0, HX, HB0, hl0⟩ := new8 w (.int .i64 4) (.string nm) (.string ot) (.slice A l.length c) (.bool b) (.string x) (.string y) (.int .i64 z) 45
  obtain ⟨c0, c1, c2, c3, c4, c5, c6, c7⟩ := cells8 HX.out
  have HN := Lib.hid (fun w => plain_any nm w h1)
  rw [hn] at HN
  clear hn h1 h2 h3 h4 h5 h6
  go_enter Tryz.func29, Tryz.ntmps29
  go_wp2_with (first | (go_at_call 55; (with_reducible refine (HN.out _).mono ?_); rintro e w' ⟨rfl, rfl⟩))
  go_ret
  exact ⟨rfl, HB0.out⟩
set_option maxHeartbeats 2000000 in
set_option maxRecDepth 100000 in
theorem chk_list1 (nm ot : ByteArray) (l : List ByteArray) (A : Option Addr) (c : Nat) (b : Bool) (x y : ByteArray) (z : Int) (w : World) (h1 : nm.size ≤ maxLen) (h2 : ot.size ≤ maxLen) (h3 : Strs (fun _ => True) w A c l) (h4 : ∀ s ∈ l, s.size ≤ maxLen) (h5 : x.size ≤ 50000) (h6 : y.size ≤ 50000) (hn : plB nm = true) (ha : l.all plB = false) :
    Calls Tryz.prog 29 #[.agg #[.int .i64 1, .string nm, .string ot, .slice A l.length c, .bool b, .string x, .string y, .int .i64 z]] w fun e w' => e = .returned (.int .i64 11) ∧ Below w.heap.size w w' := by
  obtain ⟨V0, hV0, HX, HB0, hl0⟩ := new8 w (.int .i64 1) (.string nm) (.string ot) (.slice A l.length c) (.bool b) (.string x) (.string y) (.int .i64 z) 45
  obtain ⟨c0, c1, c2, c3, c4, c5, c6, c7⟩ := cells8 HX.out
  have HN := Lib.hid (fun w => plain_any nm w h1)
  rw [hn] at HN
  have HC := Lib.hid (fun w' (hb : Below w.heap.size w w') => contains_any l _ A c w' (h3.below hb) h4)
  rw [ha] at HC
  simp only [Bool.not_false] at HC
  have HA := hide ha
  clear hn h1 h2 h3 h4 h5 h6 ha
  go_enter Tryz.func29, Tryz.ntmps29
  go_wp2_with (first | (go_at_call 55; (with_reducible refine (HN.out _).mono ?_); rintro e w' ⟨rfl, rfl⟩) | (go_at_call 56; (with_reducible refine (HC.out _ HB0.out).mono ?_); rintro e w' ⟨rfl, rfl⟩))
  go_ret
  exact ⟨rfl, HB0.out⟩
set_option maxHeartbeats 2000000 in
set_option maxRecDepth 100000 in
theorem chk_empty1 (nm ot : ByteArray) (l : List ByteArray) (A : Option Addr) (c : Nat) (b : Bool) (x y : ByteArray) (z : Int) (w : World) (h1 : nm.size ≤ maxLen) (h2 : ot.size ≤ maxLen) (h3 : Strs (fun _ => True) w A c l) (h4 : ∀ s ∈ l, s.size ≤ maxLen) (h5 : x.size ≤ 50000) (h6 : y.size ≤ 50000) (hn : plB nm = true) (ha : l.length = 0) :
    Calls Tryz.prog 29 #[.agg #[.int .i64 1, .string nm, .string ot, .slice A l.length c, .bool b, .string x, .string y, .int .i64 z]] w fun e w' => e = .returned (.int .i64 21) ∧ Below w.heap.size w w' := by
  obtain ⟨V0, hV0, HX, HB0, hl0⟩ := new8 w (.int .i64 1) (.string nm) (.string ot) (.slice A l.length c) (.bool b) (.string x) (.string y) (.int .i64 z) 45
  obtain ⟨c0, c1, c2, c3, c4, c5, c6, c7⟩ := cells8 HX.out
  have HN := Lib.hid (fun w => plain_any nm w h1)
  rw [hn] at HN
  have HC := Lib.hid (fun w' (hb : Below w.heap.size w w') => contains_any l _ A c w' (h3.below hb) h4)
  rw [all_len ha] at HC
  simp only [Bool.not_true] at HC
  have hl0' : (l.length : Int) = 0 := by omega
  have HL := hide ha
  clear hn h1 h2 h3 h4 h5 h6 ha
  go_enter Tryz.func29, Tryz.ntmps29
  go_wp2_with (first | (go_at_call 55; (with_reducible refine (HN.out _).mono ?_); rintro e w' ⟨rfl, rfl⟩) | (go_at_call 56; (with_reducible refine (HC.out _ HB0.out).mono ?_); rintro e w' ⟨rfl, rfl⟩))
  go_ret
  exact ⟨rfl, HB0.out⟩
set_option maxHeartbeats 2000000 in
set_option maxRecDepth 100000 in
theorem chk_long1 (nm ot : ByteArray) (l : List ByteArray) (A : Option Addr) (c : Nat) (b : Bool) (x y : ByteArray) (z : Int) (w : World) (h1 : nm.size ≤ maxLen) (h2 : ot.size ≤ maxLen) (h3 : Strs (fun _ => True) w A c l) (h4 : ∀ s ∈ l, s.size ≤ maxLen) (h5 : x.size ≤ 50000) (h6 : y.size ≤ 50000) (hn : plB nm = true) (ha : l.all plB = true) (hl : 32 < l.length) :
    Calls Tryz.prog 29 #[.agg #[.int .i64 1, .string nm, .string ot, .slice A l.length c, .bool b, .string x, .string y, .int .i64 z]] w fun e w' => e = .returned (.int .i64 2) ∧ Below w.heap.size w w' := by
  obtain ⟨V0, hV0, HX, HB0, hl0⟩ := new8 w (.int .i64 1) (.string nm) (.string ot) (.slice A l.length c) (.bool b) (.string x) (.string y) (.int .i64 z) 45
  obtain ⟨c0, c1, c2, c3, c4, c5, c6, c7⟩ := cells8 HX.out
  have HN := Lib.hid (fun w => plain_any nm w h1)
  rw [hn] at HN
  have HC := Lib.hid (fun w' (hb : Below w.heap.size w w') => contains_any l _ A c w' (h3.below hb) h4)
  rw [ha] at HC
  simp only [Bool.not_true] at HC
  have HA := hide ha
  clear hn h1 h2 h3 h4 h5 h6 ha
  go_enter Tryz.func29, Tryz.ntmps29
  go_wp2_with (first | (go_at_call 55; (with_reducible refine (HN.out _).mono ?_); rintro e w' ⟨rfl, rfl⟩) | (go_at_call 56; (with_reducible refine (HC.out _ HB0.out).mono ?_); rintro e w' ⟨rfl, rfl⟩))
  go_ret
  exact ⟨rfl, HB0.out⟩
set_option maxHeartbeats 2000000 in
set_option maxRecDepth 100000 in
theorem chk_ok1 (nm ot : ByteArray) (l : List ByteArray) (A : Option Addr) (c : Nat) (b : Bool) (x y : ByteArray) (z : Int) (w : World) (h1 : nm.size ≤ maxLen) (h2 : ot.size ≤ maxLen) (h3 : Strs (fun _ => True) w A c l) (h4 : ∀ s ∈ l, s.size ≤ maxLen) (h5 : x.size ≤ 50000) (h6 : y.size ≤ 50000) (hn : plB nm = true) (ha : l.all plB = true) (hl : 1 ≤ l.length) (hm : l.length ≤ 32) :
    Calls Tryz.prog 29 #[.agg #[.int .i64 1, .string nm, .string ot, .slice A l.length c, .bool b, .string x, .string y, .int .i64 z]] w fun e w' => e = .returned (.int .i64 0) ∧ Below w.heap.size w w' := by
  obtain ⟨V0, hV0, HX, HB0, hl0⟩ := new8 w (.int .i64 1) (.string nm) (.string ot) (.slice A l.length c) (.bool b) (.string x) (.string y) (.int .i64 z) 45
  obtain ⟨c0, c1, c2, c3, c4, c5, c6, c7⟩ := cells8 HX.out
  have HN := Lib.hid (fun w => plain_any nm w h1)
  rw [hn] at HN
  have HC := Lib.hid (fun w' (hb : Below w.heap.size w w') => contains_any l _ A c w' (h3.below hb) h4)
  rw [ha] at HC
  simp only [Bool.not_true] at HC
  have HA := hide ha
  clear hn h1 h2 h3 h4 h5 h6 ha
  go_enter Tryz.func29, Tryz.ntmps29
  go_wp2_with (first | (go_at_call 55; (with_reducible refine (HN.out _).mono ?_); rintro e w' ⟨rfl, rfl⟩) | (go_at_call 56; (with_reducible refine (HC.out _ HB0.out).mono ?_); rintro e w' ⟨rfl, rfl⟩))
  go_ret
  exact ⟨rfl, HB0.out⟩
set_option maxHeartbeats 2000000 in
set_option maxRecDepth 100000 in
theorem chk_other2 (nm ot : ByteArray) (l : List ByteArray) (A : Option Addr) (c : Nat) (b : Bool) (x y : ByteArray) (z : Int) (w : World) (h1 : nm.size ≤ maxLen) (h2 : ot.size ≤ maxLen) (h3 : Strs (fun _ => True) w A c l) (h4 : ∀ s ∈ l, s.size ≤ maxLen) (h5 : x.size ≤ 50000) (h6 : y.size ≤ 50000) (hn : plB nm = true) (ho : plB ot = false) :
    Calls Tryz.prog 29 #[.agg #[.int .i64 2, .string nm, .string ot, .slice A l.length c, .bool b, .string x, .string y, .int .i64 z]] w fun e w' => e = .returned (.int .i64 11) ∧ Below w.heap.size w w' := by
  obtain ⟨V0, hV0, HX, HB0, hl0⟩ := new8 w (.int .i64 2) (.string nm) (.string ot) (.slice A l.length c) (.bool b) (.string x) (.string y) (.int .i64 z) 45
  obtain ⟨c0, c1, c2, c3, c4, c5, c6, c7⟩ := cells8 HX.out
  have HN := Lib.hid (fun w => plain_any nm w h1)
  rw [hn] at HN
  have HO := Lib.hid (fun w => plain_any ot w h2)
  rw [ho] at HO
  clear hn h1 h2 h3 h4 h5 h6 ho
  go_enter Tryz.func29, Tryz.ntmps29
  go_wp2_with (first | (go_at_call 55; (first | (with_reducible refine (HN.out _).mono ?_) | (with_reducible refine (HO.out _).mono ?_)); rintro e w' ⟨rfl, rfl⟩))
  go_ret
  exact ⟨rfl, HB0.out⟩
set_option maxHeartbeats 2000000 in
set_option maxRecDepth 100000 in
theorem chk_ok2 (nm ot : ByteArray) (l : List ByteArray) (A : Option Addr) (c : Nat) (b : Bool) (x y : ByteArray) (z : Int) (w : World) (h1 : nm.size ≤ maxLen) (h2 : ot.size ≤ maxLen) (h3 : Strs (fun _ => True) w A c l) (h4 : ∀ s ∈ l, s.size ≤ maxLen) (h5 : x.size ≤ 50000) (h6 : y.size ≤ 50000) (hn : plB nm = true) (ho : plB ot = true) :
    Calls Tryz.prog 29 #[.agg #[.int .i64 2, .string nm, .string ot, .slice A l.length c, .bool b, .string x, .string y, .int .i64 z]] w fun e w' => e = .returned (.int .i64 0) ∧ Below w.heap.size w w' := by
  obtain ⟨V0, hV0, HX, HB0, hl0⟩ := new8 w (.int .i64 2) (.string nm) (.string ot) (.slice A l.length c) (.bool b) (.string x) (.string y) (.int .i64 z) 45
  obtain ⟨c0, c1, c2, c3, c4, c5, c6, c7⟩ := cells8 HX.out
  have HN := Lib.hid (fun w => plain_any nm w h1)
  rw [hn] at HN
  have HO := Lib.hid (fun w => plain_any ot w h2)
  rw [ho] at HO
  clear hn h1 h2 h3 h4 h5 h6 ho
  go_enter Tryz.func29, Tryz.ntmps29
  go_wp2_with (first | (go_at_call 55; (first | (with_reducible refine (HN.out _).mono ?_) | (with_reducible refine (HO.out _).mono ?_)); rintro e w' ⟨rfl, rfl⟩))
  go_ret
  exact ⟨rfl, HB0.out⟩
set_option maxHeartbeats 2000000 in
set_option maxRecDepth 100000 in
theorem chk_neg3 (nm ot : ByteArray) (l : List ByteArray) (A : Option Addr) (c : Nat) (b : Bool) (x y : ByteArray) (z : Int) (w : World) (h1 : nm.size ≤ maxLen) (h2 : ot.size ≤ maxLen) (h3 : Strs (fun _ => True) w A c l) (h4 : ∀ s ∈ l, s.size ≤ maxLen) (h5 : x.size ≤ 50000) (h6 : y.size ≤ 50000) (hn : plB nm = true) (hg : sgC b x y < 0) :
    Calls Tryz.prog 29 #[.agg #[.int .i64 3, .string nm, .string ot, .slice A l.length c, .bool b, .string x, .string y, .int .i64 z]] w fun e w' => e = .returned (.int .i64 7) ∧ Below w.heap.size w w' := by
  obtain ⟨V0, hV0, HX, HB0, hl0⟩ := new8 w (.int .i64 3) (.string nm) (.string ot) (.slice A l.length c) (.bool b) (.string x) (.string y) (.int .i64 z) 45
  obtain ⟨c0, c1, c2, c3, c4, c5, c6, c7⟩ := cells8 HX.out
  have HN := Lib.hid (fun w => plain_any nm w h1)
  rw [hn] at HN
  have HS := Lib.hid (fun w => sign_any b x y w (by omega) (by omega))
  change Hid (∀ w, Calls _ _ _ w fun e w' => e = .returned (.int .i64 (sgC b x y)) ∧ Below w.heap.size w w') at HS
  generalize sgC b x y = g at *
  clear hn h1 h2 h3 h4 h5 h6
  go_enter Tryz.func29, Tryz.ntmps29
  go_wp2_with (first | (go_at_call 55; (with_reducible refine (HN.out _).mono ?_); rintro e w' ⟨rfl, rfl⟩) | (go_at_call 58; (with_reducible refine (HS.out _).mono ?_); rintro e w2 ⟨rfl, hb2⟩))
  go_ret
  exact ⟨rfl, HB0.out.trans (hb2.mono HB0.out.size)⟩
set_option maxHeartbeats 2000000 in
set_option maxRecDepth 100000 in
theorem chk_ok3 (nm ot : ByteArray) (l : List ByteArray) (A : Option Addr) (c : Nat) (b : Bool) (x y : ByteArray) (z : Int) (w : World) (h1 : nm.size ≤ maxLen) (h2 : ot.size ≤ maxLen) (h3 : Strs (fun _ => True) w A c l) (h4 : ∀ s ∈ l, s.size ≤ maxLen) (h5 : x.size ≤ 50000) (h6 : y.size ≤ 50000) (hn : plB nm = true) (hg : ¬ sgC b x y < 0) :
    Calls Tryz.prog 29 #[.agg #[.int .i64 3, .string nm, .string ot, .slice A l.length c, .bool b, .string x, .string y, .int .i64 z]] w fun e w' => e = .returned (.int .i64 0) ∧ Below w.heap.size w w' := by
  obtain ⟨V0, hV0, HX, HB0, hl0⟩ := new8 w (.int .i64 3) (.string nm) (.string ot) (.slice A l.length c) (.bool b) (.string x) (.string y) (.int .i64 z) 45
  obtain ⟨c0, c1, c2, c3, c4, c5, c6, c7⟩ := cells8 HX.out
  have HN := Lib.hid (fun w => plain_any nm w h1)
  rw [hn] at HN
  have HS := Lib.hid (fun w => sign_any b x y w (by omega) (by omega))
  change Hid (∀ w, Calls _ _ _ w fun e w' => e = .returned (.int .i64 (sgC b x y)) ∧ Below w.heap.size w w') at HS
  generalize sgC b x y = g at *
  clear hn h1 h2 h3 h4 h5 h6
  go_enter Tryz.func29, Tryz.ntmps29
  go_wp2_with (first | (go_at_call 55; (with_reducible refine (HN.out _).mono ?_); rintro e w' ⟨rfl, rfl⟩) | (go_at_call 58; (with_reducible refine (HS.out _).mono ?_); rintro e w2 ⟨rfl, hb2⟩))
  go_ret
  exact ⟨rfl, HB0.out.trans (hb2.mono HB0.out.size)⟩
set_option maxHeartbeats 2000000 in
set_option maxRecDepth 100000 in
theorem chk_ok4 (nm ot : ByteArray) (l : List ByteArray) (A : Option Addr) (c : Nat) (b : Bool) (x y : ByteArray) (z : Int) (w : World) (h1 : nm.size ≤ maxLen) (h2 : ot.size ≤ maxLen) (h3 : Strs (fun _ => True) w A c l) (h4 : ∀ s ∈ l, s.size ≤ maxLen) (h5 : x.size ≤ 50000) (h6 : y.size ≤ 50000) (hn : plB nm = true) :
    Calls Tryz.prog 29 #[.agg #[.int .i64 4, .string nm, .string ot, .slice A l.length c, .bool b, .string x, .string y, .int .i64 z]] w fun e w' => e = .returned (.int .i64 0) ∧ Below w.heap.size w w' := by
  obtain ⟨V0, hV0, HX, HB0, hl0⟩ := new8 w (.int .i64 4) (.string nm) (.string ot) (.slice A l.length c) (.bool b) (.string x) (.string y) (.int .i64 z) 45
  obtain ⟨c0, c1, c2, c3, c4, c5, c6, c7⟩ := cells8 HX.out
  have HN := Lib.hid (fun w => plain_any nm w h1)
  rw [hn] at HN
  clear hn h1 h2 h3 h4 h5 h6
  go_enter Tryz.func29, Tryz.ntmps29
  go_wp2_with (first | (go_at_call 55; (with_reducible refine (HN.out _).mono ?_); rintro e w' ⟨rfl, rfl⟩))
  go_ret
  exact ⟨rfl, HB0.out⟩
theorem chk_any (k : Int) (nm ot : ByteArray) (l : List ByteArray) (A : Option Addr) (c : Nat) (b : Bool) (x y : ByteArray) (z : Int) (w : World) (h1 : nm.size ≤ maxLen) (h2 : ot.size ≤ maxLen) (h3 : Strs (fun _ => True) w A c l) (h4 : ∀ s ∈ l, s.size ≤ maxLen) (h5 : x.size ≤ 50000) (h6 : y.size ≤ 50000) :
    Calls Tryz.prog 29 #[.agg #[.int .i64 k, .string nm, .string ot, .slice A l.length c, .bool b, .string x, .string y, .int .i64 z]] w fun e w' => e = .returned (.int .i64 (codeOf ⟨k, nm, ot, l, b, x, y, z⟩ : Nat)) ∧ Below w.heap.size w w' := by
  unfold codeOf
  dsimp only
  by_cases hk : k < 1 ∨ 4 < k
  · rw [if_pos hk]; exact chk_kind k nm ot l A c b x y z w hk
  rw [if_neg hk]
  cases hn : plB nm
  · rw [if_pos rfl]
    rcases (by omega : k = 1 ∨ k = 2 ∨ k = 3 ∨ k = 4) with rfl | rfl | rfl | rfl
    · exact chk_name1 nm ot l A c b x y z w h1 h2 h3 h4 h5 h6 hn
    · exact chk_name2 nm ot l A c b x y z w h1 h2 h3 h4 h5 h6 hn
    · exact chk_name3 nm ot l A c b x y z w h1 h2 h3 h4 h5 h6 hn
    · exact chk_name4 nm ot l A c b x y z w h1 h2 h3 h4 h5 h6 hn
  rw [if_neg (by decide)]
  rcases (by omega : k = 1 ∨ k = 2 ∨ k = 3 ∨ k = 4) with rfl | rfl | rfl | rfl
  · rw [if_pos rfl]
    cases ha : l.all plB
    · rw [if_pos rfl]; exact chk_list1 nm ot l A c b x y z w h1 h2 h3 h4 h5 h6 hn ha
    · rw [if_neg (by decide)]
      by_cases he : l.length = 0
      · rw [if_pos he]; exact chk_empty1 nm ot l A c b x y z w h1 h2 h3 h4 h5 h6 hn he
      · rw [if_neg he]
        by_cases hl : 32 < l.length
        · rw [if_pos hl]; exact chk_long1 nm ot l A c b x y z w h1 h2 h3 h4 h5 h6 hn ha hl
        · rw [if_neg hl]; exact chk_ok1 nm ot l A c b x y z w h1 h2 h3 h4 h5 h6 hn ha (by omega) (by omega)
  · rw [if_neg (by decide), if_pos rfl]
    cases ho : plB ot
    · rw [if_pos rfl]; exact chk_other2 nm ot l A c b x y z w h1 h2 h3 h4 h5 h6 hn ho
    · rw [if_neg (by decide)]; exact chk_ok2 nm ot l A c b x y z w h1 h2 h3 h4 h5 h6 hn ho
  · rw [if_neg (by decide), if_neg (by decide), if_pos rfl]
    by_cases hg : sgC b x y < 0
    · rw [if_pos hg]; exact chk_neg3 nm ot l A c b x y z w h1 h2 h3 h4 h5 h6 hn hg
    · rw [if_neg hg]; exact chk_ok3 nm ot l A c b x y z w h1 h2 h3 h4 h5 h6 hn hg
  · rw [if_neg (by decide), if_neg (by decide), if_neg (by decide)]; exact chk_ok4 nm ot l A c b x y z w h1 h2 h3 h4 h5 h6 hn
end Go.Proofs.YtnbdckfnohagbaaGreatDoor.PqS
