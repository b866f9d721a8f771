/- PfS, PfB, PfA, PfC, PfD, PfE, PfF, PfG, PfH, PfI, in one text. -/
import Derived.Test.YtghbhchkdomfhaaGreatDoorRN
import Derived.Lib.Split
import Derived.Lib.CountLaws
import Derived.Lib.CutLaws
import Derived.Test.YtghbhchkdomfhaaGreatDoorNm
import Derived.Test.YtghbhchkdomfhaaGreatDoorRT
import Derived.Test.YtghbhchkdomfhaaGreatDoorRP
import Derived.Test.YtghbhchkdomfhaaGreatDoorPqB
import Derived.Test.YtghbhchkdomfhaaGreatDoorQmt
namespace Go.Proofs.YtghbhchkdomfhaaGreatDoor.PfS
open Go.RowKit
/-- a list cut at each c; cur: what has been read of the first piece -/
def splA (c : UInt8) (cur : List UInt8) : List UInt8 → List (List UInt8)
  | [] => [cur]
  | x :: l => if x = c then cur :: splA c [] l else splA c (cur ++ [x]) l
theorem index_cons (c x : UInt8) (l : List UInt8) : Lib.index (x :: l) [c] = if x = c then 0 else if Lib.index l [c] = -1 then -1 else Lib.index l [c] + 1 := by
  by_cases h : x = c
  · subst h; simp [Lib.index, List.isPrefixOf]
  · have h' : (c == x) = false := by simpa using fun e => h e.symm
    simp [Lib.index, List.isPrefixOf, h, h']
theorem index_ge (c : UInt8) : ∀ m : List UInt8, -1 ≤ Lib.index m [c]
  | [] => by simp [Lib.index]
  | y :: m => by
    have := index_ge c m
    rw [index_cons]
    split
    · omega
    · split <;> omega
theorem splA_index (c : UInt8) : ∀ (s cur : List UInt8), splA c cur s = if Lib.index s [c] = -1 then [cur ++ s] else (cur ++ s.take (Lib.index s [c]).toNat) :: splA c [] (s.drop ((Lib.index s [c]).toNat + 1))
  | [], cur => by simp [splA, Lib.index]
  | x :: l, cur => by
    rw [index_cons]
    by_cases h : x = c
    · simp [splA, h]
    · have ih := splA_index c l (cur ++ [x])
      rw [splA, if_neg h, if_neg h, ih]
      by_cases h1 : Lib.index l [c] = -1
      · simp [h1]
      · have h2 : 0 ≤ Lib.index l [c] := by have := index_ge c l; omega
        obtain ⟨i, hi⟩ := Int.eq_ofNat_of_zero_le h2
        have h3 : ¬ ((i : Int) + 1 = -1) := by omega
        have h4 : ((i : Int) + 1).toNat = i + 1 := by omega
        have h5 : ¬ ((i : Int) = -1) := by omega
        rw [hi]
        simp [h3, h4, h5]
theorem index_lt (c : UInt8) : ∀ m : List UInt8, Lib.index m [c] = -1 ∨ (Lib.index m [c]).toNat < m.length
  | [] => by simp [Lib.index]
  | y :: m => by
    have h0 := index_ge c m
    have := index_lt c m
    rw [index_cons]
    split
    · right; simp
    · split
      · left; rfl
      · right
        have : (Lib.index m [c] + 1).toNat = (Lib.index m [c]).toNat + 1 := by omega
        rw [this, List.length_cons]
        omega
theorem splitK_eq (c : UInt8) : ∀ (n : Nat) (s : List UInt8), s.length ≤ n → Lib.splitK [c] 0 (Lib.count s [c]) s = splA c [] s := by
  intro n
  induction n with
  | zero =>
    intro s hs
    obtain rfl : s = [] := List.eq_nil_of_length_eq_zero (by omega)
    rfl
  | succ n ih =>
    intro s hs
    rw [splA_index]
    by_cases h : Lib.index s [c] = -1
    · rw [Lib.count_miss h, if_pos h]; rfl
    · rw [if_neg h]
      have h0 := index_ge c s
      obtain ⟨i, hi⟩ := Int.eq_ofNat_of_zero_le (show 0 ≤ Lib.index s [c] by omega)
      have hc := Lib.count_hit (by simp) hi
      have e : Lib.count s [c] = Lib.count (s.drop (i + 1)) [c] + 1 := by rw [hc]; simp <;> omega
      have hlt := index_lt c s
      rw [hi] at hlt
      have hlt' : i < s.length := by rcases hlt with h | h <;> omega
      have ih' := ih (s.drop (i + 1)) (by simp; omega)
      rw [e, hi]
      have hm : ¬ ((i : Int) == -1) = true := by simp <;> omega
      simp only [Lib.splitK, hi]
      rw [if_neg hm]
      simp only [Int.toNat_natCast, List.nil_append, Nat.add_zero]
      have e2 : [c].length = 1 := rfl
      rw [show i + [c].length = i + 1 from rfl, ih']
def isDig (c : UInt8) : Bool := 48 ≤ c && c ≤ 57
def numVal (l : List UInt8) : Nat := l.foldl (fun n c => 10 * n + (c.toNat - 48)) 0
theorem numVal_snoc (l : List UInt8) (c : UInt8) : numVal (l ++ [c]) = 10 * numVal l + (c.toNat - 48) := by simp [numVal]
theorem isDig_iff (c : UInt8) : isDig c = true ↔ 48 ≤ (c.toNat : Int) ∧ (c.toNat : Int) ≤ 57 := by
  simp [isDig, UInt8.le_iff_toNat_le]
  omega
theorem numVal_lt : ∀ (n : Nat) (l : List UInt8), l.length = n → l.all isDig = true → numVal l < 10 ^ n := by
  intro n
  induction n with
  | zero => intro l h _; obtain rfl := List.eq_nil_of_length_eq_zero h; simp [numVal]
  | succ n ih =>
    intro l h hd
    rcases List.eq_nil_or_concat l with rfl | ⟨m, x, rfl⟩
    · simp at h
    · simp only [List.concat_eq_append] at h hd ⊢
      rw [List.all_append, Bool.and_eq_true] at hd
      have h1 := ih m (by simpa using h) hd.1
      have h2 := (isDig_iff x).1 (by simpa using hd.2)
      rw [numVal_snoc, Nat.pow_succ]
      omega
theorem numVal_le {l : List UInt8} (h : l.length ≤ 8) (hd : l.all isDig = true) : numVal l ≤ 99999999 := by
  have h1 := numVal_lt l.length l rfl hd
  have h2 : 10 ^ l.length ≤ 10 ^ 8 := Nat.pow_le_pow_right (by omega) h
  have : (10 : Nat) ^ 8 = 100000000 := by decide
  omega
def badHead (l : List UInt8) : Bool := decide (l = []) || decide (9 < l.length) || (decide (l.head? = some 48) && decide (1 < l.length))
/-- the number that a word represents -/
def numOf (l : List UInt8) : Option Nat := if badHead l = true ∨ l.all isDig = false then none else some (numVal l)
theorem numOf_le {l : List UInt8} {n : Nat} (h : numOf l = some n) : n ≤ 999999999 := by
  unfold numOf at h
  split at h
  · cases h
  · rename_i hc
    cases h
    simp only [not_or, Bool.not_eq_true] at hc
    have hl : l.length ≤ 9 := by
      have := hc.1
      simp only [badHead, Bool.or_eq_false_iff, decide_eq_false_iff_not] at this
      omega
    have h1 := numVal_lt l.length l rfl (by simpa using hc.2)
    have h2 : 10 ^ l.length ≤ 10 ^ 9 := Nat.pow_le_pow_right (by omega) hl
    have : (10 : Nat) ^ 9 = 1000000000 := by decide
    omega
def NumRet (x : Option Nat) : Ending := .returned (.tuple #[.int .i64 ((x.getD 0 : Nat) : Int), .bool x.isSome])
theorem num_bad {s : ByteArray} (h : badHead s.data.toList = true) : NumRet (numOf s.data.toList) = .returned (.tuple #[.int .i64 0, .bool false]) := by
  unfold numOf; rw [if_pos (.inl h)]; rfl
theorem num_nodig {s : ByteArray} {k : Nat} (hk : k < s.size) (h : isDig s[k] = false) : NumRet (numOf s.data.toList) = .returned (.tuple #[.int .i64 0, .bool false]) := by
  unfold numOf
  rw [if_pos (.inr (by rw [List.all_eq_false]; exact ⟨s[k], by rw [ByteArray.getElem_eq_getElem_data]; exact Array.mem_toList_iff.2 (Array.getElem_mem _), by simp [h]⟩))]
  rfl
theorem num_good {s : ByteArray} (h : badHead s.data.toList = false) (hd : s.data.toList.all isDig = true) : NumRet (numOf s.data.toList) = .returned (.tuple #[.int .i64 (numVal s.data.toList : Nat), .bool true]) := by
  unfold numOf; rw [if_neg (by rw [h, hd]; simp)]; rfl
theorem take_byte (s : ByteArray) (k : Nat) (h : k < s.size) : s.data.toList.take (k + 1) = s.data.toList.take k ++ [s[k]] := by
  rw [List.take_succ_eq_append_getElem (by simpa using h)]; rfl
theorem dig_false {c : UInt8} (h : (c.toNat : Int) < 48 ∨ 57 < (c.toNat : Int)) : isDig c = false := by
  rw [Bool.eq_false_iff]; intro hc; have := (isDig_iff c).1 hc; omega
def toL (l : List ByteArray) : List (List UInt8) := l.map fun x : ByteArray => x.data.toList
def Cut (c : UInt8) (s : ByteArray) (k f : Nat) (ws : List ByteArray) : Prop :=
  (k ≤ s.size → f ≤ k ∧ splA c [] s.data.toList = toL ws ++ splA c (s.extract f k).data.toList (s.data.toList.drop k)) ∧ (s.size < k → splA c [] s.data.toList = toL ws)
theorem drop_byte (s : ByteArray) (k : Nat) (h : k < s.size) : s.data.toList.drop k = s[k] :: s.data.toList.drop (k + 1) := by
  rw [List.drop_eq_getElem_cons (by simpa using h)]; rfl
theorem extract_L (s : ByteArray) (a b : Nat) : (s.extract a b).data.toList = (s.data.toList.take b).drop a := by
  simp [ByteArray.data_extract, List.drop_take]
theorem extract_snoc (s : ByteArray) (f k : Nat) (h : k < s.size) (hf : f ≤ k) : (s.extract f (k + 1)).data.toList = (s.extract f k).data.toList ++ [s[k]] := by
  rw [extract_L, extract_L, take_byte s k h, List.drop_append_of_le_length (by simp; omega)]
theorem extract_none (s : ByteArray) (f : Nat) : (s.extract f f).data.toList = [] := by
  rw [extract_L, List.drop_eq_nil_of_le (by simp; omega)]
theorem Cut.start (c : UInt8) (s : ByteArray) : Cut c s 0 0 [] := by
  refine ⟨fun _ => ⟨Nat.le_refl _, ?_⟩, fun h => by omega⟩
  rw [extract_none]; rfl
theorem Cut.space {c : UInt8} {s : ByteArray} {k f : Nat} {ws : List ByteArray} (h : Cut c s k f ws) (hk : k < s.size) (hs : s[k] = c) : Cut c s (k + 1) (k + 1) (ws ++ [s.extract f k]) := by
  obtain ⟨_, h2⟩ := h.1 (by omega)
  refine ⟨fun _ => ⟨Nat.le_refl _, ?_⟩, fun h => by omega⟩
  rw [h2, drop_byte s k hk, splA, if_pos hs, extract_none]
  simp [toL]
theorem Cut.other {c : UInt8} {s : ByteArray} {k f : Nat} {ws : List ByteArray} (h : Cut c s k f ws) (hk : k < s.size) (hs : s[k] ≠ c) : Cut c s (k + 1) f ws := by
  obtain ⟨h1, h2⟩ := h.1 (by omega)
  refine ⟨fun _ => ⟨by omega, ?_⟩, fun h => by omega⟩
  rw [h2, drop_byte s k hk, splA, if_neg hs, extract_snoc s f k hk h1]
theorem Cut.last {c : UInt8} {s : ByteArray} {f : Nat} {ws : List ByteArray} (h : Cut c s s.size f ws) : Cut c s (s.size + 1) (s.size + 1) (ws ++ [s.extract f s.size]) := by
  obtain ⟨_, h2⟩ := h.1 (Nat.le_refl _)
  refine ⟨fun h => by omega, fun _ => ?_⟩
  rw [h2, List.drop_eq_nil_of_le (by simp)]
  simp [toL, splA]
theorem splA_len (c : UInt8) : ∀ (s cur : List UInt8), (splA c cur s).length ≤ s.length + 1 ∧ splA c cur s ≠ []
  | [], cur => by simp [splA]
  | x :: l, cur => by
    rw [splA]
    split
    · have := (splA_len c l []).1; simp; omega
    · have h := splA_len c l (cur ++ [x]); simp; exact ⟨by omega, h.2⟩
theorem splA_count (c : UInt8) : ∀ (n : Nat) (s cur : List UInt8), s.length ≤ n → (splA c cur s).length = Lib.count s [c] + 1 := by
  intro n
  induction n with
  | zero =>
    intro s cur hs
    obtain rfl : s = [] := List.eq_nil_of_length_eq_zero (by omega)
    rfl
  | succ n ih =>
    intro s cur hs
    rw [splA_index]
    by_cases h : Lib.index s [c] = -1
    · rw [Lib.count_miss h, if_pos h]; rfl
    · rw [if_neg h]
      have h0 := index_ge c s
      obtain ⟨i, hi⟩ := Int.eq_ofNat_of_zero_le (show 0 ≤ Lib.index s [c] by omega)
      have hc := Lib.count_hit (by simp) hi
      have hlt := index_lt c s
      rw [hi] at hlt ⊢
      have hlt' : i < s.length := by rcases hlt with h | h <;> omega
      have ih' := ih (s.drop (i + 1)) [] (by simp; omega)
      rw [hc, List.length_cons, Int.toNat_natCast, ih']
      simp <;> omega
end Go.Proofs.YtghbhchkdomfhaaGreatDoor.PfS
namespace Go.Proofs.YtghbhchkdomfhaaGreatDoor.PfB
open Go.RowKit PfS LxW
set_option maxHeartbeats 2000000 in
theorem number_any (s : ByteArray) (w : World) (hs : s.size ≤ 8192) :
    Calls Tryz.prog 87 #[.string s] w fun e w' => e = NumRet (numOf s.data.toList) ∧ w = w' := by
  have hl : s.data.toList.length = s.size := by simp
  by_cases h0 : s.size = 0
  · have hb : Hid (badHead s.data.toList = true) := by
      show badHead _ = true
      have : s.data.toList = [] := List.eq_nil_of_length_eq_zero (by omega)
      rw [this]; rfl
    have hn : s.data.toList = [] := List.eq_nil_of_length_eq_zero (by omega)
    have hn2 : s.toList.isEmpty = true := by rw [ByteArray.toList_eq, hn]; rfl
    have hn3 : s.toList = [] := by rw [ByteArray.toList_eq, hn]
    clear h0
    go_enter Tryz.func87, Tryz.ntmps87
    go_wp2_with fail
    go_ret2
    exact ⟨(num_bad hb.out).symm, rfl⟩
  · have he : s.toList.isEmpty = false := by
      rw [ByteArray.toList_eq]
      cases h : s.data.toList with
      | nil => rw [h] at hl; simp at hl; omega
      | cons a b => rfl
    by_cases h9 : 9 < s.size
    · have hb : Hid (badHead s.data.toList = true) := by
        show badHead _ = true
        simp [badHead]; omega
      clear hl
      go_enter Tryz.func87, Tryz.ntmps87
      go_wp2_with fail
      go_ret2
      exact ⟨(num_bad hb.out).symm, rfl⟩
    · have hpos : 0 < s.size := by omega
      have hhead : s.data.toList.head? = some s[0] := by
        rw [List.head?_eq_getElem?, List.getElem?_eq_getElem (by simpa using hpos)]; rfl
      have hnil : s.data.toList ≠ [] := by intro e; rw [e] at hl; simp at hl; omega
      by_cases hz : ((s[0].toNat : Int) = 48 ∧ 1 < s.size)
      · have hb : Hid (badHead s.data.toList = true) := by
          show badHead _ = true
          have h1 : s[0] = 48 := UInt8.toNat_inj.1 (by have := hz.1; simpa using (by omega : s[0].toNat = 48))
          simp only [badHead, hhead, h1]
          have h2 := hz.2
          simp; omega
        obtain ⟨hz1, hz2⟩ := hz
        have hz3 : ((s[0].toNat : Int) == 48) = true := by simp [hz1]
        clear hl hhead hnil hz1
        go_enter Tryz.func87, Tryz.ntmps87
        go_wp2_with fail
        go_ret2
        exact ⟨(num_bad hb.out).symm, rfl⟩
      · have hb : Hid (badHead s.data.toList = false) := by
          show badHead _ = false
          have h2 : ¬ (s[0] = 48 ∧ 1 < s.size) := fun h => hz ⟨by rw [h.1]; rfl, h.2⟩
          simp only [badHead, hhead]
          have h3 : decide (s.data.toList = []) = false := by simpa using hnil
          rw [h3]
          simp
          refine ⟨by omega, fun h => ?_⟩
          have h4 : ¬ 1 < s.size := fun h' => h2 ⟨h, h'⟩
          omega
        clear hl hhead hnil
        by_cases hz1 : 1 < s.size
        all_goals
          have hzz : (1 < s.size → ((s[0].toNat : Int) == 48) = false) := fun h => by
            simp only [beq_eq_false_iff_ne]; exact fun e => hz ⟨e, h⟩
          cases hz2 : ((s[0].toNat : Int) == 48)
          all_goals first | (exfalso; have := hzz hz1; rw [hz2] at this; exact Bool.noConfusion this) | skip
          all_goals
            clear hzz hz
            go_enter Tryz.func87, Tryz.ntmps87
            go_wp2_with fail
            go_loop [4, 25] (fun vn vi => ∃ k : Nat, k ≤ s.size ∧ vi = .int .i64 k ∧ vn = .int .i64 (numVal (s.data.toList.take k) : Nat) ∧ (s.data.toList.take k).all isDig = true) (fun _ vi => s.size - (intOf vi).toNat)
            case atStart => exact ⟨0, by omega, rfl, rfl, rfl⟩
            case round =>
              obtain ⟨k, hk, rfl, rfl, hd⟩ := hrel
              by_cases hlt : k < s.size
              · have hle := numVal_le (l := s.data.toList.take k) (by simp; omega) hd
                have HD := hide hd
                clear hd
                have hts := hide (take_byte s k hlt)
                have hval : ∀ x : Bool, Lx.isDigit ((s[k].toNat : Int)) = x → isDig s[k] = x := fun x h => by
                  rw [← h]
                  by_cases h1 : (s[k].toNat : Int) < 48
                  · rw [dig_false (.inl h1)]; simp [Lx.isDigit]; omega
                  · by_cases h2 : 57 < (s[k].toNat : Int)
                    · rw [dig_false (.inr h2)]; simp [Lx.isDigit]; omega
                    · rw [(isDig_iff s[k]).2 ⟨by omega, by omega⟩]; simp [Lx.isDigit]; omega
                cases hdg : Lx.isDigit ((s[k].toNat : Int))
                · have hr := hide (num_nodig hlt (hval _ hdg))
                  have Hg := hide hdg
                  clear hdg hval
                  go_wp2_with (go_at_call 27; refine (NmA.pdigit_any _ _).mono ?_; rintro e w' ⟨rfl, rfl⟩; rw [Hg.out])
                  go_ret2
                  exact ⟨hr.out.symm, rfl⟩
                · have hd1 := hide (hval _ hdg)
                  obtain ⟨h1, h2⟩ := (isDig_iff s[k]).1 (hval _ hdg)
                  have Hg := hide hdg
                  clear hdg hval
                  go_wp2_with (go_at_call 27; refine (NmA.pdigit_any _ _).mono ?_; rintro e w' ⟨rfl, rfl⟩; rw [Hg.out])
                  go_round
                  case rel =>
                    refine ⟨k + 1, by omega, by go_num, ?_, ?_⟩
                    · rw [hts.out, numVal_snoc]; go_num
                    · rw [hts.out, List.all_append, HD.out]
                      simp [hd1.out]
                  case measure => simp [intOf]; omega
              · obtain rfl : k = s.size := by omega
                have htake : s.data.toList.take s.size = s.data.toList := List.take_of_length_le (by simp)
                rw [htake] at hd ⊢
                have hr := hide (num_good hb.out hd)
                clear hd htake
                go_wp2_with fail
                go_ret2
                exact ⟨hr.out.symm, rfl⟩
def isUp (c : UInt8) : Bool := 65 ≤ c && c ≤ 90
def codeB (l : List UInt8) : Bool := l.all isUp && decide (l.length = 3)
theorem isUp_iff (c : UInt8) : isUp c = true ↔ 65 ≤ (c.toNat : Int) ∧ (c.toNat : Int) ≤ 90 := by
  simp [isUp, UInt8.le_iff_toNat_le]
  omega
theorem up_false {c : UInt8} (h : (c.toNat : Int) < 65 ∨ 90 < (c.toNat : Int)) : isUp c = false := by
  rw [Bool.eq_false_iff]; intro hc; have := (isUp_iff c).1 hc; omega
theorem code_bad {s : ByteArray} {k : Nat} (hk : k < s.size) (h : isUp s[k] = false) : codeB s.data.toList = false := by
  have : s.data.toList.all isUp = false := by
    rw [List.all_eq_false]; exact ⟨s[k], by rw [ByteArray.getElem_eq_getElem_data]; exact Array.mem_toList_iff.2 (Array.getElem_mem _), by simp [h]⟩
  unfold codeB; rw [this]; rfl
theorem code_end {s : ByteArray} (h : s.data.toList.all isUp = true) : codeB s.data.toList = ((s.size : Int) == 3) := by
  have hl : s.data.toList.length = s.size := by simp
  unfold codeB; rw [h, hl, Bool.true_and]; by_cases h3 : s.size = 3 <;> simp [h3] <;> omega
set_option maxHeartbeats 2000000 in
theorem code_any (s : ByteArray) (w : World) (hs : s.size ≤ maxLen) :
    Calls Tryz.prog 32 #[.string s] w fun e w' => e = .returned (.bool (codeB s.data.toList)) ∧ w = w' := by
  unfold maxLen at hs
  go_enter Tryz.func32, Tryz.ntmps32
  go_wp2_with fail
  go_loop [6] (fun vi => ∃ k : Nat, k ≤ s.size ∧ vi = .int .i64 k ∧ (s.data.toList.take k).all isUp = true) (fun vi => s.size - (intOf vi).toNat)
  case atStart => exact ⟨0, by omega, rfl, rfl⟩
  case round =>
    obtain ⟨k, hk, rfl, hd⟩ := hrel
    have HD := hide hd
    clear hd
    by_cases hlt : k < s.size
    · have hts := hide (take_byte s k hlt)
      by_cases h1 : (s[k].toNat : Int) < 65
      · have hr := hide (code_bad hlt (up_false (.inl h1)))
        go_wp2_with fail
        go_ret
        exact ⟨NmA.nret hr.out.symm, rfl⟩
      · by_cases h2 : 90 < (s[k].toNat : Int)
        · have hr := hide (code_bad hlt (up_false (.inr h2)))
          go_wp2_with fail
          go_ret
          exact ⟨NmA.nret hr.out.symm, rfl⟩
        · go_wp2_with fail
          go_round
          case rel =>
            refine ⟨k + 1, by omega, by go_num, ?_⟩
            rw [hts.out, List.all_append, HD.out]
            have := (isUp_iff s[k]).2 ⟨by omega, by omega⟩
            simp [this]
          case measure => simp [intOf]; omega
    · obtain rfl : k = s.size := by omega
      have htake : s.data.toList.take s.size = s.data.toList := List.take_of_length_le (by simp)
      have hr := hide (code_end (by rw [← htake]; exact HD.out))
      clear htake
      go_wp2_with fail
      go_ret
      exact ⟨NmA.nret hr.out.symm, rfl⟩
set_option maxHeartbeats 2000000 in
theorem rcode_any (s : ByteArray) (w : World) (hs : s.size ≤ maxLen) :
    Calls Tryz.prog 34 #[.string s] w fun e w' => e = .returned (.bool (codeB s.data.toList)) ∧ w = w' := by
  unfold maxLen at hs
  go_enter Tryz.func34, Tryz.ntmps34
  go_wp2_with fail
  go_loop [3] (fun vi => ∃ k : Nat, k ≤ s.size ∧ vi = .int .i64 k ∧ (s.data.toList.take k).all isUp = true) (fun vi => s.size - (intOf vi).toNat)
  case atStart => exact ⟨0, by omega, rfl, rfl⟩
  case round =>
    obtain ⟨k, hk, rfl, hd⟩ := hrel
    have HD := hide hd
    clear hd
    by_cases hlt : k < s.size
    · have hts := hide (take_byte s k hlt)
      by_cases h1 : (s[k].toNat : Int) < 65
      · have hr := hide (code_bad hlt (up_false (.inl h1)))
        go_wp2_with fail
        go_ret
        exact ⟨NmA.nret hr.out.symm, rfl⟩
      · by_cases h2 : 90 < (s[k].toNat : Int)
        · have hr := hide (code_bad hlt (up_false (.inr h2)))
          go_wp2_with fail
          go_ret
          exact ⟨NmA.nret hr.out.symm, rfl⟩
        · go_wp2_with fail
          go_round
          case rel =>
            refine ⟨k + 1, by omega, by go_num, ?_⟩
            rw [hts.out, List.all_append, HD.out]
            have := (isUp_iff s[k]).2 ⟨by omega, by omega⟩
            simp [this]
          case measure => simp [intOf]; omega
    · obtain rfl : k = s.size := by omega
      have htake : s.data.toList.take s.size = s.data.toList := List.take_of_length_le (by simp)
      have hr := hide (code_end (by rw [← htake]; exact HD.out))
      clear htake
      go_wp2_with fail
      go_ret
      exact ⟨NmA.nret hr.out.symm, rfl⟩
theorem within_any (n m : Int) (w : World) : Calls Tryz.prog 31 #[.int .i64 n, .int .i64 m] w fun e w' => e = .returned (.bool (decide (0 ≤ n) && decide (n ≤ m))) ∧ w = w' := by
  by_cases h1 : 0 ≤ n <;> by_cases h2 : n ≤ m
  all_goals
    go_enter Tryz.func31, Tryz.ntmps31
    go_wp2_with fail
    go_ret
    exact ⟨by simp [h1, h2], rfl⟩

theorem day_any (n : Int) (w : World) : Calls Tryz.prog 36 #[.int .i64 n] w fun e w' => e = .returned (.bool (decide (0 ≤ n) && decide (n ≤ 1048576))) ∧ w = w' := by
  by_cases h1 : 0 ≤ n <;> by_cases h2 : n ≤ 1048576
  all_goals
    go_enter Tryz.func36, Tryz.ntmps36
    go_wp2_with fail
    go_ret
    exact ⟨by simp [h1, h2], rfl⟩
end Go.Proofs.YtghbhchkdomfhaaGreatDoor.PfB
namespace Go.Proofs.YtghbhchkdomfhaaGreatDoor.PfA
open RnQ RnR RnP PfS PfB
def str (l : List UInt8) : ByteArray := ⟨l.toArray⟩
/-- a document, with the raw fields of its numbers -/
structure Dc where
  id : ByteArray
  est : Int
  cred : Int
  code : ByteArray
  neg : Bool
  num : ByteArray
  den : ByteArray
  inc : Int
  rank : Int
  rneg : Bool
  rnum : ByteArray
  rden : ByteArray
  rfrom : Int
  sec : Int
def newDc (id : ByteArray) : Dc := ⟨id, 0, 0, ⟨#[]⟩, false, ⟨#[]⟩, ⟨#[]⟩, 0, 0, false, ⟨#[]⟩, ⟨#[]⟩, 0, -1⟩
/-- the fourteen values of a document -/
def Dc.vals (x : Dc) : List Value := [.string x.id, .int .i64 x.est, .int .i64 x.cred, .string x.code, .bool x.neg, .string x.num, .string x.den, .int .i64 x.inc, .int .i64 x.rank, .bool x.rneg, .string x.rnum, .string x.rden, .int .i64 x.rfrom, .int .i64 x.sec]
def wd (W : List (List UInt8)) (i : Nat) : List UInt8 := W.getD i []
def kProof : List UInt8 := [112, 114, 111, 111, 102]
def kEstate : List UInt8 := [101, 115, 116, 97, 116, 101]
def kCreditor : List UInt8 := [99, 114, 101, 100, 105, 116, 111, 114]
def kAmount : List UInt8 := [97, 109, 111, 117, 110, 116]
def kIncurred : List UInt8 := [105, 110, 99, 117, 114, 114, 101, 100]
def kRank : List UInt8 := [114, 97, 110, 107]
def kInterest : List UInt8 := [105, 110, 116, 101, 114, 101, 115, 116]
def kSecured : List UInt8 := [115, 101, 99, 117, 114, 101, 100]
def kFrom : List UInt8 := [102, 114, 111, 109]
/-- which line a first word begins: 0 none, 1 proof .. 8 secured -/
def kindOf (w : List UInt8) : Nat :=
  if w = kProof then 1 else if w = kEstate then 2 else if w = kCreditor then 3 else if w = kAmount then 4 else if w = kIncurred then 5 else if w = kRank then 6 else if w = kInterest then 7 else if w = kSecured then 8 else 0
/-- a number that must not be negative, and a code -/
def amtP (w : List UInt8) : Rat × Int := if (parseQ w).2 = 0 ∧ sgnQ (parseQ w).1 < 0 then ((parseQ w).1, 7) else parseQ w
def mostK (k : Nat) : Nat := if k = 3 then 31 else if k = 5 then 1048576 else 7
def setK (k : Nat) (n : Nat) (d : Dc) : Dc :=
  if k = 2 then { d with est := n } else if k = 3 then { d with cred := n } else if k = 5 then { d with inc := n } else if k = 6 then { d with rank := n } else { d with sec := n }
/-- what a line changes in its document: a code, and the document -/
def amountD (W : List (List UInt8)) (d : Dc) : Int × Dc :=
  if W.length ≠ 3 then (10, d)
  else if codeB (wd W 1) = false then (8, d)
  else if (amtP (wd W 2)).2 ≠ 0 then ((amtP (wd W 2)).2, d)
  else (0, { d with code := str (wd W 1), neg := negB (amtP (wd W 2)).1, num := str (encN (amtP (wd W 2)).1), den := str (encD (amtP (wd W 2)).1) })
def interestD (W : List (List UInt8)) (d : Dc) : Int × Dc :=
  if W.length ≠ 4 ∨ wd W 2 ≠ kFrom then (10, d)
  else match numOf (wd W 3) with
    | none => (10, d)
    | some n => if (amtP (wd W 1)).2 ≠ 0 then ((amtP (wd W 1)).2, d)
      else if 1048576 < n ∨ sgnQ (amtP (wd W 1)).1 = 0 then (1, d)
      else (0, { d with rneg := negB (amtP (wd W 1)).1, rnum := str (encN (amtP (wd W 1)).1), rden := str (encD (amtP (wd W 1)).1), rfrom := n })
def integerD (k : Nat) (W : List (List UInt8)) (d : Dc) : Int × Dc :=
  if W.length ≠ 2 then (10, d)
  else match numOf (wd W 1) with
    | none => (10, d)
    | some n => if mostK k < n then (1, d) else (0, setK k n d)
def fieldD (k : Nat) (W : List (List UInt8)) (d : Dc) : Int × Dc :=
  if k = 4 then amountD W d else if k = 7 then interestD W d else integerD k W d
/-- a reader: the documents, and the line that may follow (0 estate .. 7 none) -/
structure Rdr where
  list : List Dc
  at_ : Nat
def Rdr.complete (r : Rdr) : Bool := decide (r.list = []) || decide (5 ≤ r.at_)
/-- a first line -/
def firstD (W : List (List UInt8)) (r : Rdr) : Int × Rdr :=
  if W.length ≠ 2 ∨ r.complete = false then (10, r)
  else if NmA.nmB (str (wd W 1)) = false then (11, r)
  else if r.list.any (fun d => decide (d.id = str (wd W 1))) = true then (12, r)
  else if 64 ≤ r.list.length then (2, r)
  else (0, ⟨r.list ++ [newDc (str (wd W 1))], 0⟩)
def lastD (l : List Dc) : Dc := l.getLast?.getD (newDc ⟨#[]⟩)
/-- a line -/
def lineD (W : List (List UInt8)) (r : Rdr) : Int × Rdr :=
  let k := kindOf (wd W 0)
  if k = 1 then firstD W r
  else if r.list = [] ∨ k = 0 ∨ ¬ (k - 2 = r.at_ ∨ (r.at_ < k - 2 ∧ 5 ≤ r.at_)) then (10, r)
  else ((fieldD k W (lastD r.list)).1, ⟨r.list.dropLast ++ [(fieldD k W (lastD r.list)).2], k - 1⟩)
/-- lines, from the one numbered i: the first error's line and code -/
def linesD : List (List UInt8) → Nat → Rdr → (Nat × Int) × Rdr
  | [], _, r => ((0, 0), r)
  | s :: l, i, r => if (lineD (splA 32 [] s) r).1 ≠ 0 then ((i + 1, (lineD (splA 32 [] s) r).1), r) else linesD l (i + 1) (lineD (splA 32 [] s) r).2
/-- what Parse returns: documents, line, code -/
def parseOf (s : List UInt8) : List Dc × Nat × Int :=
  let L := splA 10 [] s
  if 8192 < s.length ∨ 512 < (if L.getLast?.getD [] = [] then L.length - 1 else L.length) then ([], 0, 2)
  else
    let p := linesD L.dropLast 0 ⟨[], 0⟩
    if p.1.2 ≠ 0 then ([], p.1.1, p.1.2)
    else if L.getLast?.getD [] ≠ [] ∨ p.2.complete = false then ([], L.length, 10)
    else (p.2.list, 0, 0)
end Go.Proofs.YtghbhchkdomfhaaGreatDoor.PfA
namespace Go.Proofs.YtghbhchkdomfhaaGreatDoor.PfC
open Go.RowKit RoL RnA RnB RnW RnD RnQ RnR RnP RtA RpB RpC RpF RpH PfS PfB PfA
theorem mk_bd (s : Bool) {n d B : Nat} (hd : d ≠ 0) (h1 : n < B) (h2 : d < B) : nm (mk s n d) < B ∧ (mk s n d).den < B := by
  rw [nm_mk s n d hd, den_mk s n d hd]
  exact ⟨Nat.lt_of_le_of_lt (Nat.div_le_self _ _) h1, Nat.lt_of_le_of_lt (Nat.div_le_self _ _) h2⟩
theorem pow_up {a b : Nat} (h : a ≤ b) : (10 : Nat) ^ a ≤ 10 ^ b := Nat.pow_le_pow_right (by omega) h
theorem read_bd (neg : Bool) (l : List UInt8) (M : Nat) (hM : 2000 = M) : nm (readQ neg l).1 < 10 ^ (M + M + 1) ∧ (readQ neg l).1.den < 10 ^ (M + M + 1) := by
  have h1 : (10 : Nat) ^ 1 ≤ 10 ^ (M + M + 1) := pow_up (by omega)
  have h0 : nm (0 : Rat) < 10 ^ (M + M + 1) ∧ (0 : Rat).den < 10 ^ (M + M + 1) := by
    refine ⟨?_, ?_⟩
    · rw [nm_zero.2 rfl]; omega
    · show 1 < _; omega
  have h2 : (10 : Nat) ^ M ≤ 10 ^ (M + M + 1) := pow_up (by omega)
  unfold readQ
  split
  · split
    · rename_i h
      split
      · exact h0
      · rename_i hl
        simp only [not_or, Nat.not_lt] at hl
        have ha := dec_lt (isInt_digs h.1)
        have hb := dec_lt h.2.1
        have hp : (10 : Nat) ^ (behind 46 l).length ≤ 10 ^ M := pow_up (by omega)
        have hq : (10 : Nat) ^ (upTo 46 l).length ≤ 10 ^ M := pow_up (by omega)
        have h3 : (10 : Nat) ^ (M + M + 1) = 10 ^ M * 10 ^ M * 10 := by rw [← Nat.pow_add, ← Nat.pow_succ]
        have hpos : 0 < (10 : Nat) ^ (behind 46 l).length := Nat.pow_pos (by omega)
        have hm : (dec (upTo 46 l) + 1) * 10 ^ (behind 46 l).length ≤ 10 ^ M * 10 ^ M := Nat.mul_le_mul (by omega) hp
        rw [Nat.add_mul, Nat.one_mul] at hm
        exact mk_bd neg (by omega) (by omega) (by omega)
    · exact h0
  · split
    · split
      · rename_i h
        split
        · exact h0
        · rename_i hl
          split
          · exact h0
          · simp only [not_or, Nat.not_lt] at hl
            have ha := dec_lt (isInt_digs h.1)
            have hb := dec_lt (isInt_digs h.2)
            have hp : (10 : Nat) ^ (behind 47 l).length ≤ 10 ^ M := pow_up (by omega)
            have hq : (10 : Nat) ^ (upTo 47 l).length ≤ 10 ^ M := pow_up (by omega)
            by_cases hd : dec (behind 47 l) = 0
            · rw [hd]
              have : mk neg (dec (upTo 47 l)) 0 = 0 := by unfold mk; exact Rat.mkRat_zero _
              rw [this]; exact h0
            · exact mk_bd neg hd (by omega) (by omega)
      · exact h0
    · split
      · rename_i h
        split
        · exact h0
        · rename_i hl
          have ha := dec_lt (isInt_digs h)
          have hq : (10 : Nat) ^ l.length ≤ 10 ^ M := pow_up (by omega)
          exact mk_bd neg (by omega) (by omega) (by omega)
      · exact h0
theorem parse_bd (l : List UInt8) (M : Nat) (hM : 2000 = M) : nm (parseQ l).1 < 10 ^ (M + M + 1) ∧ (parseQ l).1.den < 10 ^ (M + M + 1) := by
  unfold parseQ
  split
  · exact read_bd _ _ _ hM
  · exact read_bd _ _ _ hM
theorem parse_sz (l : List UInt8) : (bs (nm (parseQ l).1)).size ≤ 4001 ∧ (dstr (parseQ l).1).size ≤ 4001 := by
  obtain ⟨M, hM⟩ : ∃ M, 2000 = M := ⟨_, rfl⟩
  obtain ⟨h1, h2⟩ := parse_bd l M hM
  have h3 := bs_pow h1
  refine ⟨by omega, ?_⟩
  unfold dstr encD
  rw [st_size]
  split
  · exact Nat.zero_le _
  · refine Nat.le_trans (bytesOf_len_le (Nat.lt_of_lt_of_le h2 (Nat.pow_le_pow_left (by omega) _))) (by omega)
theorem amt_bad {l : List UInt8} (h : (parseQ l).2 ≠ 0) : amtP l = parseQ l := by unfold amtP; rw [if_neg (by simp [h])]
theorem amt_neg {l : List UInt8} (h : (parseQ l).2 = 0) (h1 : sgnQ (parseQ l).1 < 0) : amtP l = ((parseQ l).1, 7) := by unfold amtP; rw [if_pos ⟨h, h1⟩]
theorem amt_ok {l : List UInt8} (h : (parseQ l).2 = 0) (h1 : ¬ sgnQ (parseQ l).1 < 0) : amtP l = ((parseQ l).1, 0) := by
  unfold amtP; rw [if_neg (by simp [h1])]; exact Prod.ext rfl h
set_option maxHeartbeats 4000000 in
set_option maxRecDepth 100000 in
theorem amt_any (s : ByteArray) (w : World) (hs : s.size ≤ 50000) (he : Env w) :
    Calls Tryz.prog 86 #[.string s] w (RCPost (amtP s.data.toList) w) := by
  have HP := Lib.hid (fun w he => RpF.parse_any s w hs he)
  obtain ⟨hz1, hz2⟩ := parse_sz s.data.toList
  have HA := @amt_bad s.data.toList
  have HB := @amt_neg s.data.toList
  have HC := @amt_ok s.data.toList
  unfold RCPost at HP ⊢
  generalize amtP s.data.toList = r at *
  generalize parseQ s.data.toList = p at *
  obtain ⟨q, c⟩ := p
  dsimp only at hz1 hz2 HA HB HC HP
  have HSG := Lib.hid (fun w => RpI.sign_any (negB q) (bs (nm q)) (dstr q) w (by omega) (by omega))
  rw [fix_self] at HSG
  obtain ⟨V0, hV0, HJ, hB0, hl0⟩ := box_new w (.bool false) (.string ⟨#[]⟩) (.string ⟨#[]⟩)
  have HB0 := hide hB0
  have HE := hide (he.below hB0)
  have HEN := hide (enc_open q)
  rw [enc_open] at HP
  clear he hB0 hz1 hz2
  go_enter Tryz.func86, Tryz.ntmps86
  go_wp2_with fail
  refine (HP.out _ HE.out).mono ?_
  rintro e w1 ⟨rfl, hb1⟩
  obtain ⟨V2, hV2, HX, hB2, hl2⟩ := box_new w1 (.bool (negB q)) (.string (bs (nm q))) (.string (dstr q))
  have hj2 := hb1.trans (hB2.mono hb1.size)
  have HJ2 := hide (HJ.out.keep hj2 hl0)
  have HBF := hide (HB0.out.trans (hj2.mono (Nat.le_of_lt hl0)))
  have HJL := hide (show w.heap.size < w1.heap.size by have := hb1.size; omega)
  obtain ⟨m0, m1, m2, _⟩ := HX.out
  by_cases h0 : c = 0
  · subst h0
    have HSS := Lib.hid (HSG.out V2)
    rcases (Classical.em (sgnQ q < 0)) with hq | hq
    · have hr := HB rfl hq
      subst hr
      have hl2' : w.heap.size < V2.heap.size := by have := HJL.out; omega
      clear HA HB HC hj2 hb1 hB2 HSG
      go_wp2_with fail
      refine HSS.out.mono ?_
      rintro e w3 ⟨rfl, hb3⟩
      replace HJ2 := hide (HJ2.out.keep hb3 hl2')
      have HX3 := hide (HX.out.keep hb3 hl2)
      have HB3 := hide (HBF.out.trans (hb3.mono HBF.out.size))
      obtain ⟨n0, n1, n2, _⟩ := HX3.out
      obtain ⟨c0, c1, c2, f0, f1, f2⟩ := HJ2.out
      clear hb3 m0 m1 m2
      go_wp2_with fail
      refine bodyPost_ret (results_rat2 rfl _ rfl (HJ2.out.set3 _ _ _)) rfl ?_
      exact ⟨by rw [HEN.out]; rfl, below_set3 HB3.out (Nat.le_refl _) _ _ _⟩
    · have hr := HC rfl (by omega)
      subst hr
      have hl2' : w.heap.size < V2.heap.size := by have := HJL.out; omega
      clear HA HB HC hj2 hb1 hB2 HSG
      go_wp2_with fail
      refine HSS.out.mono ?_
      rintro e w3 ⟨rfl, hb3⟩
      replace HJ2 := hide (HJ2.out.keep hb3 hl2')
      have HX3 := hide (HX.out.keep hb3 hl2)
      have HB3 := hide (HBF.out.trans (hb3.mono HBF.out.size))
      obtain ⟨n0, n1, n2, _⟩ := HX3.out
      obtain ⟨c0, c1, c2, f0, f1, f2⟩ := HJ2.out
      clear hb3 m0 m1 m2
      go_wp2_with fail
      refine bodyPost_ret (results_rat2 rfl _ rfl (HJ2.out.set3 _ _ _)) rfl ?_
      exact ⟨by rw [HEN.out]; rfl, below_set3 HB3.out (Nat.le_refl _) _ _ _⟩
  · have hr := HA h0
    subst hr
    have hc0 : (c == 0) = false := by simpa using h0
    clear HA HB HC hj2 hb1 hB2 HSG h0
    obtain ⟨c0, c1, c2, f0, f1, f2⟩ := HJ2.out
    go_wp2_with fail
    refine bodyPost_ret (results_rat2 rfl _ rfl (HJ2.out.set3 _ _ _)) rfl ?_
    exact ⟨by rw [HEN.out]; rfl, below_set3 HBF.out (Nat.le_refl _) _ _ _⟩
end Go.Proofs.YtghbhchkdomfhaaGreatDoor.PfC
namespace Go.Proofs.YtghbhchkdomfhaaGreatDoor.PfD
open Go.RowKit Wd RoL RnW RnQ RnR RnP RtA RpC RpF PqB PfS PfB PfA PfC
/-- a block that is known whole, with its type -/
def BlkT (w : World) (g : Nat) (T : TypeId) (L : List Value) : Prop := w.heap[g]? = some (.cells L.toArray T (0, 0))
section
variable {g k : Nat} {T : TypeId} {w w' : World} {L : List Value}
theorem BlkT.blk (h : BlkT w g T L) : Blk w g L := ⟨T, h⟩
theorem BlkT.lt (h : BlkT w g T L) : g < w.heap.size := h.blk.lt
theorem BlkT.cell (h : BlkT w g T L) {i : Nat} {v : Value} (hv : L[i]? = some v) : w.cell? ⟨g, i, none⟩ = some v := h.blk.cell hv
theorem BlkT.frozen (h : BlkT w g T L) (i : Nat) : w.frozen? ⟨g, i, none⟩ = false := h.blk.frozen i
theorem BlkT.set (h : BlkT w g T L) (i : Nat) (v : Value) : BlkT (w.setCell ⟨g, i, none⟩ v) g T (L.set i v) := by
  unfold BlkT at h ⊢
  simp [World.setCell, Array.getElem?_modify, h]
theorem BlkT.below (h : BlkT w g T L) (hb : Below w.heap.size w w') : BlkT w' g T L := (hb.block g h.lt).trans h
theorem BlkT.kept (h : BlkT w g T L) (hb : Kept k w w') (hk : g ≠ k) : BlkT w' g T L := (hb.block g h.lt hk).trans h
end
theorem set_mid (pre xs post : List Value) (j : Nat) (v : Value) (hj : j < xs.length) : (pre ++ xs ++ post).set (pre.length + j) v = pre ++ xs.set j v ++ post := by
  rw [List.append_assoc, List.set_append_right _ _ (by omega), List.append_assoc]
  congr 1
  rw [show pre.length + j - pre.length = j by omega, List.set_append_left _ _ hj]
theorem get_mid (pre xs post : List Value) (j : Nat) (hj : j < xs.length) : (pre ++ xs ++ post)[pre.length + j]? = xs[j]? := by
  rw [List.append_assoc, List.getElem?_append_right (by omega), show pre.length + j - pre.length = j by omega, List.getElem?_append_left hj]
/-- what a function that enters a line into a document leaves -/
def FieldP (r : Int × Dc) (T : TypeId) (g : Nat) (pre post : List Value) (w : World) (e : Ending) (w' : World) : Prop :=
  e = .returned (.int .i64 r.1) ∧ Kept g w w' ∧ BlkT w' g T (pre ++ r.2.vals ++ post)
theorem tl_str (w L : List UInt8) : ((str w).toList == L) = decide (w = L) := by
  rw [ByteArray.toList_eq]
  by_cases h : w = L
  · subst h; simp [str]
  · simp [str, h]
theorem str_size (w : List UInt8) : (str w).size = w.length := by simp [str, ByteArray.size]
theorem two_of {α : Type} {l : List α} (h : l.length = 2) : ∃ a b, l = [a, b] := by
  match l, h with
  | [a, b], _ => exact ⟨a, b, rfl⟩
theorem strs_two {P : Nat → Prop} {w : World} {A : Option Addr} {c : Nat} {a b : ByteArray} (h : Strs P w A c [a, b]) : ∃ B off, A = some ⟨B, off, none⟩ ∧ B < w.heap.size ∧ P B ∧ w.cell? ⟨B, off, none⟩ = some (.string a) ∧ w.cell? ⟨B, off + 1, none⟩ = some (.string b) := by
  obtain ⟨B, off, e, hb, hP, hc⟩ := h.2 (by simp)
  exact ⟨B, off, e, hb, hP.1, hc 0 a rfl, hc 1 b rfl⟩
theorem kind_word {w : List UInt8} {k : Nat} (hk : kindOf w = k) (h0 : k ≠ 0) : w = (if k = 1 then kProof else if k = 2 then kEstate else if k = 3 then kCreditor else if k = 4 then kAmount else if k = 5 then kIncurred else if k = 6 then kRank else if k = 7 then kInterest else kSecured) := by
  unfold kindOf at hk
  repeat' split at hk
  all_goals (subst hk; first | assumption | exact absurd rfl h0)
set_option maxHeartbeats 4000000 in
set_option maxRecDepth 100000 in
theorem integer_any (k : Nat) (W : List (List UInt8)) (d : Dc) (T : TypeId) (g : Nat) (pre post : List Value) (A : Option Addr) (c : Nat) (w : World) (hk : kindOf (wd W 0) = k) (hk1 : k = 2 ∨ k = 3 ∨ k = 5 ∨ k = 6 ∨ k = 8)
    (hS : Strs (· ≠ g) w A c (W.map str)) (hW : ∀ x ∈ W, x.length ≤ 8192) (hl : W.length ≤ 9000) (hB : BlkT w g T (pre ++ d.vals ++ post)) :
    Calls Tryz.prog 62 #[.pointer (some ⟨g, pre.length, none⟩), .slice A W.length c] w (FieldP (integerD k W d) T g pre post w) := by
  by_cases h2 : W.length = 2
  · obtain ⟨w0, w1, rfl⟩ := two_of h2
    clear h2
    have hw1 : (str w1).size ≤ 8192 := by rw [str_size]; exact hW w1 (by simp)
    have HN := Lib.hid (fun w => number_any (str w1) w hw1)
    rw [show (str w1).data.toList = w1 from rfl] at HN
    change Calls _ _ #[.pointer (some ⟨g, pre.length, none⟩), .slice A 2 c] _ _
    change Strs (· ≠ g) w A c [str w0, str w1] at hS
    obtain ⟨B, off, rfl, hBl, hne, c0, c1⟩ := strs_two hS
    have hkw := kind_word hk (by omega)
    change w0 = _ at hkw
    have hD : integerD k [w0, w1] d = match numOf w1 with | none => (10, d) | some n => if mostK k < n then (1, d) else (0, setK k n d) := rfl
    have HB := hide hB
    unfold FieldP
    have t1 := tl_str w0 kCreditor
    have t2 := tl_str w0 kIncurred
    have t3 := tl_str w0 kRank
    have t4 := tl_str w0 kSecured
    unfold kCreditor at t1
    unfold kIncurred at t2
    unfold kRank at t3
    unfold kSecured at t4
    generalize str w0 = s0 at *
    generalize str w1 = s1 at *
    cases hn : numOf w1 with
    | none =>
      rw [hn] at HN hD
      have HD := hide hD
      unfold NumRet at HN
      clear t1 t2 t3 t4 hk hk1 hkw hS hW hB hD hn hl
      go_enter Tryz.func62, Tryz.ntmps62
      go_wp2_with fail
      refine (HN.out _).mono ?_
      rintro e w2 ⟨rfl, rfl⟩
      go_wp2_with fail
      go_ret
      rw [HD.out]
      exact ⟨rfl, Kept.refl _ _, HB.out⟩
    | some n =>
      have hle := numOf_le hn
      rw [hn] at HN hD
      dsimp only at hD
      unfold NumRet at HN
      rcases hk1 with rfl | rfl | rfl | rfl | rfl
      · have hkw : w0 = kEstate := hkw
        subst hkw
        replace t1 := t1.trans (show _ = false by decide)
        replace t2 := t2.trans (show _ = false by decide)
        replace t3 := t3.trans (show _ = false by decide)
        replace t4 := t4.trans (show _ = false by decide)
        have fr1 := hB.frozen (pre.length + 1)
        have cl1 := hB.cell (get_mid pre d.vals post 1 (by show 1 < 14; omega))
        change w.cell? _ = some (.int .i64 d.est) at cl1
        have hst := hB.set (pre.length + 1) (.int .i64 (n : Int))
        rw [set_mid pre d.vals post 1 _ (by show 1 < 14; omega)] at hst
        have HST := hide hst
        by_cases hm : 7 < n
        · have HD : Hid (integerD 2 [kEstate, w1] d = (1, d)) := by
            show _ = _
            rw [hD]; exact if_pos hm
          clear hS hW hB hD hn hk hl hst
          go_enter Tryz.func62, Tryz.ntmps62
          go_wp2_with fail
          refine (HN.out _).mono ?_
          rintro e w2 ⟨rfl, rfl⟩
          go_wp2_with fail
          go_ret
          rw [HD.out]
          exact ⟨rfl, Kept.refl _ _, HB.out⟩
        · have HD : Hid (integerD 2 [kEstate, w1] d = (0, setK 2 n d)) := by
            show _ = _
            rw [hD]; exact if_neg hm
          clear hS hW hB hD hn hk hl hst
          go_enter Tryz.func62, Tryz.ntmps62
          go_wp2_with fail
          refine (HN.out _).mono ?_
          rintro e w2 ⟨rfl, rfl⟩
          go_wp2_with fail
          go_ret
          rw [HD.out]
          exact ⟨rfl, (Kept.refl g _).setCell _ _, HST.out⟩
      · have hkw : w0 = kCreditor := hkw
        subst hkw
        replace t1 := t1.trans (show _ = true by decide)
        replace t2 := t2.trans (show _ = false by decide)
        replace t3 := t3.trans (show _ = false by decide)
        replace t4 := t4.trans (show _ = false by decide)
        have fr1 := hB.frozen (pre.length + 2)
        have cl1 := hB.cell (get_mid pre d.vals post 2 (by show 2 < 14; omega))
        change w.cell? _ = some (.int .i64 d.cred) at cl1
        have hst := hB.set (pre.length + 2) (.int .i64 (n : Int))
        rw [set_mid pre d.vals post 2 _ (by show 2 < 14; omega)] at hst
        have HST := hide hst
        by_cases hm : 31 < n
        · have HD : Hid (integerD 3 [kCreditor, w1] d = (1, d)) := by
            show _ = _
            rw [hD]; exact if_pos hm
          clear hS hW hB hD hn hk hl hst
          go_enter Tryz.func62, Tryz.ntmps62
          go_wp2_with fail
          refine (HN.out _).mono ?_
          rintro e w2 ⟨rfl, rfl⟩
          go_wp2_with fail
          go_ret
          rw [HD.out]
          exact ⟨rfl, Kept.refl _ _, HB.out⟩
        · have HD : Hid (integerD 3 [kCreditor, w1] d = (0, setK 3 n d)) := by
            show _ = _
            rw [hD]; exact if_neg hm
          clear hS hW hB hD hn hk hl hst
          go_enter Tryz.func62, Tryz.ntmps62
          go_wp2_with fail
          refine (HN.out _).mono ?_
          rintro e w2 ⟨rfl, rfl⟩
          go_wp2_with fail
          go_ret
          rw [HD.out]
          exact ⟨rfl, (Kept.refl g _).setCell _ _, HST.out⟩
      · have hkw : w0 = kIncurred := hkw
        subst hkw
        replace t1 := t1.trans (show _ = false by decide)
        replace t2 := t2.trans (show _ = true by decide)
        replace t3 := t3.trans (show _ = false by decide)
        replace t4 := t4.trans (show _ = false by decide)
        have fr1 := hB.frozen (pre.length + 7)
        have cl1 := hB.cell (get_mid pre d.vals post 7 (by show 7 < 14; omega))
        change w.cell? _ = some (.int .i64 d.inc) at cl1
        have hst := hB.set (pre.length + 7) (.int .i64 (n : Int))
        rw [set_mid pre d.vals post 7 _ (by show 7 < 14; omega)] at hst
        have HST := hide hst
        by_cases hm : 1048576 < n
        · have HD : Hid (integerD 5 [kIncurred, w1] d = (1, d)) := by
            show _ = _
            rw [hD]; exact if_pos hm
          clear hS hW hB hD hn hk hl hst
          go_enter Tryz.func62, Tryz.ntmps62
          go_wp2_with fail
          refine (HN.out _).mono ?_
          rintro e w2 ⟨rfl, rfl⟩
          go_wp2_with fail
          go_ret
          rw [HD.out]
          exact ⟨rfl, Kept.refl _ _, HB.out⟩
        · have HD : Hid (integerD 5 [kIncurred, w1] d = (0, setK 5 n d)) := by
            show _ = _
            rw [hD]; exact if_neg hm
          clear hS hW hB hD hn hk hl hst
          go_enter Tryz.func62, Tryz.ntmps62
          go_wp2_with fail
          refine (HN.out _).mono ?_
          rintro e w2 ⟨rfl, rfl⟩
          go_wp2_with fail
          go_ret
          rw [HD.out]
          exact ⟨rfl, (Kept.refl g _).setCell _ _, HST.out⟩
      · have hkw : w0 = kRank := hkw
        subst hkw
        replace t1 := t1.trans (show _ = false by decide)
        replace t2 := t2.trans (show _ = false by decide)
        replace t3 := t3.trans (show _ = true by decide)
        replace t4 := t4.trans (show _ = false by decide)
        have fr1 := hB.frozen (pre.length + 8)
        have cl1 := hB.cell (get_mid pre d.vals post 8 (by show 8 < 14; omega))
        change w.cell? _ = some (.int .i64 d.rank) at cl1
        have hst := hB.set (pre.length + 8) (.int .i64 (n : Int))
        rw [set_mid pre d.vals post 8 _ (by show 8 < 14; omega)] at hst
        have HST := hide hst
        by_cases hm : 7 < n
        · have HD : Hid (integerD 6 [kRank, w1] d = (1, d)) := by
            show _ = _
            rw [hD]; exact if_pos hm
          clear hS hW hB hD hn hk hl hst
          go_enter Tryz.func62, Tryz.ntmps62
          go_wp2_with fail
          refine (HN.out _).mono ?_
          rintro e w2 ⟨rfl, rfl⟩
          go_wp2_with fail
          go_ret
          rw [HD.out]
          exact ⟨rfl, Kept.refl _ _, HB.out⟩
        · have HD : Hid (integerD 6 [kRank, w1] d = (0, setK 6 n d)) := by
            show _ = _
            rw [hD]; exact if_neg hm
          clear hS hW hB hD hn hk hl hst
          go_enter Tryz.func62, Tryz.ntmps62
          go_wp2_with fail
          refine (HN.out _).mono ?_
          rintro e w2 ⟨rfl, rfl⟩
          go_wp2_with fail
          go_ret
          rw [HD.out]
          exact ⟨rfl, (Kept.refl g _).setCell _ _, HST.out⟩
      · have hkw : w0 = kSecured := hkw
        subst hkw
        replace t1 := t1.trans (show _ = false by decide)
        replace t2 := t2.trans (show _ = false by decide)
        replace t3 := t3.trans (show _ = false by decide)
        replace t4 := t4.trans (show _ = true by decide)
        have fr1 := hB.frozen (pre.length + 13)
        have cl1 := hB.cell (get_mid pre d.vals post 13 (by show 13 < 14; omega))
        change w.cell? _ = some (.int .i64 d.sec) at cl1
        have hst := hB.set (pre.length + 13) (.int .i64 (n : Int))
        rw [set_mid pre d.vals post 13 _ (by show 13 < 14; omega)] at hst
        have HST := hide hst
        by_cases hm : 7 < n
        · have HD : Hid (integerD 8 [kSecured, w1] d = (1, d)) := by
            show _ = _
            rw [hD]; exact if_pos hm
          clear hS hW hB hD hn hk hl hst
          go_enter Tryz.func62, Tryz.ntmps62
          go_wp2_with fail
          refine (HN.out _).mono ?_
          rintro e w2 ⟨rfl, rfl⟩
          go_wp2_with fail
          go_ret
          rw [HD.out]
          exact ⟨rfl, Kept.refl _ _, HB.out⟩
        · have HD : Hid (integerD 8 [kSecured, w1] d = (0, setK 8 n d)) := by
            show _ = _
            rw [hD]; exact if_neg hm
          clear hS hW hB hD hn hk hl hst
          go_enter Tryz.func62, Tryz.ntmps62
          go_wp2_with fail
          refine (HN.out _).mono ?_
          rintro e w2 ⟨rfl, rfl⟩
          go_wp2_with fail
          go_ret
          rw [HD.out]
          exact ⟨rfl, (Kept.refl g _).setCell _ _, HST.out⟩
  · have hD : integerD k W d = (10, d) := by unfold integerD; rw [if_pos h2]
    have hne : ((W.length : Int) != 2) = true := by simp; omega
    have HD := hide hD
    have HB := hide hB
    unfold FieldP
    clear hS hW hB hD h2 hk hk1
    go_enter Tryz.func62, Tryz.ntmps62
    go_wp2_with fail
    go_ret
    rw [HD.out]
    exact ⟨rfl, Kept.refl _ _, HB.out⟩
end Go.Proofs.YtghbhchkdomfhaaGreatDoor.PfD
namespace Go.Proofs.YtghbhchkdomfhaaGreatDoor.PfE
open Go.RowKit Wd RoL RnW RnQ RnR RnP RtA RpB RpC RpF RpH PqB PfS PfB PfA PfC PfD
/-- the class of worlds as Qmt wants it -/
abbrev Cls (I : World → Prop) (w : World) : Prop := ∃ x : Qin.In I, w = x.val
instance inhab (W : World) : Nonempty (Qin.In (Below W.heap.size W)) := ⟨⟨_, Below.refl _ _⟩⟩
instance inkept (R : Nat) (W : World) : Nonempty (Qin.In (Kept R W)) := ⟨⟨_, Kept.refl _ _⟩⟩
theorem cls {I : World → Prop} {w : World} (h : I w) : Cls I w := ⟨⟨w, h⟩, rfl⟩
theorem kept_kin {W : World} {R b j : Nat} {x : Value} (hb : b < W.heap.size) (hR : b ≠ R) (h : W.cell? ⟨b, j, none⟩ = some x) (v : Qin.In (Kept R W)) : v.val.cell? ⟨b, j, none⟩ = some x :=
  (v.ok.cell (p := ⟨b, j, none⟩) hb hR).trans h
theorem kept_drawn (R : Nat) (w : World) : Kept R w { w with drawn := w.drawn + 1 } := ⟨rfl, rfl, rfl, Nat.le_refl _, fun _ _ _ => rfl⟩
theorem three_of {α : Type} {l : List α} (h : l.length = 3) : ∃ a b c, l = [a, b, c] := by
  match l, h with
  | [a, b, c], _ => exact ⟨a, b, c, rfl⟩
theorem strs_three {P : Nat → Prop} {w : World} {A : Option Addr} {c : Nat} {a b d : ByteArray} (h : Strs P w A c [a, b, d]) : ∃ B off, A = some ⟨B, off, none⟩ ∧ B < w.heap.size ∧ P B ∧ w.cell? ⟨B, off, none⟩ = some (.string a) ∧ w.cell? ⟨B, off + 1, none⟩ = some (.string b) ∧ w.cell? ⟨B, off + 2, none⟩ = some (.string d) := by
  obtain ⟨B, off, e, hb, hP, hc⟩ := h.2 (by simp)
  exact ⟨B, off, e, hb, hP.1, hc 0 a rfl, hc 1 b rfl, hc 2 d rfl⟩
theorem rat_new (w : World) (a b c : Value) : ∃ V, w.alloc (.cells #[a, b, c] 25) = V ∧ Hid (Blk V w.heap.size [a, b, c]) ∧ Hid (Below w.heap.size w V) ∧ V.heap.size = w.heap.size + 1 :=
  ⟨_, rfl, Blk.new w [a, b, c] _, (Below.refl _ _).alloc (Nat.le_refl _) _, by simp⟩
theorem amount_len {W : List (List UInt8)} {d : Dc} (h : W.length ≠ 3) : amountD W d = (10, d) := by unfold amountD; rw [if_pos h]
theorem amount_code {w0 w1 w2 : List UInt8} {d : Dc} (h : codeB w1 = false) : amountD [w0, w1, w2] d = (8, d) := by
  unfold amountD; rw [if_neg (by simp), if_pos (show codeB (wd [w0, w1, w2] 1) = false from h)]
theorem amount_bad {w0 w1 w2 : List UInt8} {d : Dc} {q : Rat} {cd : Int} (h : codeB w1 = true) (h1 : amtP w2 = (q, cd)) (h2 : cd ≠ 0) : amountD [w0, w1, w2] d = (cd, d) := by
  have e1 : wd [w0, w1, w2] 2 = w2 := rfl
  have e2 : wd [w0, w1, w2] 1 = w1 := rfl
  unfold amountD; rw [if_neg (by simp), e2, if_neg (by rw [h]; simp), e1, h1, if_pos h2]
theorem amount_ok {w0 w1 w2 : List UInt8} {d : Dc} {q : Rat} (h : codeB w1 = true) (h1 : amtP w2 = (q, 0)) : amountD [w0, w1, w2] d = (0, { d with code := str w1, neg := negB q, num := str (encN q), den := str (encD q) }) := by
  have e1 : wd [w0, w1, w2] 2 = w2 := rfl
  have e2 : wd [w0, w1, w2] 1 = w1 := rfl
  unfold amountD; rw [if_neg (by simp), e2, if_neg (by rw [h]; simp), e1, h1, if_neg (by simp)]
theorem _root_.Go.Proofs.YtghbhchkdomfhaaGreatDoor.RpF.Env.kept {R : Nat} {w w' : World} (h : Env w) (hk : Kept R w w') (hR : 0 < R) : Env w' := by
  obtain ⟨h1, m, h2⟩ := h
  exact ⟨Nat.le_trans h1 hk.size, m, (hk.cell (p := ⟨0, 0, none⟩) (by show 0 < w.heap.size; omega) (by show 0 ≠ R; omega)).trans h2⟩
set_option maxHeartbeats 4000000 in
set_option maxRecDepth 100000 in
theorem amount_any (W : List (List UInt8)) (d : Dc) (T : TypeId) (g : Nat) (pre post : List Value) (A : Option Addr) (c : Nat) (w : World)
    (hS : Strs (· ≠ g) w A c (W.map str)) (hW : ∀ x ∈ W, x.length ≤ 8192) (hl : W.length ≤ 9000) (hB : BlkT w g T (pre ++ d.vals ++ post)) (he : Env w) :
    Calls Tryz.prog 60 #[.pointer (some ⟨g, pre.length, none⟩), .slice A W.length c] w (FieldP (amountD W d) T g pre post w) := by
  by_cases h2 : W.length = 3
  · obtain ⟨w0, w1, w2, rfl⟩ := three_of h2
    clear h2
    have hw1 : (str w1).size ≤ 8192 := by rw [str_size]; exact hW w1 (by simp)
    have hw2 : (str w2).size ≤ 8192 := by rw [str_size]; exact hW w2 (by simp)
    have HC := Lib.hid (fun w => code_any (str w1) w (by unfold maxLen; omega))
    have HP := Lib.hid (fun w he => amt_any (str w2) w (by omega) he)
    rw [show (str w1).data.toList = w1 from rfl] at HC
    rw [show (str w2).data.toList = w2 from rfl] at HP
    change Calls _ _ #[.pointer (some ⟨g, pre.length, none⟩), .slice A 3 c] _ _
    change Strs (· ≠ g) w A c [str w0, str w1, str w2] at hS
    obtain ⟨B, off, rfl, hBl, hne, c0, c1, c2⟩ := strs_three hS
    have HB := hide hB
    have HE := hide he
    unfold FieldP
    cases hc : codeB w1
    · have HD := hide (amount_code (w0 := w0) (w2 := w2) (d := d) hc)
      rw [hc] at HC
      generalize str w1 = s1 at *
      clear hS hW hB hl he hc
      go_enter Tryz.func60, Tryz.ntmps60
      go_wp2_with fail
      refine (HC.out _).mono ?_
      rintro e w2 ⟨rfl, rfl⟩
      go_wp2_with fail
      go_ret
      rw [HD.out]
      exact ⟨rfl, Kept.refl _ _, HB.out⟩
    · rw [hc] at HC
      obtain ⟨⟨q, cd⟩, hp⟩ : ∃ p, amtP w2 = p := ⟨_, rfl⟩
      rw [hp] at HP
      unfold RCPost at HP
      simp only [enc_open] at HP
      by_cases h0 : cd = 0
      · subst h0
        have HD := hide (amount_ok (w0 := w0) (d := d) hc hp)
        have hB0lt := hB.lt
        have hfz := fun j => hB.frozen (pre.length + j)
        have k3 := hB.cell (get_mid pre d.vals post 3 (by show 3 < 14; omega))
        have k4 := hB.cell (get_mid pre d.vals post 4 (by show 4 < 14; omega))
        have k5 := hB.cell (get_mid pre d.vals post 5 (by show 5 < 14; omega))
        have k6 := hB.cell (get_mid pre d.vals post 6 (by show 6 < 14; omega))
        generalize str w1 = s1 at *
        generalize str w2 = s2 at *
        clear hS hW hl he hc hp hB
        go_enter Tryz.func60, Tryz.ntmps60
        go_wp2_with fail
        refine (HC.out _).mono ?_
        rintro e wa ⟨rfl, rfl⟩
        go_wp2_with fail
        refine (HP.out _ HE.out).mono ?_
        rintro e w3 ⟨rfl, hb3⟩
        obtain ⟨V, hV, HX, HBV, hsV⟩ := rat_new w3 (.bool (negB q)) (.string (bs (nm q))) (.string (dstr q))
        have hbV := hb3.trans (HBV.out.mono hb3.size)
        have HB2 := hide (HB.out.below hbV)
        have gl := hB0lt
        have hw3 := hb3.size
        have hgX : w3.heap.size ≠ g := by omega
        have v1 := kept_kin (R := g) (W := V) (by omega) hne ((hbV.cell (p := ⟨B, off + 1, none⟩) hBl).trans c1)
        have x0 := kept_kin (R := g) (W := V) (by omega) hgX (HX.out.cell (i := 0) rfl)
        have x1 := kept_kin (R := g) (W := V) (by omega) hgX (HX.out.cell (i := 1) rfl)
        have x2 := kept_kin (R := g) (W := V) (by omega) hgX (HX.out.cell (i := 2) rfl)
        have HK := hide (Kept.of_below (R := g) hbV)
        clear hw3 hsV HBV hbV hb3 HX
        go_wp2_with fail
        refine Qmt.wp_region (C := Cls (Kept g V)) (by kernel_rfl) (by kernel_rfl) ?_
        simp only [List.length_cons, List.length_nil]
        refine Qmt.takes [0, 1, 2, 3, 4, 5, 6, 7] 4 _ _ _ (cls (kept_drawn g V)) (by kernel_rfl) ?_
        simp only [List.filterMap_cons, List.filterMap_nil, List.getElem?_toArray, List.getElem?_cons_zero, List.getElem?_cons_succ]
        change wpQuiet _ _ _ _ [_, _, _, _, _, _, _, _] _
        repeat (go_big_quiet_step (fail))
        refine wpQuiet_nil ?_
        refine Qmt.fork [8] (cls (kept_drawn g V)) (by kernel_rfl) (by simp) ⟨?_, trivial⟩
        refine Qmt.by_op rfl (by kernel_rfl) ?_
        obtain ⟨V1, hV1, HB3, HK3⟩ : ∃ V1, V.drew.setCell ⟨g, pre.length + 3, none⟩ (.string s1) = V1 ∧ Hid (BlkT V1 g T (pre ++ (d.vals.set 3 (.string s1)) ++ post)) ∧ Hid (Kept g V V1) := by
          refine ⟨_, rfl, ?_, (kept_drawn g V).setCell _ _⟩
          have := BlkT.set (w := V.drew) HB2.out (pre.length + 3) (.string s1)
          rwa [set_mid pre d.vals post 3 _ (by show 3 < 14; omega)] at this
        have fz3 := HB2.out.frozen (pre.length + 3)
        have cl3 := HB2.out.cell (get_mid pre d.vals post 3 (by show 3 < 14; omega))
        change V.cell? _ = some (.string d.code) at cl3
        go_wp2_with fail
        refine ⟨rfl, ?_⟩
        clear fz3 cl3 hV1 HB2
        refine Qmt.takes [9, 10] 1 _ _ _ (cls HK3.out) (by kernel_rfl) ?_
        simp only [List.filterMap_cons, List.filterMap_nil, List.getElem?_toArray, List.getElem?_cons_zero, List.getElem?_cons_succ]
        change wpQuiet _ _ _ _ [_, _] _
        repeat (go_big_quiet_step (fail))
        refine wpQuiet_nil ?_
        refine Qmt.fork [11] (cls HK3.out) (by kernel_rfl) (by simp) ⟨?_, trivial⟩
        refine Qmt.by_op rfl (by kernel_rfl) ?_
        have fz4 := HB3.out.frozen (pre.length + 4)
        have fz5 := HB3.out.frozen (pre.length + 5)
        have fz6 := HB3.out.frozen (pre.length + 6)
        have cl4 := HB3.out.cell (get_mid pre (d.vals.set 3 (.string s1)) post 4 (by show 4 < 14; omega))
        have cl5 := HB3.out.cell (get_mid pre (d.vals.set 3 (.string s1)) post 5 (by show 5 < 14; omega))
        have cl6 := HB3.out.cell (get_mid pre (d.vals.set 3 (.string s1)) post 6 (by show 6 < 14; omega))
        change V1.cell? _ = some (.bool d.neg) at cl4
        change V1.cell? _ = some (.string d.num) at cl5
        change V1.cell? _ = some (.string d.den) at cl6
        have hst := ((HB3.out.set (pre.length + 4) (.bool (negB q))).set (pre.length + 5) (.string (bs (nm q)))).set (pre.length + 6) (.string (dstr q))
        rw [set_mid pre _ post 4 _ (by show 4 < 14; omega), set_mid pre _ post 5 _ (by show 5 < 14; omega), set_mid pre _ post 6 _ (by show 6 < 14; omega)] at hst
        have HST := hide hst
        have HK4 := hide (((HK3.out.setCell (pre.length + 4) (.bool (negB q))).setCell (pre.length + 5) (.string (bs (nm q)))).setCell (pre.length + 6) (.string (dstr q)))
        clear hst
        go_wp2_with fail
        refine ⟨rfl, ?_⟩
        refine Qmt.by_end (cls HK4.out) (by kernel_rfl) ?_
        go_wp2_with fail
        go_ret
        rw [HD.out]
        refine ⟨rfl, HK.out.trans HK4.out, ?_⟩
        exact HST.out
      · have HD := hide (amount_bad (w0 := w0) (d := d) hc hp h0)
        have hb0 : (cd != 0) = true := by simpa using h0
        generalize str w1 = s1 at *
        generalize str w2 = s2 at *
        clear hS hW hl he hc hp hB h0
        go_enter Tryz.func60, Tryz.ntmps60
        go_wp2_with fail
        refine (HC.out _).mono ?_
        rintro e wa ⟨rfl, rfl⟩
        go_wp2_with fail
        refine (HP.out _ HE.out).mono ?_
        rintro e w3 ⟨rfl, hb3⟩
        have hbV := hb3.trans (((Below.refl w3.heap.size w3).alloc (Nat.le_refl _) (.cells #[.bool (negB q), .string (bs (nm q)), .string (dstr q)] 25)).mono hb3.size)
        have HBV := hide hbV
        clear hbV hb3
        go_wp2_with fail
        go_ret
        rw [HD.out]
        exact ⟨rfl, Kept.of_below HBV.out, HB.out.below HBV.out⟩
  · have hne : ((W.length : Int) != 3) = true := by simp; omega
    have HD := hide (amount_len (d := d) h2)
    have HB := hide hB
    unfold FieldP
    clear hS hW hB h2 he
    go_enter Tryz.func60, Tryz.ntmps60
    go_wp2_with fail
    go_ret
    rw [HD.out]
    exact ⟨rfl, Kept.refl _ _, HB.out⟩
end Go.Proofs.YtghbhchkdomfhaaGreatDoor.PfE
namespace Go.Proofs.YtghbhchkdomfhaaGreatDoor.PfF
open Go.RowKit Wd RoL RnW RnQ RnR RnP RtA RpB RpC RpF RpH PqB PfS PfB PfA PfC PfD PfE
theorem amt_fst (l : List UInt8) : (amtP l).1 = (parseQ l).1 := by
  unfold amtP
  split <;> rfl
theorem four_of {α : Type} {l : List α} (h : l.length = 4) : ∃ a b c d, l = [a, b, c, d] := by
  match l, h with
  | [a, b, c, d], _ => exact ⟨a, b, c, d, rfl⟩
theorem strs_four {P : Nat → Prop} {w : World} {A : Option Addr} {c : Nat} {a b d e : ByteArray} (h : Strs P w A c [a, b, d, e]) : ∃ B off, A = some ⟨B, off, none⟩ ∧ B < w.heap.size ∧ P B ∧ w.cell? ⟨B, off, none⟩ = some (.string a) ∧ w.cell? ⟨B, off + 1, none⟩ = some (.string b) ∧ w.cell? ⟨B, off + 2, none⟩ = some (.string d) ∧ w.cell? ⟨B, off + 3, none⟩ = some (.string e) := by
  obtain ⟨B, off, e, hb, hP, hc⟩ := h.2 (by simp)
  exact ⟨B, off, e, hb, hP.1, hc 0 a rfl, hc 1 b rfl, hc 2 d rfl, hc 3 _ rfl⟩
theorem int_open (w0 w1 w2 w3 : List UInt8) (d : Dc) : interestD [w0, w1, w2, w3] d = if w2 ≠ kFrom then (10, d) else match numOf w3 with
    | none => (10, d)
    | some n => if (amtP w1).2 ≠ 0 then ((amtP w1).2, d)
      else if 1048576 < n ∨ sgnQ (amtP w1).1 = 0 then (1, d)
      else (0, { d with rneg := negB (amtP w1).1, rnum := str (encN (amtP w1).1), rden := str (encD (amtP w1).1), rfrom := n }) := by
  have h : ([w0, w1, w2, w3].length ≠ 4 ∨ w2 ≠ kFrom) ↔ w2 ≠ kFrom := by simp
  unfold interestD
  rw [show wd [w0, w1, w2, w3] 2 = w2 from rfl, show wd [w0, w1, w2, w3] 3 = w3 from rfl, show wd [w0, w1, w2, w3] 1 = w1 from rfl]
  by_cases h2 : w2 ≠ kFrom
  · rw [if_pos (h.2 h2), if_pos h2]
  · rw [if_neg (fun e => h2 (h.1 e)), if_neg h2]
    all_goals (cases numOf w3 <;> rfl)
set_option maxHeartbeats 4000000 in
set_option maxRecDepth 100000 in
theorem interest_any (W : List (List UInt8)) (d : Dc) (T : TypeId) (g : Nat) (pre post : List Value) (A : Option Addr) (c : Nat) (w : World)
    (hS : Strs (· ≠ g) w A c (W.map str)) (hW : ∀ x ∈ W, x.length ≤ 8192) (hl : W.length ≤ 9000) (hB : BlkT w g T (pre ++ d.vals ++ post)) (he : Env w) :
    Calls Tryz.prog 61 #[.pointer (some ⟨g, pre.length, none⟩), .slice A W.length c] w (FieldP (interestD W d) T g pre post w) := by
  by_cases h2 : W.length = 4
  · obtain ⟨w0, w1, w2, w3, rfl⟩ := four_of h2
    clear h2
    have hw1 : (str w1).size ≤ 8192 := by rw [str_size]; exact hW w1 (by simp)
    have hw3 : (str w3).size ≤ 8192 := by rw [str_size]; exact hW w3 (by simp)
    have HN := Lib.hid (fun w => number_any (str w3) w hw3)
    have HP := Lib.hid (fun w he => amt_any (str w1) w (by omega) he)
    rw [show (str w3).data.toList = w3 from rfl] at HN
    rw [show (str w1).data.toList = w1 from rfl] at HP
    obtain ⟨hz1, hz2⟩ := parse_sz w1
    rw [← amt_fst] at hz1 hz2
    have hD := int_open w0 w1 w2 w3 d
    change Calls _ _ #[.pointer (some ⟨g, pre.length, none⟩), .slice A 4 c] _ _
    change Strs (· ≠ g) w A c [str w0, str w1, str w2, str w3] at hS
    obtain ⟨B, off, rfl, hBl, hne, c0, c1, c2, c3⟩ := strs_four hS
    have t2 := tl_str w2 kFrom
    have HB := hide hB
    have HE := hide he
    unfold FieldP
    unfold NumRet at HN
    obtain ⟨⟨q, cd⟩, hp⟩ : ∃ p, amtP w1 = p := ⟨_, rfl⟩
    rw [hp] at HP hD hz1 hz2
    dsimp only at hz1 hz2 hD
    have HSG := Lib.hid (fun w => RpI.sign_any (negB q) (bs (nm q)) (dstr q) w (by omega) (by omega))
    rw [fix_self] at HSG
    unfold RCPost at HP
    simp only [enc_open] at HP
    rw [show kFrom = [102, 114, 111, 109] from rfl] at t2 hD
    rw [show str (encN q) = bs (nm q) from rfl, show str (encD q) = dstr q from rfl] at hD
    generalize str w0 = s0 at *
    generalize str w1 = s1 at *
    generalize str w2 = s2 at *
    generalize str w3 = s3 at *
    clear hS hW hl he hz1 hz2 hw1 hw3 hp
    by_cases hf : w2 = [102, 114, 111, 109]
    · rw [decide_eq_true hf] at t2
      rw [if_neg (fun h => h hf)] at hD
      have hne2 : (s2.toList != [102, 114, 111, 109]) = false := by rw [bne, t2]; rfl
      cases hn : numOf w3 with
      | none =>
        rw [hn] at HN hD
        have HD := hide hD
        clear hD hB hn HP HSG hf
        go_enter Tryz.func61, Tryz.ntmps61
        go_wp2_with fail
        refine (HN.out _).mono ?_
        rintro e wa ⟨rfl, rfl⟩
        go_wp2_with fail
        go_ret
        rw [HD.out]
        exact ⟨rfl, Kept.refl _ _, HB.out⟩
      | some n =>
        have hle := numOf_le hn
        rw [hn] at HN hD
        dsimp only at hD
        have hB0lt := hB.lt
        by_cases h0 : cd = 0
        · subst h0
          rw [if_neg (by simp)] at hD
          by_cases hbig : 1048576 < n
          · rw [if_pos (.inl hbig)] at hD
            have HD := hide hD
            clear hD hB hn HSG hf
            go_enter Tryz.func61, Tryz.ntmps61
            go_wp2_with fail
            refine (HN.out _).mono ?_
            rintro e wa ⟨rfl, rfl⟩
            go_wp2_with fail
            refine (HP.out _ HE.out).mono ?_
            rintro e wb ⟨rfl, hb3⟩
            obtain ⟨V, hV, HX, HBV, hsV⟩ := rat_new wb (.bool (negB q)) (.string (bs (nm q))) (.string (dstr q))
            have HBV2 := hide (hb3.trans (HBV.out.mono hb3.size))
            clear hb3 HBV HX
            go_wp2_with fail
            go_ret
            rw [HD.out]
            exact ⟨rfl, Kept.of_below HBV2.out, by first | exact HB.out.below HBV2.out | (rw [← List.append_assoc]; exact HB.out.below HBV2.out)⟩
          · by_cases hs0 : sgnQ q = 0
            · rw [if_pos (.inr hs0)] at hD
              have HD := hide hD
              rw [hs0] at HSG
              clear hD hB hn hf
              go_enter Tryz.func61, Tryz.ntmps61
              go_wp2_with fail
              refine (HN.out _).mono ?_
              rintro e wa ⟨rfl, rfl⟩
              go_wp2_with fail
              refine (HP.out _ HE.out).mono ?_
              rintro e wb ⟨rfl, hb3⟩
              obtain ⟨V, hV, HX, HBV, hsV⟩ := rat_new wb (.bool (negB q)) (.string (bs (nm q))) (.string (dstr q))
              have HBV2 := hide (hb3.trans (HBV.out.mono hb3.size))
              have x0 := HX.out.cell (i := 0) rfl
              have x1 := HX.out.cell (i := 1) rfl
              have x2 := HX.out.cell (i := 2) rfl
              clear hb3 HBV HX hs0
              go_wp2_with fail
              refine (HSG.out _).mono ?_
              rintro e wd ⟨rfl, hb4⟩
              have HBV3 := hide (HBV2.out.trans (hb4.mono HBV2.out.size))
              clear hb4
              go_wp2_with fail
              go_ret
              rw [HD.out]
              exact ⟨rfl, Kept.of_below HBV3.out, HB.out.below HBV3.out⟩
            · rw [if_neg (not_or.2 ⟨hbig, hs0⟩)] at hD
              have HD := hide hD
              have hsb : (sgnQ q == 0) = false := by simpa using hs0
              clear hD hB hn hf hs0
              go_enter Tryz.func61, Tryz.ntmps61
              go_wp2_with fail
              refine (HN.out _).mono ?_
              rintro e wa ⟨rfl, rfl⟩
              go_wp2_with fail
              refine (HP.out _ HE.out).mono ?_
              rintro e wb ⟨rfl, hb3⟩
              obtain ⟨V, hV, HX, HBV, hsV⟩ := rat_new wb (.bool (negB q)) (.string (bs (nm q))) (.string (dstr q))
              have HBV2 := hide (hb3.trans (HBV.out.mono hb3.size))
              have x0 := HX.out.cell (i := 0) rfl
              have x1 := HX.out.cell (i := 1) rfl
              have x2 := HX.out.cell (i := 2) rfl
              clear hb3 HBV
              go_wp2_with fail
              refine (HSG.out _).mono ?_
              rintro e wd ⟨rfl, hb4⟩
              have HBV3 := hide (HBV2.out.trans (hb4.mono HBV2.out.size))
              have HX4 := hide (HX.out.below hb4)
              have y0 := HX4.out.cell (i := 0) rfl
              have y1 := HX4.out.cell (i := 1) rfl
              have y2 := HX4.out.cell (i := 2) rfl
              have HB2 := hide (HB.out.below HBV3.out)
              clear hb4 x0 x1 x2
              have fz1 := HB2.out.frozen (pre.length + 9)
              have fz2 := HB2.out.frozen (pre.length + 10)
              have fz3 := HB2.out.frozen (pre.length + 11)
              have fz4 := HB2.out.frozen (pre.length + 12)
              have cl1 := HB2.out.cell (get_mid pre d.vals post 9 (by show 9 < 14; omega))
              have cl2 := HB2.out.cell (get_mid pre d.vals post 10 (by show 10 < 14; omega))
              have cl3 := HB2.out.cell (get_mid pre d.vals post 11 (by show 11 < 14; omega))
              have cl4 := HB2.out.cell (get_mid pre d.vals post 12 (by show 12 < 14; omega))
              change wd.cell? _ = some (.bool d.rneg) at cl1
              change wd.cell? _ = some (.string d.rnum) at cl2
              change wd.cell? _ = some (.string d.rden) at cl3
              change wd.cell? _ = some (.int .i64 d.rfrom) at cl4
              have hst := (((HB2.out.set (pre.length + 9) (.bool (negB q))).set (pre.length + 10) (.string (bs (nm q)))).set (pre.length + 11) (.string (dstr q))).set (pre.length + 12) (.int .i64 (n : Int))
              rw [set_mid pre _ post 9 _ (by show 9 < 14; omega), set_mid pre _ post 10 _ (by show 10 < 14; omega), set_mid pre _ post 11 _ (by show 11 < 14; omega), set_mid pre _ post 12 _ (by show 12 < 14; omega)] at hst
              have HST := hide hst
              have HK4 := hide (((((Kept.of_below (R := g) HBV3.out).setCell (pre.length + 9) (.bool (negB q))).setCell (pre.length + 10) (.string (bs (nm q)))).setCell (pre.length + 11) (.string (dstr q))).setCell (pre.length + 12) (.int .i64 (n : Int)))
              clear hst
              go_wp2_with fail
              go_ret
              rw [HD.out]
              exact ⟨rfl, HK4.out, HST.out⟩
        · rw [if_pos h0] at hD
          have HD := hide hD
          have hb0 : (cd != 0) = true := by simpa using h0
          clear hD hB hn HSG hf h0
          go_enter Tryz.func61, Tryz.ntmps61
          go_wp2_with fail
          refine (HN.out _).mono ?_
          rintro e wa ⟨rfl, rfl⟩
          go_wp2_with fail
          refine (HP.out _ HE.out).mono ?_
          rintro e wb ⟨rfl, hb3⟩
          obtain ⟨V, hV, HX, HBV, hsV⟩ := rat_new wb (.bool (negB q)) (.string (bs (nm q))) (.string (dstr q))
          have HBV2 := hide (hb3.trans (HBV.out.mono hb3.size))
          clear hb3 HBV HX
          go_wp2_with fail
          go_ret
          rw [HD.out]
          exact ⟨rfl, Kept.of_below HBV2.out, HB.out.below HBV2.out⟩
    · rw [decide_eq_false hf] at t2
      rw [if_pos hf] at hD
      have HD := hide hD
      clear hD hB HN HP HSG hf
      go_enter Tryz.func61, Tryz.ntmps61
      go_wp2_with fail
      go_ret
      rw [HD.out]
      exact ⟨rfl, Kept.refl _ _, HB.out⟩
  · have hD : interestD W d = (10, d) := by unfold interestD; rw [if_pos (.inl h2)]
    have hne : ((W.length : Int) != 4) = true := by simp; omega
    have HD := hide hD
    have HB := hide hB
    unfold FieldP
    clear hS hW hB hD h2 he
    go_enter Tryz.func61, Tryz.ntmps61
    go_wp2_with fail
    go_ret
    rw [HD.out]
    exact ⟨rfl, Kept.refl _ _, HB.out⟩
end Go.Proofs.YtghbhchkdomfhaaGreatDoor.PfF
namespace Go.Proofs.YtghbhchkdomfhaaGreatDoor.PfG
open Go.RowKit Wd RoL RnW RpF PqB PfS PfB PfA PfD
theorem toL_str (ws : List ByteArray) : (toL ws).map str = ws := by
  induction ws with
  | nil => rfl
  | cons x l ih =>
    show str x.data.toList :: (toL l).map str = x :: l
    rw [ih]
    rfl
/-- what Split leaves -/
def SplitP (c : UInt8) (s : ByteArray) (w : World) (e : Ending) (w' : World) : Prop :=
  ∃ A cp, e = .returned (.slice A (splA c [] s.data.toList).length cp) ∧ Strs (w.heap.size ≤ ·) w' A cp ((splA c [] s.data.toList).map str) ∧ Below w.heap.size w w'
theorem split32_any (s : ByteArray) (w : World) (hs : s.size ≤ 1000000) (he : Env w) :
    Calls Tryz.prog 37 #[.string s, .string ⟨#[32]⟩] w (SplitP 32 s w) := by
  obtain ⟨_, m, hm⟩ := he
  refine (Tryz.strings_Split s ⟨#[32]⟩ m w (by omega) hm (by decide)).mono ?_
  rintro e w' ⟨rfl, rfl⟩
  have h1 : (Lib.splitB ⟨#[32]⟩ 0 (Lib.countB s ⟨#[32]⟩) s).map (fun x : ByteArray => x.data.toList) = splA 32 [] s.data.toList := by
    rw [Lib.splitB_data]
    exact splitK_eq 32 _ s.data.toList (Nat.le_refl _)
  have hlen : (Lib.splitB ⟨#[32]⟩ 0 (Lib.countB s ⟨#[32]⟩) s).length = Lib.countB s ⟨#[32]⟩ + 1 := by
    have h2 := congrArg List.length h1
    rw [List.length_map, splA_count 32 _ s.data.toList [] (Nat.le_refl _)] at h2
    exact h2
  have hW : (splA 32 [] s.data.toList).map str = Lib.splitB ⟨#[32]⟩ 0 (Lib.countB s ⟨#[32]⟩) s := by rw [← h1]; exact toL_str _
  have hWl : (splA 32 [] s.data.toList).length = Lib.countB s ⟨#[32]⟩ + 1 := by rw [← hlen, ← h1, List.length_map]
  unfold SplitP
  rw [hW]
  refine ⟨_, Lib.countB s ⟨#[32]⟩ + 1, by rw [hWl], ⟨?_, fun _ => ⟨w.heap.size, 0, rfl, by simp, ⟨Nat.le_refl _, by rw [hlen]; exact Nat.le_refl _⟩, ?_⟩⟩, (Below.refl _ _).alloc (Nat.le_refl _) _⟩
  · have h3 := (splA_len 32 s.data.toList []).1
    have h4 : s.data.toList.length = s.size := by simp
    unfold maxLen
    omega
  · intro j x hx
    rw [Nat.zero_add, World.cell?_alloc_new]
    simp [hx]
theorem split10_any (s : ByteArray) (w : World) (hs : s.size ≤ 1000000) (he : Env w) :
    Calls Tryz.prog 37 #[.string s, .string ⟨#[10]⟩] w (SplitP 10 s w) := by
  obtain ⟨_, m, hm⟩ := he
  refine (Tryz.strings_Split s ⟨#[10]⟩ m w (by omega) hm (by decide)).mono ?_
  rintro e w' ⟨rfl, rfl⟩
  have h1 : (Lib.splitB ⟨#[10]⟩ 0 (Lib.countB s ⟨#[10]⟩) s).map (fun x : ByteArray => x.data.toList) = splA 10 [] s.data.toList := by
    rw [Lib.splitB_data]
    exact splitK_eq 10 _ s.data.toList (Nat.le_refl _)
  have hlen : (Lib.splitB ⟨#[10]⟩ 0 (Lib.countB s ⟨#[10]⟩) s).length = Lib.countB s ⟨#[10]⟩ + 1 := by
    have h2 := congrArg List.length h1
    rw [List.length_map, splA_count 10 _ s.data.toList [] (Nat.le_refl _)] at h2
    exact h2
  have hW : (splA 10 [] s.data.toList).map str = Lib.splitB ⟨#[10]⟩ 0 (Lib.countB s ⟨#[10]⟩) s := by rw [← h1]; exact toL_str _
  have hWl : (splA 10 [] s.data.toList).length = Lib.countB s ⟨#[10]⟩ + 1 := by rw [← hlen, ← h1, List.length_map]
  unfold SplitP
  rw [hW]
  refine ⟨_, Lib.countB s ⟨#[10]⟩ + 1, by rw [hWl], ⟨?_, fun _ => ⟨w.heap.size, 0, rfl, by simp, ⟨Nat.le_refl _, by rw [hlen]; exact Nat.le_refl _⟩, ?_⟩⟩, (Below.refl _ _).alloc (Nat.le_refl _) _⟩
  · have h3 := (splA_len 10 s.data.toList []).1
    have h4 : s.data.toList.length = s.size := by simp
    unfold maxLen
    omega
  · intro j x hx
    rw [Nat.zero_add, World.cell?_alloc_new]
    simp [hx]
end Go.Proofs.YtghbhchkdomfhaaGreatDoor.PfG
namespace Go.Proofs.YtghbhchkdomfhaaGreatDoor.PfH
open Go.RowKit Wd RoL RnW RpF PqB PfS PfB PfA PfD PfE
/-- a document as one value -/
def _root_.Go.Proofs.YtghbhchkdomfhaaGreatDoor.PfA.Dc.agg (x : Dc) : Value := .agg #[.string x.id, .int .i64 x.est, .int .i64 x.cred, .string x.code, .bool x.neg, .string x.num, .string x.den, .int .i64 x.inc, .int .i64 x.rank, .bool x.rneg, .string x.rnum, .string x.rden, .int .i64 x.rfrom, .int .i64 x.sec]
/-- a slice that reads as documents -/
def DocsAt (w : World) (A : Option Addr) (l : List Dc) : Prop :=
  l.length ≤ maxLen ∧ (0 < l.length → ∃ b off, A = some ⟨b, off, none⟩ ∧ b < w.heap.size ∧ ∀ k x, l[k]? = some x → ∀ j v, x.vals[j]? = some v → w.cell? ⟨b, off + k * 14 + j, none⟩ = some v)
theorem DocsAt.nil (w : World) (A : Option Addr) : DocsAt w A [] := ⟨Nat.zero_le _, fun h => by simp at h⟩
theorem DocsAt.below {w w' : World} {A : Option Addr} {l : List Dc} (h : DocsAt w A l) (hb : Below w.heap.size w w') : DocsAt w' A l :=
  ⟨h.1, fun hl => by
    obtain ⟨b, off, e, hlt, hc⟩ := h.2 hl
    exact ⟨b, off, e, Nat.lt_of_lt_of_le hlt hb.size, fun k x hk j v hv => (hb.cell (p := ⟨b, _, none⟩) hlt).trans (hc k x hk j v hv)⟩⟩
theorem DocsAt.at {w : World} {A : Option Addr} {l : List Dc} (h : DocsAt w A l) {k : Nat} {x : Dc} (hk : l[k]? = some x) : ∃ b off, A = some ⟨b, off, none⟩ ∧ b < w.heap.size ∧ ∀ j v, x.vals[j]? = some v → w.cell? ⟨b, off + k * 14 + j, none⟩ = some v := by
  obtain ⟨b, off, e, hlt, hc⟩ := h.2 (by have := (List.getElem?_eq_some_iff.1 hk).1; omega)
  exact ⟨b, off, e, hlt, hc k x hk⟩
/-- the fourteen cells of a document -/
def DocAt (w : World) (b o : Nat) (x : Dc) : Prop :=
  w.cell? ⟨b, o, none⟩ = some (.string x.id) ∧ w.cell? ⟨b, o + 1, none⟩ = some (.int .i64 x.est) ∧ w.cell? ⟨b, o + 2, none⟩ = some (.int .i64 x.cred) ∧ w.cell? ⟨b, o + 3, none⟩ = some (.string x.code) ∧ w.cell? ⟨b, o + 4, none⟩ = some (.bool x.neg) ∧ w.cell? ⟨b, o + 5, none⟩ = some (.string x.num) ∧ w.cell? ⟨b, o + 6, none⟩ = some (.string x.den) ∧ w.cell? ⟨b, o + 7, none⟩ = some (.int .i64 x.inc) ∧ w.cell? ⟨b, o + 8, none⟩ = some (.int .i64 x.rank) ∧ w.cell? ⟨b, o + 9, none⟩ = some (.bool x.rneg) ∧ w.cell? ⟨b, o + 10, none⟩ = some (.string x.rnum) ∧ w.cell? ⟨b, o + 11, none⟩ = some (.string x.rden) ∧ w.cell? ⟨b, o + 12, none⟩ = some (.int .i64 x.rfrom) ∧ w.cell? ⟨b, o + 13, none⟩ = some (.int .i64 x.sec)
theorem DocsAt.full {w : World} {A : Option Addr} {l : List Dc} (h : DocsAt w A l) {k : Nat} {x : Dc} (hk : l[k]? = some x) : ∃ b off, A = some ⟨b, off, none⟩ ∧ b < w.heap.size ∧ DocAt w b (off + k * 14) x := by
  obtain ⟨b, off, e, hb, hc⟩ := h.at hk
  exact ⟨b, off, e, hb, hc 0 _ rfl, hc 1 _ rfl, hc 2 _ rfl, hc 3 _ rfl, hc 4 _ rfl, hc 5 _ rfl, hc 6 _ rfl, hc 7 _ rfl, hc 8 _ rfl, hc 9 _ rfl, hc 10 _ rfl, hc 11 _ rfl, hc 12 _ rfl, hc 13 _ rfl⟩
set_option maxHeartbeats 2000000 in
set_option maxRecDepth 100000 in
theorem same_any (d : Dc) (b : Nat) (id : ByteArray) (w : World) (h : w.cell? ⟨b, 0, none⟩ = some (.string id)) (hb : b < w.heap.size) :
    Calls Tryz.prog 85 #[d.agg, .pointer (some ⟨b, 0, none⟩)] w fun e w' => e = .returned (.bool (d.id.toList == id.toList)) ∧ Below w.heap.size w w' := by
  unfold PfA.Dc.agg
  go_enter Tryz.func85, Tryz.ntmps85
  go_wp2_with fail
  go_ret
  exact ⟨rfl, (Below.refl _ _).alloc (Nat.le_refl _) _⟩
theorem any_take {α : Type} {f : α → Bool} {l : List α} {k : Nat} {x : α} (hk : l[k]? = some x) (h : (l.take k).any f = false) (hx : f x = false) : (l.take (k + 1)).any f = false := by
  rw [List.take_add_one, hk, List.any_append, h]
  simp [hx]
theorem any_hit {α : Type} {f : α → Bool} {l : List α} {k : Nat} {x : α} (hk : l[k]? = some x) (hx : f x = true) : l.any f = true :=
  List.any_eq_true.2 ⟨x, List.mem_of_getElem? hk, hx⟩
set_option maxHeartbeats 4000000 in
set_option maxRecDepth 100000 in
theorem index_any (l : List Dc) (A : Option Addr) (c b : Nat) (id : ByteArray) (w : World) (hD : DocsAt w A l) (h : w.cell? ⟨b, 0, none⟩ = some (.string id)) (hb : b < w.heap.size) :
    Calls Tryz.prog 105 #[.slice A l.length c, .func (.func 85) #[] #[.pointer (some ⟨b, 0, none⟩)]] w
      fun e w' => ∃ i : Int, (e = .returned (.int .i64 i) ∧ decide (0 ≤ i) = l.any (fun d => d.id.toList == id.toList)) ∧ Below w.heap.size w w' := by
  have hlm := hD.1
  unfold maxLen at hlm
  have HD := hide hD
  have HH := hide h
  clear h hD
  go_enter Tryz.func105, Tryz.ntmps105
  go_wp2_with fail
  go_loopw [8] (fun vi wr => ∃ k : Nat, k ≤ l.length ∧ vi = .int .i64 k ∧ (l.take k).any (fun d => d.id.toList == id.toList) = false ∧ Below w.heap.size w wr) (fun vi _ => l.length - (intOf vi).toNat)
  case atStart => exact ⟨0, by omega, rfl, rfl, Below.refl _ _⟩
  case round =>
    obtain ⟨k, hk, rfl, hany, hbr⟩ := hrel
    have HA := hide hany
    have HBR := hide hbr
    clear hany
    by_cases hlt : k < l.length
    · obtain ⟨x, hx⟩ : ∃ x, l[k]? = some x := ⟨_, List.getElem?_eq_getElem hlt⟩
      obtain ⟨g, off, rfl, hg, hc⟩ := (HD.out.below hbr).full hx
      obtain ⟨a0, a1, a2, a3, a4, a5, a6, a7, a8, a9, a10, a11, a12, a13⟩ := hc
      have HX := hide hx
      have HS := Lib.hid (fun w h hb => same_any x b id w h hb)
      unfold PfA.Dc.agg at HS
      have hid := (hbr.cell (p := ⟨b, 0, none⟩) hb).trans HH.out
      have hbr2 := Nat.lt_of_lt_of_le hb hbr.size
      clear hx hbr
      cases hq : (x.id.toList == id.toList)
      · rw [hq] at HS
        have HN := hide (any_take HX.out HA.out hq)
        clear hq
        go_wp2_with fail
        refine (HS.out _ hid hbr2).mono ?_
        rintro e w3 ⟨rfl, hb3⟩
        go_wp2_with fail
        go_roundw
        case rel => exact ⟨k + 1, by omega, by go_num, HN.out, HBR.out.trans (hb3.mono HBR.out.size)⟩
        case measure => simp [intOf]; omega
      · rw [hq] at HS
        have HN := hide (any_hit (f := fun d : Dc => d.id.toList == id.toList) HX.out hq)
        clear hq
        go_wp2_with fail
        refine (HS.out _ hid hbr2).mono ?_
        rintro e w3 ⟨rfl, hb3⟩
        go_wp2_with fail
        go_ret
        exact ⟨k, ⟨rfl, by rw [HN.out]; simp⟩, HBR.out.trans (hb3.mono HBR.out.size)⟩
    · obtain rfl : k = l.length := by omega
      have h2 := HA.out
      rw [List.take_length] at h2
      have HN := hide h2
      clear h2
      go_wp2_with fail
      go_ret
      exact ⟨-1, ⟨rfl, by rw [HN.out]; rfl⟩, HBR.out⟩
end Go.Proofs.YtghbhchkdomfhaaGreatDoor.PfH
namespace Go.Proofs.YtghbhchkdomfhaaGreatDoor.PfI
open Go.RowKit Wd RoL RnW RpF PqB PfS PfB PfA PfD PfE PfH
def DV (l : List Dc) : List Value := l.flatMap Dc.vals
theorem DV_len (l : List Dc) : (DV l).length = l.length * 14 := by
  induction l with
  | nil => rfl
  | cons x l ih =>
    rw [show DV (x :: l) = x.vals ++ DV l from rfl, List.length_append, ih, List.length_cons]
    show 14 + _ = _
    omega
theorem DV_snoc (l : List Dc) (x : Dc) : DV (l ++ [x]) = DV l ++ x.vals := by simp [DV]
theorem DV_get : ∀ (l : List Dc) (k : Nat) (x : Dc), l[k]? = some x → ∀ j, j < 14 → (DV l)[k * 14 + j]? = x.vals[j]?
  | [], _, _, h, _, _ => by simp at h
  | y :: l, 0, x, h, j, hj => by
    simp only [List.getElem?_cons_zero, Option.some.injEq] at h
    subst h
    rw [show DV (y :: l) = y.vals ++ DV l from rfl, List.getElem?_append_left (by show _ < 14; omega)]
    simp
  | y :: l, k + 1, x, h, j, hj => by
    have ih := DV_get l k x (by simpa using h) j hj
    have hy : y.vals.length = 14 := rfl
    rw [show DV (y :: l) = y.vals ++ DV l from rfl, List.getElem?_append_right (by rw [hy]; omega), hy, ← ih]
    congr 1
    omega
theorem own_open {w : World} {base n cap : Nat} {e : TypeId} {A : Option Addr} {xs : List Value} (h : w.ownsRow base e 14 (.slice A n cap) n xs) (hn : 0 < n) :
    ∃ g pad, A = some ⟨g, 0, none⟩ ∧ base ≤ g ∧ BlkT w g e (xs ++ pad) ∧ (xs ++ pad).length = cap * 14 ∧ xs.length = n * 14 ∧ n ≤ cap ∧ cap ≤ maxLen := by
  obtain ⟨h1, h2⟩ := h
  rcases h2 with ⟨h2, h3⟩ | ⟨g, cap', cur, hv, hg, hh, hnc, hcm, hcs, ht⟩
  · omega
  · injection hv with e1 e2 e3
    subst e3
    refine ⟨g, cur.toList.drop (n * 14), e1, hg, ?_, ?_, h1, hnc, hcm⟩
    · unfold BlkT
      rw [← ht, List.take_append_drop, hh]
    · rw [← ht, List.take_append_drop]
      simpa using hcs
theorem own_close {w : World} {base n cap g : Nat} {e : TypeId} {xs pad : List Value} (hg : base ≤ g) (hB : BlkT w g e (xs ++ pad)) (hl : (xs ++ pad).length = cap * 14) (hx : xs.length = n * 14) (hn : n ≤ cap) (hc : cap ≤ maxLen) :
    w.ownsRow base e 14 (.slice (some ⟨g, 0, none⟩) n cap) n xs :=
  ⟨hx, .inr ⟨g, cap, (xs ++ pad).toArray, rfl, hg, hB, hn, hc, by simpa using hl, by rw [← hx]; exact List.take_left ..⟩⟩
theorem own_docs {w : World} {base c : Nat} {e : TypeId} {A : Option Addr} {l : List Dc} (h : w.ownsRow base e 14 (.slice A l.length c) l.length (DV l)) (hl : l.length ≤ maxLen) : DocsAt w A l := by
  refine ⟨hl, fun hp => ?_⟩
  obtain ⟨g, pad, hA, hg, hB, _⟩ := own_open h hp
  refine ⟨g, 0, hA, hB.lt, fun k x hk j v hv => ?_⟩
  have hj : j < 14 := (List.getElem?_eq_some_iff.1 hv).1
  have hkl := (List.getElem?_eq_some_iff.1 hk).1
  have := DV_get l k x hk j hj
  have hi : k * 14 + j < (DV l).length := by rw [DV_len]; omega
  rw [Nat.zero_add]
  refine hB.cell ?_
  rw [List.getElem?_append_left hi, this, hv]
/-- all blocks below B but R are as they were -/
structure Kb (R B : Nat) (w w' : World) : Prop where
  os : w'.os = w.os
  tape : w'.tape = w.tape
  output : w'.output = w.output
  size : w.heap.size ≤ w'.heap.size
  block : ∀ k, k < B → k ≠ R → w'.heap[k]? = w.heap[k]?
theorem Kb.refl (R B : Nat) (w : World) : Kb R B w w := ⟨rfl, rfl, rfl, Nat.le_refl _, fun _ _ _ => rfl⟩
theorem Kb.trans {R B : Nat} {a w w' : World} (h : Kb R B a w) (k : Kb R B w w') : Kb R B a w' :=
  ⟨k.os.trans h.os, k.tape.trans h.tape, k.output.trans h.output, Nat.le_trans h.size k.size, fun i hi hr => (k.block i hi hr).trans (h.block i hi hr)⟩
theorem Kb.of_below {R B : Nat} {w w' : World} (h : Below w.heap.size w w') (hB : B ≤ w.heap.size) : Kb R B w w' := ⟨h.os, h.tape, h.output, h.size, fun k hk _ => h.block k (by omega)⟩
theorem Kb.of_kept {R B g : Nat} {w w' : World} (h : Kept g w w') (hg : B ≤ g) (hB : B ≤ w.heap.size) : Kb R B w w' := ⟨h.os, h.tape, h.output, h.size, fun k hk _ => h.block k (by omega) (by omega)⟩
theorem Kb.below {R B : Nat} {w w' : World} (h : Kb R B w w') (hR : B ≤ R) : Below B w w' := ⟨h.os, h.tape, h.output, h.size, fun k hk => h.block k hk (by omega)⟩
theorem Kb.set {R B : Nat} {a w : World} (h : Kb R B a w) (i : Nat) (v : Value) : Kb R B a (w.setCell ⟨R, i, none⟩ v) :=
  h.trans ⟨rfl, rfl, rfl, by simp [World.setCell], fun k _ hr => Below.heap_setCell _ _ _ _ hr⟩
/-- a reader: its block, and the row of its documents -/
structure RdrAt (w : World) (R : Nat) (r : Rdr) (A : Option Addr) (c : Nat) : Prop where
  blk : BlkT w R 63 [.slice A r.list.length c, .int .i64 (r.at_ : Int)]
  own : w.ownsRow (R + 1) 27 14 (.slice A r.list.length c) r.list.length (DV r.list)
  len : r.list.length ≤ 64
theorem RdrAt.below {w w' : World} {R : Nat} {r : Rdr} {A : Option Addr} {c : Nat} (h : RdrAt w R r A c) (hb : Below w.heap.size w w') : RdrAt w' R r A c :=
  ⟨h.blk.below hb, own_below h.own hb, h.len⟩
theorem RdrAt.docs {w : World} {R : Nat} {r : Rdr} {A : Option Addr} {c : Nat} (h : RdrAt w R r A c) : DocsAt w A r.list := own_docs h.own (by have := h.len; unfold maxLen; omega)
set_option maxHeartbeats 2000000 in
set_option maxRecDepth 100000 in
theorem contains_any (l : List Dc) (A : Option Addr) (c b : Nat) (id : ByteArray) (w : World) (hD : DocsAt w A l) (h : w.cell? ⟨b, 0, none⟩ = some (.string id)) (hb : b < w.heap.size) :
    Calls Tryz.prog 84 #[.slice A l.length c, .func (.func 85) #[] #[.pointer (some ⟨b, 0, none⟩)]] w
      fun e w' => e = .returned (.bool (l.any (fun d => d.id.toList == id.toList))) ∧ Below w.heap.size w w' := by
  have HI := Lib.hid (fun w hD h hb => index_any l A c b id w hD h hb)
  have HD := hide hD
  have HH := hide h
  clear hD h
  go_enter Tryz.func84, Tryz.ntmps84
  go_wp2_with fail
  refine (HI.out _ HD.out HH.out hb).mono ?_
  rintro e w2 ⟨i, ⟨rfl, hi⟩, hb2⟩
  go_wp2_with fail
  go_ret
  exact ⟨by rw [← hi]; rfl, hb2⟩
set_option maxHeartbeats 2000000 in
set_option maxRecDepth 100000 in
theorem complete_any (r : Rdr) (R : Nat) (A : Option Addr) (c : Nat) (w : World) (h : RdrAt w R r A c) :
    Calls Tryz.prog 39 #[.pointer (some ⟨R, 0, none⟩)] w fun e w' => e = .returned (.bool r.complete) ∧ w' = w := by
  have c0 := h.blk.cell (i := 0) rfl
  have c1 := h.blk.cell (i := 1) rfl
  have hlen := h.len
  have hc : r.complete = (((r.list.length : Int) == 0) || decide (5 ≤ (r.at_ : Int))) := by
    unfold Rdr.complete
    cases r.list with
    | nil => rfl
    | cons x l =>
      have e : (((x :: l).length : Int) == 0) = false := by rw [beq_eq_false_iff_ne, List.length_cons]; omega
      rw [e]
      show (false || decide (5 ≤ r.at_)) = (false || decide (5 ≤ (r.at_ : Int)))
      rw [Bool.false_or, Bool.false_or]
      exact decide_eq_decide.2 (by omega)
  have HC := hide hc
  clear hc h
  by_cases h0 : r.list.length = 0
  · go_enter Tryz.func39, Tryz.ntmps39
    go_wp2_with fail
    go_ret
    exact ⟨by rw [HC.out, h0]; rfl, rfl⟩
  · go_enter Tryz.func39, Tryz.ntmps39
    have hb0 : ((r.list.length : Int) == 0) = false := by rw [beq_eq_false_iff_ne]; omega
    go_wp2_with fail
    go_ret
    exact ⟨by rw [HC.out, hb0]; rfl, rfl⟩
end Go.Proofs.YtghbhchkdomfhaaGreatDoor.PfI
