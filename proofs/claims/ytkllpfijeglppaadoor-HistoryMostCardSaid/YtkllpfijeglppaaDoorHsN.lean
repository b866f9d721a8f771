/- Texts of histories: how a text reads as rows, as plain functions on lists of bytes. -/
import Derived.Test.YtkllpfijeglppaaDoorHsA
import Derived.Lib.Split
import Derived.Lib.CountLaws
import Derived.Lib.CutLaws
namespace Go.Proofs.YtkllpfijeglppaaDoor.HsN
open Hs
/-- a list cut at each c; cur: what has been read of the first piece -/
def splA (c : UInt8) (cur : List UInt8) : List UInt8 → List (List UInt8)
  | [] => [cur]
  | x :: l => if x = c then cur :: splA c [] l else splA c (cur ++ [x]) l
theorem index_cons (c x : UInt8) (l : List UInt8) : Lib.index (x :: l) [c] = if x = c then 0 else if Lib.index l [c] = -1 then -1 else Lib.index l [c] + 1 := by
  by_cases h : x = c
  · subst h; simp [Lib.index, List.isPrefixOf]
  · have h' : (c == x) = false := by simpa using fun e => h e.symm
    simp [Lib.index, List.isPrefixOf, h, h']
theorem index_ge (c : UInt8) : ∀ m : List UInt8, -1 ≤ Lib.index m [c]
  | [] => by simp [Lib.index]
  | y :: m => by
    have := index_ge c m
    rw [index_cons]
    split
    · omega
    · split <;> omega
theorem splA_index (c : UInt8) : ∀ (s cur : List UInt8), splA c cur s = if Lib.index s [c] = -1 then [cur ++ s] else (cur ++ s.take (Lib.index s [c]).toNat) :: splA c [] (s.drop ((Lib.index s [c]).toNat + 1))
  | [], cur => by simp [splA, Lib.index]
  | x :: l, cur => by
    rw [index_cons]
    by_cases h : x = c
    · simp [splA, h]
    · have ih := splA_index c l (cur ++ [x])
      rw [splA, if_neg h, if_neg h, ih]
      by_cases h1 : Lib.index l [c] = -1
      · simp [h1]
      · have h2 : 0 ≤ Lib.index l [c] := by have := index_ge c l; omega
        obtain ⟨i, hi⟩ := Int.eq_ofNat_of_zero_le h2
        have h3 : ¬ ((i : Int) + 1 = -1) := by omega
        have h4 : ((i : Int) + 1).toNat = i + 1 := by omega
        have h5 : ¬ ((i : Int) = -1) := by omega
        rw [hi]
        simp [h3, h4, h5]
theorem index_lt (c : UInt8) : ∀ m : List UInt8, Lib.index m [c] = -1 ∨ (Lib.index m [c]).toNat < m.length
  | [] => by simp [Lib.index]
  | y :: m => by
    have h0 := index_ge c m
    have := index_lt c m
    rw [index_cons]
    split
    · right; simp
    · split
      · left; rfl
      · right
        have : (Lib.index m [c] + 1).toNat = (Lib.index m [c]).toNat + 1 := by omega
        rw [this, List.length_cons]
        omega
theorem splitK_eq (c : UInt8) : ∀ (n : Nat) (s : List UInt8), s.length ≤ n → Lib.splitK [c] 0 (Lib.count s [c]) s = splA c [] s := by
  intro n
  induction n with
  | zero =>
    intro s hs
    obtain rfl : s = [] := List.eq_nil_of_length_eq_zero (by omega)
    rfl
  | succ n ih =>
    intro s hs
    rw [splA_index]
    by_cases h : Lib.index s [c] = -1
    · rw [Lib.count_miss h, if_pos h]; rfl
    · rw [if_neg h]
      have h0 := index_ge c s
      obtain ⟨i, hi⟩ := Int.eq_ofNat_of_zero_le (show 0 ≤ Lib.index s [c] by omega)
      have hc := Lib.count_hit (by simp) hi
      have e : Lib.count s [c] = Lib.count (s.drop (i + 1)) [c] + 1 := by rw [hc]; simp <;> omega
      have hlt := index_lt c s
      rw [hi] at hlt
      have hlt' : i < s.length := by rcases hlt with h | h <;> omega
      have ih' := ih (s.drop (i + 1)) (by simp; omega)
      rw [e, hi]
      have hm : ¬ ((i : Int) == -1) = true := by simp <;> omega
      simp only [Lib.splitK, hi]
      rw [if_neg hm]
      simp only [Int.toNat_natCast, List.nil_append, Nat.add_zero]
      have e2 : [c].length = 1 := rfl
      rw [show i + [c].length = i + 1 from rfl, ih']
def isDig (c : UInt8) : Bool := 48 ≤ c && c ≤ 57
def numVal (l : List UInt8) : Nat := l.foldl (fun n c => 10 * n + (c.toNat - 48)) 0
theorem numVal_snoc (l : List UInt8) (c : UInt8) : numVal (l ++ [c]) = 10 * numVal l + (c.toNat - 48) := by simp [numVal]
def badHead (l : List UInt8) : Bool := decide (l = []) || decide (18 < l.length) || (decide (l.head? = some 48) && decide (1 < l.length))
/-- the number that a word represents -/
def numOf (l : List UInt8) : Option Nat := if badHead l = true ∨ l.all isDig = false then none else some (numVal l)
theorem isDig_iff (c : UInt8) : isDig c = true ↔ 48 ≤ (c.toNat : Int) ∧ (c.toNat : Int) ≤ 57 := by
  simp [isDig, UInt8.le_iff_toNat_le]
  omega
theorem numVal_lt : ∀ (n : Nat) (l : List UInt8), l.length = n → l.all isDig = true → numVal l < 10 ^ n := by
  intro n
  induction n with
  | zero => intro l h _; obtain rfl := List.eq_nil_of_length_eq_zero h; simp [numVal]
  | succ n ih =>
    intro l h hd
    rcases List.eq_nil_or_concat l with rfl | ⟨m, x, rfl⟩
    · simp at h
    · simp only [List.concat_eq_append] at h hd ⊢
      rw [List.all_append, Bool.and_eq_true] at hd
      have h1 := ih m (by simpa using h) hd.1
      have h2 := (isDig_iff x).1 (by simpa using hd.2)
      rw [numVal_snoc, Nat.pow_succ]
      omega
theorem numVal_le {l : List UInt8} (h : l.length ≤ 17) (hd : l.all isDig = true) : numVal l ≤ 99999999999999999 := by
  have h1 := numVal_lt l.length l rfl hd
  have h2 : 10 ^ l.length ≤ 10 ^ 17 := Nat.pow_le_pow_right (by omega) h
  have : (10 : Nat) ^ 17 = 100000000000000000 := by decide
  omega
theorem numOf_le {l : List UInt8} {n : Nat} (h : numOf l = some n) : n ≤ 999999999999999999 := by
  unfold numOf at h
  split at h
  · cases h
  · rename_i hc
    cases h
    simp only [not_or, Bool.not_eq_true] at hc
    have hl : l.length ≤ 18 := by
      have := hc.1
      simp only [badHead, Bool.or_eq_false_iff, decide_eq_false_iff_not] at this
      omega
    have h1 := numVal_lt l.length l rfl (by simpa using hc.2)
    have h2 : 10 ^ l.length ≤ 10 ^ 18 := Nat.pow_le_pow_right (by omega) hl
    have : (10 : Nat) ^ 18 = 1000000000000000000 := by decide
    omega
def numsOf : List (List UInt8) → Option (List Nat)
  | [] => some []
  | w :: ws => match numOf w with
    | none => none
    | some n => (numsOf ws).map (n :: ·)
theorem numsOf_append (a b : List (List UInt8)) : numsOf (a ++ b) = match numsOf a with | none => none | some x => (numsOf b).map (x ++ ·) := by
  induction a with
  | nil => simp [numsOf]
  | cons w a ih =>
    simp only [List.cons_append, numsOf, ih]
    cases numOf w with
    | none => rfl
    | some n =>
      cases numsOf a with
      | none => rfl
      | some x => cases numsOf b <;> simp
theorem numsOf_snoc {a : List (List UInt8)} {x : List Nat} {w : List UInt8} {n : Nat} (ha : numsOf a = some x) (hw : numOf w = some n) : numsOf (a ++ [w]) = some (x ++ [n]) := by
  rw [numsOf_append, ha]; simp [numsOf, hw]
theorem numsOf_bad {a b : List (List UInt8)} {w : List UInt8} (hw : numOf w = none) : numsOf (a ++ w :: b) = none := by
  rw [numsOf_append]
  cases numsOf a <;> simp [numsOf, hw]
def k1L : List UInt8 := [112, 97, 121, 109, 101, 110, 116]
def k2L : List UInt8 := [115, 117, 112, 112, 108, 121]
def k3L : List UInt8 := [116, 114, 97, 110, 115, 102, 101, 114]
def kindW (b : List UInt8) : Int := if b = k1L then 1 else if b = k2L then 2 else if b = k3L then 3 else 0
def countK (k : Int) : Nat := if k = 3 then 6 else 5
def rowN (k : Int) (ns : List Nat) : HRow := ⟨(ns.getD 0 0 : Nat), k, (ns.getD 1 0 : Nat), (ns.getD 2 0 : Nat), (ns.getD 3 0 : Nat), (ns.getD 4 0 : Nat)⟩
/-- the row of a line's words -/
def rowW (l : List (List UInt8)) : Option HRow :=
  if l.length < 5 ∨ kindW (l.getD 1 []) = 0 ∨ l.length ≠ countK (kindW (l.getD 1 [])) then none else (numsOf (l.eraseIdx 1)).map (rowN (kindW (l.getD 1 [])))
/-- the row that a line represents -/
def rowOf (s : List UInt8) : Option HRow := rowW (splA 32 [] s)
/-- what Parse returns: rows, line, error -/
def parseF : Nat → List HRow → List UInt8 → List HRow × Nat × Nat
  | 0, out, _ => (out, 0, 0)
  | f + 1, out, s =>
    if s = [] then (out, 0, 0)
    else if 256 ≤ out.length then ([], out.length + 1, 2)
    else match rowOf (Lib.cut s [10]).1 with
      | none => ([], out.length + 1, 10)
      | some r => if (Lib.cut s [10]).2.2 = true then parseF f (out ++ [r]) (Lib.cut s [10]).2.1 else ([], out.length + 1, 10)
def parseOf (s : List UInt8) : List HRow × Nat × Nat := if 8192 < s.length then ([], 0, 2) else parseF (s.length + 1) [] s
theorem cut_rest {s : List UInt8} {c : UInt8} (h : (Lib.cut s [c]).2.2 = true) : (Lib.cut s [c]).2.1.length < s.length := by
  unfold Lib.cut at h ⊢
  split at h
  · rename_i h0
    have := index_lt c s
    rw [if_pos h0]
    simp only [List.length_drop, List.length_singleton]
    omega
  · cases h
end Go.Proofs.YtkllpfijeglppaaDoor.HsN
