/- Plain: what package parser computes, as functions on a list of tokens. -/
import Derived.Test.YtnbdckfnohagbaaGreatDoorLxA
import Derived.Test.YtnbdckfnohagbaaGreatDoorRN
namespace Go.Proofs.YtnbdckfnohagbaaGreatDoor.PqA
theorem here : True := trivial
open Lx RnQ RnR RnP
/-- the state of a reader: the next token, or the first error and its offset -/
inductive St where
  | ok (n : Nat)
  | bad (e : Nat) (a : Nat)
def St.good : St → Bool
  | .ok _ => true
  | .bad _ _ => false
def tk (ts : List Tok) (n : Nat) : Tok := ts.getD n zeroTok
def str (l : List UInt8) : ByteArray := ⟨l.toArray⟩
def sNo : ByteArray := ⟨#[]⟩
def sEq : ByteArray := ⟨#[61]⟩
def sComma : ByteArray := ⟨#[44]⟩
def sSemi : ByteArray := ⟨#[59]⟩
def sBefore : ByteArray := ⟨#[98, 101, 102, 111, 114, 101]⟩
def sClass : ByteArray := ⟨#[99, 108, 97, 115, 115]⟩
def sLimit : ByteArray := ⟨#[108, 105, 109, 105, 116]⟩
def sSub : ByteArray := ⟨#[115, 117, 98, 111, 114, 100, 105, 110, 97, 116, 101]⟩
/-- has a token a kind and, unless it is empty, a text? -/
def hitT (t : Tok) (kind : Int) (text : ByteArray) : Bool := t.kind == kind && (text.toList.isEmpty || t.text.toList == text.toList)
def isB (ts : List Tok) (kind : Int) (text : ByteArray) : St → Bool
  | .ok n => hitT (tk ts n) kind text
  | .bad _ _ => false
def failS (ts : List Tok) (e : Nat) : St → St
  | .ok n => .bad e (tk ts n).off
  | .bad e' a => .bad e' a
def take (ts : List Tok) (kind : Int) (text : ByteArray) : St → ByteArray × St
  | .ok n => if hitT (tk ts n) kind text then ((tk ts n).text, .ok (n + 1)) else (sNo, .bad 10 (tk ts n).off)
  | .bad e a => (sNo, .bad e a)
/-- a round of the list of a class behind its comma: the state stands at the comma -/
def member (ts : List Tok) (l : List ByteArray) (n : Nat) : ByteArray × St :=
  take ts 1 sNo (if hitT (tk ts (n + 1)) 1 sNo && decide (32 ≤ l.length) then .bad 2 (tk ts (n + 1)).off else .ok (n + 1))
def members (ts : List Tok) : Nat → List ByteArray → St → List ByteArray × St
  | 0, l, s => (l, s)
  | _ + 1, l, .bad e a => (l, .bad e a)
  | f + 1, l, .ok n => if hitT (tk ts n) 4 sComma then members ts f (l ++ [(member ts l n).1]) (member ts l n).2 else (l, .ok n)
def classP (ts : List Tok) (s : St) : (ByteArray × List ByteArray) × St :=
  let a := take ts 1 sNo s
  let b := take ts 4 sEq a.2
  let c := take ts 1 sNo b.2
  let d := members ts (ts.length + 1) [c.1] c.2
  ((a.1, d.1), d.2)
def limitN (ts : List Tok) (n : Nat) : Rat × St :=
  if hitT (tk ts n) 2 sNo then
    let p := parseQ (tk ts n).text.data.toList
    (p.1, if p.2 = 0 then .ok (n + 1) else .bad p.2.toNat (tk ts n).off)
  else (0, .bad 10 (tk ts n).off)
def limitS (ts : List Tok) : St → Rat × St
  | .ok n => limitN ts n
  | .bad e a => (0, .bad e a)
def limitP (ts : List Tok) (s : St) : (ByteArray × Rat) × St :=
  let a := take ts 1 sNo s
  let b := limitS ts a.2
  ((a.1, b.1), b.2)
/-- a clause, with the raw fields of its amount -/
structure Cl where
  kind : Int
  name : ByteArray
  other : ByteArray
  list : List ByteArray
  neg : Bool
  num : ByteArray
  den : ByteArray
  off : Int
def zeroCl : Cl := ⟨0, sNo, sNo, [], false, sNo, sNo, 0⟩
/-- a clause behind its first token t, without its semicolon -/
def body (ts : List Tok) (t : Tok) (s : St) : Cl × St :=
  if t.text = sClass then
    let r := classP ts s
    (⟨1, r.1.1, sNo, r.1.2, false, sNo, sNo, t.off⟩, r.2)
  else if t.text = sLimit then
    let r := limitP ts s
    (⟨3, r.1.1, sNo, [], negB r.1.2, str (encN r.1.2), str (encD r.1.2), t.off⟩, r.2)
  else if t.text = sSub then
    let r := take ts 1 sNo s
    (⟨4, r.1, sNo, [], false, sNo, sNo, t.off⟩, r.2)
  else
    let r := take ts 3 sBefore s
    let q := take ts 1 sNo r.2
    (⟨2, t.text, q.1, [], false, sNo, sNo, t.off⟩, q.2)
theorem tl_mk (a : Array UInt8) : (ByteArray.mk a).toList = a.toList := by rw [ByteArray.toList_eq]
theorem class_tl : sClass.toList = [99, 108, 97, 115, 115] := tl_mk _
theorem limit_tl : sLimit.toList = [108, 105, 109, 105, 116] := tl_mk _
theorem sub_tl : sSub.toList = [115, 117, 98, 111, 114, 100, 105, 110, 97, 116, 101] := tl_mk _
theorem before_tl : sBefore.toList = [98, 101, 102, 111, 114, 101] := tl_mk _
theorem tl_inj {a b : ByteArray} (h : a.toList = b.toList) : a = b := by
  rw [ByteArray.toList_eq, ByteArray.toList_eq] at h
  exact ByteArray.ext (Array.toList_inj.1 h)
theorem body_class {ts : List Tok} {t : Tok} {s : St} (h : (t.text.toList == [99, 108, 97, 115, 115]) = true) : body ts t s = (⟨1, (classP ts s).1.1, sNo, (classP ts s).1.2, false, sNo, sNo, t.off⟩, (classP ts s).2) := by
  have e : t.text = sClass := tl_inj (by rw [beq_iff_eq] at h; rw [h, class_tl])
  unfold body; rw [if_pos e]
theorem not_txt {a b : ByteArray} {l : List UInt8} (h : (a.toList == l) = false) (hb : b.toList = l) : a ≠ b := by
  intro e
  subst e
  rw [hb] at h
  simp at h
theorem body_limit {ts : List Tok} {t : Tok} {s : St} (h0 : (t.text.toList == [99, 108, 97, 115, 115]) = false) (h : (t.text.toList == [108, 105, 109, 105, 116]) = true) :
    body ts t s = (⟨3, (limitP ts s).1.1, sNo, [], negB (limitP ts s).1.2, str (encN (limitP ts s).1.2), str (encD (limitP ts s).1.2), t.off⟩, (limitP ts s).2) := by
  have e : t.text = sLimit := tl_inj (by rw [beq_iff_eq] at h; rw [h, limit_tl])
  unfold body; rw [if_neg (not_txt (b := sClass) h0 class_tl), if_pos e]
theorem body_sub {ts : List Tok} {t : Tok} {s : St} (h0 : (t.text.toList == [99, 108, 97, 115, 115]) = false) (h1 : (t.text.toList == [108, 105, 109, 105, 116]) = false) (h : (t.text.toList == [115, 117, 98, 111, 114, 100, 105, 110, 97, 116, 101]) = true) :
    body ts t s = (⟨4, (take ts 1 sNo s).1, sNo, [], false, sNo, sNo, t.off⟩, (take ts 1 sNo s).2) := by
  have e : t.text = sSub := tl_inj (by rw [beq_iff_eq] at h; rw [h, sub_tl])
  unfold body; rw [if_neg (not_txt (b := sClass) h0 class_tl), if_neg (not_txt (b := sLimit) h1 limit_tl), if_pos e]
theorem body_before {ts : List Tok} {t : Tok} {s : St} (h0 : (t.text.toList == [99, 108, 97, 115, 115]) = false) (h1 : (t.text.toList == [108, 105, 109, 105, 116]) = false) (h : (t.text.toList == [115, 117, 98, 111, 114, 100, 105, 110, 97, 116, 101]) = false) :
    body ts t s = (⟨2, t.text, (take ts 1 sNo (take ts 3 sBefore s).2).1, [], false, sNo, sNo, t.off⟩, (take ts 1 sNo (take ts 3 sBefore s).2).2) := by
  unfold body; rw [if_neg (not_txt (b := sClass) h0 class_tl), if_neg (not_txt (b := sLimit) h1 limit_tl), if_neg (not_txt (b := sSub) h sub_tl)]
def knownB (t : Tok) : Bool := t.kind == 1 || (t.kind == 3 && !(t.text.toList == sBefore.toList))
def clauseP (ts : List Tok) (full : Bool) (n : Nat) : Cl × St :=
  if knownB (tk ts n) then
    if full then (zeroCl, .bad 2 (tk ts n).off)
    else ((body ts (tk ts n) (.ok (n + 1))).1, (take ts 4 sSemi (body ts (tk ts n) (.ok (n + 1))).2).2)
  else (zeroCl, .bad 10 (tk ts n).off)
theorem clause_none {ts : List Tok} {full : Bool} {n : Nat} {t : Tok} (ht : tk ts n = t) (h : knownB t = false) : clauseP ts full n = (zeroCl, .bad 10 t.off) := by
  subst ht
  unfold clauseP; rw [if_neg (by rw [h]; exact Bool.false_ne_true)]
theorem clause_full {ts : List Tok} {n : Nat} {t : Tok} (ht : tk ts n = t) (h : knownB t = true) : clauseP ts true n = (zeroCl, .bad 2 t.off) := by
  subst ht
  unfold clauseP; rw [if_pos h]; rfl
theorem clause_body {ts : List Tok} {n : Nat} {t : Tok} (ht : tk ts n = t) (h : knownB t = true) : clauseP ts false n = ((body ts t (.ok (n + 1))).1, (take ts 4 sSemi (body ts t (.ok (n + 1))).2).2) := by
  subst ht
  unfold clauseP; rw [if_pos h]; rfl
theorem body_off (ts : List Tok) (t : Tok) (s : St) : (body ts t s).1.off = t.off := by
  unfold body
  split
  · rfl
  · split
    · rfl
    · split <;> rfl
def clauses (ts : List Tok) : Nat → List Cl → St → List Cl × St
  | 0, out, s => (out, s)
  | _ + 1, out, .bad e a => (out, .bad e a)
  | f + 1, out, .ok n => if (tk ts n).kind == 5 then (out, .ok n) else clauses ts f (out ++ [(clauseP ts (decide (64 ≤ out.length)) n).1]) (clauseP ts (decide (64 ≤ out.length)) n).2
def answer : List Cl × St → List Cl × Nat × Nat
  | (out, .ok _) => (out, 0, 0)
  | (_, .bad e a) => ([], a, e)
def parseT (ts : List Tok) : List Cl × Nat × Nat := answer (clauses ts (ts.length + 1) [] (.ok 0))
/-- what Parse returns: the clauses, the offset of the error, the error -/
def parseOf (s : ByteArray) : List Cl × Nat × Nat :=
  if (lex s).2.2 = 0 then parseT (lex s).1 else ([], (lex s).2.1, (lex s).2.2.toNat)
/-- an operation that does not go back -/
def St.le (s s' : St) : Prop := ∀ m, s' = .ok m → ∃ n, s = .ok n ∧ n ≤ m
theorem St.le_refl (s : St) : St.le s s := fun m h => ⟨m, h, Nat.le_refl _⟩
theorem St.le.trans {a b c : St} (h : St.le a b) (k : St.le b c) : St.le a c := fun m hm => by
  obtain ⟨n, h1, h2⟩ := k m hm
  obtain ⟨l, h3, h4⟩ := h n h1
  exact ⟨l, h3, Nat.le_trans h4 h2⟩
theorem take_le (ts : List Tok) (kind : Int) (text : ByteArray) (s : St) : St.le s (take ts kind text s).2 := by
  cases s with
  | ok n =>
    intro m h
    simp only [take] at h
    split at h
    · injection h with h; exact ⟨n, rfl, by omega⟩
    · cases h
  | bad e a => intro m h; cases h
theorem member_le (ts : List Tok) (l : List ByteArray) (n : Nat) : St.le (.ok n) (member ts l n).2 := by
  intro m h
  unfold member at h
  split at h
  · cases h
  · obtain ⟨k, h1, h2⟩ := take_le _ _ _ _ m h
    injection h1 with h1
    exact ⟨n, rfl, by omega⟩
theorem members_le (ts : List Tok) : ∀ (f : Nat) (l : List ByteArray) (s : St), St.le s (members ts f l s).2
  | 0, _, s => St.le_refl s
  | _ + 1, _, .bad _ _ => St.le_refl _
  | f + 1, l, .ok n => by
    simp only [members]
    split
    · exact (member_le ts l n).trans (members_le ts f _ _)
    · exact St.le_refl _
theorem class_le (ts : List Tok) (s : St) : St.le s (classP ts s).2 := by
  unfold classP
  exact (((take_le ts _ _ s).trans (take_le ts _ _ _)).trans (take_le ts _ _ _)).trans (members_le ts _ _ _)
theorem limitS_le (ts : List Tok) (s : St) : St.le s (limitS ts s).2 := by
  cases s with
  | bad e a => intro m h; cases h
  | ok n =>
    intro m h
    simp only [limitS, limitN] at h
    split at h
    · dsimp only at h
      split at h
      · injection h with h; exact ⟨n, rfl, by omega⟩
      · cases h
    · cases h
theorem limit_le (ts : List Tok) (s : St) : St.le s (limitP ts s).2 := by
  unfold limitP
  exact (take_le ts _ _ s).trans (limitS_le ts _)
theorem body_le (ts : List Tok) (t : Tok) (s : St) : St.le s (body ts t s).2 := by
  unfold body
  split
  · exact class_le ts s
  · split
    · exact limit_le ts s
    · split
      · exact take_le ts _ _ s
      · exact (take_le ts _ _ s).trans (take_le ts _ _ _)
theorem clause_next {ts : List Tok} {full : Bool} {n m : Nat} (h : (clauseP ts full n).2 = .ok m) : n < m := by
  unfold clauseP at h
  split at h
  · split at h
    · cases h
    · obtain ⟨k, h1, h2⟩ := ((body_le ts (tk ts n) (.ok (n + 1))).trans (take_le ts 4 sSemi _)) m h
      injection h1 with h1
      omega
  · cases h
theorem clauses_end {ts : List Tok} {n : Nat} (h : (tk ts n).kind = 5) (f : Nat) (out : List Cl) : clauses ts f out (.ok n) = (out, .ok n) := by
  cases f with
  | zero => rfl
  | succ f => simp only [clauses]; rw [if_pos (by simpa using h)]
theorem clauses_bad (ts : List Tok) (e a f : Nat) (out : List Cl) : clauses ts f out (.bad e a) = (out, .bad e a) := by cases f <;> rfl
theorem clauses_go {ts : List Tok} {n : Nat} (h : (tk ts n).kind ≠ 5) (f : Nat) (out : List Cl) : clauses ts (f + 1) out (.ok n) = clauses ts f (out ++ [(clauseP ts (decide (64 ≤ out.length)) n).1]) (clauseP ts (decide (64 ≤ out.length)) n).2 := by
  simp only [clauses]; rw [if_neg (by simpa using h)]
/-- what holds of the tokens of a text: the last one, and only it, is an end; names are not reserved, words are -/
structure Toks (ts : List Tok) : Prop where
  last : ∃ l t, ts = l ++ [t] ∧ t.kind = 5 ∧ ∀ x ∈ l, x.kind ≠ 5
  name : ∀ t ∈ ts, t.kind = 1 → resv t.text = false
  word : ∀ t ∈ ts, t.kind = 3 → resv t.text = true
  size : ∀ t ∈ ts, t.text.size ≤ 8192
  off : ∀ t ∈ ts, t.off ≤ 8192
theorem Toks.tk_mem {ts : List Tok} {n : Nat} (h : n < ts.length) : tk ts n ∈ ts := by
  unfold tk
  rw [List.getD_eq_getElem?_getD, List.getElem?_eq_getElem h]
  exact List.getElem_mem h
theorem Toks.pos {ts : List Tok} (h : Toks ts) : 0 < ts.length := by
  obtain ⟨l, t, rfl, _⟩ := h.last
  simp
/-- behind a token that is no end there is another -/
theorem Toks.more {ts : List Tok} (h : Toks ts) {n : Nat} (hn : n < ts.length) (hk : (tk ts n).kind ≠ 5) : n + 1 < ts.length := by
  obtain ⟨l, t, rfl, h5, _⟩ := h.last
  rcases Nat.lt_or_ge n l.length with hl | hl
  · simp; omega
  · exfalso
    have : n = l.length := by simp at hn; omega
    subst this
    apply hk
    simp [tk, h5]
theorem hit_kind {t : Tok} {kind : Int} {text : ByteArray} (h : hitT t kind text = true) : t.kind = kind := by
  unfold hitT at h
  simp only [Bool.and_eq_true, beq_iff_eq] at h
  exact h.1
/-- the state names a token -/
def St.within (ts : List Tok) : St → Prop
  | .ok n => n < ts.length
  | .bad e a => e ≠ 0 ∧ e ≤ 30 ∧ a ≤ 8192
theorem take_no {ts : List Tok} {kind : Int} {text : ByteArray} {s : St} (h : isB ts kind text s = false) : take ts kind text s = (sNo, failS ts 10 s) := by
  cases s with
  | ok n => simp only [isB] at h; simp only [take, failS]; rw [if_neg (by rw [h]; exact Bool.false_ne_true)]
  | bad e a => rfl
theorem is_ok {ts : List Tok} {kind : Int} {text : ByteArray} {s : St} (h : isB ts kind text s = true) : ∃ n, s = .ok n ∧ hitT (tk ts n) kind text = true ∧ take ts kind text s = ((tk ts n).text, .ok (n + 1)) := by
  cases s with
  | ok n => exact ⟨n, rfl, h, by simp only [take]; exact if_pos h⟩
  | bad e a => simp [isB] at h
theorem members_stop {ts : List Tok} {s : St} (h : isB ts 4 sComma s = false) (f : Nat) (l : List ByteArray) : members ts f l s = (l, s) := by
  cases f with
  | zero => rfl
  | succ f => cases s with
    | ok n => simp only [isB] at h; simp only [members]; rw [if_neg (by rw [h]; exact Bool.false_ne_true)]
    | bad e a => rfl
theorem members_go {ts : List Tok} {n : Nat} (h : hitT (tk ts n) 4 sComma = true) (f : Nat) (l : List ByteArray) : members ts (f + 1) l (.ok n) = members ts f (l ++ [(member ts l n).1]) (member ts l n).2 := by
  simp only [members]; rw [if_pos h]
theorem take_next {ts : List Tok} {kind : Int} {text : ByteArray} {n m : Nat} (h : (take ts kind text (.ok n)).2 = .ok m) : m = n + 1 := by
  simp only [take] at h
  split at h
  · injection h with h; exact h.symm
  · cases h
theorem member_next {ts : List Tok} {l : List ByteArray} {n m : Nat} (h : (member ts l n).2 = .ok m) : m = n + 2 := by
  unfold member at h
  split at h
  · cases h
  · exact take_next h
theorem limit_no {ts : List Tok} {s : St} (h : isB ts 2 sNo s = false) : limitS ts s = (0, failS ts 10 s) := by
  cases s with
  | ok n => simp only [isB] at h; simp only [limitS, limitN, failS]; rw [if_neg (by rw [h]; exact Bool.false_ne_true)]
  | bad e a => rfl
theorem limit_go {ts : List Tok} {n : Nat} (h : hitT (tk ts n) 2 sNo = true) {q : Rat} {c : Nat} (hp : parseQ (tk ts n).text.data.toList = (q, (c : Int))) : limitS ts (.ok n) = (q, if c = 0 then .ok (n + 1) else .bad c (tk ts n).off) := by
  simp only [limitS, limitN, hp]
  rw [if_pos h]
  by_cases hc : c = 0
  · rw [if_pos hc, if_pos (by omega)]
  · rw [if_neg hc, if_neg (by omega)]; simp
theorem code_of (l : List UInt8) : ∃ (q : Rat) (c : Nat), parseQ l = (q, (c : Int)) ∧ c ≤ 3 := by
  have key : ∀ n l, ∃ (q : Rat) (c : Nat), readQ n l = (q, (c : Int)) ∧ c ≤ 3 := by
    intro n l
    unfold readQ
    split
    · split
      · split
        · exact ⟨_, 2, rfl, by omega⟩
        · exact ⟨_, 0, rfl, by omega⟩
      · exact ⟨_, 3, rfl, by omega⟩
    · split
      · split
        · split
          · exact ⟨_, 2, rfl, by omega⟩
          · split
            · exact ⟨_, 1, rfl, by omega⟩
            · exact ⟨_, 0, rfl, by omega⟩
        · exact ⟨_, 3, rfl, by omega⟩
      · split
        · split
          · exact ⟨_, 2, rfl, by omega⟩
          · exact ⟨_, 0, rfl, by omega⟩
        · exact ⟨_, 3, rfl, by omega⟩
  unfold parseQ
  split
  · exact key _ _
  · exact key _ _
theorem take_in {ts : List Tok} (h : Toks ts) {kind : Int} (hk : kind ≠ 5) {text : ByteArray} {s : St} (hs : s.within ts) : (take ts kind text s).2.within ts := by
  cases s with
  | ok n =>
    simp only [take]
    split
    · rename_i hh
      exact h.more hs (by rw [hit_kind hh]; exact hk)
    · exact ⟨by omega, by omega, h.off _ (Toks.tk_mem hs)⟩
  | bad e a => exact hs
theorem take_size {ts : List Tok} (h : Toks ts) {kind : Int} {text : ByteArray} {s : St} (hs : s.within ts) : (take ts kind text s).1.size ≤ 8192 := by
  cases s with
  | ok n =>
    simp only [take]
    split
    · exact h.size _ (Toks.tk_mem hs)
    · exact Nat.zero_le _
  | bad e a => exact Nat.zero_le _
end Go.Proofs.YtnbdckfnohagbaaGreatDoor.PqA
