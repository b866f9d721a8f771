/- PqX, PqY, in one text. -/
import Derived.Test.YtnbdckfnohagbaaGreatDoorPT
namespace Go.Proofs.YtnbdckfnohagbaaGreatDoor.PqX
theorem here : True := trivial
open Lx PqA NmA PqS PqT RnA RnB RnQ RnR RnP RnD RnE
theorem bt_drop (s : ByteArray) (p j : Nat) : bt s (p + j) = (((s.data.toList.drop p).getD j 0).toNat : Int) := by
  unfold bt
  rw [List.getD_eq_getElem?_getD, List.getD_eq_getElem?_getD, List.getElem?_drop]
theorem len_data (s : ByteArray) : s.data.toList.length = s.size := by simp
theorem drop_lt {u : ByteArray} {p : Nat} {a b : List UInt8} {c : UInt8} (h : u.data.toList.drop p = a ++ c :: b) : p + a.length < u.size := by
  have e := congrArg List.length h
  rw [List.length_drop, len_data, List.length_append, List.length_cons] at e
  omega
theorem drop_more {u : ByteArray} {p : Nat} {a b : List UInt8} (h : u.data.toList.drop p = a ++ b) : u.data.toList.drop (p + a.length) = b := by
  rw [← List.drop_drop, h, List.drop_left]
theorem bt_head {u : ByteArray} {p : Nat} {c : UInt8} {r : List UInt8} (h : u.data.toList.drop p = c :: r) : bt u p = (c.toNat : Int) := by
  have := bt_drop u p 0
  rw [h] at this
  simpa using this
theorem ext_drop {u : ByteArray} {p : Nat} {a b : List UInt8} (h : u.data.toList.drop p = a ++ b) : u.extract p (p + a.length) = str a := by
  have e := Lib.extract_data u p (p + a.length)
  rw [h, show p + a.length - p = a.length by omega, List.take_left] at e
  generalize u.extract p _ = y at e
  obtain ⟨⟨m⟩⟩ := y
  simp only at e
  rw [e]; rfl
/-- a skip over bytes that it takes, to one that it does not take -/
theorem skip_over {q : Int → Bool} {u : ByteArray} : ∀ (a : List UInt8) (p : Nat) (c : UInt8) (r : List UInt8), u.data.toList.drop p = a ++ c :: r → (∀ x ∈ a, q (x.toNat : Int) = true) → q (c.toNat : Int) = false → skip q u p = p + a.length
  | [], p, c, r, h, _, hc => by
    rw [skip_stop (by rw [bt_head h]; exact hc)]; rfl
  | x :: a, p, c, r, h, ha, hc => by
    have hlt := drop_lt (a := []) (u := u) (p := p) (c := x) (b := a ++ c :: r) h
    rw [skip_go (by simpa using hlt) (by rw [bt_head h]; exact ha x (by simp))]
    have h1 : u.data.toList.drop (p + 1) = a ++ c :: r := by
      have := drop_more (a := [x]) (b := a ++ c :: r) (u := u) (p := p) h
      exact this
    rw [skip_over a (p + 1) c r h1 (fun y hy => ha y (by simp [hy])) hc, List.length_cons]
    omega
/-- a byte that ends a token -/
def delim (c : UInt8) : Bool := !inName (c.toNat : Int) && (!((c.toNat : Int) == 46) && !((c.toNat : Int) == 47))
theorem delim_parts {c : UInt8} (h : delim c = true) : inName (c.toNat : Int) = false ∧ isDigit (c.toNat : Int) = false ∧ isLetter (c.toNat : Int) = false ∧ ((c.toNat : Int) == 46) = false ∧ ((c.toNat : Int) == 47) = false := by
  unfold delim inName at h
  simp only [Bool.and_eq_true, Bool.not_eq_true', Bool.or_eq_false_iff] at h
  exact ⟨by unfold inName; simp only [Bool.or_eq_false_iff]; exact h.1, h.1.1.1.2, h.1.1.1.1, h.2.1, h.2.2⟩
/-- a token and the blanks behind it -/
structure It where
  kind : Int
  text : List UInt8
  gap : List UInt8
def It.bytes (t : It) : List UInt8 := t.text ++ t.gap
def flat (l : List It) : List UInt8 := l.flatMap It.bytes
def tokOf (t : It) (p : Nat) : Tok := ⟨t.kind, str t.text, p⟩
/-- the tokens that come back -/
def lay : Nat → List It → List Tok
  | _, [] => []
  | p, t :: l => tokOf t p :: lay (p + t.bytes.length) l
theorem lay_len : ∀ (l : List It) (p : Nat), (lay p l).length = l.length
  | [], _ => rfl
  | t :: l, p => by simp [lay, lay_len l]
theorem flat_cons (t : It) (l : List It) : flat (t :: l) = t.text ++ (t.gap ++ flat l) := by simp [flat, It.bytes]
theorem flat_app (a b : List It) : flat (a ++ b) = flat a ++ flat b := by simp [flat]
theorem lay_app : ∀ (a b : List It) (p : Nat), lay p (a ++ b) = lay p a ++ lay (p + (flat a).length) b
  | [], b, p => by simp [lay, flat]
  | t :: a, b, p => by
    show tokOf t p :: lay (p + t.bytes.length) (a ++ b) = _
    rw [lay_app a b, flat_cons]
    simp only [lay, List.cons_append, It.bytes, List.length_append]
    congr 2
    congr 1
    omega
/-- a token that splits off wherever its text stands with a byte behind it that ends it -/
def Lexes (t : It) : Prop := t.kind ≠ 0 ∧ (t.kind = 1 → t.text.length ≤ 32) ∧ ∀ u p c r, u.data.toList.drop p = t.text ++ c :: r → delim c = true → next u p = (p + t.text.length, t.kind)
def Chain : List It → Prop
  | [] => True
  | t :: l => Lexes t ∧ (∀ c ∈ t.gap, isBlank (c.toNat : Int) = true) ∧ (∃ c r, t.gap ++ flat l = c :: r ∧ delim c = true) ∧ Chain l
theorem next_blank {u : ByteArray} {p n : Nat} {kd : Int} (h : next u p = (n, kd)) (h0 : kd ≠ 0) : blanks u p = p := by
  have key : isLetter (bt u p) = true ∨ isDigit (bt u p) = true ∨ isSign (bt u p) = true := by
    unfold next at h
    by_cases c1 : isLetter (bt u p) = true
    · exact .inl c1
    · rw [if_neg c1] at h
      by_cases c2 : isDigit (bt u p) = true
      · exact .inr (.inl c2)
      · rw [if_neg c2] at h
        by_cases c3 : isSign (bt u p) = true
        · exact .inr (.inr c3)
        · rw [if_neg c3] at h
          simp only [Prod.mk.injEq] at h
          omega
  refine blank_stop ?_ ?_
  · simp only [isLetter, isDigit, isSign, Bool.or_eq_true, beq_iff_eq, decide_eq_true_eq] at key
    simp only [isBlank, Bool.or_eq_false_iff, beq_eq_false_iff_ne]
    omega
  · simp only [isLetter, isDigit, isSign, Bool.or_eq_true, beq_iff_eq, decide_eq_true_eq] at key
    rw [beq_eq_false_iff_ne]
    omega
theorem blanks_over {u : ByteArray} : ∀ (g : List UInt8) (p : Nat) (r : List UInt8), u.data.toList.drop p = g ++ r → (∀ c ∈ g, isBlank (c.toNat : Int) = true) → blanks u p = blanks u (p + g.length)
  | [], _, _, _, _ => rfl
  | x :: g, p, r, h, hb => by
    have hlt := drop_lt (a := []) (u := u) (p := p) (c := x) (b := g ++ r) h
    rw [blank_sp (by simpa using hlt) (by rw [bt_head h]; exact hb x (by simp))]
    have h1 : u.data.toList.drop (p + 1) = g ++ r := drop_more (a := [x]) (b := g ++ r) (u := u) (p := p) h
    rw [blanks_over g (p + 1) r h1 (fun c hc => hb c (by simp [hc])), List.length_cons]
    congr 1; omega
theorem lexF_items (u : ByteArray) : ∀ (l : List It) (f p : Nat) (out : List Tok), u.data.toList.drop p = flat l → Chain l → out.length + l.length ≤ 2048 → u.size < blanks u p + f → p ≤ u.size →
    lexF u f (blanks u p) out = (out ++ lay p l ++ [⟨5, ByteArray.empty, u.size⟩], 0, 0)
  | [], f, p, out, hd, _, _, hf, hp => by
    have e := congrArg List.length hd
    rw [List.length_drop, len_data] at e
    have hpe : p = u.size := by simp [flat] at e; omega
    subst hpe
    rw [blank_end (Nat.le_refl _)] at hf ⊢
    rw [lex_end (Nat.le_refl _) hf (Nat.le_refl _)]
    simp [lay]
  | t :: l, f, p, out, hd, ⟨⟨h0, h1, hn⟩, hg, ⟨c, r, hc, hdl⟩, hch⟩, hl, hf, hp => by
    rw [flat_cons] at hd
    have hd1 := hd
    rw [hc] at hd1
    have hx := hn u p c r hd1 hdl
    have hlt := drop_lt hd1
    have hd2 := drop_more hd
    have hst : stops u (p + t.text.length) = false := by
      obtain ⟨_, _, k1, k2, k3⟩ := delim_parts hdl
      unfold stops
      rw [hc] at hd2
      rw [bt_head hd2, k1, k2, k3]
      simp
    rw [next_blank hx h0] at hf ⊢
    have hkl : t.text.length ≤ t.text.length + t.gap.length := by omega
    rw [lex_step (by omega) hf hx h0 (by simp at hl; omega) (by rw [hst]; simp), ext_drop hd]
    rw [blanks_over t.gap _ _ hd2 hg]
    have hd3 := drop_more hd2
    have hb : t.bytes.length = t.text.length + t.gap.length := by simp [It.bytes]
    have hle : p + t.text.length + t.gap.length ≤ u.size := by
      have e := congrArg List.length hd2
      rw [List.length_drop, len_data, List.length_append] at e
      omega
    have hge : p + t.text.length + t.gap.length ≤ blanks u (p + t.text.length + t.gap.length) := blank_ge hle
    have hpos : 1 ≤ t.text.length := by
      rcases Nat.eq_zero_or_pos t.text.length with hz | hz
      · exfalso
        have he : t.text = [] := List.eq_nil_of_length_eq_zero hz
        have hc2 := next_cases u p (by omega)
        rw [hx, hz] at hc2
        dsimp only at hc2
        rcases hc2 with ⟨hk, _⟩ | ⟨hk, _⟩
        · exact h0 hk
        · omega
      · exact hz
    have IH := lexF_items u l (f - 1) (p + t.text.length + t.gap.length) (out ++ [(⟨t.kind, str t.text, p⟩ : Tok)]) hd3 hch (by simp at hl ⊢; omega) (by omega) hle
    refine IH.trans ?_
    simp only [lay, tokOf, hb]
    rw [← Nat.add_assoc]
    simp
/-- a text of items splits into them -/
theorem lex_items {l : List It} (hch : Chain l) (hl : l.length ≤ 2048) (hs : (flat l).length ≤ 8192) : lex (str (flat l)) = (lay 0 l ++ [⟨5, ByteArray.empty, (flat l).length⟩], 0, 0) := by
  have hsz : (str (flat l)).size = (flat l).length := by simp [str, ByteArray.size]
  unfold lex
  rw [if_neg (by omega), lexF_items (str (flat l)) l _ 0 [] (by rw [List.drop_zero]; rfl) hch (by simpa using hl) (by omega) (by omega), hsz]
  simp
theorem lexes_sign {c : UInt8} {g : List UInt8} (h : isSign (c.toNat : Int) = true) : Lexes ⟨4, [c], g⟩ := by
  refine ⟨show (4 : Int) ≠ 0 by decide, fun h => absurd h (show (4 : Int) ≠ 1 by decide), fun u p d r hd _ => ?_⟩
  have hb : bt u p = (c.toNat : Int) := bt_head hd
  have hn := sign_not h
  unfold next
  rw [hb, hn.1, hn.2, h]
  simp
/-- the bytes of a name or a word -/
def wordL (l : List UInt8) : Prop := ∃ c r, l = c :: r ∧ isLetter (c.toNat : Int) = true ∧ (∀ x ∈ r, inName (x.toNat : Int) = true) ∧ r.length < 32
theorem lexes_word {l g : List UInt8} {k : Int} (h : wordL l) (hk : wordKind (str l) = k) : Lexes ⟨k, l, g⟩ := by
  subst hk
  obtain ⟨c, r, rfl, hc, hr, hlen⟩ := h
  refine ⟨by show wordKind _ ≠ 0; rcases wordKind_cases (str (c :: r)) with e | e <;> rw [e] <;> decide, fun _ => by simp; omega, fun u p d t hd hdl => ?_⟩
  dsimp only at hd ⊢
  have hb : bt u p = (c.toNat : Int) := bt_head hd
  have hs : skip inName u p = p + (c :: r).length := skip_over (c :: r) p d t hd (fun x hx => by
    rcases List.mem_cons.1 hx with rfl | hx
    · simp [inName, hc]
    · exact hr x hx) (delim_parts hdl).1
  unfold next
  rw [hb, if_pos hc, hs, ext_drop hd]
theorem dig_of {l : List UInt8} (h : digs l = true) : ∀ x ∈ l, isDigit (x.toNat : Int) = true := fun x hx => by
  have := digs_mem h hx
  unfold isDigit
  exact decide_eq_true (by omega)
theorem lexes_nat {n : Nat} {g : List UInt8} : Lexes ⟨2, decOf n, g⟩ := by
  refine ⟨show (2 : Int) ≠ 0 by decide, fun h => absurd h (show (2 : Int) ≠ 1 by decide), fun u p d r hd hdl => ?_⟩
  dsimp only at hd ⊢
  obtain ⟨_, k2, k3, k4, k5⟩ := delim_parts hdl
  rcases he : decOf n with _ | ⟨c, t⟩
  · exact absurd he (decOf_ne n)
  have hcd : isDigit (c.toNat : Int) = true := dig_of (digs_decOf n) c (by rw [he]; simp)
  have hs : skip isDigit u p = p + (decOf n).length := skip_over _ p d r hd (dig_of (digs_decOf n)) k2
  have hlt := drop_lt hd
  have hd2 := drop_more hd
  rw [he] at hd hs hlt hd2
  have hb : bt u p = (c.toNat : Int) := bt_head hd
  have hnum : number u p = p + (c :: t).length := number_less (by omega) hs (by unfold moreB; rw [bt_head hd2, k4, k5]; simp)
  unfold next
  rw [hb, digit_not hcd, hcd, hnum]
  simp
theorem lexes_ratio {n m : Nat} {g : List UInt8} : Lexes ⟨2, decOf n ++ 47 :: decOf m, g⟩ := by
  refine ⟨show (2 : Int) ≠ 0 by decide, fun h => absurd h (show (2 : Int) ≠ 1 by decide), fun u p d r hd hdl => ?_⟩
  dsimp only at hd ⊢
  obtain ⟨_, k2, k3, k4, k5⟩ := delim_parts hdl
  rcases he : decOf n with _ | ⟨c, t⟩
  · exact absurd he (decOf_ne n)
  rcases hm : decOf m with _ | ⟨c2, t2⟩
  · exact absurd hm (decOf_ne m)
  have hcd : isDigit (c.toNat : Int) = true := dig_of (digs_decOf n) c (by rw [he]; simp)
  have hcd2 : isDigit (c2.toNat : Int) = true := dig_of (digs_decOf m) c2 (by rw [hm]; simp)
  have hd' : u.data.toList.drop p = decOf n ++ 47 :: (decOf m ++ d :: r) := by rw [hd]; simp
  have hs : skip isDigit u p = p + (decOf n).length := skip_over _ p 47 _ hd' (dig_of (digs_decOf n)) (by decide)
  have hlt := drop_lt hd'
  have hd2 := drop_more hd'
  have hd3 : u.data.toList.drop (p + (decOf n).length + 1) = decOf m ++ d :: r := drop_more (a := [47]) (b := decOf m ++ d :: r) hd2
  have hlt3 := drop_lt hd3
  have hs3 : skip isDigit u (p + (decOf n).length + 1) = p + (decOf n).length + 1 + (decOf m).length := skip_over _ _ d r hd3 (dig_of (digs_decOf m)) k2
  have hb47 : bt u (p + (decOf n).length) = 47 := bt_head hd2
  rw [hm] at hd3
  have hbm : bt u (p + (decOf n).length + 1) = (c2.toNat : Int) := bt_head hd3
  have hmore : moreB u (p + (decOf n).length) = true := by
    unfold moreB
    rw [hb47, hbm, hcd2]
    simp only [Bool.and_eq_true, decide_eq_true_eq]
    refine ⟨?_, by decide⟩
    rw [hm] at hlt3
    simp at hlt3
    omega
  have hnum : number u p = p + (decOf n ++ 47 :: decOf m).length := by
    rw [number_more (by omega) hs hmore, hs3]
    simp only [List.length_append, List.length_cons]
    omega
  rw [he] at hd'
  have hb : bt u p = (c.toNat : Int) := bt_head hd'
  rw [← hm, ← he]
  unfold next
  rw [hb, digit_not hcd, hcd, hnum]
  simp
end Go.Proofs.YtnbdckfnohagbaaGreatDoor.PqX
namespace Go.Proofs.YtnbdckfnohagbaaGreatDoor.PqY
theorem here : True := trivial
open Lx PqA NmA PqS PqT PqU PqX RoL RnA RnB RnQ RnR RnP RnD RnE
/-- an amount whose text is short enough to be read -/
def NumOk (x : Cl) : Prop := x.kind = 3 → (decOf (nm (fixQ x.neg x.num.data.toList x.den.data.toList))).length ≤ 2000 ∧ (decOf (fixQ x.neg x.num.data.toList x.den.data.toList).den).length ≤ 2000
def nmI (s : ByteArray) (g : List UInt8) : It := ⟨1, s.data.toList, g⟩
def sgI (c : UInt8) (g : List UInt8) : It := ⟨4, [c], g⟩
def tailI : List ByteArray → List It
  | [] => []
  | s :: l => sgI 44 [32] :: nmI s [] :: tailI l
def amt (x : Cl) : Rat := fixQ x.neg x.num.data.toList x.den.data.toList
/-- the tokens of a clause -/
def itemsOf (x : Cl) : List It :=
  if x.kind = 1 then ⟨3, [99, 108, 97, 115, 115], [32]⟩ :: nmI x.name [32] :: sgI 61 [32] :: nmI (x.list.headD sNo) [] :: (tailI x.list.tail ++ [sgI 59 [10]])
  else if x.kind = 2 then [nmI x.name [32], ⟨3, [98, 101, 102, 111, 114, 101], [32]⟩, nmI x.other [], sgI 59 [10]]
  else if x.kind = 3 then [⟨3, [108, 105, 109, 105, 116], [32]⟩, nmI x.name [32], ⟨2, formatQ (amt x), []⟩, sgI 59 [10]]
  else [⟨3, [115, 117, 98, 111, 114, 100, 105, 110, 97, 116, 101], [32]⟩, nmI x.name [], sgI 59 [10]]
theorem flat_tail : ∀ (l : List ByteArray), flat (tailI l) = Lib.joinTail [44, 32] (l.map (·.data.toList))
  | [] => rfl
  | s :: l => by
    rw [tailI, flat_cons, flat_cons, flat_tail l]
    simp [Lib.joinTail, sgI, nmI]
theorem flat_nil : flat [] = [] := rfl
theorem flat_items {x : Cl} (h : codeOf x = 0) : flat (itemsOf x) = lineL x := by
  obtain ⟨_, hk⟩ := ok_kinds h
  unfold itemsOf lineL headL
  rcases hk with ⟨k1, ha, h2, h3⟩ | ⟨k2, ho⟩ | ⟨k3, _⟩ | k4
  · rw [if_pos k1, if_pos k1]
    obtain ⟨s, l, hl⟩ : ∃ s l, x.list = s :: l := by
      cases hx : x.list with
      | nil => rw [hx] at h2; simp at h2
      | cons s l => exact ⟨s, l, rfl⟩
    rw [hl]
    simp only [flat_cons, flat_app, flat_tail, flat_nil, List.headD_cons, List.tail_cons, List.map_cons, Lib.join_cons, nmI, sgI]
    simp
  · rw [if_neg (by omega), if_pos k2, if_neg (by omega), if_pos k2]
    simp [flat_cons, flat_nil, nmI, sgI]
  · rw [if_neg (by omega), if_neg (by omega), if_pos k3, if_neg (by omega), if_neg (by omega), if_pos k3]
    simp [flat_cons, flat_nil, nmI, sgI, amt]
  · rw [if_neg (by omega), if_neg (by omega), if_neg (by omega), if_neg (by omega), if_neg (by omega), if_neg (by omega)]
    simp [flat_cons, flat_nil, nmI, sgI]
theorem str_self (s : ByteArray) : str s.data.toList = s := by obtain ⟨⟨l⟩⟩ := s; rfl
theorem plB_parts {s : ByteArray} (h : plB s = true) : resv s = false ∧ wordL s.data.toList := by
  unfold plB nmB at h
  simp only [Bool.and_eq_true, decide_eq_true_eq, Bool.not_eq_true'] at h
  obtain ⟨⟨h1, h2, h3, h4⟩, h5⟩ := h
  refine ⟨h5, ?_⟩
  have hlen := len_data s
  rcases hd : s.data.toList with _ | ⟨c, r⟩
  · rw [hd] at hlen; simp at hlen; omega
  · have hb : ∀ j, bt s j = (((c :: r).getD j 0).toNat : Int) := fun j => by unfold bt; rw [hd]
    rw [hd] at hlen
    simp only [List.length_cons] at hlen
    refine ⟨c, r, rfl, by have := hb 0; rw [this] at h3; exact h3, fun x hx => ?_, by omega⟩
    obtain ⟨j, hj⟩ := List.getElem?_of_mem hx
    have hjl := (List.getElem?_eq_some_iff.1 hj).1
    have := skip_in (p := inName) (s := s) (i := 0) (j := j + 1) (by omega) (by omega)
    rw [hb, List.getD_eq_getElem?_getD, List.getElem?_cons_succ, hj] at this
    exact this
theorem lexes_name {s : ByteArray} {g : List UInt8} (h : plB s = true) : Lexes (nmI s g) := by
  obtain ⟨h1, h2⟩ := plB_parts h
  exact lexes_word h2 (by rw [str_self]; unfold wordKind; rw [h1]; rfl)
theorem chain_gap {t : It} {l : List It} {c : UInt8} (h : Lexes t) (hg : t.gap = [c]) (hc : isBlank (c.toNat : Int) = true ∧ delim c = true) (hl : Chain l) : Chain (t :: l) := by
  refine ⟨h, fun x hx => ?_, ⟨c, flat l, by rw [hg]; rfl, hc.2⟩, hl⟩
  rw [hg] at hx
  rw [List.mem_singleton] at hx
  subst hx
  exact hc.1
theorem chain_tight {t : It} {l : List It} {c : UInt8} {r : List UInt8} (h : Lexes t) (hg : t.gap = []) (hf : flat l = c :: r) (hc : delim c = true) (hl : Chain l) : Chain (t :: l) := by
  refine ⟨h, fun x hx => ?_, ⟨c, r, by rw [hg, hf]; rfl, hc⟩, hl⟩
  rw [hg] at hx
  cases hx
theorem b32 : isBlank (((32 : UInt8).toNat : Nat) : Int) = true ∧ delim 32 = true := by decide
theorem b10 : isBlank (((10 : UInt8).toNat : Nat) : Int) = true ∧ delim 10 = true := by decide
theorem lexes_semi {g : List UInt8} : Lexes (sgI 59 g) := lexes_sign (by decide)
theorem lexes_comma {g : List UInt8} : Lexes (sgI 44 g) := lexes_sign (by decide)
theorem lexes_eq {g : List UInt8} : Lexes (sgI 61 g) := lexes_sign (by decide)
theorem word_class {g : List UInt8} : Lexes ⟨3, [99, 108, 97, 115, 115], g⟩ := lexes_word ⟨99, [108, 97, 115, 115], rfl, by decide, by decide, by decide⟩ (by unfold wordKind resv; rw [show (str [99, 108, 97, 115, 115]).toList = _ from tl_mk _]; rfl)
theorem word_before {g : List UInt8} : Lexes ⟨3, [98, 101, 102, 111, 114, 101], g⟩ := lexes_word ⟨98, [101, 102, 111, 114, 101], rfl, by decide, by decide, by decide⟩ (by unfold wordKind resv; rw [show (str [98, 101, 102, 111, 114, 101]).toList = _ from tl_mk _]; rfl)
theorem word_limit {g : List UInt8} : Lexes ⟨3, [108, 105, 109, 105, 116], g⟩ := lexes_word ⟨108, [105, 109, 105, 116], rfl, by decide, by decide, by decide⟩ (by unfold wordKind resv; rw [show (str [108, 105, 109, 105, 116]).toList = _ from tl_mk _]; rfl)
theorem word_sub {g : List UInt8} : Lexes ⟨3, [115, 117, 98, 111, 114, 100, 105, 110, 97, 116, 101], g⟩ := lexes_word ⟨115, [117, 98, 111, 114, 100, 105, 110, 97, 116, 101], rfl, by decide, by decide, by decide⟩ (by unfold wordKind resv; rw [show (str [115, 117, 98, 111, 114, 100, 105, 110, 97, 116, 101]).toList = _ from tl_mk _]; rfl)
theorem lexes_num {q : Rat} {g : List UInt8} (h : negB q = false) : Lexes ⟨2, formatQ q, g⟩ := by
  unfold formatQ
  rw [h, if_neg Bool.false_ne_true, List.nil_append]
  by_cases hd : q.den = 1
  · rw [if_pos hd, List.append_nil]; exact lexes_nat
  · rw [if_neg hd]; exact lexes_ratio
theorem neg_of {x : Cl} (h : ¬ sgC x.neg x.num x.den < 0) : negB (amt x) = false := by
  unfold sgC at h
  change ¬ sgnQ (amt x) < 0 at h
  rw [sgnQ_eq] at h
  cases hn : negB (amt x)
  · rfl
  · rw [hn] at h
    by_cases h0 : nm (amt x) = 0
    · have hz : (amt x).num.natAbs = 0 := h0
      have hlt : (amt x).num < 0 := by simpa [negB] using hn
      omega
    · rw [if_neg h0] at h
      exact absurd (by decide) h
theorem chain_tail : ∀ (l : List ByteArray) (rest : List It), (∀ s ∈ l, plB s = true) → Chain rest → Chain (tailI l ++ sgI 59 [10] :: rest) ∧ ∃ c r, flat (tailI l ++ sgI 59 [10] :: rest) = c :: r ∧ delim c = true
  | [], rest, _, hr => ⟨chain_gap lexes_semi rfl b10 hr, 59, _, rfl, by decide⟩
  | s :: l, rest, hs, hr => by
    obtain ⟨h1, c, r, h2, h3⟩ := chain_tail l rest (fun s hs' => hs s (by simp [hs'])) hr
    exact ⟨chain_gap lexes_comma rfl b32 (chain_tight (lexes_name (hs s (by simp))) rfl h2 h3 h1), 44, _, rfl, by decide⟩
theorem chain_items {x : Cl} (h : codeOf x = 0) {rest : List It} (hr : Chain rest) : Chain (itemsOf x ++ rest) := by
  obtain ⟨hn, hk⟩ := ok_kinds h
  unfold itemsOf
  rcases hk with ⟨k1, ha, h2, h3⟩ | ⟨k2, ho⟩ | ⟨k3, hg⟩ | k4
  · rw [if_pos k1]
    obtain ⟨s, l, hl⟩ : ∃ s l, x.list = s :: l := by
      cases hx : x.list with
      | nil => rw [hx] at h2; simp at h2
      | cons s l => exact ⟨s, l, rfl⟩
    rw [hl] at ha ⊢
    rw [List.all_cons, Bool.and_eq_true] at ha
    obtain ⟨c1, c, r, c2, c3⟩ := chain_tail l rest (fun s hs => List.all_eq_true.1 ha.2 s hs) hr
    have := chain_gap (word_class (g := [32])) rfl b32 (chain_gap (lexes_name (g := [32]) hn) rfl b32 (chain_gap (lexes_eq (g := [32])) rfl b32 (chain_tight (lexes_name (g := []) ha.1) rfl c2 c3 c1)))
    simpa [List.append_assoc] using this
  · rw [if_neg (by omega), if_pos k2]
    exact chain_gap (lexes_name hn) rfl b32 (chain_gap word_before rfl b32 (chain_tight (c := 59) (lexes_name ho) rfl rfl (by decide) (chain_gap lexes_semi rfl b10 hr)))
  · rw [if_neg (by omega), if_neg (by omega), if_pos k3]
    exact chain_gap word_limit rfl b32 (chain_gap (lexes_name hn) rfl b32 (chain_tight (c := 59) (lexes_num (neg_of hg)) rfl rfl (by decide) (chain_gap lexes_semi rfl b10 hr)))
  · rw [if_neg (by omega), if_neg (by omega), if_neg (by omega)]
    exact chain_gap word_sub rfl b32 (chain_tight (c := 59) (lexes_name hn) rfl rfl (by decide) (chain_gap lexes_semi rfl b10 hr))
def itemsAll (l : List Cl) : List It := l.flatMap itemsOf
theorem chain_all : ∀ (l : List Cl), okAll l = true → Chain (itemsAll l)
  | [], _ => trivial
  | x :: l, h => by
    unfold okAll at h
    rw [List.all_cons, Bool.and_eq_true] at h
    unfold itemsAll
    rw [List.flatMap_cons]
    exact chain_items (by simpa using h.1) (chain_all l h.2)
theorem flat_all : ∀ (l : List Cl), okAll l = true → flat (itemsAll l) = textOf l
  | [], _ => rfl
  | x :: l, h => by
    unfold okAll at h
    rw [List.all_cons, Bool.and_eq_true] at h
    have IH := flat_all l h.2
    unfold itemsAll textOf at IH ⊢
    rw [List.flatMap_cons, List.flatMap_cons, flat_app, flat_items (by simpa using h.1), IH]
/-- a clause as Parse gives it back, from an offset -/
def bareAt (x : Cl) (p : Nat) : Cl :=
  if x.kind = 1 then ⟨1, x.name, sNo, x.list, false, sNo, sNo, p⟩
  else if x.kind = 2 then ⟨2, x.name, x.other, [], false, sNo, sNo, p⟩
  else if x.kind = 3 then ⟨3, x.name, sNo, [], negB (amt x), str (encN (amt x)), str (encD (amt x)), p⟩
  else ⟨4, x.name, sNo, [], false, sNo, sNo, p⟩
section
variable {ts : List Tok} {n : Nat} {t : Tok} {r : List Tok}
theorem tk_drop (h : ts.drop n = t :: r) : tk ts n = t := by
  unfold tk
  have := congrArg (fun l => l[0]?) h
  simp only [List.getElem?_drop, Nat.add_zero, List.getElem?_cons_zero] at this
  rw [List.getD_eq_getElem?_getD, this]; rfl
theorem drop_next (h : ts.drop n = t :: r) : ts.drop (n + 1) = r := by rw [← List.drop_drop, h]; rfl
theorem take_hit {kind : Int} {text : ByteArray} (h : ts.drop n = t :: r) (hh : hitT t kind text = true) : take ts kind text (.ok n) = (t.text, .ok (n + 1)) := by
  simp only [take]
  rw [tk_drop h, if_pos hh]
theorem hit_name (s : ByteArray) (g : List UInt8) (p : Nat) : hitT (tokOf (nmI s g) p) 1 sNo = true := by
  unfold hitT sNo; rw [show (ByteArray.mk #[]).toList = [] from tl_mk _]; rfl
theorem hit_num (l g : List UInt8) (p : Nat) : hitT (tokOf ⟨2, l, g⟩ p) 2 sNo = true := by
  unfold hitT sNo; rw [show (ByteArray.mk #[]).toList = [] from tl_mk _]; rfl
theorem hit_sign {c : UInt8} (g : List UInt8) (p : Nat) : hitT (tokOf (sgI c g) p) 4 ⟨#[c]⟩ = true := by
  unfold hitT
  show (4 == 4 && (_ || (str [c]).toList == (ByteArray.mk #[c]).toList)) = true
  rw [show (str [c]).toList = (ByteArray.mk #[c]).toList from rfl]
  simp
theorem hit_before (g : List UInt8) (p : Nat) : hitT (tokOf ⟨3, [98, 101, 102, 111, 114, 101], g⟩ p) 3 sBefore = true := by
  unfold hitT
  show (3 == 3 && (_ || (str [98, 101, 102, 111, 114, 101]).toList == sBefore.toList)) = true
  rw [show (str [98, 101, 102, 111, 114, 101]).toList = sBefore.toList from rfl]
  simp
end
theorem members_lay {ts : List Tok} : ∀ (l : List ByteArray) (f n p : Nat) (acc : List ByteArray) (rest : List Tok), ts.drop n = lay p (tailI l ++ [sgI 59 [10]]) ++ rest → l.length < f → acc.length + l.length ≤ 32 →
    members ts f acc (.ok n) = (acc ++ l, .ok (n + 2 * l.length))
  | [], f, n, p, acc, rest, hd, hf, _ => by
    have hd' : ts.drop n = tokOf (sgI 59 [10]) p :: rest := hd
    have hno : isB ts 4 sComma (.ok n) = false := by
      simp only [isB]
      rw [tk_drop hd']
      unfold hitT sComma
      show (4 == 4 && ((ByteArray.mk #[44]).toList.isEmpty || (str [59]).toList == (ByteArray.mk #[44]).toList)) = false
      rw [show (str [59]).toList = [59] from tl_mk _, show (ByteArray.mk #[44]).toList = [44] from tl_mk _]
      rfl
    rw [members_stop hno, List.append_nil]; rfl
  | s :: l, f, n, p, acc, rest, hd, hf, hl => by
    obtain ⟨f, rfl⟩ : ∃ j, f = j + 1 := ⟨f - 1, by omega⟩
    have hd' : ts.drop n = tokOf (sgI 44 [32]) p :: (tokOf (nmI s []) (p + 2) :: (lay (p + 2 + (nmI s []).bytes.length) (tailI l ++ [sgI 59 [10]]) ++ rest)) := hd
    have hd1 := drop_next hd'
    have hd2 := drop_next hd1
    have hc : hitT (tk ts n) 4 sComma = true := by rw [tk_drop hd']; exact hit_sign _ _
    have hm : member ts acc n = (s, .ok (n + 2)) := by
      unfold member
      simp only [List.length_cons] at hl
      rw [if_neg (by rw [Bool.and_eq_true, decide_eq_true_eq]; omega), take_hit hd1 (hit_name _ _ _)]
      show (str s.data.toList, _) = _
      rw [str_self]
    rw [members_go hc, hm]
    simp only [List.length_cons] at hl hf
    rw [members_lay l f (n + 2) _ (acc ++ [s]) rest hd2 (by omega) (by simp; omega)]
    simp only [List.append_assoc, List.cons_append, List.nil_append, List.length_cons]
    congr 2
    omega
theorem tailI_len : ∀ (l : List ByteArray), (tailI l).length = 2 * l.length
  | [] => rfl
  | s :: l => by simp only [tailI, List.length_cons, tailI_len l]; omega
theorem resv_no {t : ByteArray} (h : resv t = false) : (t.toList == [99, 108, 97, 115, 115]) = false ∧ (t.toList == [108, 105, 109, 105, 116]) = false ∧ (t.toList == [115, 117, 98, 111, 114, 100, 105, 110, 97, 116, 101]) = false := by
  unfold resv at h
  simp only [Bool.or_eq_false_iff] at h
  exact ⟨h.1, h.2.2.1, h.2.2.2⟩
theorem semi_take {ts : List Tok} {n p : Nat} {rest : List Tok} (h : ts.drop n = tokOf (sgI 59 [10]) p :: rest) : (take ts 4 sSemi (.ok n)).2 = .ok (n + 1) := by rw [take_hit (text := sSemi) h (hit_sign _ _)]
/-- a clause's tokens read as the clause -/
theorem clause_lay {ts : List Tok} {x : Cl} {n p : Nat} {rest : List Tok} (h : codeOf x = 0) (hq : NumOk x) (hd : ts.drop n = lay p (itemsOf x) ++ rest) : clauseP ts false n = (bareAt x p, .ok (n + (itemsOf x).length)) := by
  obtain ⟨hn, hk⟩ := ok_kinds h
  unfold itemsOf at hd ⊢
  unfold bareAt
  rcases hk with ⟨k1, ha, h2, h3⟩ | ⟨k2, ho⟩ | ⟨k3, hg⟩ | k4
  · rw [if_pos k1] at hd ⊢
    rw [if_pos k1]
    obtain ⟨s, l, hl⟩ : ∃ s l, x.list = s :: l := by
      cases hx : x.list with
      | nil => rw [hx] at h2; simp at h2
      | cons s l => exact ⟨s, l, rfl⟩
    rw [hl] at hd h3 ⊢
    simp only [List.headD_cons, List.tail_cons] at hd ⊢
    have hd0 : ts.drop n = tokOf ⟨3, [99, 108, 97, 115, 115], [32]⟩ p :: (tokOf (nmI x.name [32]) (p + 6) :: (tokOf (sgI 61 [32]) (p + 6 + (nmI x.name [32]).bytes.length) :: (tokOf (nmI s []) (p + 6 + (nmI x.name [32]).bytes.length + 2) :: (lay (p + 6 + (nmI x.name [32]).bytes.length + 2 + (nmI s []).bytes.length) (tailI l ++ [sgI 59 [10]]) ++ rest)))) := hd
    have hd1 := drop_next hd0
    have hd2 := drop_next hd1
    have hd3 := drop_next hd2
    have hd4 := drop_next hd3
    have hlt : n + 4 + 2 * l.length < ts.length := by
      have e := congrArg List.length hd4
      rw [List.length_drop, List.length_append, lay_len, List.length_append, tailI_len] at e
      simp at e
      omega
    have hcl : classP ts (.ok (n + 1)) = ((x.name, s :: l), .ok (n + 4 + 2 * l.length)) := by
      unfold classP
      simp only [take_hit hd1 (hit_name _ _ _), take_hit (text := sEq) hd2 (hit_sign _ _), take_hit hd3 (hit_name _ _ _)]
      rw [members_lay l (ts.length + 1) (n + 1 + 1 + 1 + 1) _ [(tokOf (nmI s []) (p + 6 + (nmI x.name [32]).bytes.length + 2)).text] rest hd4 (by omega) (by simp at h3 ⊢; omega)]
      show ((str x.name.data.toList, [str s.data.toList] ++ l), _) = _
      rw [str_self, str_self]; rfl
    have hd5 : ts.drop (n + 4 + 2 * l.length) = tokOf (sgI 59 [10]) (p + 6 + (nmI x.name [32]).bytes.length + 2 + (nmI s []).bytes.length + (flat (tailI l)).length) :: rest := by
      have hd4' : ts.drop (n + 4) = _ := hd4
      rw [← List.drop_drop, hd4', lay_app, List.append_assoc, List.drop_left' (by rw [lay_len, tailI_len])]
      rfl
    have hknown : knownB (tokOf ⟨3, [99, 108, 97, 115, 115], [32]⟩ p) = true := by
      unfold knownB
      show ((3 : Int) == 1 || ((3 : Int) == 3 && !((str [99, 108, 97, 115, 115]).toList == sBefore.toList))) = true
      rw [show (str [99, 108, 97, 115, 115]).toList = [99, 108, 97, 115, 115] from tl_mk _, before_tl]; rfl
    rw [clause_body (tk_drop hd0) hknown, body_class (by show ((str [99, 108, 97, 115, 115]).toList == _) = true; rw [show (str [99, 108, 97, 115, 115]).toList = [99, 108, 97, 115, 115] from tl_mk _]; rfl), hcl]
    rw [semi_take hd5]
    simp only [List.length_cons, List.length_append, tailI_len, List.length_nil]
    refine Prod.ext rfl ?_
    show St.ok _ = St.ok _
    congr 1
    omega
  · rw [if_neg (by omega), if_pos k2] at hd ⊢
    rw [if_neg (by omega), if_pos k2]
    have hd0 : ts.drop n = tokOf (nmI x.name [32]) p :: (tokOf ⟨3, [98, 101, 102, 111, 114, 101], [32]⟩ (p + (nmI x.name [32]).bytes.length) :: (tokOf (nmI x.other []) (p + (nmI x.name [32]).bytes.length + 7) :: (tokOf (sgI 59 [10]) (p + (nmI x.name [32]).bytes.length + 7 + (nmI x.other []).bytes.length) :: rest))) := hd
    have hd1 := drop_next hd0
    have hd2 := drop_next hd1
    have hd3 := drop_next hd2
    obtain ⟨hr, _⟩ := plB_parts hn
    have hknown : knownB (tokOf (nmI x.name [32]) p) = true := rfl
    have htx : (tokOf (nmI x.name [32]) p).text = x.name := str_self _
    obtain ⟨e1, e2, e3⟩ := resv_no hr
    rw [clause_body (tk_drop hd0) hknown, body_before (by rw [htx]; exact e1) (by rw [htx]; exact e2) (by rw [htx]; exact e3), take_hit hd1 (hit_before _ _), take_hit hd2 (hit_name _ _ _), semi_take hd3, htx]
    show ((⟨2, x.name, str x.other.data.toList, [], false, sNo, sNo, _⟩ : Cl), _) = _
    rw [str_self]; rfl
  · rw [if_neg (by omega), if_neg (by omega), if_pos k3] at hd ⊢
    rw [if_neg (by omega), if_neg (by omega), if_pos k3]
    have hd0 : ts.drop n = tokOf ⟨3, [108, 105, 109, 105, 116], [32]⟩ p :: (tokOf (nmI x.name [32]) (p + 6) :: (tokOf ⟨2, formatQ (amt x), []⟩ (p + 6 + (nmI x.name [32]).bytes.length) :: (tokOf (sgI 59 [10]) (p + 6 + (nmI x.name [32]).bytes.length + (It.mk 2 (formatQ (amt x)) []).bytes.length) :: rest))) := hd
    have hd1 := drop_next hd0
    have hd2 := drop_next hd1
    have hd3 := drop_next hd2
    obtain ⟨q1, q2⟩ := hq k3
    have hl : limitP ts (.ok (n + 1)) = ((x.name, amt x), .ok (n + 1 + 1 + 1)) := by
      unfold limitP
      simp only [take_hit hd1 (hit_name _ _ _)]
      have hpq : parseQ (tk ts (n + 1 + 1)).text.data.toList = (amt x, ((0 : Nat) : Int)) := by
        rw [tk_drop hd2]
        exact parse_format (amt x) q1 q2
      rw [limit_go (by rw [tk_drop hd2]; exact hit_num _ _ _) hpq]
      show ((str x.name.data.toList, amt x), _) = _
      rw [str_self]; rfl
    have hknown : knownB (tokOf ⟨3, [108, 105, 109, 105, 116], [32]⟩ p) = true := by
      unfold knownB
      show ((3 : Int) == 1 || ((3 : Int) == 3 && !((str [108, 105, 109, 105, 116]).toList == sBefore.toList))) = true
      rw [show (str [108, 105, 109, 105, 116]).toList = [108, 105, 109, 105, 116] from tl_mk _, before_tl]; rfl
    have e0 : ((tokOf ⟨3, [108, 105, 109, 105, 116], [32]⟩ p).text.toList == [99, 108, 97, 115, 115]) = false := by
      show ((str [108, 105, 109, 105, 116]).toList == _) = false
      rw [show (str [108, 105, 109, 105, 116]).toList = [108, 105, 109, 105, 116] from tl_mk _]; rfl
    have e1 : ((tokOf ⟨3, [108, 105, 109, 105, 116], [32]⟩ p).text.toList == [108, 105, 109, 105, 116]) = true := by
      show ((str [108, 105, 109, 105, 116]).toList == _) = true
      rw [show (str [108, 105, 109, 105, 116]).toList = [108, 105, 109, 105, 116] from tl_mk _]; rfl
    rw [clause_body (tk_drop hd0) hknown, body_limit e0 e1, hl, semi_take hd3]
    rfl
  · rw [if_neg (by omega), if_neg (by omega), if_neg (by omega)] at hd ⊢
    rw [if_neg (by omega), if_neg (by omega), if_neg (by omega)]
    have hd0 : ts.drop n = tokOf ⟨3, [115, 117, 98, 111, 114, 100, 105, 110, 97, 116, 101], [32]⟩ p :: (tokOf (nmI x.name []) (p + 12) :: (tokOf (sgI 59 [10]) (p + 12 + (nmI x.name []).bytes.length) :: rest)) := hd
    have hd1 := drop_next hd0
    have hd2 := drop_next hd1
    have hT : (tokOf ⟨3, [115, 117, 98, 111, 114, 100, 105, 110, 97, 116, 101], [32]⟩ p).text.toList = [115, 117, 98, 111, 114, 100, 105, 110, 97, 116, 101] := tl_mk _
    have hknown : knownB (tokOf ⟨3, [115, 117, 98, 111, 114, 100, 105, 110, 97, 116, 101], [32]⟩ p) = true := by
      unfold knownB
      rw [hT, before_tl]; rfl
    rw [clause_body (tk_drop hd0) hknown, body_sub (by rw [hT]; rfl) (by rw [hT]; rfl) (by rw [hT]; rfl), take_hit hd1 (hit_name _ _ _), semi_take hd2]
    show ((⟨4, str x.name.data.toList, sNo, [], false, sNo, sNo, _⟩ : Cl), _) = _
    rw [str_self]; rfl
/-- the clauses that come back -/
def layC : Nat → List Cl → List Cl
  | _, [] => []
  | p, x :: l => bareAt x p :: layC (p + (lineL x).length) l
theorem layC_len : ∀ (l : List Cl) (p : Nat), (layC p l).length = l.length
  | [], _ => rfl
  | x :: l, p => by simp [layC, layC_len l]
theorem layC_get : ∀ (l : List Cl) (p k : Nat) (x : Cl), l[k]? = some x → ∃ q, (layC p l)[k]? = some (bareAt x q)
  | [], _, _, _, h => by simp at h
  | y :: l, p, 0, x, h => by
    simp only [List.getElem?_cons_zero, Option.some.injEq] at h
    subst h
    exact ⟨p, rfl⟩
  | y :: l, p, k + 1, x, h => by
    rw [List.getElem?_cons_succ] at h
    exact layC_get l _ k x h
theorem first_kind (x : Cl) : ∃ t l, itemsOf x = t :: l ∧ t.kind ≠ 5 := by
  unfold itemsOf
  split
  · exact ⟨_, _, rfl, show (3 : Int) ≠ 5 by decide⟩
  · split
    · exact ⟨_, _, rfl, show (1 : Int) ≠ 5 by decide⟩
    · split
      · exact ⟨_, _, rfl, show (3 : Int) ≠ 5 by decide⟩
      · exact ⟨_, _, rfl, show (3 : Int) ≠ 5 by decide⟩
theorem clauses_lay {ts : List Tok} {e : Tok} (he : e.kind = 5) : ∀ (l : List Cl) (f n p : Nat) (out : List Cl), okAll l = true → (∀ x ∈ l, NumOk x) → ts.drop n = lay p (itemsAll l) ++ [e] → l.length < f → out.length + l.length ≤ 64 →
    ∃ m, clauses ts f out (.ok n) = (out ++ layC p l, .ok m)
  | [], f, n, p, out, _, _, hd, hf, _ => by
    have hd' : ts.drop n = e :: [] := hd
    refine ⟨n, ?_⟩
    rw [clauses_end (by rw [tk_drop hd']; exact he)]
    simp [layC]
  | x :: l, f, n, p, out, ho, hq, hd, hf, hl => by
    obtain ⟨f, rfl⟩ : ∃ j, f = j + 1 := ⟨f - 1, by omega⟩
    unfold okAll at ho
    rw [List.all_cons, Bool.and_eq_true] at ho
    have hx : codeOf x = 0 := by simpa using ho.1
    simp only [List.length_cons] at hl hf
    have hia : itemsAll (x :: l) = itemsOf x ++ itemsAll l := by unfold itemsAll; rw [List.flatMap_cons]
    rw [hia, lay_app, List.append_assoc] at hd
    have hc := clause_lay hx (hq x (by simp)) hd
    obtain ⟨t, r, ht, hk⟩ := first_kind x
    have hk5 : (tk ts n).kind ≠ 5 := by
      rw [ht] at hd
      rw [tk_drop (t := tokOf t p) hd]
      exact hk
    have hd2 : ts.drop (n + (itemsOf x).length) = lay (p + (lineL x).length) (itemsAll l) ++ [e] := by
      rw [← List.drop_drop, hd, List.drop_left' (by rw [lay_len]), flat_items hx]
    rw [clauses_go hk5, decide_eq_false (by omega), hc]
    obtain ⟨m, hm⟩ := clauses_lay he l f (n + (itemsOf x).length) (p + (lineL x).length) (out ++ [bareAt x p]) ho.2 (fun y hy => hq y (by simp [hy])) hd2 (by omega) (by simp; omega)
    refine ⟨m, ?_⟩
    rw [hm]
    simp [layC]
/-- Parse returns the clauses that Format has written -/
theorem parse_text {l : List Cl} (ho : okAll l = true) (hq : ∀ x ∈ l, NumOk x) (hl : l.length ≤ 64) (hi : (itemsAll l).length ≤ 2048) (hs : (textOf l).length ≤ 8192) : parseOf (st (textOf l)) = (layC 0 l, 0, 0) := by
  have hf := flat_all l ho
  have hlex := lex_items (chain_all l ho) hi (by rw [hf]; exact hs)
  rw [hf] at hlex
  change lex (st (textOf l)) = _ at hlex
  unfold parseOf
  rw [hlex]
  dsimp only
  rw [if_pos rfl]
  unfold parseT
  have hge : ∀ (l : List Cl), l.length ≤ (itemsAll l).length := by
    intro l
    induction l with
    | nil => exact Nat.zero_le _
    | cons x l ih =>
      have h1 : 1 ≤ (itemsOf x).length := by
        obtain ⟨t, r, e, _⟩ := first_kind x
        rw [e]; simp
      unfold itemsAll at ih ⊢
      rw [List.flatMap_cons, List.length_append, List.length_cons]
      omega
  obtain ⟨m, hm⟩ := clauses_lay (ts := lay 0 (itemsAll l) ++ [⟨5, ByteArray.empty, (textOf l).length⟩]) (e := ⟨5, ByteArray.empty, (textOf l).length⟩) rfl l ((lay 0 (itemsAll l) ++ [(⟨5, ByteArray.empty, (textOf l).length⟩ : Tok)]).length + 1) 0 0 [] ho hq rfl (by rw [List.length_append, lay_len]; have := hge l; omega) (by simpa using hl)
  rw [hm]
  rfl
theorem amt_bare {x : Cl} {p : Nat} (h : x.kind = 3) : amt (bareAt x p) = amt x := by
  unfold bareAt
  rw [if_neg (by omega), if_neg (by omega), if_pos h]
  exact fix_enc (amt x)
theorem bare_line {x : Cl} (h : codeOf x = 0) (p : Nat) : lineL (bareAt x p) = lineL x ∧ codeOf (bareAt x p) = 0 := by
  obtain ⟨hn, hk⟩ := ok_kinds h
  rcases hk with ⟨k1, ha, h2, h3⟩ | ⟨k2, ho⟩ | ⟨k3, hg⟩ | k4
  · have e : bareAt x p = ⟨1, x.name, sNo, x.list, false, sNo, sNo, p⟩ := by unfold bareAt; rw [if_pos k1]
    rw [e]
    constructor
    · unfold lineL headL; rw [if_pos rfl, if_pos k1]
    · unfold codeOf at h ⊢
      rw [k1] at h
      exact h
  · have e : bareAt x p = ⟨2, x.name, x.other, [], false, sNo, sNo, p⟩ := by unfold bareAt; rw [if_neg (by omega), if_pos k2]
    rw [e]
    constructor
    · unfold lineL headL; rw [if_neg (show ¬ (2 : Int) = 1 by decide), if_pos rfl, if_neg (by omega), if_pos k2]
    · unfold codeOf at h ⊢
      rw [k2] at h
      exact h
  · have e : bareAt x p = ⟨3, x.name, sNo, [], negB (amt x), str (encN (amt x)), str (encD (amt x)), p⟩ := by unfold bareAt; rw [if_neg (by omega), if_neg (by omega), if_pos k3]
    have e2 : fixQ (negB (amt x)) (str (encN (amt x))).data.toList (str (encD (amt x))).data.toList = amt x := fix_enc (amt x)
    rw [e]
    constructor
    · unfold lineL headL
      rw [if_neg (show ¬ (3 : Int) = 1 by decide), if_neg (show ¬ (3 : Int) = 2 by decide), if_pos rfl, if_neg (by omega), if_neg (by omega), if_pos k3]
      dsimp only
      rw [e2]; rfl
    · unfold codeOf
      dsimp only
      rw [if_neg (by omega), if_neg (by rw [hn]; decide), if_neg (by omega), if_neg (by omega), if_pos rfl, if_neg]
      unfold sgC
      rw [e2]
      exact hg
  · have e : bareAt x p = ⟨4, x.name, sNo, [], false, sNo, sNo, p⟩ := by unfold bareAt; rw [if_neg (by omega), if_neg (by omega), if_neg (by omega)]
    rw [e]
    constructor
    · unfold lineL headL; rw [if_neg (show ¬ (4 : Int) = 1 by decide), if_neg (show ¬ (4 : Int) = 2 by decide), if_neg (show ¬ (4 : Int) = 3 by decide), if_neg (by omega), if_neg (by omega), if_neg (by omega)]
    · unfold codeOf at h ⊢
      rw [k4] at h
      exact h
theorem lay_text : ∀ (l : List Cl) (p : Nat), okAll l = true → textOf (layC p l) = textOf l ∧ okAll (layC p l) = true
  | [], _, _ => ⟨rfl, rfl⟩
  | x :: l, p, h => by
    unfold okAll at h
    rw [List.all_cons, Bool.and_eq_true] at h
    have hx : codeOf x = 0 := by simpa using h.1
    obtain ⟨h1, h2⟩ := bare_line hx p
    obtain ⟨h3, h4⟩ := lay_text l (p + (lineL x).length) h.2
    refine ⟨?_, ?_⟩
    · unfold textOf at h3 ⊢
      simp only [layC, List.flatMap_cons]
      rw [h1, h3]
    · unfold okAll at h4 ⊢
      simp only [layC, List.all_cons]
      rw [h2, h4]; rfl
/-- what was parsed is written as the same text -/
theorem fmt_lay {l : List Cl} (h : okAll l = true) (p : Nat) : fmtOf (layC p l) = fmtOf l := by
  obtain ⟨h1, h2⟩ := lay_text l p h
  unfold fmtOf
  rw [layC_len, err_ok h2, err_ok h, h1]
end Go.Proofs.YtnbdckfnohagbaaGreatDoor.PqY
