/- The walks of Format, program and reference. -/
import Derived.Test.YtnbdckfnohagbaaGreatDoorPqT
namespace Go.Proofs.YtnbdckfnohagbaaGreatDoor.PqU
open Go.RowKit Lx LxD Wd RnW PqA PqB PqC PqD PqG PqM NmA PqS PqT HsE RnQ RnR RnP RtA RpE RpI RtH RoA RoL
theorem builder_below {T e B b : Nat} {bs : List Value} {w w' : World} (h : Lib.IsBuilder T e B b bs w) (hb : Below w.heap.size w w') : Lib.IsBuilder T e B b bs w' := by
  have key : ∀ p, Lib.BuilderAt T e B b p bs w → Lib.BuilderAt T e B b p bs w' := by
    intro p hp
    have hlt := hp.lt
    obtain ⟨h1, v, h2, h3, h4⟩ := hp
    exact ⟨h1, v, (hb.block b hlt).trans h2, LxD.own_below h3 hb, h4⟩
  rcases h with h | h
  · exact .inl (key _ h)
  · exact .inr (key _ h)
/-- the text of clauses -/
def textOf (l : List Cl) : List UInt8 := l.flatMap lineL
def okAll (l : List Cl) : Bool := l.all fun x => codeOf x == 0
def firstErr : List Cl → Nat
  | [] => 0
  | x :: l => if codeOf x = 0 then firstErr l else codeOf x
/-- what Format returns -/
def fmtOf (l : List Cl) : List UInt8 × Nat :=
  if 64 < l.length then ([], 2) else if firstErr l ≠ 0 then ([], firstErr l) else if 8192 < (textOf l).length then ([], 2) else (textOf l, 0)
theorem textOf_snoc (l : List Cl) (x : Cl) : textOf (l ++ [x]) = textOf l ++ lineL x := by simp [textOf]
theorem take_snoc {α : Type} {l : List α} {k : Nat} {r : α} (h : l[k]? = some r) : l.take (k + 1) = l.take k ++ [r] := by rw [List.take_add_one, h]; rfl
theorem ok_snoc {l : List Cl} {k : Nat} {x : Cl} (h : l[k]? = some x) (ha : okAll (l.take k) = true) (hx : codeOf x = 0) : okAll (l.take (k + 1)) = true := by
  rw [take_snoc h]; unfold okAll at ha ⊢; rw [List.all_append, ha]; simp [hx]
theorem err_ok : ∀ {l : List Cl}, okAll l = true → firstErr l = 0
  | [], _ => rfl
  | x :: l, h => by
    unfold okAll at h
    rw [List.all_cons, Bool.and_eq_true] at h
    have hx : codeOf x = 0 := by simpa using h.1
    unfold firstErr
    rw [if_pos hx]
    exact err_ok h.2
theorem err_at : ∀ {l : List Cl} {k : Nat} {x : Cl}, l[k]? = some x → okAll (l.take k) = true → codeOf x ≠ 0 → firstErr l = codeOf x
  | [], k, x, h, _, _ => by simp at h
  | y :: l, 0, x, h, _, hx => by
    simp only [List.getElem?_cons_zero, Option.some.injEq] at h
    subst h
    unfold firstErr
    rw [if_neg hx]
  | y :: l, k + 1, x, h, ha, hx => by
    rw [List.getElem?_cons_succ] at h
    rw [List.take_succ_cons] at ha
    unfold okAll at ha
    rw [List.all_cons, Bool.and_eq_true] at ha
    have hy : codeOf y = 0 := by simpa using ha.1
    unfold firstErr
    rw [if_pos hy]
    exact err_at h ha.2 hx
theorem fmt_err {l : List Cl} {c : Nat} (h : ¬ 64 < l.length) (he : firstErr l = c) (hc : c ≠ 0) : fmtOf l = ([], c) := by
  unfold fmtOf; rw [if_neg h, if_pos (by rw [he]; exact hc), he]
theorem fmt_long {l : List Cl} (h : 64 < l.length) : fmtOf l = ([], 2) := by unfold fmtOf; rw [if_pos h]
theorem fmt_big {l : List Cl} (h : ¬ 64 < l.length) (he : firstErr l = 0) (hb : 8192 < (textOf l).length) : fmtOf l = ([], 2) := by
  unfold fmtOf; rw [if_neg h, if_neg (by rw [he]; simp), if_pos hb]
theorem fmt_ok {l : List Cl} (h : ¬ 64 < l.length) (he : firstErr l = 0) (hb : ¬ 8192 < (textOf l).length) : fmtOf l = (textOf l, 0) := by
  unfold fmtOf; rw [if_neg h, if_neg (by rw [he]; simp), if_neg hb]
theorem ok_kinds {x : Cl} (h : codeOf x = 0) : plB x.name = true ∧ ((x.kind = 1 ∧ x.list.all plB = true ∧ 0 < x.list.length ∧ x.list.length ≤ 32) ∨ (x.kind = 2 ∧ plB x.other = true) ∨ (x.kind = 3 ∧ ¬ sgC x.neg x.num x.den < 0) ∨ x.kind = 4) := by
  unfold codeOf at h
  by_cases hk : x.kind < 1 ∨ 4 < x.kind
  · rw [if_pos hk] at h; omega
  rw [if_neg hk] at h
  cases hn : plB x.name
  · rw [if_pos hn] at h; omega
  rw [if_neg (by rw [hn]; decide)] at h
  refine ⟨rfl, ?_⟩
  by_cases h1 : x.kind = 1
  · rw [if_pos h1] at h
    cases ha : x.list.all plB
    · rw [if_pos ha] at h; omega
    rw [if_neg (by rw [ha]; decide)] at h
    by_cases he : x.list.length = 0
    · rw [if_pos he] at h; omega
    rw [if_neg he] at h
    by_cases hl : 32 < x.list.length
    · rw [if_pos hl] at h; omega
    exact .inl ⟨h1, rfl, by omega, by omega⟩
  rw [if_neg h1] at h
  by_cases h2 : x.kind = 2
  · rw [if_pos h2] at h
    cases ho : plB x.other
    · rw [if_pos ho] at h; omega
    exact .inr (.inl ⟨h2, rfl⟩)
  rw [if_neg h2] at h
  by_cases h3 : x.kind = 3
  · rw [if_pos h3] at h
    by_cases hg : sgC x.neg x.num x.den < 0
    · rw [if_pos hg] at h; omega
    exact .inr (.inr (.inl ⟨h3, hg⟩))
  · exact .inr (.inr (.inr (by omega)))
theorem all_small {l : List ByteArray} (h : l.all plB = true) : ∀ s ∈ l, s.size ≤ 32 := fun s hs => nm_small (List.all_eq_true.1 h s hs)
theorem head_len {x : Cl} (h : codeOf x = 0) (h5 : x.num.size ≤ 50000) (h6 : x.den.size ≤ 50000) : (headL x).length ≤ 410000 := by
  obtain ⟨hn, hk⟩ := ok_kinds h
  have h1 : x.name.data.toList.length ≤ 32 := by have := nm_small hn; simpa using this
  unfold headL
  rcases hk with ⟨k1, ha, h2, h3⟩ | ⟨k2, ho⟩ | ⟨k3, _⟩ | k4
  · rw [if_pos k1]
    have := join_len x.list (all_small ha)
    simp only [List.length_append, List.length_cons, List.length_nil]
    omega
  · rw [if_neg (by omega), if_pos k2]
    have : x.other.data.toList.length ≤ 32 := by have := nm_small ho; simpa using this
    simp only [List.length_append, List.length_cons, List.length_nil]
    omega
  · rw [if_neg (by omega), if_neg (by omega), if_pos k3]
    have := fq_size (b := x.neg) h5 h6
    rw [st_size] at this
    simp only [List.length_append, List.length_cons, List.length_nil]
    omega
  · rw [if_neg (by omega), if_neg (by omega), if_neg (by omega)]
    simp only [List.length_append, List.length_cons, List.length_nil]
    omega
/-- the strings of clauses fit -/
structure Fit (x : Cl) : Prop where
  name : x.name.size ≤ maxLen
  other : x.other.size ≤ maxLen
  list : ∀ s ∈ x.list, s.size ≤ maxLen
  num : x.num.size ≤ 50000
  den : x.den.size ≤ 50000
theorem text_len : ∀ (l : List Cl), okAll l = true → (∀ x ∈ l, Fit x) → (textOf l).length ≤ 410002 * l.length
  | [], _, _ => by simp [textOf]
  | x :: l, h, hf => by
    unfold okAll at h
    rw [List.all_cons, Bool.and_eq_true] at h
    have hx : codeOf x = 0 := by simpa using h.1
    have h1 := text_len l h.2 (fun y hy => hf y (by simp [hy]))
    have h2 := head_len hx (hf x (by simp)).num (hf x (by simp)).den
    unfold textOf at h1 ⊢
    have h3 : (lineL x).length = (headL x).length + 2 := by unfold lineL; rw [List.length_append]; rfl
    rw [List.flatMap_cons, List.length_append, List.length_cons]
    omega
theorem text_any (x : Cl) (A : Option Addr) (c : Nat) (w : World) (h : codeOf x = 0) (h3 : Strs (fun _ => True) w A c x.list) (hf : Fit x) :
    Calls Tryz.prog 31 #[.agg #[.int .i64 x.kind, .string x.name, .string x.other, .slice A x.list.length c, .bool x.neg, .string x.num, .string x.den, .int .i64 x.off]] w (SPost (st (headL x)) w) := by
  obtain ⟨hn, hk⟩ := ok_kinds h
  have h1 := nm_small hn
  obtain ⟨k, nm, ot, l, b, p, q, z⟩ := x
  dsimp only at hk h1 h3 ⊢
  rcases hk with ⟨rfl, ha, h7, h8⟩ | ⟨rfl, ho⟩ | ⟨rfl, _⟩ | rfl
  · exact text1 nm ot l A c b p q z w h1 h3 (all_small ha) h7 h8
  · exact text2 nm ot l A c b p q z w h1 (nm_small ho)
  · exact text3 nm ot l A c b p q z w h1 hf.num hf.den
  · exact text4 nm ot l A c b p q z w h1
theorem rtext_any (x : Cl) (A : Option Addr) (c : Nat) (w : World) (h : codeOf x = 0) (h3 : Strs (fun _ => True) w A c x.list) (hf : Fit x) :
    Calls Tryz.prog 35 #[.agg #[.int .i64 x.kind, .string x.name, .string x.other, .slice A x.list.length c, .bool x.neg, .string x.num, .string x.den, .int .i64 x.off]] w (SPost (st (lineL x)) w) := by
  obtain ⟨hn, hk⟩ := ok_kinds h
  have h1 := nm_small hn
  obtain ⟨k, nm, ot, l, b, p, q, z⟩ := x
  dsimp only at hk h1 h3 ⊢
  rcases hk with ⟨rfl, ha, h7, h8⟩ | ⟨rfl, ho⟩ | ⟨rfl, _⟩ | rfl
  · exact rtext1 nm ot l A c b p q z w h1 h3 (all_small ha) h7 h8
  · exact rtext2 nm ot l A c b p q z w h1 (nm_small ho)
  · exact rtext3 nm ot l A c b p q z w h1 hf.num hf.den
  · exact rtext4 nm ot l A c b p q z w h1
def FmtP (p : List UInt8 × Nat) (w : World) (e : Ending) (w' : World) : Prop := e = .returned (.tuple #[.string (st p.1), .int .i64 (p.2 : Nat)]) ∧ Below w.heap.size w w'
theorem fmt_post {p q : List UInt8 × Nat} {w w' : World} (h : p = q) (hb : Below w.heap.size w w') : FmtP p w (.returned (.tuple #[.string (st q.1), .int .i64 (q.2 : Nat)])) w' := ⟨by rw [h], hb⟩
set_option maxHeartbeats 8000000 in
set_option maxRecDepth 100000 in
theorem format_cl (l : List Cl) (A : Option Addr) (c : Nat) (w : World) (h : ClsAt w A l) (hf : ∀ x ∈ l, Fit x) :
    Calls Tryz.prog 15 #[.slice A l.length c] w (FmtP (fmtOf l) w) := by
  have hlen := h.1
  unfold maxLen at hlen
  have H := hide h
  have HF := Lib.hid hf
  clear h hf
  by_cases hbig : 64 < l.length
  · have hout := hide (fmt_long hbig)
    go_enter Tryz.func15, Tryz.ntmps15
    go_wp2_with fail
    go_ret2
    exact fmt_post hout.out (Below.refl _ _)
  · have HB := hide hbig
    have hb' : l.length ≤ 64 := by omega
    clear hbig
    go_enter Tryz.func15, Tryz.ntmps15
    go_wp2_with fail
    go_loopw [13] (fun vi wr => ∃ k : Nat, k ≤ l.length ∧ vi = .int .i64 k ∧ Hid (okAll (l.take k) = true) ∧ Hid (Lib.IsBuilder 74 5 w.heap.size w.heap.size (Lib.byteCells (textOf (l.take k))) wr) ∧ Hid (Below w.heap.size w wr)) (fun vi _ => l.length - (intOf vi).toNat)
    case atStart => exact ⟨0, by omega, rfl, rfl, Lib.fresh_isBuilder _ _ w, (Below.refl _ _).alloc (Nat.le_refl _) _⟩
    case round =>
      obtain ⟨k, hk, rfl, HAL, HIB, HBR⟩ := hrel
      by_cases hlt : k < l.length
      · obtain ⟨x, hx⟩ : ∃ r, l[k]? = some r := ⟨_, List.getElem?_eq_getElem hlt⟩
        have hfx := HF.out x (List.mem_of_getElem? hx)
        obtain ⟨b1, o1, A1, c1, rfl, hb1, p0, p1, p2, p3, p4, p5, p6, p7, hS1⟩ := ClsAt.at (H.out.below HBR.out) hx
        obtain ⟨V, hV, HX, HBV, hlV⟩ := new8 wr (.int .i64 x.kind) (.string x.name) (.string x.other) (.slice A1 x.list.length c1) (.bool x.neg) (.string x.num) (.string x.den) (.int .i64 x.off) 45
        have HCK := Lib.hid (chk_any x.kind x.name x.other x.list A1 c1 x.neg x.num x.den x.off V hfx.name hfx.other (hS1.below HBV.out) hfx.list hfx.num hfx.den)
        change Hid (Calls _ _ _ _ fun e w' => e = .returned (.int .i64 (codeOf x : Nat)) ∧ Below V.heap.size V w') at HCK
        have HTX := Lib.hid (fun (h0 : codeOf x = 0) w' (hb : Below V.heap.size V w') => text_any x A1 c1 w' h0 ((hS1.below HBV.out).below hb) hfx)
        have HHL := Lib.hid (fun (h0 : codeOf x = 0) => head_len h0 hfx.num hfx.den)
        have htl := text_len (l.take k) HAL.out (fun x hx => HF.out x (List.mem_of_mem_take hx))
        rw [List.length_take] at htl
        have htl' : (textOf (l.take k)).length ≤ 50000000 := by omega
        have HER := Lib.hid (fun (h0 : codeOf x ≠ 0) => err_at hx HAL.out h0)
        have HOK := Lib.hid (fun (h0 : codeOf x = 0) => ok_snoc hx HAL.out h0)
        have HTK := hide (take_snoc hx)
        have HXX := hide (show ∀ y, codeOf x = y → codeOf x = y from fun _ h => h)
        have HBW := hide (HBR.out.trans (HBV.out.mono HBR.out.size))
        have HIV := hide (builder_below HIB.out HBV.out)
        have hsV := HBW.out.size
        clear hx hS1 hfx htl HIB hlV
        obtain ⟨d0, d1, d2, d3, d4, d5, d6, d7⟩ := cells8 HX.out
        generalize hcd : codeOf x = cd at *
        by_cases h0 : cd = 0
        · subst h0
          have HT := Lib.hid (HTX.out rfl)
          have HH := HHL.out rfl
          have HOK0 := hide (HOK.out rfl)
          clear HTX HHL HER HOK
          go_wp2_with fail
          refine HCK.out.mono ?_
          rintro e w3 ⟨rfl, hb3⟩
          have HX3 := hide (HX.out.below hb3)
          obtain ⟨e0, e1, e2, e3, e4, e5, e6, e7⟩ := cells8 HX3.out
          have HB3 := hide hb3
          clear hb3 d0 d1 d2 d3 d4 d5 d6 d7
          go_wp2_with fail
          refine (HT.out _ HB3.out).mono ?_
          rintro e w4 ⟨rfl, hb4⟩
          have HB4 := hide (HB3.out.trans (hb4.mono HB3.out.size))
          have hs4 := HB4.out.size
          have hw4 : w.heap.size ≤ w4.heap.size := by omega
          have hst : (st (headL x)).size ≤ 410000 := by rw [st_size]; exact HH
          have HIB4 := hide (builder_below HIV.out HB4.out)
          have HW := Lib.hid (writeString_any w.heap.size w.heap.size _ (st (headL x) ++ ⟨#[59, 10]⟩) w4 HIB4.out (by rw [Lib.byteCells_length, ByteArray.size_append]; show _ + ((st (headL x)).size + 2) ≤ _; omega) hw4)
          have HLN := hide (show Lib.strCells (st (headL x) ++ ⟨#[59, 10]⟩) = Lib.byteCells (lineL x) by rw [Lib.strCells_eq, app_data, st_data]; rfl)
          clear hb4 HH HT e0 e1 e2 e3 e4 e5 e6 e7 HX3
          generalize st (headL x) = F at *
          go_wp2_with fail
          refine HW.out.mono ?_
          rintro e w5 ⟨rfl, hib5, hb5⟩
          go_wp2_with fail
          go_roundw
          case rel =>
            refine ⟨k + 1, by omega, by go_num, HOK0.out, .inr ?_, (HBW.out.trans (HB4.out.mono hsV)).trans hb5⟩
            rw [HTK.out, textOf_snoc, Lib.byteCells_append, ← HLN.out]; exact hib5
          case measure => simp [intOf]; omega
        · have hE := hide (fmt_err HB.out (HER.out h0) h0)
          have hne : ((cd : Int) != 0) = true := by simpa using h0
          clear h0 HTX HHL HER HOK
          go_wp2_with fail
          refine HCK.out.mono ?_
          rintro e w3 ⟨rfl, hb3⟩
          go_wp2_with fail
          go_ret2
          exact fmt_post hE.out (HBW.out.trans (hb3.mono hsV))
      · obtain rfl : k = l.length := by omega
        have hib := HIB.out
        rw [List.take_length] at hib
        have hal := HAL.out
        rw [List.take_length] at hal
        have hE := hide (err_ok hal)
        have hszr := HBR.out.size
        have hlb := Lib.byteCells_length (textOf l)
        have HIB2 := Lib.hid hib
        clear hib hal HIB HAL
        cases hlong : decide (8192 < (textOf l).length)
        · have hl2 := hide (fmt_ok HB.out hE.out (of_decide_eq_false hlong))
          have hl3 : (textOf l).length ≤ 8192 := by have := of_decide_eq_false hlong; omega
          clear hlong
          go_wp2_with (first
            | (go_at_call 32; refine (Tryz.Builder_Len _ _ _ _ HIB2.out).mono ?_; rintro e w2 ⟨rfl, rfl⟩; rw [hlb])
            | (go_at_call 33; refine (Tryz.Builder_String_any _ _ _ _ HIB2.out hszr).mono ?_; rintro e w3 ⟨rfl, hb3⟩))
          go_ret2
          exact fmt_post hl2.out (HBR.out.trans hb3)
        · have hl3 := of_decide_eq_true hlong
          have hl2 := hide (fmt_big HB.out hE.out hl3)
          clear hlong
          go_wp2_with (first
            | (go_at_call 32; refine (Tryz.Builder_Len _ _ _ _ HIB2.out).mono ?_; rintro e w2 ⟨rfl, rfl⟩; rw [hlb]))
          go_ret2
          exact fmt_post hl2.out HBR.out
set_option maxHeartbeats 8000000 in
set_option maxRecDepth 100000 in
theorem rformat_cl (l : List Cl) (A : Option Addr) (c : Nat) (w : World) (h : ClsAt w A l) (hf : ∀ x ∈ l, Fit x) :
    Calls Tryz.prog 16 #[.slice A l.length c] w (FmtP (fmtOf l) w) := by
  have hlen := h.1
  unfold maxLen at hlen
  have H := hide h
  have HF := Lib.hid hf
  clear h hf
  by_cases hbig : 64 < l.length
  · have hout := hide (fmt_long hbig)
    go_enter Tryz.func16, Tryz.ntmps16
    go_wp2_with fail
    go_ret2
    exact fmt_post hout.out (Below.refl _ _)
  · have HB := hide hbig
    have hb' : l.length ≤ 64 := by omega
    clear hbig
    go_enter Tryz.func16, Tryz.ntmps16
    go_wp2_with fail
    go_loopw [5] (fun vi wr => ∃ k : Nat, k ≤ l.length ∧ vi = .int .i64 k ∧ Hid (okAll (l.take k) = true) ∧ Hid (Below w.heap.size w wr)) (fun vi _ => l.length - (intOf vi).toNat)
    case atStart => exact ⟨0, by omega, rfl, rfl, Below.refl _ _⟩
    case round =>
      obtain ⟨k, hk, rfl, HAL, HBR⟩ := hrel
      by_cases hlt : k < l.length
      · obtain ⟨x, hx⟩ : ∃ r, l[k]? = some r := ⟨_, List.getElem?_eq_getElem hlt⟩
        have hfx := HF.out x (List.mem_of_getElem? hx)
        obtain ⟨b1, o1, A1, c1, rfl, hb1, p0, p1, p2, p3, p4, p5, p6, p7, hS1⟩ := ClsAt.at (H.out.below HBR.out) hx
        have HCK := Lib.hid (rchk_any x.kind x.name x.other x.list A1 c1 x.neg x.num x.den x.off wr hfx.name hfx.other hS1 hfx.list hfx.num hfx.den)
        change Hid (Calls _ _ _ _ fun e w' => e = .returned (.int .i64 (codeOf x : Nat)) ∧ Below wr.heap.size wr w') at HCK
        have HER := Lib.hid (fun (h0 : codeOf x ≠ 0) => err_at hx HAL.out h0)
        have HOK := Lib.hid (fun (h0 : codeOf x = 0) => ok_snoc hx HAL.out h0)
        clear hx hS1 hfx
        generalize hcd : codeOf x = cd at *
        by_cases h0 : cd = 0
        · subst h0
          have HOK0 := hide (HOK.out rfl)
          clear HER HOK
          go_wp2_with fail
          refine HCK.out.mono ?_
          rintro e w3 ⟨rfl, hb3⟩
          have HB3 := hide (HBR.out.trans (hb3.mono HBR.out.size))
          clear hb3
          go_wp2_with fail
          go_roundw
          case rel => exact ⟨k + 1, by omega, by go_num, HOK0.out, HB3.out⟩
          case measure => simp [intOf]; omega
        · have hE := hide (fmt_err HB.out (HER.out h0) h0)
          have hne : ((cd : Int) != 0) = true := by simpa using h0
          clear h0 HER HOK
          go_wp2_with fail
          refine HCK.out.mono ?_
          rintro e w3 ⟨rfl, hb3⟩
          go_wp2_with fail
          go_ret2
          exact fmt_post hE.out (HBR.out.trans (hb3.mono HBR.out.size))
      · obtain rfl : k = l.length := by omega
        have hal := HAL.out
        rw [List.take_length] at hal
        have HA := hide hal
        have hE := hide (err_ok hal)
        clear hal HAL hlt hk
        go_wp2_with fail
        obtain ⟨wo, rfl⟩ : ∃ wo : World, wo = wr := ⟨_, rfl⟩
        go_loopw [4, 7] (fun vs vi w2 => ∃ k : Nat, k ≤ l.length ∧ vi = .int .i64 k ∧ vs = .string (st (textOf (l.take k))) ∧ Hid (Below w.heap.size w w2)) (fun _ vi _ => l.length - (intOf vi).toNat)
        case atStart => exact ⟨0, by omega, rfl, rfl, HBR.out⟩
        case round =>
          clear HBR
          obtain ⟨k, hk, rfl, rfl, HBR⟩ := hrel
          by_cases hlt : k < l.length
          · obtain ⟨x, hx⟩ : ∃ r, l[k]? = some r := ⟨_, List.getElem?_eq_getElem hlt⟩
            have hfx := HF.out x (List.mem_of_getElem? hx)
            have hok : codeOf x = 0 := by
              have h1 := HA.out
              unfold okAll at h1
              have := List.all_eq_true.1 h1 x (List.mem_of_getElem? hx)
              simpa using this
            have hoks : okAll (l.take k) = true := by
              have h1 := HA.out
              unfold okAll at h1 ⊢
              exact List.all_eq_true.2 fun y hy => List.all_eq_true.1 h1 y (List.mem_of_mem_take hy)
            obtain ⟨b1, o1, A1, c1, rfl, hb1, p0, p1, p2, p3, p4, p5, p6, p7, hS1⟩ := ClsAt.at (H.out.below HBR.out) hx
            have HTX := Lib.hid (rtext_any x A1 c1 wr hok hS1 hfx)
            have hh := head_len hok hfx.num hfx.den
            have hln : (st (lineL x)).size ≤ 410002 := by
              rw [st_size]; unfold lineL; rw [List.length_append]
              simp only [List.length_cons, List.length_nil]; omega
            have htl := text_len (l.take k) hoks (fun x hx => HF.out x (List.mem_of_mem_take hx))
            rw [List.length_take] at htl
            have htl' : (st (textOf (l.take k))).size ≤ 50000000 := by rw [st_size]; omega
            have HJ := hide (show st (textOf (l.take k)) ++ st (lineL x) = st (textOf (l.take (k + 1))) by rw [st_app, take_snoc hx, textOf_snoc])
            clear hx hS1 hfx htl hok hoks hh
            generalize st (lineL x) = L at *
            generalize st (textOf (l.take k)) = T at *
            go_wp2_with fail
            refine HTX.out.mono ?_
            rintro e w3 ⟨rfl, hb3⟩
            have HB3 := hide (HBR.out.trans (hb3.mono HBR.out.size))
            clear hb3
            go_wp2_with fail
            go_roundw
            case rel => exact ⟨k + 1, by omega, by go_num, by rw [HJ.out], HB3.out⟩
            case measure => simp [intOf]; omega
          · obtain rfl : k = l.length := by omega
            rw [List.take_length]
            have hsz : (st (textOf l)).size = (textOf l).length := st_size _
            have HSZ := hide hsz
            clear hsz
            cases hlong : decide (8192 < (textOf l).length)
            · have hl2 := hide (fmt_ok HB.out hE.out (of_decide_eq_false hlong))
              have hl3 : (st (textOf l)).size ≤ 8192 := by have := of_decide_eq_false hlong; rw [HSZ.out]; omega
              clear hlong
              go_wp2_with fail
              go_ret2
              exact fmt_post hl2.out HBR.out
            · have hl3 := of_decide_eq_true hlong
              have hl2 := hide (fmt_big HB.out hE.out hl3)
              have hl4 : 8192 < (st (textOf l)).size := by rw [HSZ.out]; exact hl3
              clear hlong hl3
              go_wp2_with fail
              go_ret2
              exact fmt_post hl2.out HBR.out
end Go.Proofs.YtnbdckfnohagbaaGreatDoor.PqU
