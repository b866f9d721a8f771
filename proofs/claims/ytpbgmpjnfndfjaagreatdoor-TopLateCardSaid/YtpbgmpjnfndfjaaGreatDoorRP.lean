/- RnY, RpI, RpJ, RpK, RpL, in one text. -/
import Derived.Test.YtpbgmpjnfndfjaaGreatDoorRQ
import Derived.Test.YtpbgmpjnfndfjaaGreatDoorQtl
namespace Go.Proofs.YtpbgmpjnfndfjaaGreatDoor.RnY
theorem here : True := trivial
open RnA RnB RnQ RnR RnG RnW RoL RtA RpA RpB RpC RpE RpH
/-- numerator and denominator take at most k bytes -/
def Lt (q : Rat) (k : Nat) : Prop := nm q < 256 ^ k ∧ q.den < 256 ^ k
theorem lt_bs {n k : Nat} : n < 256 ^ k ↔ (bs n).size ≤ k := by
  rw [bs_size]
  constructor
  · exact bytesOf_len_le
  · intro h
    have h1 := bval_lt (bytesOf n)
    rw [bval_bytesOf] at h1
    exact Nat.lt_of_lt_of_le h1 (Nat.pow_le_pow_right (by omega) h)
theorem pow_mono {i j : Nat} (h : i ≤ j) : 256 ^ i ≤ 256 ^ j := Nat.pow_le_pow_right (by omega) h
theorem Lt.mono {q : Rat} {i j : Nat} (h : Lt q i) (hij : i ≤ j) : Lt q j :=
  ⟨Nat.lt_of_lt_of_le h.1 (pow_mono hij), Nat.lt_of_lt_of_le h.2 (pow_mono hij)⟩
theorem Lt.num {q : Rat} {k : Nat} (h : Lt q k) : (bs (nm q)).size ≤ k := lt_bs.1 h.1
theorem Lt.den {q : Rat} {k : Nat} (h : Lt q k) : (bs q.den).size ≤ k := lt_bs.1 h.2
theorem Lt.dstr {q : Rat} {k : Nat} (h : Lt q k) : (dstr q).size ≤ k := by
  by_cases h1 : q.den = 1
  · rw [dstr_one h1]; exact Nat.zero_le _
  · rw [dstr_big h1]; exact h.den
theorem mk_lt {s : Bool} {n d k : Nat} (hd : d ≠ 0) (h1 : n < 256 ^ k) (h2 : d < 256 ^ k) : Lt (mk s n d) k := by
  unfold Lt
  rw [nm_mk s n d hd, den_mk s n d hd]
  exact ⟨Nat.lt_of_le_of_lt (Nat.div_le_self _ _) h1, Nat.lt_of_le_of_lt (Nat.div_le_self _ _) h2⟩
theorem mul_lt {x y i j : Nat} (h1 : x < 256 ^ i) (h2 : y < 256 ^ j) : x * y < 256 ^ (i + j) := by
  rw [Nat.pow_add]
  exact Nat.mul_lt_mul'' h1 h2
theorem add_lt {x y k : Nat} (h1 : x < 256 ^ k) (h2 : y < 256 ^ k) : x + y < 256 ^ (k + 1) := by
  rw [Nat.pow_succ]; omega
/-- a sum over the product of the denominators -/
theorem add_form (a b : Rat) : ∃ s n, n ≤ nm a * b.den + nm b * a.den ∧ a + b = mk s n (a.den * b.den) := by
  have hd : a.den * b.den ≠ 0 := Nat.mul_ne_zero a.den_nz b.den_nz
  obtain ⟨h1, h2⟩ := over_prod a b
  by_cases hs : negB a = negB b
  · refine ⟨negB a, nm a * b.den + nm b * a.den, Nat.le_refl _, ?_⟩
    rw [← mk_add_eq _ _ _ _ hd, h1, hs, h2]
  · rcases Nat.lt_or_ge (nm a * b.den) (nm b * a.den) with h | h
    · refine ⟨negB b, nm b * a.den - nm a * b.den, by omega, ?_⟩
      rw [← mk_add_lt hs _ _ _ hd h, h1, h2]
    · refine ⟨negB a, nm a * b.den - nm b * a.den, by omega, ?_⟩
      rw [← mk_add_ge hs _ _ _ hd h, h1, h2]
theorem Lt.add {a b : Rat} {i j : Nat} (ha : Lt a i) (hb : Lt b j) : Lt (a + b) (i + j + 1) := by
  obtain ⟨s, n, hn, e⟩ := add_form a b
  rw [e]
  have h1 := mul_lt ha.1 hb.2
  have h2 := mul_lt hb.1 ha.2
  rw [Nat.add_comm j i] at h2
  have h3 := add_lt h1 h2
  have h4 := Nat.lt_of_lt_of_le (mul_lt ha.2 hb.2) (pow_mono (Nat.le_succ (i + j)))
  exact mk_lt (Nat.mul_ne_zero a.den_nz b.den_nz) (Nat.lt_of_le_of_lt hn h3) h4
theorem Lt.mul {a b : Rat} {i j : Nat} (ha : Lt a i) (hb : Lt b j) : Lt (a * b) (i + j) := by
  rw [← mul_eq]
  exact mk_lt (Nat.mul_ne_zero a.den_nz b.den_nz) (mul_lt ha.1 hb.1) (mul_lt ha.2 hb.2)
theorem nm_neg_eq (q : Rat) : nm (-q) = nm q := by unfold nm; rw [Rat.neg_num, Int.natAbs_neg]
theorem den_neg_eq (q : Rat) : (-q).den = q.den := Rat.neg_den q
theorem negB_neg (q : Rat) : negB (-q) = (!negB q && decide (nm q ≠ 0)) := by
  unfold negB nm
  rw [Rat.neg_num]
  generalize q.num = m
  by_cases h1 : m < 0
  · rw [decide_eq_false (by omega : ¬ -m < 0), decide_eq_true h1]; rfl
  · by_cases h2 : m = 0
    · subst h2; rfl
    · rw [decide_eq_true (by omega : -m < 0), decide_eq_false h1, decide_eq_true (by omega : m.natAbs ≠ 0)]; rfl
theorem dstr_neg (q : Rat) : dstr (-q) = dstr q := by unfold dstr encD; rw [den_neg_eq]
theorem Lt.neg {q : Rat} {k : Nat} (h : Lt q k) : Lt (-q) k := by unfold Lt; rw [nm_neg_eq, den_neg_eq]; exact h
theorem Lt.div {a b : Rat} {i j : Nat} (ha : Lt a i) (hb : Lt b j) (h0 : b ≠ 0) : Lt (a / b) (i + j) := by
  rw [← div_eq a b h0]
  exact mk_lt (Nat.mul_ne_zero a.den_nz (fun e => h0 (nm_zero.1 e))) (mul_lt ha.1 hb.2) (mul_lt ha.2 hb.1)
theorem Lt.zero : Lt 0 1 := ⟨by decide, by decide⟩
theorem lt_raw {n : Bool} {a d : ByteArray} {k : Nat} (h1 : a.size ≤ k) (h2 : d.size ≤ k) (hk : 1 ≤ k) : Lt (fixQ n a.data.toList d.data.toList) k := by
  obtain ⟨hs1, hs2⟩ := fix_size (n := n) (a := a) (d := d)
  refine ⟨lt_bs.2 (by omega), ?_⟩
  generalize fixQ n a.data.toList d.data.toList = q at *
  by_cases h : q.den = 1
  · rw [h]
    exact Nat.lt_of_lt_of_le (by decide : 1 < 256 ^ 1) (pow_mono hk)
  · rw [dstr_big h] at hs2
    exact lt_bs.2 (by omega)
theorem dstr_eq {a b : Rat} : dstr a = dstr b ↔ a.den = b.den := by
  constructor
  · intro h
    have e : encD a = encD b := congrArg (fun s : ByteArray => s.data.toList) h
    have := congrArg dval e
    rwa [dval_encD, dval_encD] at this
  · intro h
    unfold dstr encD
    rw [h]
/-- the common denominator and the numerators of a sum -/
def comD (a b : Rat) : Nat := if a.den = b.den then a.den else a.den * b.den
def comX (a b : Rat) : Nat := if a.den = b.den then nm a else nm a * b.den
def comY (a b : Rat) : Nat := if a.den = b.den then nm b else nm b * a.den
theorem com_nz (a b : Rat) : comD a b ≠ 0 := by
  unfold comD
  split
  · exact a.den_nz
  · exact Nat.mul_ne_zero a.den_nz b.den_nz
theorem com_mk (a b : Rat) : mk (negB a) (comX a b) (comD a b) = a ∧ mk (negB b) (comY a b) (comD a b) = b := by
  unfold comX comY comD
  by_cases h : a.den = b.den
  · rw [if_pos h, if_pos h, if_pos h]
    exact ⟨mk_nm a, by rw [h]; exact mk_nm b⟩
  · rw [if_neg h, if_neg h, if_neg h]
    exact over_prod a b
theorem com_same {a b : Rat} (h : negB a = negB b) : mk (negB a) (comX a b + comY a b) (comD a b) = a + b := by
  rw [← mk_add_eq _ _ _ _ (com_nz a b), (com_mk a b).1, h, (com_mk a b).2]
theorem com_ge {a b : Rat} (h : negB a ≠ negB b) (hle : comY a b ≤ comX a b) : mk (negB a) (comX a b - comY a b) (comD a b) = a + b := by
  rw [← mk_add_ge h _ _ _ (com_nz a b) hle, (com_mk a b).1, (com_mk a b).2]
theorem com_lt {a b : Rat} (h : negB a ≠ negB b) (hlt : comX a b < comY a b) : mk (negB b) (comY a b - comX a b) (comD a b) = a + b := by
  rw [← mk_add_lt h _ _ _ (com_nz a b) hlt, (com_mk a b).1, (com_mk a b).2]
theorem com_sz {a b : Rat} {i j : Nat} (ha : Lt a i) (hb : Lt b j) : (bs (comX a b)).size ≤ i + j ∧ (bs (comY a b)).size ≤ i + j ∧ (bs (comD a b)).size ≤ i + j := by
  unfold comX comY comD
  by_cases h : a.den = b.den
  · rw [if_pos h, if_pos h, if_pos h]
    have h1 := ha.num
    have h2 := hb.num
    have h3 := ha.den
    exact ⟨by omega, by omega, by omega⟩
  · rw [if_neg h, if_neg h, if_neg h]
    refine ⟨lt_bs.1 (mul_lt ha.1 hb.2), ?_, lt_bs.1 (mul_lt ha.2 hb.2)⟩
    rw [Nat.add_comm]
    exact lt_bs.1 (mul_lt hb.1 ha.2)
/-- the sign as the code reads it -/
def sgnB (n : Bool) (t : ByteArray) : Int := if t.size = 0 then 0 else if n then -1 else 1
theorem sgnB_eq (q : Rat) : sgnB (negB q) (bs (nm q)) = sgnQ q := by
  rw [sgnQ_eq]
  unfold sgnB
  by_cases h : nm q = 0
  · rw [if_pos h, h, bs0, if_pos (by rfl)]
  · have := bytes_ne_nil h
    rw [if_neg h, if_neg (by omega)]
theorem sgn_sub (a b : Rat) : sgnQ (a - b) = cmpQ a b := by
  have h := cmp_add a b (-b)
  have e : a + -b = a - b := by grind
  have e2 : b + -b = 0 := by grind
  rw [e, e2] at h
  exact h
/-- the int64 that a number is, if it is one -/
instance (n : Int) : Decidable (In64 n) := inferInstanceAs (Decidable (_ ∧ _))
def int64Q (q : Rat) : Int × Bool := if q.den = 1 ∧ In64 q.num then (q.num, true) else (0, false)
theorem intQ_eq (n : Int) : intQ n = (n : Rat) := by
  unfold intQ
  rw [mk_one]
  congr 1
  unfold sg
  split
  · rename_i h; simp at h; omega
  · rename_i h; simp at h; omega
theorem int64_int {n : Int} (h : In64 n) : int64Q (intQ n) = (n, true) := by
  rw [intQ_eq]
  unfold int64Q
  have h1 : ((n : Int) : Rat).den = 1 := by simp
  have h2 : ((n : Int) : Rat).num = n := by simp
  rw [if_pos ⟨h1, by rw [h2]; exact h⟩, h2]
theorem lt_int {n : Int} (h : In64 n) : Lt (intQ n) 8 := by
  unfold intQ
  obtain ⟨h1, h2⟩ := h
  exact mk_lt (by decide) (Nat.lt_of_lt_of_le (m := 18446744073709551616) (by omega) (by decide)) (by decide)
end Go.Proofs.YtpbgmpjnfndfjaaGreatDoor.RnY
namespace Go.Proofs.YtpbgmpjnfndfjaaGreatDoor.RpI
theorem here : True := trivial
open Go.RowKit RnA RnB RnS RnC RnK RnM RnL RnN RnD RnE RnQ RnR RnP RnW RnX RoA RoB RoC RoD RoE RoF RoG RoH RoI RoJ RoK RoL RoM RoN PnA PnB PnC PnD PnE PnF PnG PnH PnI PnJ PnK PnL RtA RtB RtC RpA RpB RpC RpD RpE RpF RpG RpH RnY
set_option maxHeartbeats 1000000000000 in
set_option maxRecDepth 100000000000 in
theorem signof_any (q : Rat) (w : World) :
    Calls Tryz.prog 95 #[.agg #[.bool (negB q), .string (bs (nm q)), .string (dstr q)]] w fun e w' => e = .returned (.int .i64 (sgnQ q)) ∧ Below w.heap.size w w' := by
  have hs := hide (sgnB_eq q)
  generalize sgnQ q = s at *
  generalize negB q = n at *
  generalize dstr q = D at *
  generalize bs (nm q) = t at *
  obtain ⟨V0, hV0, HX0, hc0, hl0⟩ := box_new w (.bool n) (.string t) (.string D)
  obtain ⟨c0, c1, c2, _⟩ := HX0.out
  by_cases h0 : 0 < t.size
  · obtain ⟨e1, e2⟩ := str_ne h0
    cases n
    · have hr : Hid (s = 1) := by show _ = _; rw [← hs.out]; unfold sgnB; rw [if_neg (by omega)]; rfl
      go_enter Tryz.func95, Tryz.ntmps95
      go_wp2_with fail
      go_ret
      exact ⟨by rw [hr.out]; rfl, hc0⟩
    · have hr : Hid (s = -1) := by show _ = _; rw [← hs.out]; unfold sgnB; rw [if_neg (by omega)]; rfl
      go_enter Tryz.func95, Tryz.ntmps95
      go_wp2_with fail
      go_ret
      exact ⟨by rw [hr.out]; rfl, hc0⟩
  · obtain ⟨e1, e2⟩ := str_em (s := t) (by omega)
    have hr : Hid (s = 0) := by show _ = _; rw [← hs.out]; unfold sgnB; rw [if_pos (by omega)]
    go_enter Tryz.func95, Tryz.ntmps95
    go_wp2_with fail
    go_ret
    exact ⟨by rw [hr.out]; rfl, hc0⟩
set_option maxHeartbeats 1000000000000 in
set_option maxRecDepth 100000000000 in
theorem sign_any (n : Bool) (a d : ByteArray) (w : World) (ha : a.size ≤ 100000000000) (hd : d.size ≤ 100000000000) :
    Calls Tryz.prog 57 #[.agg #[.bool n, .string a, .string d]] w fun e w' => e = .returned (.int .i64 (sgnQ (fixQ n a.data.toList d.data.toList))) ∧ Below w.heap.size w w' := by
  have HC := Lib.hid (fun w => clean_any n a d w ha hd)
  generalize fixQ n a.data.toList d.data.toList = q at *
  rw [enc_open] at HC
  have HS := Lib.hid (fun w => signof_any q w)
  obtain ⟨V0, hV0, HX0, hc0, hl0⟩ := box_new w (.bool n) (.string a) (.string d)
  obtain ⟨c0, c1, c2, _⟩ := HX0.out
  go_enter Tryz.func57, Tryz.ntmps57
  go_wp2_with fail
  refine (HC.out _).mono ?_
  rintro e w1 ⟨rfl, hb1⟩
  have HB1 := hc0.trans (hb1.mono hc0.size)
  go_wp2_with fail
  refine (HS.out _).mono ?_
  rintro e w2 ⟨rfl, hb2⟩
  go_wp2_with fail
  go_ret
  exact ⟨rfl, HB1.trans (hb2.mono HB1.size)⟩
theorem enc_neg (q : Rat) : enc (-q) = .agg #[.bool (!negB q && decide (nm q ≠ 0)), .string (bs (nm q)), .string (dstr q)] := by
  rw [enc_open, negB_neg, nm_neg_eq, dstr_neg]
theorem _root_.Go.Proofs.YtpbgmpjnfndfjaaGreatDoor.RtA.Bx.put0 {w : World} {k : Nat} {x y z : Value} (h : Bx w k x y z) (x' : Value) : Bx (w.setCell ⟨k, 0, none⟩ x') k x' y z := by
  obtain ⟨e0, e1, e2, e3, e4, e5⟩ := h
  refine ⟨?_, ?_, ?_, fr_set e3, fr_set e4, fr_set e5⟩
  · exact World.cell?_setCell_same _ _ _ e0
  · rw [World.cell?_setCell_other _ _ _ _ (by intro e; injection e with e1 e2; omega)]; assumption
  · rw [World.cell?_setCell_other _ _ _ _ (by intro e; injection e with e1 e2; omega)]; assumption
set_option maxHeartbeats 1000000000000 in
set_option maxRecDepth 100000000000 in
theorem negate_any (q : Rat) (w : World) :
    Calls Tryz.prog 51 #[.agg #[.bool (negB q), .string (bs (nm q)), .string (dstr q)]] w (RPost (-q) w) := by
  unfold RPost
  have hr := hide (enc_neg q)
  have h0 : Hid (nm q ≠ 0 → 0 < (bs (nm q)).size) := fun h => bytes_ne_nil h
  have h1 : Hid (nm q = 0 → bs (nm q) = ⟨#[]⟩) := fun h => by rw [h, bs0]
  generalize enc (-q) = E at *
  generalize dstr q = D at *
  by_cases hz : nm q = 0
  · have hr2 := hr.out
    rw [h1.out hz, decide_eq_false (by omega), Bool.and_false] at hr2
    have HR := hide hr2
    rw [h1.out hz]
    generalize negB q = n at *
    clear hr2 hr h0 h1 hz
    obtain ⟨W0, W1, hW, hW1, hW0, HX1, HY1, HB1, hsz⟩ := start2 w (.bool n) (.string ⟨#[]⟩) (.string D)
    obtain ⟨V, hV⟩ : ∃ V, W1.setCell ⟨w.heap.size, 0, none⟩ (.bool false) = V := ⟨_, rfl⟩
    have HX2 : Hid (Bx V w.heap.size (.bool false) (.string ⟨#[]⟩) (.string D)) := by rw [← hV]; exact HX1.out.put0 _
    have HY2 : Hid (Bx V (w.heap.size + 1) (.bool false) (.string ⟨#[]⟩) (.string ⟨#[]⟩)) := by rw [← hV]; exact HY1.out.other (by omega) 0 _
    have HB2 : Hid (Below w.heap.size w V) := by rw [← hV]; exact HB1.out.setCell (by show w.heap.size ≤ w.heap.size; omega) _
    obtain ⟨c0, c1, c2, f0, f1, f2⟩ := HX1.out
    obtain ⟨d0, d1, d2, g0, g1, g2⟩ := HX2.out
    obtain ⟨p0, p1, p2, q0, q1, q2⟩ := HY2.out
    cases n
    all_goals
      go_enter Tryz.func51, Tryz.ntmps51
      go_wp2_with fail
      refine bodyPost_ret (results_rat rfl _ rfl (HY2.out.set3 _ _ _)) rfl ?_
      exact ⟨by rw [HR.out], below_set3 HB2.out (by omega) _ _ _⟩
  · have hr2 := hr.out
    rw [decide_eq_true hz, Bool.and_true] at hr2
    have HR := hide hr2
    obtain ⟨e1, e2⟩ := str_ne (h0.out hz)
    generalize negB q = n at *
    generalize bs (nm q) = t at *
    clear hr2 hr h0 h1 hz
    obtain ⟨W0, W1, hW, hW1, hW0, HX1, HY1, HB1, hsz⟩ := start2 w (.bool n) (.string t) (.string D)
    obtain ⟨V, hV⟩ : ∃ V, W1.setCell ⟨w.heap.size, 0, none⟩ (.bool !n) = V := ⟨_, rfl⟩
    have HX2 : Hid (Bx V w.heap.size (.bool !n) (.string t) (.string D)) := by rw [← hV]; exact HX1.out.put0 _
    have HY2 : Hid (Bx V (w.heap.size + 1) (.bool false) (.string ⟨#[]⟩) (.string ⟨#[]⟩)) := by rw [← hV]; exact HY1.out.other (by omega) 0 _
    have HB2 : Hid (Below w.heap.size w V) := by rw [← hV]; exact HB1.out.setCell (by show w.heap.size ≤ w.heap.size; omega) _
    obtain ⟨c0, c1, c2, f0, f1, f2⟩ := HX1.out
    cases n
    all_goals
      simp only [Bool.not_true, Bool.not_false] at hV HX2 HR
      obtain ⟨d0, d1, d2, g0, g1, g2⟩ := HX2.out
      obtain ⟨p0, p1, p2, q0, q1, q2⟩ := HY2.out
      go_enter Tryz.func51, Tryz.ntmps51
      go_wp2_with fail
      refine bodyPost_ret (results_rat rfl _ rfl (HY2.out.set3 _ _ _)) rfl ?_
      exact ⟨by rw [HR.out], below_set3 HB2.out (by omega) _ _ _⟩
set_option maxHeartbeats 1000000000000 in
set_option maxRecDepth 100000000000 in
theorem neg_any (n : Bool) (a d : ByteArray) (w : World) (ha : a.size ≤ 100000000000) (hd : d.size ≤ 100000000000) :
    Calls Tryz.prog 137 #[.agg #[.bool n, .string a, .string d]] w (RPost (-fixQ n a.data.toList d.data.toList) w) := by
  have HC := Lib.hid (fun w => clean_any n a d w ha hd)
  generalize fixQ n a.data.toList d.data.toList = q at *
  rw [enc_open] at HC
  have HS := Lib.hid (fun w => negate_any q w)
  unfold RPost at HS ⊢
  rw [enc_open] at HS ⊢
  generalize -q = p at *
  obtain ⟨W0, W1, hW, hW1, hW0, HX1, HY1, HB1, hsz⟩ := start2 w (.bool n) (.string a) (.string d)
  obtain ⟨c0, c1, c2, _⟩ := HX1.out
  go_enter Tryz.func137, Tryz.ntmps137
  go_wp2_with fail
  refine (HC.out _).mono ?_
  rintro e w1 ⟨rfl, hb1⟩
  have HY2 := hide (HY1.out.keep hb1 (by omega))
  have HB2 := hide (HB1.out.trans (hb1.mono (by omega)))
  have hs1 := hb1.size
  clear hb1
  go_wp2_with fail
  refine (HS.out _).mono ?_
  rintro e w2 ⟨rfl, hb2⟩
  have HY3 := hide (HY2.out.keep hb2 (by omega))
  have HB3 := hide (HB2.out.trans (hb2.mono (by omega)))
  obtain ⟨p0, p1, p2, q0, q1, q2⟩ := HY3.out
  go_wp2_with fail
  refine bodyPost_ret (results_rat rfl _ rfl (HY3.out.set3 _ _ _)) rfl ?_
  exact ⟨rfl, below_set3 HB3.out (by omega) _ _ _⟩
end Go.Proofs.YtpbgmpjnfndfjaaGreatDoor.RpI
namespace Go.Proofs.YtpbgmpjnfndfjaaGreatDoor.RpJ
theorem here : True := trivial
open Go.RowKit RnA RnB RnS RnC RnK RnM RnL RnN RnD RnE RnQ RnR RnP RnW RnX RoA RoB RoC RoD RoE RoF RoG RoH RoI RoJ RoK RoL RoM RoN PnA PnB PnC PnD PnE PnF PnG PnH PnI PnJ PnK PnL RtA RtB RtC RpA RpB RpC RpD RpE RpF RpG RpH RnY RpI
/-- two boxes for arguments and one for a result -/
theorem start3 (w : World) (x y z x' y' z' : Value) : ∃ W0 W1 W2, w.alloc (.cells #[x, y, z] 32) = W0 ∧ W0.alloc (.cells #[x', y', z'] 32) = W1 ∧ W1.alloc (.cells #[.bool false, .string ⟨#[]⟩, .string ⟨#[]⟩] 32) = W2 ∧
    W0.heap.size = w.heap.size + 1 ∧ W1.heap.size = w.heap.size + 2 ∧
    Hid (Bx W2 w.heap.size x y z) ∧ Hid (Bx W2 (w.heap.size + 1) x' y' z') ∧ Hid (Bx W2 (w.heap.size + 2) (.bool false) (.string ⟨#[]⟩) (.string ⟨#[]⟩)) ∧ Hid (Below w.heap.size w W2) ∧ w.heap.size + 2 < W2.heap.size := by
  have hB0 := (Below.refl w.heap.size w).alloc (Nat.le_refl _) (.cells #[x, y, z] 32)
  have hX0 := Bx.new w x y z 32
  have hs : (w.alloc (.cells #[x, y, z] 32)).heap.size = w.heap.size + 1 := by simp
  generalize w.alloc (.cells #[x, y, z] 32) = W0 at *
  obtain ⟨W1, W2, h1, h2, h3, HX, HY, HB, hl⟩ := start2 W0 x' y' z'
  rw [hs] at HX HY
  have HBo := HB.out
  exact ⟨W0, W1, W2, rfl, h1, h2, hs, by omega, hX0.keep HBo (by omega), HX, HY, hB0.trans (HBo.mono (by omega)), by omega⟩
theorem _root_.Go.Proofs.YtpbgmpjnfndfjaaGreatDoor.RtA.Bx.kin {W : World} {k : Nat} {x y z : Value} (h : Bx W k x y z) :
    (∀ v : Qin.In (Below W.heap.size W), v.val.cell? ⟨k, 0, none⟩ = some x) ∧ (∀ v : Qin.In (Below W.heap.size W), v.val.cell? ⟨k, 1, none⟩ = some y) ∧ (∀ v : Qin.In (Below W.heap.size W), v.val.cell? ⟨k, 2, none⟩ = some z) :=
  ⟨fun v => (h.keep v.ok h.lt).1, fun v => (h.keep v.ok h.lt).2.1, fun v => (h.keep v.ok h.lt).2.2.1⟩
instance inhab (W : World) : Nonempty (Qin.In (Below W.heap.size W)) := ⟨⟨_, Below.refl _ _⟩⟩
theorem mulq_in (x y : Nat) (W : World) (v : Qin.In (Below W.heap.size W)) (hx : (bs x).size ≤ 100000000000) (hy : (bs y).size ≤ 100000000000) : Calls Tryz.prog 73 #[.string (bs x), .string (bs y)] v.val fun e w' => e = .returned (.string (bs (x * y))) ∧ ∃ y : Qin.In (Below W.heap.size W), w' = y.val := by
  have h := mul_in (bs x) (bs y) W v hx hy
  rwa [nv_bs, nv_bs] at h
theorem addq_in (x y : Nat) (W : World) (v : Qin.In (Below W.heap.size W)) (hx : (bs x).size ≤ 100000000000) (hy : (bs y).size ≤ 100000000000) : Calls Tryz.prog 75 #[.string (bs x), .string (bs y)] v.val fun e w' => e = .returned (.string (bs (x + y))) ∧ ∃ y : Qin.In (Below W.heap.size W), w' = y.val := by
  have h := add_any (bs x) (bs y) v.val hx hy
  rw [nv_bs, nv_bs] at h
  exact Qin.call (h.mono fun _ _ ⟨h1, h2⟩ => ⟨h1, v.ok.trans (h2.mono v.ok.size)⟩)
theorem redq_any (s : Bool) (x d : Nat) (q : Rat) (hq : mk s x d = q) (w : World) (hx : (bs x).size ≤ 100000000000) (hd : (bs d).size ≤ 100000000000) (h0 : d ≠ 0) : Calls Tryz.prog 69 #[.bool s, .string (bs x), .string (bs d)] w fun e w' => e = .returned (.agg #[.bool (negB q), .string (bs (nm q)), .string (dstr q)]) ∧ Below w.heap.size w w' := by
  have h := reduced_any s (bs x) (bs d) w hx hd (by rw [nv_bs]; exact h0)
  rw [nv_bs, nv_bs, hq] at h
  exact h
theorem redq_in (s : Bool) (x d : Nat) (q : Rat) (hq : mk s x d = q) (W : World) (v : Qin.In (Below W.heap.size W)) (hx : (bs x).size ≤ 100000000000) (hd : (bs d).size ≤ 100000000000) (h0 : d ≠ 0) : Calls Tryz.prog 69 #[.bool s, .string (bs x), .string (bs d)] v.val fun e w' => e = .returned (.agg #[.bool (negB q), .string (bs (nm q)), .string (dstr q)]) ∧ ∃ y : Qin.In (Below W.heap.size W), w' = y.val :=
  Qin.call ((redq_any s x d q hq v.val hx hd h0).mono fun _ _ ⟨h1, h2⟩ => ⟨h1, v.ok.trans (h2.mono v.ok.size)⟩)
theorem subq_any (x y : Nat) (w : World) (hx : (bs x).size ≤ 100000000000) (hy : (bs y).size ≤ 100000000000) : Calls Tryz.prog 76 #[.string (bs x), .string (bs y)] w (SBPost (subN x y) w) := by
  have h := subtract_any (bs x) (bs y) w hx hy
  rwa [nv_bs, nv_bs] at h
theorem deq {a b : Rat} (h : a.den = b.den) : ((dstr a).toList == (dstr b).toList) = true := by rw [dstr_eq.2 h]; simp
theorem dne {a b : Rat} (h : a.den ≠ b.den) : ((dstr a).toList == (dstr b).toList) = false := by
  rw [tl, tl]
  have : (dstr a).data.toList ≠ (dstr b).data.toList := fun e => h (dstr_eq.1 (ext_bytes e))
  simpa using this
set_option maxHeartbeats 4000000000000 in
set_option maxRecDepth 100000000000 in
theorem add_q (a b : Rat) (w : World) (i j : Nat) (ha : Lt a i) (hb : Lt b j) (hij : i + j ≤ 99999999990) :
    Calls Tryz.prog 41 #[.agg #[.bool (negB a), .string (bs (nm a)), .string (dstr a)], .agg #[.bool (negB b), .string (bs (nm b)), .string (dstr b)]] w (RPost (a + b) w) := by
  obtain ⟨sx, sy, sd⟩ := com_sz ha hb
  have s1 := ha.num
  have s2 := ha.den
  have s3 := hb.num
  have s4 := hb.den
  have HDEN := Lib.hid (fun q W x => den_in q W x)
  have HMUL := Lib.hid (fun x y W v hx hy => mulq_in x y W v hx hy)
  have hX : Hid (a.den = b.den → comX a b = nm a ∧ comY a b = nm b ∧ comD a b = a.den) := fun h => by unfold comX comY comD; rw [if_pos h, if_pos h, if_pos h]; exact ⟨rfl, rfl, rfl⟩
  have hX2 : Hid (a.den ≠ b.den → comX a b = nm a * b.den ∧ comY a b = nm b * a.den ∧ comD a b = a.den * b.den) := fun h => by unfold comX comY comD; rw [if_neg h, if_neg h, if_neg h]; exact ⟨rfl, rfl, rfl⟩
  have hsame : Hid (negB a = negB b → mk (negB a) (comX a b + comY a b) (comD a b) = a + b) := fun h => com_same h
  have hge : Hid (negB a ≠ negB b → comY a b ≤ comX a b → mk (negB a) (comX a b - comY a b) (comD a b) = a + b) := fun h h2 => com_ge h h2
  have hlt : Hid (negB a ≠ negB b → comX a b < comY a b → mk (negB b) (comY a b - comX a b) (comD a b) = a + b) := fun h h2 => com_lt h h2
  have hnz := hide (com_nz a b)
  have hsum : (bs (comX a b + comY a b)).size ≤ i + j + 1 := lt_bs.1 (add_lt (lt_bs.2 sx) (lt_bs.2 sy))
  have hs5 : (bs (comX a b - comY a b)).size ≤ i + j := Nat.le_trans (bs_mono (Nat.sub_le _ _)) sx
  have hs6 : (bs (comY a b - comX a b)).size ≤ i + j := Nat.le_trans (bs_mono (Nat.sub_le _ _)) sy
  have HADD := Lib.hid (fun W v => addq_in (comX a b) (comY a b) W v (by omega) (by omega))
  have HSUB := Lib.hid (fun w => subq_any (comX a b) (comY a b) w (by omega) (by omega))
  have HSUB2 := Lib.hid (fun w => subq_any (comY a b) (comX a b) w (by omega) (by omega))
  have hde : Hid (a.den = b.den → ((dstr a).toList == (dstr b).toList) = true) := deq
  have hdn : Hid (a.den ≠ b.den → ((dstr a).toList == (dstr b).toList) = false) := dne
  clear ha hb
  unfold RPost
  rw [enc_open]
  generalize a + b = r at *
  generalize comX a b = X at *
  generalize comY a b = Y at *
  generalize comD a b = D at *
  obtain ⟨W0, W1, W2, hW0, hW1, hW2, hs0, hs1, HA2, HB2, HR2, HC2, hsz⟩ := start3 w (.bool (negB a)) (.string (bs (nm a))) (.string (dstr a)) (.bool (negB b)) (.string (bs (nm b))) (.string (dstr b))
  obtain ⟨a0, a1, a2, _⟩ := HA2.out
  obtain ⟨b0, b1, b2, _⟩ := HB2.out
  go_enter Tryz.func41, Tryz.ntmps41
  go_wp2_with fail
  go_quiet (fail)
  obtain ⟨W3, hW3⟩ : ∃ W3, W2.drewN nq = W3 := ⟨_, rfl⟩
  have hD3 := below_drewN (Below.refl W2.heap.size W2) nq
  rw [hW3] at hD3 ⊢
  have HA3 := hide (HA2.out.keep hD3 (by omega))
  have HB3 := hide (HB2.out.keep hD3 (by omega))
  have HR3 := hide (HR2.out.keep hD3 (by omega))
  have HC3 := hide (HC2.out.trans (hD3.mono HC2.out.size))
  have hz3 := hD3.size
  clear hD3 hW3 hW0 hW1 hW2 a0 a1 a2 b0 b1 b2 HA2 HB2 HR2 HC2
  obtain ⟨a0, a1, a2, _⟩ := HA3.out
  obtain ⟨b0, b1, b2, _⟩ := HB3.out
  go_upto_if 20 with fail
  go_cut [5, 6, 7] (fun va vb vd wx => va = .string (bs X) ∧ vb = .string (bs Y) ∧ vd = .string (bs D) ∧ Below W3.heap.size W3 wx)
  case first =>
    by_cases hd : a.den = b.den
    · obtain ⟨x1, x2, x3⟩ := hX.out hd
      rw [show (!(dstr a).toList == (dstr b).toList) = false by rw [hde.out hd]; rfl]
      have X1 := hide x1
      have X2 := hide x2
      have X3 := hide x3
      clear x1 x2 x3 hd
      go_wp2_with fail
      refine (HDEN.out _ _ ⟨_, Below.refl _ _⟩).mono ?_
      rintro e w4 ⟨rfl, v, rfl⟩
      go_wp2_with fail
      go_meet
      case rel => exact ⟨by rw [X1.out], by rw [X2.out], by rw [X3.out], v.ok⟩
    · obtain ⟨x1, x2, x3⟩ := hX2.out hd
      rw [show (!(dstr a).toList == (dstr b).toList) = true by rw [hdn.out hd]; rfl]
      have X1 := hide x1
      have X2 := hide x2
      have X3 := hide x3
      clear x1 x2 x3 hd
      go_wp2_with fail
      obtain ⟨k0, k1, k2⟩ := HA3.out.kin
      obtain ⟨l0, l1, l2⟩ := HB3.out.kin
      refine Qin.region (I := Below W3.heap.size W3) (Qin.start _ W3) (by kernel_rfl) (by kernel_rfl) ?_
      repeat (go_big_quiet_step ((first | (go_at_call 74; with_reducible exact HDEN.out _ _ _) | (go_at_call 73; with_reducible exact HMUL.out _ _ _ _ (by omega) (by omega)))))
      refine wpQuiet_nil ?_
      intro v
      clear k0 k1 k2 l0 l1 l2
      obtain ⟨w4, hw4⟩ : ∃ w4, v.val = w4 := ⟨_, rfl⟩
      have HA4 := hide (HA3.out.keep v.ok HA3.out.lt)
      have HB4 := hide (HB3.out.keep v.ok HB3.out.lt)
      have hb4 := v.ok
      rw [hw4] at HA4 HB4 hb4 ⊢
      clear hw4 v a0 a1 a2 b0 b1 b2
      go_wp2_with fail
      obtain ⟨k0, k1, k2⟩ := HA4.out.kin
      obtain ⟨l0, l1, l2⟩ := HB4.out.kin
      refine Qin.region (I := Below w4.heap.size w4) (Qin.start _ w4) (by kernel_rfl) (by kernel_rfl) ?_
      repeat (go_big_quiet_step ((first | (go_at_call 74; with_reducible exact HDEN.out _ _ _) | (go_at_call 73; with_reducible exact HMUL.out _ _ _ _ (by omega) (by omega)))))
      refine wpQuiet_nil ?_
      intro v
      have hb5 := below_next hb4 v.ok
      clear k0 k1 k2 l0 l1 l2
      go_wp2_with fail
      go_meet
      case rel => exact ⟨by rw [X1.out], by rw [X2.out], by rw [X3.out], hb5⟩
  case rest =>
    obtain ⟨rfl, rfl, rfl, hb4⟩ := hcut
    have hl1 := HA3.out.lt
    have HA4 := hide (HA3.out.keep hb4 HA3.out.lt)
    have HB4 := hide (HB3.out.keep hb4 HB3.out.lt)
    have HR4 := hide (HR3.out.keep hb4 HR3.out.lt)
    have HC4 := hide (HC3.out.trans (hb4.mono HC3.out.size))
    clear hb4 HA3 HB3 HR3 HC3 a0 a1 a2 b0 b1 b2 hX hX2 hde hdn HMUL HDEN
    generalize hna : negB a = na at *
    generalize hnb : negB b = nb at *
    generalize bs (nm a) = A1 at *
    generalize bs (nm b) = B1 at *
    generalize dstr a = A2 at *
    generalize dstr b = B2 at *
    clear hna hnb s2 s4
    obtain ⟨a0, a1, a2, _⟩ := HA4.out
    obtain ⟨b0, b1, b2, _⟩ := HB4.out
    by_cases hs : na = nb
    · have HRED := Lib.hid (fun W v => redq_in na (X + Y) D r (hsame.out hs) W v (by omega) (by omega) hnz.out)
      subst hs
      clear hsame hge hlt hnz
      have hbb : (na == na) = true := by simp
      go_wp2_with fail
      obtain ⟨k0, k1, k2⟩ := HA4.out.kin
      refine Qtl.region (I := Below wc.heap.size wc) 7 (Qin.start _ _) (by kernel_rfl) (by kernel_rfl) ?_
      simp only [List.take_succ_cons, List.take_zero, List.drop_succ_cons, List.drop_zero]
      repeat (go_big_quiet_step ((first | (go_at_call 75; with_reducible exact HADD.out _ _) | (go_at_call 69; with_reducible exact HRED.out _ _))))
      refine wpQuiet_nil ?_
      intro v
      clear k0 k1 k2
      have HR5 := hide (HR4.out.keep v.ok HR4.out.lt)
      have HC5 := hide (HC4.out.trans (v.ok.mono HC4.out.size))
      obtain ⟨d0, d1, d2, g0, g1, g2⟩ := HR5.out
      go_wp2_with fail
      refine bodyPost_ret (results_rat rfl _ rfl (HR5.out.set3 _ _ _)) rfl ?_
      exact ⟨rfl, below_set3 HC5.out (by omega) _ _ _⟩
    · have hbb : (na == nb) = false := by simpa using hs
      by_cases hc : X < Y
      · have HRED := Lib.hid (fun w => redq_any nb (Y - X) D r (hlt.out hs hc) w (by omega) (by omega) hnz.out)
        rw [show subN X Y = (0, false) by unfold subN; rw [if_pos hc]] at HSUB
        rw [show subN Y X = (Y - X, true) by unfold subN; rw [if_neg (by omega)]] at HSUB2
        unfold SBPost at HSUB HSUB2
        simp only at HSUB HSUB2
        clear hsame hge hlt hnz hs
        go_wp2_with fail
        refine (HSUB.out _).mono ?_
        rintro e w5 ⟨rfl, hb5⟩
        have HB5 := hide (HB4.out.keep hb5 HB4.out.lt)
        have HR5 := hide (HR4.out.keep hb5 HR4.out.lt)
        have HC5 := hide (HC4.out.trans (hb5.mono HC4.out.size))
        clear hb5 a0 a1 a2 b0 b1 b2
        obtain ⟨b0, b1, b2, _⟩ := HB5.out
        go_wp2_with fail
        refine (HSUB2.out _).mono ?_
        rintro e w6 ⟨rfl, hb6⟩
        have HB6 := hide (HB5.out.keep hb6 HB5.out.lt)
        have HR6 := hide (HR5.out.keep hb6 HR5.out.lt)
        have HC6 := hide (HC5.out.trans (hb6.mono HC5.out.size))
        clear hb6 b0 b1 b2
        obtain ⟨b0, b1, b2, _⟩ := HB6.out
        go_wp2_with fail
        refine (HRED.out _).mono ?_
        rintro e w7 ⟨rfl, hb7⟩
        have HR7 := hide (HR6.out.keep hb7 HR6.out.lt)
        have HC7 := hide (HC6.out.trans (hb7.mono HC6.out.size))
        obtain ⟨d0, d1, d2, g0, g1, g2⟩ := HR7.out
        go_wp2_with fail
        refine bodyPost_ret (results_rat rfl _ rfl (HR7.out.set3 _ _ _)) rfl ?_
        exact ⟨rfl, below_set3 HC7.out (by omega) _ _ _⟩
      · have HRED := Lib.hid (fun w => redq_any na (X - Y) D r (hge.out hs (by omega)) w (by omega) (by omega) hnz.out)
        rw [show subN X Y = (X - Y, true) by unfold subN; rw [if_neg hc]] at HSUB
        unfold SBPost at HSUB
        simp only at HSUB
        clear hsame hge hlt hnz hs HSUB2
        go_wp2_with fail
        refine (HSUB.out _).mono ?_
        rintro e w5 ⟨rfl, hb5⟩
        have HA5 := hide (HA4.out.keep hb5 HA4.out.lt)
        have HR5 := hide (HR4.out.keep hb5 HR4.out.lt)
        have HC5 := hide (HC4.out.trans (hb5.mono HC4.out.size))
        clear hb5 a0 a1 a2 b0 b1 b2
        obtain ⟨a0, a1, a2, _⟩ := HA5.out
        go_wp2_with fail
        refine (HRED.out _).mono ?_
        rintro e w7 ⟨rfl, hb7⟩
        have HR7 := hide (HR5.out.keep hb7 HR5.out.lt)
        have HC7 := hide (HC5.out.trans (hb7.mono HC5.out.size))
        obtain ⟨d0, d1, d2, g0, g1, g2⟩ := HR7.out
        go_wp2_with fail
        refine bodyPost_ret (results_rat rfl _ rfl (HR7.out.set3 _ _ _)) rfl ?_
        exact ⟨rfl, below_set3 HC7.out (by omega) _ _ _⟩
end Go.Proofs.YtpbgmpjnfndfjaaGreatDoor.RpJ
namespace Go.Proofs.YtpbgmpjnfndfjaaGreatDoor.RpK
theorem here : True := trivial
open Go.RowKit RnA RnB RnS RnC RnK RnM RnL RnN RnD RnE RnQ RnR RnP RnW RnX RoA RoB RoC RoD RoE RoF RoG RoH RoI RoJ RoK RoL RoM RoN PnA PnB PnC PnD PnE PnF PnG PnH PnI PnJ PnK PnL RtA RtB RtC RpA RpB RpC RpD RpE RpF RpG RpH RnY RpI RpJ
theorem clean_in (n : Bool) (a d : ByteArray) (q : Rat) (hq : fixQ n a.data.toList d.data.toList = q) (W : World) (v : Qin.In (Below W.heap.size W)) (ha : a.size ≤ 100000000000) (hd : d.size ≤ 100000000000) : Calls Tryz.prog 42 #[.agg #[.bool n, .string a, .string d]] v.val fun e w' => e = .returned (.agg #[.bool (negB q), .string (bs (nm q)), .string (dstr q)]) ∧ ∃ y : Qin.In (Below W.heap.size W), w' = y.val :=
  Qin.call ((clean_any n a d v.val ha hd).mono fun _ _ ⟨h1, h2⟩ => ⟨by rw [h1, hq, enc_open], v.ok.trans (h2.mono v.ok.size)⟩)
theorem q_in {f : FuncId} {args : Array Value} {r : Rat} {W : World} {v : Qin.In (Below W.heap.size W)} (h : Calls Tryz.prog f args v.val (RPost r v.val)) : Calls Tryz.prog f args v.val fun e w' => e = .returned (.agg #[.bool (negB r), .string (bs (nm r)), .string (dstr r)]) ∧ ∃ y : Qin.In (Below W.heap.size W), w' = y.val :=
  Qin.call (h.mono fun _ _ ⟨h1, h2⟩ => ⟨h1, v.ok.trans (h2.mono v.ok.size)⟩)
set_option maxHeartbeats 4000000000000 in
set_option maxRecDepth 100000000000 in
theorem padd_any (n : Bool) (a d : ByteArray) (n' : Bool) (a' d' : ByteArray) (w : World) (k : Nat) (ha : a.size ≤ k) (hd : d.size ≤ k) (ha' : a'.size ≤ k) (hd' : d'.size ≤ k) (hk : 1 ≤ k) (hk2 : k ≤ 40000000000) :
    Calls Tryz.prog 16 #[.agg #[.bool n, .string a, .string d], .agg #[.bool n', .string a', .string d']] w (RPost (fixQ n a.data.toList d.data.toList + fixQ n' a'.data.toList d'.data.toList) w) := by
  have hl := lt_raw (n := n) ha hd hk
  have hl' := lt_raw (n := n') ha' hd' hk
  have HC := Lib.hid (fun W v => clean_in n a d _ rfl W v (by omega) (by omega))
  have HC' := Lib.hid (fun W v => clean_in n' a' d' _ rfl W v (by omega) (by omega))
  generalize fixQ n a.data.toList d.data.toList = q at *
  generalize fixQ n' a'.data.toList d'.data.toList = q' at *
  have HS := Lib.hid (fun W (v : Qin.In (Below W.heap.size W)) => q_in (add_q q q' v.val k k hl hl' (by omega)))
  generalize q + q' = r at *
  unfold RPost
  rw [enc_open]
  clear hl hl'
  obtain ⟨W0, W1, W2, hW0, hW1, hW2, hs0, hs1, HA2, HB2, HR2, HC2, hsz⟩ := start3 w (.bool n) (.string a) (.string d) (.bool n') (.string a') (.string d')
  go_enter Tryz.func16, Tryz.ntmps16
  go_wp2_with fail
  obtain ⟨k0, k1, k2⟩ := HA2.out.kin
  obtain ⟨l0, l1, l2⟩ := HB2.out.kin
  refine Qtl.region (I := Below W2.heap.size W2) 5 (Qin.start _ _) (by kernel_rfl) (by kernel_rfl) ?_
  simp only [List.take_succ_cons, List.take_zero, List.drop_succ_cons, List.drop_zero]
  repeat (go_big_quiet_step ((first | (go_at_call 42; first | (with_reducible exact HC.out _ _) | (with_reducible exact HC'.out _ _)) | (go_at_call 41; with_reducible exact HS.out _ _))))
  refine wpQuiet_nil ?_
  intro v
  clear k0 k1 k2 l0 l1 l2
  have HR5 := hide (HR2.out.keep v.ok HR2.out.lt)
  have HC5 := hide (HC2.out.trans (v.ok.mono HC2.out.size))
  obtain ⟨d0, d1, d2, g0, g1, g2⟩ := HR5.out
  go_wp2_with fail
  refine bodyPost_ret (results_rat rfl _ rfl (HR5.out.set3 _ _ _)) rfl ?_
  exact ⟨rfl, below_set3 HC5.out (by omega) _ _ _⟩
set_option maxHeartbeats 4000000000000 in
set_option maxRecDepth 100000000000 in
theorem psub_any (n : Bool) (a d : ByteArray) (n' : Bool) (a' d' : ByteArray) (w : World) (k : Nat) (ha : a.size ≤ k) (hd : d.size ≤ k) (ha' : a'.size ≤ k) (hd' : d'.size ≤ k) (hk : 1 ≤ k) (hk2 : k ≤ 40000000000) :
    Calls Tryz.prog 24 #[.agg #[.bool n, .string a, .string d], .agg #[.bool n', .string a', .string d']] w (RPost (fixQ n a.data.toList d.data.toList - fixQ n' a'.data.toList d'.data.toList) w) := by
  have hl := lt_raw (n := n) ha hd hk
  have hl' := lt_raw (n := n') ha' hd' hk
  have HC := Lib.hid (fun W v => clean_in n a d _ rfl W v (by omega) (by omega))
  have HC' := Lib.hid (fun W v => clean_in n' a' d' _ rfl W v (by omega) (by omega))
  generalize fixQ n a.data.toList d.data.toList = q at *
  generalize fixQ n' a'.data.toList d'.data.toList = q' at *
  have HN := Lib.hid (fun W (v : Qin.In (Below W.heap.size W)) => q_in (negate_any q' v.val))
  have HS := Lib.hid (fun W (v : Qin.In (Below W.heap.size W)) => q_in (add_q q (-q') v.val k k hl hl'.neg (by omega)))
  rw [show q + -q' = q - q' by grind] at HS
  generalize q - q' = r at *
  generalize -q' = p at *
  unfold RPost
  rw [enc_open]
  clear hl hl'
  obtain ⟨W0, W1, W2, hW0, hW1, hW2, hs0, hs1, HA2, HB2, HR2, HC2, hsz⟩ := start3 w (.bool n) (.string a) (.string d) (.bool n') (.string a') (.string d')
  go_enter Tryz.func24, Tryz.ntmps24
  go_wp2_with fail
  obtain ⟨k0, k1, k2⟩ := HA2.out.kin
  obtain ⟨l0, l1, l2⟩ := HB2.out.kin
  refine Qtl.region (I := Below W2.heap.size W2) 6 (Qin.start _ _) (by kernel_rfl) (by kernel_rfl) ?_
  simp only [List.take_succ_cons, List.take_zero, List.drop_succ_cons, List.drop_zero]
  repeat (go_big_quiet_step ((first | (go_at_call 42; first | (with_reducible exact HC.out _ _) | (with_reducible exact HC'.out _ _)) | (go_at_call 51; with_reducible exact HN.out _ _) | (go_at_call 41; with_reducible exact HS.out _ _))))
  refine wpQuiet_nil ?_
  intro v
  clear k0 k1 k2 l0 l1 l2
  have HR5 := hide (HR2.out.keep v.ok HR2.out.lt)
  have HC5 := hide (HC2.out.trans (v.ok.mono HC2.out.size))
  obtain ⟨d0, d1, d2, g0, g1, g2⟩ := HR5.out
  go_wp2_with fail
  refine bodyPost_ret (results_rat rfl _ rfl (HR5.out.set3 _ _ _)) rfl ?_
  exact ⟨rfl, below_set3 HC5.out (by omega) _ _ _⟩
theorem _root_.Go.Proofs.YtpbgmpjnfndfjaaGreatDoor.RtA.Bx.other3 {w : World} {k j : Nat} {x y z : Value} (h : Bx w k x y z) (hj : k ≠ j) (x' y' z' : Value) : Bx (((w.setCell ⟨j, 0, none⟩ x').setCell ⟨j, 1, none⟩ y').setCell ⟨j, 2, none⟩ z') k x y z :=
  ((h.other hj 0 x').other hj 1 y').other hj 2 z'
/-- both arguments' boxes are written anew -/
theorem two_set {w W : World} {B k j r : Nat} {x0 y0 z0 x1 y1 z1 x2 y2 z2 : Value} (hA : Bx W k x0 y0 z0) (hB : Bx W j x1 y1 z1) (hR : Bx W r x2 y2 z2) (hb : Below B w W) (hkj : k ≠ j) (hkr : k ≠ r) (hjr : j ≠ r) (hk : B ≤ k) (hj : B ≤ j) (x y z x' y' z' : Value) :
    ∃ V, ((((((W.setCell ⟨k, 0, none⟩ x).setCell ⟨k, 1, none⟩ y).setCell ⟨k, 2, none⟩ z).setCell ⟨j, 0, none⟩ x').setCell ⟨j, 1, none⟩ y').setCell ⟨j, 2, none⟩ z') = V ∧
      Hid (Bx V k x y z) ∧ Hid (Bx V j x' y' z') ∧ Hid (Bx V r x2 y2 z2) ∧ Hid (Below B w V) :=
  ⟨_, rfl, (hA.set3 x y z).other3 hkj x' y' z', (hB.other3 (Ne.symm hkj) x y z).set3 x' y' z', (hR.other3 (Ne.symm hkr) x y z).other3 (Ne.symm hjr) x' y' z', below_set3 (below_set3 hb hk x y z) hj x' y' z'⟩
set_option maxHeartbeats 4000000000000 in
set_option maxRecDepth 100000000000 in
theorem pmul_any (n : Bool) (a d : ByteArray) (n' : Bool) (a' d' : ByteArray) (w : World) (k : Nat) (ha : a.size ≤ k) (hd : d.size ≤ k) (ha' : a'.size ≤ k) (hd' : d'.size ≤ k) (hk : 1 ≤ k) (hk2 : k ≤ 40000000000) :
    Calls Tryz.prog 142 #[.agg #[.bool n, .string a, .string d], .agg #[.bool n', .string a', .string d']] w (RPost (fixQ n a.data.toList d.data.toList * fixQ n' a'.data.toList d'.data.toList) w) := by
  have hl := lt_raw (n := n) ha hd hk
  have hl' := lt_raw (n := n') ha' hd' hk
  have HC := Lib.hid (fun W v => clean_in n a d _ rfl W v (by omega) (by omega))
  have HC' := Lib.hid (fun W v => clean_in n' a' d' _ rfl W v (by omega) (by omega))
  generalize fixQ n a.data.toList d.data.toList = q at *
  generalize fixQ n' a'.data.toList d'.data.toList = q' at *
  have s1 := hl.num
  have s2 := hl.den
  have s3 := hl'.num
  have s4 := hl'.den
  have s5 := lt_bs.1 (mul_lt hl.1 hl'.1)
  have s6 := lt_bs.1 (mul_lt hl.2 hl'.2)
  have HDEN := Lib.hid (fun q W x => den_in q W x)
  have HMUL := Lib.hid (fun x y W v hx hy => mulq_in x y W v hx hy)
  have HRED := Lib.hid (fun W v => redq_in (!(negB q == negB q')) _ _ (q * q') (mul_eq q q') W v (by omega) (by omega) (Nat.mul_ne_zero q.den_nz q'.den_nz))
  unfold RPost
  rw [enc_open]
  generalize q * q' = r at *
  clear hl hl' s5 s6
  obtain ⟨W0, W1, W2, hW0, hW1, hW2, hs0, hs1, HA2, HB2, HR2, HC2, hsz⟩ := start3 w (.bool n) (.string a) (.string d) (.bool n') (.string a') (.string d')
  go_enter Tryz.func142, Tryz.ntmps142
  go_wp2_with fail
  obtain ⟨k0, k1, k2⟩ := HA2.out.kin
  obtain ⟨l0, l1, l2⟩ := HB2.out.kin
  refine Qtl.region (I := Below W2.heap.size W2) 4 (Qin.start _ _) (by kernel_rfl) (by kernel_rfl) ?_
  simp only [List.take_succ_cons, List.take_zero, List.drop_succ_cons, List.drop_zero]
  repeat (go_big_quiet_step ((first | (go_at_call 42; first | (with_reducible exact HC.out _ _) | (with_reducible exact HC'.out _ _)))))
  refine wpQuiet_nil ?_
  intro v
  clear k0 k1 k2 l0 l1 l2 hW0 hW1 hW2
  have HA3 := hide (HA2.out.keep v.ok HA2.out.lt)
  have HB3 := hide (HB2.out.keep v.ok HB2.out.lt)
  have HR3 := hide (HR2.out.keep v.ok HR2.out.lt)
  have HC3 := hide (HC2.out.trans (v.ok.mono HC2.out.size))
  obtain ⟨w3, hw3⟩ : ∃ w3, v.val = w3 := ⟨_, rfl⟩
  rw [hw3] at HA3 HB3 HR3 HC3 ⊢
  clear hw3 v HA2 HB2 HR2 HC2
  obtain ⟨a0, a1, a2, f0, f1, f2⟩ := HA3.out
  obtain ⟨b0, b1, b2, g0, g1, g2⟩ := HB3.out
  obtain ⟨V, hV, HA4, HB4, HR4, HC4⟩ := two_set HA3.out HB3.out HR3.out HC3.out (by omega) (by omega) (by omega) (by omega) (by omega) (.bool (negB q)) (.string (bs (nm q))) (.string (dstr q)) (.bool (negB q')) (.string (bs (nm q'))) (.string (dstr q'))
  have HV := hide hV
  clear hV
  go_wp2_with fail
  rw [HV.out]
  clear a0 a1 a2 f0 f1 f2 b0 b1 b2 g0 g1 g2 HA3 HB3 HR3 HC3 HV
  obtain ⟨k0, k1, k2⟩ := HA4.out.kin
  obtain ⟨l0, l1, l2⟩ := HB4.out.kin
  refine Qtl.region (I := Below V.heap.size V) 16 (Qin.start _ _) (by kernel_rfl) (by kernel_rfl) ?_
  simp only [List.take_succ_cons, List.take_zero, List.drop_succ_cons, List.drop_zero]
  repeat (go_big_quiet_step ((first | (go_at_call 74; with_reducible exact HDEN.out _ _ _) | (go_at_call 73; with_reducible exact HMUL.out _ _ _ _ (by omega) (by omega)) | (go_at_call 69; with_reducible exact HRED.out _ _))))
  refine wpQuiet_nil ?_
  intro v
  clear k0 k1 k2 l0 l1 l2
  have HR5 := hide (HR4.out.keep v.ok HR4.out.lt)
  have HC5 := hide (HC4.out.trans (v.ok.mono HC4.out.size))
  obtain ⟨d0, d1, d2, g0, g1, g2⟩ := HR5.out
  go_wp2_with fail
  refine bodyPost_ret (results_rat rfl _ rfl (HR5.out.set3 _ _ _)) rfl ?_
  exact ⟨rfl, below_set3 HC5.out (by omega) _ _ _⟩
def divQ (a b : Rat) : Rat × Bool := if b = 0 then (0, false) else (a / b, true)
theorem divQ_make (a b : Rat) : makeQ (!(negB a == negB b)) (nm a * b.den) (a.den * nm b) = divQ a b := by
  unfold makeQ divQ
  by_cases h : b = 0
  · rw [if_pos h, if_pos (by rw [nm_zero.2 h, Nat.mul_zero])]
  · rw [if_neg h, if_neg (Nat.mul_ne_zero a.den_nz (fun e => h (nm_zero.1 e)))]
    have e := div_eq a b h
    exact congrArg (fun x => (x, true)) e
theorem makeq_in (s : Bool) (x y : Nat) (p : Rat × Bool) (hp : makeQ s x y = p) (W : World) (v : Qin.In (Below W.heap.size W)) (hx : (bs x).size ≤ 100000000000) (hy : (bs y).size ≤ 100000000000) : Calls Tryz.prog 173 #[.bool s, .string (bs x), .string (bs y)] v.val fun e w' => e = .returned (.tuple #[.agg #[.bool (negB p.1), .string (bs (nm p.1)), .string (dstr p.1)], .bool p.2]) ∧ ∃ y : Qin.In (Below W.heap.size W), w' = y.val := by
  have h := make_any s (bs x) (bs y) v.val hx hy
  rw [nv_bs, nv_bs, hp] at h
  exact Qin.call (h.mono fun _ _ ⟨h1, h2⟩ => ⟨h1, v.ok.trans (h2.mono v.ok.size)⟩)
set_option maxHeartbeats 4000000000000 in
set_option maxRecDepth 100000000000 in
theorem pdiv_any (n : Bool) (a d : ByteArray) (n' : Bool) (a' d' : ByteArray) (w : World) (k : Nat) (ha : a.size ≤ k) (hd : d.size ≤ k) (ha' : a'.size ≤ k) (hd' : d'.size ≤ k) (hk : 1 ≤ k) (hk2 : k ≤ 40000000000) :
    Calls Tryz.prog 140 #[.agg #[.bool n, .string a, .string d], .agg #[.bool n', .string a', .string d']] w (RBPost (divQ (fixQ n a.data.toList d.data.toList) (fixQ n' a'.data.toList d'.data.toList)) w) := by
  have hl := lt_raw (n := n) ha hd hk
  have hl' := lt_raw (n := n') ha' hd' hk
  have HC := Lib.hid (fun W v => clean_in n a d _ rfl W v (by omega) (by omega))
  have HC' := Lib.hid (fun W v => clean_in n' a' d' _ rfl W v (by omega) (by omega))
  generalize fixQ n a.data.toList d.data.toList = q at *
  generalize fixQ n' a'.data.toList d'.data.toList = q' at *
  have s1 := hl.num
  have s2 := hl.den
  have s3 := hl'.num
  have s4 := hl'.den
  have s5 := lt_bs.1 (mul_lt hl.1 hl'.2)
  have s6 := lt_bs.1 (mul_lt hl.2 hl'.1)
  have HDEN := Lib.hid (fun q W x => den_in q W x)
  have HMUL := Lib.hid (fun x y W v hx hy => mulq_in x y W v hx hy)
  have HRED := Lib.hid (fun W v => makeq_in (!(negB q == negB q')) _ _ (divQ q q') (divQ_make q q') W v (by omega) (by omega))
  unfold RBPost
  rw [enc_open]
  generalize divQ q q' = r at *
  clear hl hl' s5 s6
  obtain ⟨W0, W1, W2, hW0, hW1, hW2, hs0, hs1, HA2, HB2, HR2, HC2, hsz⟩ := start3 w (.bool n) (.string a) (.string d) (.bool n') (.string a') (.string d')
  go_enter Tryz.func140, Tryz.ntmps140
  go_wp2_with fail
  obtain ⟨k0, k1, k2⟩ := HA2.out.kin
  obtain ⟨l0, l1, l2⟩ := HB2.out.kin
  refine Qtl.region (I := Below W2.heap.size W2) 4 (Qin.start _ _) (by kernel_rfl) (by kernel_rfl) ?_
  simp only [List.take_succ_cons, List.take_zero, List.drop_succ_cons, List.drop_zero]
  repeat (go_big_quiet_step ((first | (go_at_call 42; first | (with_reducible exact HC.out _ _) | (with_reducible exact HC'.out _ _)))))
  refine wpQuiet_nil ?_
  intro v
  clear k0 k1 k2 l0 l1 l2 hW0 hW1 hW2
  have HA3 := hide (HA2.out.keep v.ok HA2.out.lt)
  have HB3 := hide (HB2.out.keep v.ok HB2.out.lt)
  have HR3 := hide (HR2.out.keep v.ok HR2.out.lt)
  have HC3 := hide (HC2.out.trans (v.ok.mono HC2.out.size))
  obtain ⟨w3, hw3⟩ : ∃ w3, v.val = w3 := ⟨_, rfl⟩
  rw [hw3] at HA3 HB3 HR3 HC3 ⊢
  clear hw3 v HA2 HB2 HR2 HC2
  obtain ⟨a0, a1, a2, f0, f1, f2⟩ := HA3.out
  obtain ⟨b0, b1, b2, g0, g1, g2⟩ := HB3.out
  obtain ⟨V, hV, HA4, HB4, HR4, HC4⟩ := two_set HA3.out HB3.out HR3.out HC3.out (by omega) (by omega) (by omega) (by omega) (by omega) (.bool (negB q)) (.string (bs (nm q))) (.string (dstr q)) (.bool (negB q')) (.string (bs (nm q'))) (.string (dstr q'))
  have HV := hide hV
  clear hV
  go_wp2_with fail
  rw [HV.out]
  clear a0 a1 a2 f0 f1 f2 b0 b1 b2 g0 g1 g2 HA3 HB3 HR3 HC3 HV
  obtain ⟨k0, k1, k2⟩ := HA4.out.kin
  obtain ⟨l0, l1, l2⟩ := HB4.out.kin
  refine Qtl.region (I := Below V.heap.size V) 18 (Qin.start _ _) (by kernel_rfl) (by kernel_rfl) ?_
  simp only [List.take_succ_cons, List.take_zero, List.drop_succ_cons, List.drop_zero]
  repeat (go_big_quiet_step ((first | (go_at_call 74; with_reducible exact HDEN.out _ _ _) | (go_at_call 73; with_reducible exact HMUL.out _ _ _ _ (by omega) (by omega)) | (go_at_call 173; with_reducible exact HRED.out _ _))))
  refine wpQuiet_nil ?_
  intro v
  clear k0 k1 k2 l0 l1 l2
  have HR5 := hide (HR4.out.keep v.ok HR4.out.lt)
  have HC5 := hide (HC4.out.trans (v.ok.mono HC4.out.size))
  obtain ⟨d0, d1, d2, g0, g1, g2⟩ := HR5.out
  go_wp2_with fail
  refine bodyPost_ret (results_rat2 rfl _ rfl (HR5.out.set3 _ _ _)) rfl ?_
  exact ⟨rfl, below_set3 HC5.out (by omega) _ _ _⟩
end Go.Proofs.YtpbgmpjnfndfjaaGreatDoor.RpK
namespace Go.Proofs.YtpbgmpjnfndfjaaGreatDoor.RpL
theorem here : True := trivial
open Go.RowKit RnA RnB RnS RnC RnK RnM RnL RnN RnD RnE RnQ RnR RnG RnP RnW RnX RoA RoB RoC RoD RoE RoF RoG RoH RoI RoJ RoK RoL RoM RoN PnA PnB PnC PnD PnE PnF PnG PnH PnI PnJ PnK PnL RtA RtB RtC RpA RpB RpC RpD RpE RpF RpG RpH RnY RpI RpJ RpK
theorem startb (w : World) (x y z x' y' z' : Value) : ∃ W0 W1, w.alloc (.cells #[x, y, z] 32) = W0 ∧ W0.alloc (.cells #[x', y', z'] 32) = W1 ∧
    W0.heap.size = w.heap.size + 1 ∧ Hid (Bx W1 w.heap.size x y z) ∧ Hid (Bx W1 (w.heap.size + 1) x' y' z') ∧ Hid (Below w.heap.size w W1) ∧ w.heap.size + 1 < W1.heap.size := by
  have hB0 := (Below.refl w.heap.size w).alloc (Nat.le_refl _) (.cells #[x, y, z] 32)
  have hX0 := Bx.new w x y z 32
  have hs : (w.alloc (.cells #[x, y, z] 32)).heap.size = w.heap.size + 1 := by simp
  generalize w.alloc (.cells #[x, y, z] 32) = W0 at *
  obtain ⟨W1, h1, HY, hb, hl⟩ := box_new W0 x' y' z'
  rw [hs] at HY
  exact ⟨W0, W1, rfl, h1, hs, hX0.keep hb (by omega), HY, hB0.trans (hb.mono (by omega)), by omega⟩
theorem two_setb {w W : World} {B k j : Nat} {x0 y0 z0 x1 y1 z1 : Value} (hA : Bx W k x0 y0 z0) (hB : Bx W j x1 y1 z1) (hb : Below B w W) (hkj : k ≠ j) (hk : B ≤ k) (hj : B ≤ j) (x y z x' y' z' : Value) :
    ∃ V, ((((((W.setCell ⟨k, 0, none⟩ x).setCell ⟨k, 1, none⟩ y).setCell ⟨k, 2, none⟩ z).setCell ⟨j, 0, none⟩ x').setCell ⟨j, 1, none⟩ y').setCell ⟨j, 2, none⟩ z') = V ∧
      Hid (Bx V k x y z) ∧ Hid (Bx V j x' y' z') ∧ Hid (Below B w V) :=
  ⟨_, rfl, (hA.set3 x y z).other3 hkj x' y' z', (hB.other3 (Ne.symm hkj) x y z).set3 x' y' z', below_set3 (below_set3 hb hk x y z) hj x' y' z'⟩
theorem signof_in (q : Rat) (W : World) (v : Qin.In (Below W.heap.size W)) : Calls Tryz.prog 95 #[.agg #[.bool (negB q), .string (bs (nm q)), .string (dstr q)]] v.val fun e w' => e = .returned (.int .i64 (sgnQ q)) ∧ ∃ y : Qin.In (Below W.heap.size W), w' = y.val :=
  Qin.call ((signof_any q v.val).mono fun _ _ ⟨h1, h2⟩ => ⟨h1, v.ok.trans (h2.mono v.ok.size)⟩)
theorem compareq_in (x y : Nat) (W : World) (v : Qin.In (Below W.heap.size W)) (hx : (bs x).size ≤ 100000000000) (hy : (bs y).size ≤ 100000000000) : Calls Tryz.prog 96 #[.string (bs x), .string (bs y)] v.val fun e w' => e = .returned (.int .i64 (cmpN x y)) ∧ ∃ y : Qin.In (Below W.heap.size W), w' = y.val := by
  have h := compare_any (bs x) (bs y) v.val (by omega) (by omega)
  rw [nv_bs, nv_bs] at h
  exact Qin.call (h.mono fun _ _ ⟨h1, h2⟩ => ⟨h1, v.ok.trans (h2.mono v.ok.size)⟩)
theorem cmpN_bd (x y : Nat) : -1 ≤ cmpN x y ∧ cmpN x y ≤ 1 := by unfold cmpN; split <;> (try split) <;> omega
theorem sgnQ_bd (q : Rat) : -1 ≤ sgnQ q ∧ sgnQ q ≤ 1 := by rw [sgnQ_eq]; split <;> (try split) <;> omega
theorem cmp_neg {a b : Rat} (h : sgnQ a = sgnQ b) (hn : negB a = true) : cmpQ a b = -cmpN (nm a * b.den) (nm b * a.den) := by
  rw [cmpQ_same a b h, if_pos hn]; unfold cmpN; omega
theorem cmp_pos {a b : Rat} (h : sgnQ a = sgnQ b) (hn : negB a = false) : cmpQ a b = cmpN (nm a * b.den) (nm b * a.den) := by
  rw [cmpQ_same a b h, if_neg (by rw [hn]; exact Bool.false_ne_true)]; unfold cmpN; omega
set_option maxHeartbeats 4000000000000 in
set_option maxRecDepth 100000000000 in
theorem pcmp_any (n : Bool) (a d : ByteArray) (n' : Bool) (a' d' : ByteArray) (w : World) (k : Nat) (ha : a.size ≤ k) (hd : d.size ≤ k) (ha' : a'.size ≤ k) (hd' : d'.size ≤ k) (hk : 1 ≤ k) (hk2 : k ≤ 40000000000) :
    Calls Tryz.prog 49 #[.agg #[.bool n, .string a, .string d], .agg #[.bool n', .string a', .string d']] w fun e w' => e = .returned (.int .i64 (cmpQ (fixQ n a.data.toList d.data.toList) (fixQ n' a'.data.toList d'.data.toList))) ∧ Below w.heap.size w w' := by
  have hl := lt_raw (n := n) ha hd hk
  have hl' := lt_raw (n := n') ha' hd' hk
  have HC := Lib.hid (fun W v => clean_in n a d _ rfl W v (by omega) (by omega))
  have HC' := Lib.hid (fun W v => clean_in n' a' d' _ rfl W v (by omega) (by omega))
  generalize fixQ n a.data.toList d.data.toList = q at *
  generalize fixQ n' a'.data.toList d'.data.toList = q' at *
  have s1 := hl.num
  have s2 := hl.den
  have s3 := hl'.num
  have s4 := hl'.den
  have s5 := lt_bs.1 (mul_lt hl.1 hl'.2)
  have s6 := lt_bs.1 (mul_lt hl'.1 hl.2)
  have HDEN := Lib.hid (fun q W x => den_in q W x)
  have HMUL := Lib.hid (fun x y W v hx hy => mulq_in x y W v hx hy)
  have HSGN := Lib.hid (fun q W v => signof_in q W v)
  have HCMP := Lib.hid (fun W v => compareq_in (nm q * q'.den) (nm q' * q.den) W v (by omega) (by omega))
  have hlt : Hid (sgnQ q < sgnQ q' → cmpQ q q' = -1) := sgnQ_cmp q q'
  have hgt : Hid (sgnQ q' < sgnQ q → cmpQ q q' = 1) := sgnQ_cmp' q q'
  have hcn : Hid (sgnQ q = sgnQ q' → negB q = true → cmpQ q q' = -cmpN (nm q * q'.den) (nm q' * q.den)) := cmp_neg
  have hcp : Hid (sgnQ q = sgnQ q' → negB q = false → cmpQ q q' = cmpN (nm q * q'.den) (nm q' * q.den)) := cmp_pos
  have hb1 := sgnQ_bd q
  have hb2 := sgnQ_bd q'
  have hb3 := cmpN_bd (nm q * q'.den) (nm q' * q.den)
  generalize cmpQ q q' = R at *
  clear hl hl' s5 s6
  obtain ⟨W0, W2, hW0, hW2, hs0, HA2, HB2, HC2, hsz⟩ := startb w (.bool n) (.string a) (.string d) (.bool n') (.string a') (.string d')
  go_enter Tryz.func49, Tryz.ntmps49
  go_wp2_with fail
  obtain ⟨k0, k1, k2⟩ := HA2.out.kin
  obtain ⟨l0, l1, l2⟩ := HB2.out.kin
  refine Qtl.region (I := Below W2.heap.size W2) 4 (Qin.start _ _) (by kernel_rfl) (by kernel_rfl) ?_
  simp only [List.take_succ_cons, List.take_zero, List.drop_succ_cons, List.drop_zero]
  repeat (go_big_quiet_step ((first | (go_at_call 42; first | (with_reducible exact HC.out _ _) | (with_reducible exact HC'.out _ _)))))
  refine wpQuiet_nil ?_
  intro v
  clear k0 k1 k2 l0 l1 l2 hW0 hW2
  have HA3 := hide (HA2.out.keep v.ok HA2.out.lt)
  have HB3 := hide (HB2.out.keep v.ok HB2.out.lt)
  have HC3 := hide (HC2.out.trans (v.ok.mono HC2.out.size))
  obtain ⟨w3, hw3⟩ : ∃ w3, v.val = w3 := ⟨_, rfl⟩
  rw [hw3] at HA3 HB3 HC3 ⊢
  clear hw3 v HA2 HB2 HC2
  obtain ⟨a0, a1, a2, f0, f1, f2⟩ := HA3.out
  obtain ⟨b0, b1, b2, g0, g1, g2⟩ := HB3.out
  obtain ⟨V, hV, HA4, HB4, HC4⟩ := two_setb HA3.out HB3.out HC3.out (by omega) (by omega) (by omega) (.bool (negB q)) (.string (bs (nm q))) (.string (dstr q)) (.bool (negB q')) (.string (bs (nm q'))) (.string (dstr q'))
  have HV := hide hV
  clear hV
  go_wp2_with fail
  rw [HV.out]
  clear a0 a1 a2 f0 f1 f2 b0 b1 b2 g0 g1 g2 HA3 HB3 HC3 HV
  obtain ⟨k0, k1, k2⟩ := HA4.out.kin
  obtain ⟨l0, l1, l2⟩ := HB4.out.kin
  refine Qin.region (I := Below V.heap.size V) (Qin.start _ V) (by kernel_rfl) (by kernel_rfl) ?_
  repeat (go_big_quiet_step ((go_at_call 95; with_reducible exact HSGN.out _ _ _)))
  refine wpQuiet_nil ?_
  intro v
  have HA5 := hide (HA4.out.keep v.ok HA4.out.lt)
  have HB5 := hide (HB4.out.keep v.ok HB4.out.lt)
  have HC5 := hide (HC4.out.trans (v.ok.mono HC4.out.size))
  obtain ⟨w5, hw5⟩ : ∃ w5, v.val = w5 := ⟨_, rfl⟩
  rw [hw5] at HA5 HB5 HC5 ⊢
  clear hw5 v k0 k1 k2 l0 l1 l2 HA4 HB4 HC4
  generalize sgnQ q = s at *
  generalize sgnQ q' = t at *
  rcases (by omega : s < t ∨ t < s ∨ s = t) with h | h | h
  · have hr := hide (hlt.out h)
    go_wp2_with fail
    go_ret
    exact ⟨by rw [hr.out]; rfl, HC5.out⟩
  · have hr := hide (hgt.out h)
    go_wp2_with fail
    go_ret
    exact ⟨by rw [hr.out]; rfl, HC5.out⟩
  · subst h
    clear hlt hgt
    go_wp2_with fail
    obtain ⟨k0, k1, k2⟩ := HA5.out.kin
    obtain ⟨l0, l1, l2⟩ := HB5.out.kin
    refine Qin.region (I := Below w5.heap.size w5) (Qin.start _ w5) (by kernel_rfl) (by kernel_rfl) ?_
    repeat (go_big_quiet_step ((first | (go_at_call 74; with_reducible exact HDEN.out _ _ _) | (go_at_call 73; with_reducible exact HMUL.out _ _ _ _ (by omega) (by omega)) | (go_at_call 96; with_reducible exact HCMP.out _ _))))
    refine wpQuiet_nil ?_
    intro v
    clear k0 k1 k2 l0 l1 l2
    have HA6 := hide (HA5.out.keep v.ok HA5.out.lt)
    have HC6 := hide (HC5.out.trans (v.ok.mono HC5.out.size))
    generalize cmpN (nm q * q'.den) (nm q' * q.den) = c at *
    obtain ⟨a0, _⟩ := HA6.out
    cases hn : negB q
    · have hr := hide (hcp.out trivial hn)
      rw [hn] at a0
      go_wp2_with fail
      go_ret
      exact ⟨by rw [hr.out]; rfl, HC6.out⟩
    · have hr := hide (hcn.out trivial hn)
      rw [hn] at a0
      go_wp2_with fail
      go_ret
      exact ⟨by rw [hr.out]; rfl, HC6.out⟩
def minQ (a b : Rat) : Rat := if cmpQ a b ≤ 0 then a else b
def maxQ (a b : Rat) : Rat := if 0 ≤ cmpQ a b then a else b
set_option maxHeartbeats 4000000000000 in
set_option maxRecDepth 100000000000 in
theorem pmin_any (n : Bool) (a d : ByteArray) (n' : Bool) (a' d' : ByteArray) (w : World) (k : Nat) (ha : a.size ≤ k) (hd : d.size ≤ k) (ha' : a'.size ≤ k) (hd' : d'.size ≤ k) (hk : 1 ≤ k) (hk2 : k ≤ 40000000000) :
    Calls Tryz.prog 19 #[.agg #[.bool n, .string a, .string d], .agg #[.bool n', .string a', .string d']] w (RPost (minQ (fixQ n a.data.toList d.data.toList) (fixQ n' a'.data.toList d'.data.toList)) w) := by
  have HP := Lib.hid (fun w => pcmp_any n a d n' a' d' w k ha hd ha' hd' hk hk2)
  have HC := Lib.hid (fun w => clean_any n a d w (by omega) (by omega))
  have HC' := Lib.hid (fun w => clean_any n' a' d' w (by omega) (by omega))
  generalize fixQ n a.data.toList d.data.toList = q at *
  generalize fixQ n' a'.data.toList d'.data.toList = q' at *
  rw [enc_open] at HC HC'
  unfold RPost
  obtain ⟨W0, W1, W2, hW0, hW1, hW2, hs0, hs1, HA2, HB2, HR2, HC2, hsz⟩ := start3 w (.bool n) (.string a) (.string d) (.bool n') (.string a') (.string d')
  obtain ⟨a0, a1, a2, _⟩ := HA2.out
  obtain ⟨b0, b1, b2, _⟩ := HB2.out
  have hr1 : Hid (cmpQ q q' ≤ 0 → minQ q q' = q) := fun h => if_pos h
  have hr2 : Hid (¬ (cmpQ q q' ≤ 0) → minQ q q' = q') := fun h => if_neg h
  generalize minQ q q' = r at *
  rw [enc_open]
  generalize cmpQ q q' = c at *
  go_enter Tryz.func19, Tryz.ntmps19
  go_wp2_with fail
  refine (HP.out _).mono ?_
  rintro e w3 ⟨rfl, hb3⟩
  have HA3 := hide (HA2.out.keep hb3 HA2.out.lt)
  have HB3 := hide (HB2.out.keep hb3 HB2.out.lt)
  have HR3 := hide (HR2.out.keep hb3 HR2.out.lt)
  have HC3 := hide (HC2.out.trans (hb3.mono HC2.out.size))
  clear hb3 a0 a1 a2 b0 b1 b2 hW0 hW1 hW2
  by_cases hc : c ≤ 0
  · obtain rfl := hr1.out (by omega)
    clear hr1 hr2
    obtain ⟨a0, a1, a2, _⟩ := HA3.out
    go_wp2_with fail
    refine (HC.out _).mono ?_
    rintro e w4 ⟨rfl, hb4⟩
    have HR4 := hide (HR3.out.keep hb4 HR3.out.lt)
    have HC4 := hide (HC3.out.trans (hb4.mono HC3.out.size))
    obtain ⟨d0, d1, d2, g0, g1, g2⟩ := HR4.out
    go_wp2_with fail
    refine bodyPost_ret (results_rat rfl _ rfl (HR4.out.set3 _ _ _)) rfl ?_
    exact ⟨rfl, below_set3 HC4.out (by omega) _ _ _⟩
  · obtain rfl := hr2.out (by omega)
    clear hr1 hr2
    obtain ⟨b0, b1, b2, _⟩ := HB3.out
    go_wp2_with fail
    refine (HC'.out _).mono ?_
    rintro e w4 ⟨rfl, hb4⟩
    have HR4 := hide (HR3.out.keep hb4 HR3.out.lt)
    have HC4 := hide (HC3.out.trans (hb4.mono HC3.out.size))
    obtain ⟨d0, d1, d2, g0, g1, g2⟩ := HR4.out
    go_wp2_with fail
    refine bodyPost_ret (results_rat rfl _ rfl (HR4.out.set3 _ _ _)) rfl ?_
    exact ⟨rfl, below_set3 HC4.out (by omega) _ _ _⟩
set_option maxHeartbeats 4000000000000 in
set_option maxRecDepth 100000000000 in
theorem pmax_any (n : Bool) (a d : ByteArray) (n' : Bool) (a' d' : ByteArray) (w : World) (k : Nat) (ha : a.size ≤ k) (hd : d.size ≤ k) (ha' : a'.size ≤ k) (hd' : d'.size ≤ k) (hk : 1 ≤ k) (hk2 : k ≤ 40000000000) :
    Calls Tryz.prog 66 #[.agg #[.bool n, .string a, .string d], .agg #[.bool n', .string a', .string d']] w (RPost (maxQ (fixQ n a.data.toList d.data.toList) (fixQ n' a'.data.toList d'.data.toList)) w) := by
  have HP := Lib.hid (fun w => pcmp_any n a d n' a' d' w k ha hd ha' hd' hk hk2)
  have HC := Lib.hid (fun w => clean_any n a d w (by omega) (by omega))
  have HC' := Lib.hid (fun w => clean_any n' a' d' w (by omega) (by omega))
  generalize fixQ n a.data.toList d.data.toList = q at *
  generalize fixQ n' a'.data.toList d'.data.toList = q' at *
  rw [enc_open] at HC HC'
  unfold RPost
  obtain ⟨W0, W1, W2, hW0, hW1, hW2, hs0, hs1, HA2, HB2, HR2, HC2, hsz⟩ := start3 w (.bool n) (.string a) (.string d) (.bool n') (.string a') (.string d')
  obtain ⟨a0, a1, a2, _⟩ := HA2.out
  obtain ⟨b0, b1, b2, _⟩ := HB2.out
  have hr1 : Hid (0 ≤ cmpQ q q' → maxQ q q' = q) := fun h => if_pos h
  have hr2 : Hid (¬ (0 ≤ cmpQ q q') → maxQ q q' = q') := fun h => if_neg h
  generalize maxQ q q' = r at *
  rw [enc_open]
  generalize cmpQ q q' = c at *
  go_enter Tryz.func66, Tryz.ntmps66
  go_wp2_with fail
  refine (HP.out _).mono ?_
  rintro e w3 ⟨rfl, hb3⟩
  have HA3 := hide (HA2.out.keep hb3 HA2.out.lt)
  have HB3 := hide (HB2.out.keep hb3 HB2.out.lt)
  have HR3 := hide (HR2.out.keep hb3 HR2.out.lt)
  have HC3 := hide (HC2.out.trans (hb3.mono HC2.out.size))
  clear hb3 a0 a1 a2 b0 b1 b2 hW0 hW1 hW2
  by_cases hc : 0 ≤ c
  · obtain rfl := hr1.out (by omega)
    clear hr1 hr2
    obtain ⟨a0, a1, a2, _⟩ := HA3.out
    go_wp2_with fail
    refine (HC.out _).mono ?_
    rintro e w4 ⟨rfl, hb4⟩
    have HR4 := hide (HR3.out.keep hb4 HR3.out.lt)
    have HC4 := hide (HC3.out.trans (hb4.mono HC3.out.size))
    obtain ⟨d0, d1, d2, g0, g1, g2⟩ := HR4.out
    go_wp2_with fail
    refine bodyPost_ret (results_rat rfl _ rfl (HR4.out.set3 _ _ _)) rfl ?_
    exact ⟨rfl, below_set3 HC4.out (by omega) _ _ _⟩
  · obtain rfl := hr2.out (by omega)
    clear hr1 hr2
    obtain ⟨b0, b1, b2, _⟩ := HB3.out
    go_wp2_with fail
    refine (HC'.out _).mono ?_
    rintro e w4 ⟨rfl, hb4⟩
    have HR4 := hide (HR3.out.keep hb4 HR3.out.lt)
    have HC4 := hide (HC3.out.trans (hb4.mono HC3.out.size))
    obtain ⟨d0, d1, d2, g0, g1, g2⟩ := HR4.out
    go_wp2_with fail
    refine bodyPost_ret (results_rat rfl _ rfl (HR4.out.set3 _ _ _)) rfl ?_
    exact ⟨rfl, below_set3 HC4.out (by omega) _ _ _⟩
theorem i64_frac {q : Rat} (h : q.den ≠ 1) : int64Q q = (0, false) := by unfold int64Q; rw [if_neg (fun e => h e.1)]
theorem num_pos {q : Rat} (h : negB q = false) : q.num = (nm q : Int) := by have := sg_num q; rw [h] at this; unfold sg at this; exact this.symm
theorem num_neg {q : Rat} (h : negB q = true) : q.num = -(nm q : Int) := by have := sg_num q; rw [h] at this; unfold sg at this; exact this.symm
theorem i64_neg {q : Rat} (h1 : q.den = 1) (h : negB q = true) : int64Q q = if nm q ≤ 9223372036854775808 then (-(nm q : Int), true) else (0, false) := by
  unfold int64Q
  rw [num_neg h]
  by_cases h2 : nm q ≤ 9223372036854775808
  · rw [if_pos ⟨h1, by unfold In64; omega⟩, if_pos h2]
  · rw [if_neg (by unfold In64; omega), if_neg h2]
theorem i64_pos {q : Rat} (h1 : q.den = 1) (h : negB q = false) : int64Q q = if nm q ≤ 9223372036854775807 then ((nm q : Int), true) else (0, false) := by
  unfold int64Q
  rw [num_pos h]
  by_cases h2 : nm q ≤ 9223372036854775807
  · rw [if_pos ⟨h1, by unfold In64; omega⟩, if_pos h2]
  · rw [if_neg (by unfold In64; omega), if_neg h2]
def IPost (p : Int × Bool) (w : World) (e : Ending) (w' : World) : Prop := e = .returned (.tuple #[.int .i64 p.1, .bool p.2]) ∧ Below w.heap.size w w'
end Go.Proofs.YtpbgmpjnfndfjaaGreatDoor.RpL
