/- RnY, RpI, RpJ, RpK, RpL, in one text. -/
import Derived.Test.YtghbhchkdomfhaaGreatDoorRQ
import Derived.Test.YtghbhchkdomfhaaGreatDoorQtl
namespace Go.Proofs.YtghbhchkdomfhaaGreatDoor.RnY
theorem here : True := trivial
open RnA RnB RnQ RnR RnG RnW RoL RtA RpA RpB RpC RpE RpH
/-- numerator and denominator take at most k bytes -/
def Lt (q : Rat) (k : Nat) : Prop := nm q < 256 ^ k ∧ q.den < 256 ^ k
theorem lt_bs {n k : Nat} : n < 256 ^ k ↔ (bs n).size ≤ k := by
  rw [bs_size]
  constructor
  · exact bytesOf_len_le
  · intro h
    have h1 := bval_lt (bytesOf n)
    rw [bval_bytesOf] at h1
    exact Nat.lt_of_lt_of_le h1 (Nat.pow_le_pow_right (by omega) h)
theorem pow_mono {i j : Nat} (h : i ≤ j) : 256 ^ i ≤ 256 ^ j := Nat.pow_le_pow_right (by omega) h
theorem Lt.mono {q : Rat} {i j : Nat} (h : Lt q i) (hij : i ≤ j) : Lt q j :=
  ⟨Nat.lt_of_lt_of_le h.1 (pow_mono hij), Nat.lt_of_lt_of_le h.2 (pow_mono hij)⟩
theorem Lt.num {q : Rat} {k : Nat} (h : Lt q k) : (bs (nm q)).size ≤ k := lt_bs.1 h.1
theorem Lt.den {q : Rat} {k : Nat} (h : Lt q k) : (bs q.den).size ≤ k := lt_bs.1 h.2
theorem Lt.dstr {q : Rat} {k : Nat} (h : Lt q k) : (dstr q).size ≤ k := by
  by_cases h1 : q.den = 1
  · rw [dstr_one h1]; exact Nat.zero_le _
  · rw [dstr_big h1]; exact h.den
theorem mk_lt {s : Bool} {n d k : Nat} (hd : d ≠ 0) (h1 : n < 256 ^ k) (h2 : d < 256 ^ k) : Lt (mk s n d) k := by
  unfold Lt
  rw [nm_mk s n d hd, den_mk s n d hd]
  exact ⟨Nat.lt_of_le_of_lt (Nat.div_le_self _ _) h1, Nat.lt_of_le_of_lt (Nat.div_le_self _ _) h2⟩
theorem mul_lt {x y i j : Nat} (h1 : x < 256 ^ i) (h2 : y < 256 ^ j) : x * y < 256 ^ (i + j) := by
  rw [Nat.pow_add]
  exact Nat.mul_lt_mul'' h1 h2
theorem add_lt {x y k : Nat} (h1 : x < 256 ^ k) (h2 : y < 256 ^ k) : x + y < 256 ^ (k + 1) := by
  rw [Nat.pow_succ]; omega
/-- a sum over the product of the denominators -/
theorem add_form (a b : Rat) : ∃ s n, n ≤ nm a * b.den + nm b * a.den ∧ a + b = mk s n (a.den * b.den) := by
  have hd : a.den * b.den ≠ 0 := Nat.mul_ne_zero a.den_nz b.den_nz
  obtain ⟨h1, h2⟩ := over_prod a b
  by_cases hs : negB a = negB b
  · refine ⟨negB a, nm a * b.den + nm b * a.den, Nat.le_refl _, ?_⟩
    rw [← mk_add_eq _ _ _ _ hd, h1, hs, h2]
  · rcases Nat.lt_or_ge (nm a * b.den) (nm b * a.den) with h | h
    · refine ⟨negB b, nm b * a.den - nm a * b.den, by omega, ?_⟩
      rw [← mk_add_lt hs _ _ _ hd h, h1, h2]
    · refine ⟨negB a, nm a * b.den - nm b * a.den, by omega, ?_⟩
      rw [← mk_add_ge hs _ _ _ hd h, h1, h2]
theorem Lt.add {a b : Rat} {i j : Nat} (ha : Lt a i) (hb : Lt b j) : Lt (a + b) (i + j + 1) := by
  obtain ⟨s, n, hn, e⟩ := add_form a b
  rw [e]
  have h1 := mul_lt ha.1 hb.2
  have h2 := mul_lt hb.1 ha.2
  rw [Nat.add_comm j i] at h2
  have h3 := add_lt h1 h2
  have h4 := Nat.lt_of_lt_of_le (mul_lt ha.2 hb.2) (pow_mono (Nat.le_succ (i + j)))
  exact mk_lt (Nat.mul_ne_zero a.den_nz b.den_nz) (Nat.lt_of_le_of_lt hn h3) h4
theorem Lt.mul {a b : Rat} {i j : Nat} (ha : Lt a i) (hb : Lt b j) : Lt (a * b) (i + j) := by
  rw [← mul_eq]
  exact mk_lt (Nat.mul_ne_zero a.den_nz b.den_nz) (mul_lt ha.1 hb.1) (mul_lt ha.2 hb.2)
theorem nm_neg_eq (q : Rat) : nm (-q) = nm q := by unfold nm; rw [Rat.neg_num, Int.natAbs_neg]
theorem den_neg_eq (q : Rat) : (-q).den = q.den := Rat.neg_den q
theorem negB_neg (q : Rat) : negB (-q) = (!negB q && decide (nm q ≠ 0)) := by
  unfold negB nm
  rw [Rat.neg_num]
  generalize q.num = m
  by_cases h1 : m < 0
  · rw [decide_eq_false (by omega : ¬ -m < 0), decide_eq_true h1]; rfl
  · by_cases h2 : m = 0
    · subst h2; rfl
    · rw [decide_eq_true (by omega : -m < 0), decide_eq_false h1, decide_eq_true (by omega : m.natAbs ≠ 0)]; rfl
theorem dstr_neg (q : Rat) : dstr (-q) = dstr q := by unfold dstr encD; rw [den_neg_eq]
theorem Lt.neg {q : Rat} {k : Nat} (h : Lt q k) : Lt (-q) k := by unfold Lt; rw [nm_neg_eq, den_neg_eq]; exact h
theorem Lt.div {a b : Rat} {i j : Nat} (ha : Lt a i) (hb : Lt b j) (h0 : b ≠ 0) : Lt (a / b) (i + j) := by
  rw [← div_eq a b h0]
  exact mk_lt (Nat.mul_ne_zero a.den_nz (fun e => h0 (nm_zero.1 e))) (mul_lt ha.1 hb.2) (mul_lt ha.2 hb.1)
theorem Lt.zero : Lt 0 1 := ⟨by decide, by decide⟩
theorem lt_raw {n : Bool} {a d : ByteArray} {k : Nat} (h1 : a.size ≤ k) (h2 : d.size ≤ k) (hk : 1 ≤ k) : Lt (fixQ n a.data.toList d.data.toList) k := by
  obtain ⟨hs1, hs2⟩ := fix_size (n := n) (a := a) (d := d)
  refine ⟨lt_bs.2 (by omega), ?_⟩
  generalize fixQ n a.data.toList d.data.toList = q at *
  by_cases h : q.den = 1
  · rw [h]
    exact Nat.lt_of_lt_of_le (by decide : 1 < 256 ^ 1) (pow_mono hk)
  · rw [dstr_big h] at hs2
    exact lt_bs.2 (by omega)
theorem dstr_eq {a b : Rat} : dstr a = dstr b ↔ a.den = b.den := by
  constructor
  · intro h
    have e : encD a = encD b := congrArg (fun s : ByteArray => s.data.toList) h
    have := congrArg dval e
    rwa [dval_encD, dval_encD] at this
  · intro h
    unfold dstr encD
    rw [h]
/-- the common denominator and the numerators of a sum -/
def comD (a b : Rat) : Nat := if a.den = b.den then a.den else a.den * b.den
def comX (a b : Rat) : Nat := if a.den = b.den then nm a else nm a * b.den
def comY (a b : Rat) : Nat := if a.den = b.den then nm b else nm b * a.den
theorem com_nz (a b : Rat) : comD a b ≠ 0 := by
  unfold comD
  split
  · exact a.den_nz
  · exact Nat.mul_ne_zero a.den_nz b.den_nz
theorem com_mk (a b : Rat) : mk (negB a) (comX a b) (comD a b) = a ∧ mk (negB b) (comY a b) (comD a b) = b := by
  unfold comX comY comD
  by_cases h : a.den = b.den
  · rw [if_pos h, if_pos h, if_pos h]
    exact ⟨mk_nm a, by rw [h]; exact mk_nm b⟩
  · rw [if_neg h, if_neg h, if_neg h]
    exact over_prod a b
theorem com_same {a b : Rat} (h : negB a = negB b) : mk (negB a) (comX a b + comY a b) (comD a b) = a + b := by
  rw [← mk_add_eq _ _ _ _ (com_nz a b), (com_mk a b).1, h, (com_mk a b).2]
theorem com_ge {a b : Rat} (h : negB a ≠ negB b) (hle : comY a b ≤ comX a b) : mk (negB a) (comX a b - comY a b) (comD a b) = a + b := by
  rw [← mk_add_ge h _ _ _ (com_nz a b) hle, (com_mk a b).1, (com_mk a b).2]
theorem com_lt {a b : Rat} (h : negB a ≠ negB b) (hlt : comX a b < comY a b) : mk (negB b) (comY a b - comX a b) (comD a b) = a + b := by
  rw [← mk_add_lt h _ _ _ (com_nz a b) hlt, (com_mk a b).1, (com_mk a b).2]
theorem com_sz {a b : Rat} {i j : Nat} (ha : Lt a i) (hb : Lt b j) : (bs (comX a b)).size ≤ i + j ∧ (bs (comY a b)).size ≤ i + j ∧ (bs (comD a b)).size ≤ i + j := by
  unfold comX comY comD
  by_cases h : a.den = b.den
  · rw [if_pos h, if_pos h, if_pos h]
    have h1 := ha.num
    have h2 := hb.num
    have h3 := ha.den
    exact ⟨by omega, by omega, by omega⟩
  · rw [if_neg h, if_neg h, if_neg h]
    refine ⟨lt_bs.1 (mul_lt ha.1 hb.2), ?_, lt_bs.1 (mul_lt ha.2 hb.2)⟩
    rw [Nat.add_comm]
    exact lt_bs.1 (mul_lt hb.1 ha.2)
/-- the sign as the code reads it -/
def sgnB (n : Bool) (t : ByteArray) : Int := if t.size = 0 then 0 else if n then -1 else 1
theorem sgnB_eq (q : Rat) : sgnB (negB q) (bs (nm q)) = sgnQ q := by
  rw [sgnQ_eq]
  unfold sgnB
  by_cases h : nm q = 0
  · rw [if_pos h, h, bs0, if_pos (by rfl)]
  · have := bytes_ne_nil h
    rw [if_neg h, if_neg (by omega)]
theorem sgn_sub (a b : Rat) : sgnQ (a - b) = cmpQ a b := by
  have h := cmp_add a b (-b)
  have e : a + -b = a - b := by grind
  have e2 : b + -b = 0 := by grind
  rw [e, e2] at h
  exact h
/-- the int64 that a number is, if it is one -/
instance (n : Int) : Decidable (In64 n) := inferInstanceAs (Decidable (_ ∧ _))
def int64Q (q : Rat) : Int × Bool := if q.den = 1 ∧ In64 q.num then (q.num, true) else (0, false)
theorem intQ_eq (n : Int) : intQ n = (n : Rat) := by
  unfold intQ
  rw [mk_one]
  congr 1
  unfold sg
  split
  · rename_i h; simp at h; omega
  · rename_i h; simp at h; omega
theorem int64_int {n : Int} (h : In64 n) : int64Q (intQ n) = (n, true) := by
  rw [intQ_eq]
  unfold int64Q
  have h1 : ((n : Int) : Rat).den = 1 := by simp
  have h2 : ((n : Int) : Rat).num = n := by simp
  rw [if_pos ⟨h1, by rw [h2]; exact h⟩, h2]
theorem lt_int {n : Int} (h : In64 n) : Lt (intQ n) 8 := by
  unfold intQ
  obtain ⟨h1, h2⟩ := h
  exact mk_lt (by decide) (Nat.lt_of_lt_of_le (m := 18446744073709551616) (by omega) (by decide)) (by decide)
end Go.Proofs.YtghbhchkdomfhaaGreatDoor.RnY
namespace Go.Proofs.YtghbhchkdomfhaaGreatDoor.RpI
theorem here : True := trivial
open Go.RowKit RnA RnB RnS RnC RnK RnM RnL RnN RnD RnE RnQ RnR RnP RnW RnX RoA RoB RoC RoD RoE RoF RoG RoH RoI RoJ RoK RoL RoM RoN PnA PnB PnC PnD PnE PnF PnG PnH PnI PnJ PnK PnL RtA RtB RtC RpA RpB RpC RpD RpE RpF RpG RpH RnY
set_option maxHeartbeats 1000000 in
set_option maxRecDepth 100000 in
theorem signof_any (q : Rat) (w : World) :
    Calls Tryz.prog 52 #[.agg #[.bool (negB q), .string (bs (nm q)), .string (dstr q)]] w fun e w' => e = .returned (.int .i64 (sgnQ q)) ∧ Below w.heap.size w w' := by
  have hs := hide (sgnB_eq q)
  generalize sgnQ q = s at *
  generalize negB q = n at *
  generalize dstr q = D at *
  generalize bs (nm q) = t at *
  obtain ⟨V0, hV0, HX0, hc0, hl0⟩ := box_new w (.bool n) (.string t) (.string D)
  obtain ⟨c0, c1, c2, _⟩ := HX0.out
  by_cases h0 : 0 < t.size
  · obtain ⟨e1, e2⟩ := str_ne h0
    cases n
    · have hr : Hid (s = 1) := by show _ = _; rw [← hs.out]; unfold sgnB; rw [if_neg (by omega)]; rfl
      go_enter Tryz.func52, Tryz.ntmps52
      go_wp2_with fail
      go_ret
      exact ⟨by rw [hr.out]; rfl, hc0⟩
    · have hr : Hid (s = -1) := by show _ = _; rw [← hs.out]; unfold sgnB; rw [if_neg (by omega)]; rfl
      go_enter Tryz.func52, Tryz.ntmps52
      go_wp2_with fail
      go_ret
      exact ⟨by rw [hr.out]; rfl, hc0⟩
  · obtain ⟨e1, e2⟩ := str_em (s := t) (by omega)
    have hr : Hid (s = 0) := by show _ = _; rw [← hs.out]; unfold sgnB; rw [if_pos (by omega)]
    go_enter Tryz.func52, Tryz.ntmps52
    go_wp2_with fail
    go_ret
    exact ⟨by rw [hr.out]; rfl, hc0⟩
set_option maxHeartbeats 1000000 in
set_option maxRecDepth 100000 in
theorem sign_any (n : Bool) (a d : ByteArray) (w : World) (ha : a.size ≤ 100000) (hd : d.size ≤ 100000) :
    Calls Tryz.prog 33 #[.agg #[.bool n, .string a, .string d]] w fun e w' => e = .returned (.int .i64 (sgnQ (fixQ n a.data.toList d.data.toList))) ∧ Below w.heap.size w w' := by
  have HC := Lib.hid (fun w => clean_any n a d w ha hd)
  generalize fixQ n a.data.toList d.data.toList = q at *
  rw [enc_open] at HC
  have HS := Lib.hid (fun w => signof_any q w)
  obtain ⟨V0, hV0, HX0, hc0, hl0⟩ := box_new w (.bool n) (.string a) (.string d)
  obtain ⟨c0, c1, c2, _⟩ := HX0.out
  go_enter Tryz.func33, Tryz.ntmps33
  go_wp2_with fail
  refine (HC.out _).mono ?_
  rintro e w1 ⟨rfl, hb1⟩
  have HB1 := hc0.trans (hb1.mono hc0.size)
  go_wp2_with fail
  refine (HS.out _).mono ?_
  rintro e w2 ⟨rfl, hb2⟩
  go_wp2_with fail
  go_ret
  exact ⟨rfl, HB1.trans (hb2.mono HB1.size)⟩
theorem enc_neg (q : Rat) : enc (-q) = .agg #[.bool (!negB q && decide (nm q ≠ 0)), .string (bs (nm q)), .string (dstr q)] := by
  rw [enc_open, negB_neg, nm_neg_eq, dstr_neg]
theorem _root_.Go.Proofs.YtghbhchkdomfhaaGreatDoor.RtA.Bx.put0 {w : World} {k : Nat} {x y z : Value} (h : Bx w k x y z) (x' : Value) : Bx (w.setCell ⟨k, 0, none⟩ x') k x' y z := by
  obtain ⟨e0, e1, e2, e3, e4, e5⟩ := h
  refine ⟨?_, ?_, ?_, fr_set e3, fr_set e4, fr_set e5⟩
  · exact World.cell?_setCell_same _ _ _ e0
  · rw [World.cell?_setCell_other _ _ _ _ (by intro e; injection e with e1 e2; omega)]; assumption
  · rw [World.cell?_setCell_other _ _ _ _ (by intro e; injection e with e1 e2; omega)]; assumption
end Go.Proofs.YtghbhchkdomfhaaGreatDoor.RpI
namespace Go.Proofs.YtghbhchkdomfhaaGreatDoor.RpJ
theorem here : True := trivial
open Go.RowKit RnA RnB RnS RnC RnK RnM RnL RnN RnD RnE RnQ RnR RnP RnW RnX RoA RoB RoC RoD RoE RoF RoG RoH RoI RoJ RoK RoL RoM RoN PnA PnB PnC PnD PnE PnF PnG PnH PnI PnJ PnK PnL RtA RtB RtC RpA RpB RpC RpD RpE RpF RpG RpH RnY RpI
/-- two boxes for arguments and one for a result -/
theorem start3 (w : World) (x y z x' y' z' : Value) : ∃ W0 W1 W2, w.alloc (.cells #[x, y, z] 25) = W0 ∧ W0.alloc (.cells #[x', y', z'] 25) = W1 ∧ W1.alloc (.cells #[.bool false, .string ⟨#[]⟩, .string ⟨#[]⟩] 25) = W2 ∧
    W0.heap.size = w.heap.size + 1 ∧ W1.heap.size = w.heap.size + 2 ∧
    Hid (Bx W2 w.heap.size x y z) ∧ Hid (Bx W2 (w.heap.size + 1) x' y' z') ∧ Hid (Bx W2 (w.heap.size + 2) (.bool false) (.string ⟨#[]⟩) (.string ⟨#[]⟩)) ∧ Hid (Below w.heap.size w W2) ∧ w.heap.size + 2 < W2.heap.size := by
  have hB0 := (Below.refl w.heap.size w).alloc (Nat.le_refl _) (.cells #[x, y, z] 25)
  have hX0 := Bx.new w x y z 25
  have hs : (w.alloc (.cells #[x, y, z] 25)).heap.size = w.heap.size + 1 := by simp
  generalize w.alloc (.cells #[x, y, z] 25) = W0 at *
  obtain ⟨W1, W2, h1, h2, h3, HX, HY, HB, hl⟩ := start2 W0 x' y' z'
  rw [hs] at HX HY
  have HBo := HB.out
  exact ⟨W0, W1, W2, rfl, h1, h2, hs, by omega, hX0.keep HBo (by omega), HX, HY, hB0.trans (HBo.mono (by omega)), by omega⟩
theorem _root_.Go.Proofs.YtghbhchkdomfhaaGreatDoor.RtA.Bx.kin {W : World} {k : Nat} {x y z : Value} (h : Bx W k x y z) :
    (∀ v : Qin.In (Below W.heap.size W), v.val.cell? ⟨k, 0, none⟩ = some x) ∧ (∀ v : Qin.In (Below W.heap.size W), v.val.cell? ⟨k, 1, none⟩ = some y) ∧ (∀ v : Qin.In (Below W.heap.size W), v.val.cell? ⟨k, 2, none⟩ = some z) :=
  ⟨fun v => (h.keep v.ok h.lt).1, fun v => (h.keep v.ok h.lt).2.1, fun v => (h.keep v.ok h.lt).2.2.1⟩
instance inhab (W : World) : Nonempty (Qin.In (Below W.heap.size W)) := ⟨⟨_, Below.refl _ _⟩⟩
theorem mulq_in (x y : Nat) (W : World) (v : Qin.In (Below W.heap.size W)) (hx : (bs x).size ≤ 100000) (hy : (bs y).size ≤ 100000) : Calls Tryz.prog 137 #[.string (bs x), .string (bs y)] v.val fun e w' => e = .returned (.string (bs (x * y))) ∧ ∃ y : Qin.In (Below W.heap.size W), w' = y.val := by
  have h := mul_in (bs x) (bs y) W v hx hy
  rwa [nv_bs, nv_bs] at h
theorem addq_in (x y : Nat) (W : World) (v : Qin.In (Below W.heap.size W)) (hx : (bs x).size ≤ 100000) (hy : (bs y).size ≤ 100000) : Calls Tryz.prog 136 #[.string (bs x), .string (bs y)] v.val fun e w' => e = .returned (.string (bs (x + y))) ∧ ∃ y : Qin.In (Below W.heap.size W), w' = y.val := by
  have h := add_any (bs x) (bs y) v.val hx hy
  rw [nv_bs, nv_bs] at h
  exact Qin.call (h.mono fun _ _ ⟨h1, h2⟩ => ⟨h1, v.ok.trans (h2.mono v.ok.size)⟩)
theorem redq_any (s : Bool) (x d : Nat) (q : Rat) (hq : mk s x d = q) (w : World) (hx : (bs x).size ≤ 100000) (hd : (bs d).size ≤ 100000) (h0 : d ≠ 0) : Calls Tryz.prog 135 #[.bool s, .string (bs x), .string (bs d)] w fun e w' => e = .returned (.agg #[.bool (negB q), .string (bs (nm q)), .string (dstr q)]) ∧ Below w.heap.size w w' := by
  have h := reduced_any s (bs x) (bs d) w hx hd (by rw [nv_bs]; exact h0)
  rw [nv_bs, nv_bs, hq] at h
  exact h
theorem redq_in (s : Bool) (x d : Nat) (q : Rat) (hq : mk s x d = q) (W : World) (v : Qin.In (Below W.heap.size W)) (hx : (bs x).size ≤ 100000) (hd : (bs d).size ≤ 100000) (h0 : d ≠ 0) : Calls Tryz.prog 135 #[.bool s, .string (bs x), .string (bs d)] v.val fun e w' => e = .returned (.agg #[.bool (negB q), .string (bs (nm q)), .string (dstr q)]) ∧ ∃ y : Qin.In (Below W.heap.size W), w' = y.val :=
  Qin.call ((redq_any s x d q hq v.val hx hd h0).mono fun _ _ ⟨h1, h2⟩ => ⟨h1, v.ok.trans (h2.mono v.ok.size)⟩)
theorem deq {a b : Rat} (h : a.den = b.den) : ((dstr a).toList == (dstr b).toList) = true := by rw [dstr_eq.2 h]; simp
theorem dne {a b : Rat} (h : a.den ≠ b.den) : ((dstr a).toList == (dstr b).toList) = false := by
  rw [tl, tl]
  have : (dstr a).data.toList ≠ (dstr b).data.toList := fun e => h (dstr_eq.1 (ext_bytes e))
  simpa using this
end Go.Proofs.YtghbhchkdomfhaaGreatDoor.RpJ
namespace Go.Proofs.YtghbhchkdomfhaaGreatDoor.RpK
theorem here : True := trivial
open Go.RowKit RnA RnB RnS RnC RnK RnM RnL RnN RnD RnE RnQ RnR RnP RnW RnX RoA RoB RoC RoD RoE RoF RoG RoH RoI RoJ RoK RoL RoM RoN PnA PnB PnC PnD PnE PnF PnG PnH PnI PnJ PnK PnL RtA RtB RtC RpA RpB RpC RpD RpE RpF RpG RpH RnY RpI RpJ
theorem clean_in (n : Bool) (a d : ByteArray) (q : Rat) (hq : fixQ n a.data.toList d.data.toList = q) (W : World) (v : Qin.In (Below W.heap.size W)) (ha : a.size ≤ 100000) (hd : d.size ≤ 100000) : Calls Tryz.prog 53 #[.agg #[.bool n, .string a, .string d]] v.val fun e w' => e = .returned (.agg #[.bool (negB q), .string (bs (nm q)), .string (dstr q)]) ∧ ∃ y : Qin.In (Below W.heap.size W), w' = y.val :=
  Qin.call ((clean_any n a d v.val ha hd).mono fun _ _ ⟨h1, h2⟩ => ⟨by rw [h1, hq, enc_open], v.ok.trans (h2.mono v.ok.size)⟩)
theorem q_in {f : FuncId} {args : Array Value} {r : Rat} {W : World} {v : Qin.In (Below W.heap.size W)} (h : Calls Tryz.prog f args v.val (RPost r v.val)) : Calls Tryz.prog f args v.val fun e w' => e = .returned (.agg #[.bool (negB r), .string (bs (nm r)), .string (dstr r)]) ∧ ∃ y : Qin.In (Below W.heap.size W), w' = y.val :=
  Qin.call (h.mono fun _ _ ⟨h1, h2⟩ => ⟨h1, v.ok.trans (h2.mono v.ok.size)⟩)
theorem _root_.Go.Proofs.YtghbhchkdomfhaaGreatDoor.RtA.Bx.other3 {w : World} {k j : Nat} {x y z : Value} (h : Bx w k x y z) (hj : k ≠ j) (x' y' z' : Value) : Bx (((w.setCell ⟨j, 0, none⟩ x').setCell ⟨j, 1, none⟩ y').setCell ⟨j, 2, none⟩ z') k x y z :=
  ((h.other hj 0 x').other hj 1 y').other hj 2 z'
/-- both arguments' boxes are written anew -/
theorem two_set {w W : World} {B k j r : Nat} {x0 y0 z0 x1 y1 z1 x2 y2 z2 : Value} (hA : Bx W k x0 y0 z0) (hB : Bx W j x1 y1 z1) (hR : Bx W r x2 y2 z2) (hb : Below B w W) (hkj : k ≠ j) (hkr : k ≠ r) (hjr : j ≠ r) (hk : B ≤ k) (hj : B ≤ j) (x y z x' y' z' : Value) :
    ∃ V, ((((((W.setCell ⟨k, 0, none⟩ x).setCell ⟨k, 1, none⟩ y).setCell ⟨k, 2, none⟩ z).setCell ⟨j, 0, none⟩ x').setCell ⟨j, 1, none⟩ y').setCell ⟨j, 2, none⟩ z') = V ∧
      Hid (Bx V k x y z) ∧ Hid (Bx V j x' y' z') ∧ Hid (Bx V r x2 y2 z2) ∧ Hid (Below B w V) :=
  ⟨_, rfl, (hA.set3 x y z).other3 hkj x' y' z', (hB.other3 (Ne.symm hkj) x y z).set3 x' y' z', (hR.other3 (Ne.symm hkr) x y z).other3 (Ne.symm hjr) x' y' z', below_set3 (below_set3 hb hk x y z) hj x' y' z'⟩
def divQ (a b : Rat) : Rat × Bool := if b = 0 then (0, false) else (a / b, true)
theorem divQ_make (a b : Rat) : makeQ (!(negB a == negB b)) (nm a * b.den) (a.den * nm b) = divQ a b := by
  unfold makeQ divQ
  by_cases h : b = 0
  · rw [if_pos h, if_pos (by rw [nm_zero.2 h, Nat.mul_zero])]
  · rw [if_neg h, if_neg (Nat.mul_ne_zero a.den_nz (fun e => h (nm_zero.1 e)))]
    have e := div_eq a b h
    exact congrArg (fun x => (x, true)) e
end Go.Proofs.YtghbhchkdomfhaaGreatDoor.RpK
namespace Go.Proofs.YtghbhchkdomfhaaGreatDoor.RpL
theorem here : True := trivial
open Go.RowKit RnA RnB RnS RnC RnK RnM RnL RnN RnD RnE RnQ RnR RnG RnP RnW RnX RoA RoB RoC RoD RoE RoF RoG RoH RoI RoJ RoK RoL RoM RoN PnA PnB PnC PnD PnE PnF PnG PnH PnI PnJ PnK PnL RtA RtB RtC RpA RpB RpC RpD RpE RpF RpG RpH RnY RpI RpJ RpK
theorem startb (w : World) (x y z x' y' z' : Value) : ∃ W0 W1, w.alloc (.cells #[x, y, z] 25) = W0 ∧ W0.alloc (.cells #[x', y', z'] 25) = W1 ∧
    W0.heap.size = w.heap.size + 1 ∧ Hid (Bx W1 w.heap.size x y z) ∧ Hid (Bx W1 (w.heap.size + 1) x' y' z') ∧ Hid (Below w.heap.size w W1) ∧ w.heap.size + 1 < W1.heap.size := by
  have hB0 := (Below.refl w.heap.size w).alloc (Nat.le_refl _) (.cells #[x, y, z] 25)
  have hX0 := Bx.new w x y z 25
  have hs : (w.alloc (.cells #[x, y, z] 25)).heap.size = w.heap.size + 1 := by simp
  generalize w.alloc (.cells #[x, y, z] 25) = W0 at *
  obtain ⟨W1, h1, HY, hb, hl⟩ := box_new W0 x' y' z'
  rw [hs] at HY
  exact ⟨W0, W1, rfl, h1, hs, hX0.keep hb (by omega), HY, hB0.trans (hb.mono (by omega)), by omega⟩
theorem two_setb {w W : World} {B k j : Nat} {x0 y0 z0 x1 y1 z1 : Value} (hA : Bx W k x0 y0 z0) (hB : Bx W j x1 y1 z1) (hb : Below B w W) (hkj : k ≠ j) (hk : B ≤ k) (hj : B ≤ j) (x y z x' y' z' : Value) :
    ∃ V, ((((((W.setCell ⟨k, 0, none⟩ x).setCell ⟨k, 1, none⟩ y).setCell ⟨k, 2, none⟩ z).setCell ⟨j, 0, none⟩ x').setCell ⟨j, 1, none⟩ y').setCell ⟨j, 2, none⟩ z') = V ∧
      Hid (Bx V k x y z) ∧ Hid (Bx V j x' y' z') ∧ Hid (Below B w V) :=
  ⟨_, rfl, (hA.set3 x y z).other3 hkj x' y' z', (hB.other3 (Ne.symm hkj) x y z).set3 x' y' z', below_set3 (below_set3 hb hk x y z) hj x' y' z'⟩
theorem signof_in (q : Rat) (W : World) (v : Qin.In (Below W.heap.size W)) : Calls Tryz.prog 52 #[.agg #[.bool (negB q), .string (bs (nm q)), .string (dstr q)]] v.val fun e w' => e = .returned (.int .i64 (sgnQ q)) ∧ ∃ y : Qin.In (Below W.heap.size W), w' = y.val :=
  Qin.call ((signof_any q v.val).mono fun _ _ ⟨h1, h2⟩ => ⟨h1, v.ok.trans (h2.mono v.ok.size)⟩)
theorem cmpN_bd (x y : Nat) : -1 ≤ cmpN x y ∧ cmpN x y ≤ 1 := by unfold cmpN; split <;> (try split) <;> omega
theorem sgnQ_bd (q : Rat) : -1 ≤ sgnQ q ∧ sgnQ q ≤ 1 := by rw [sgnQ_eq]; split <;> (try split) <;> omega
theorem cmp_neg {a b : Rat} (h : sgnQ a = sgnQ b) (hn : negB a = true) : cmpQ a b = -cmpN (nm a * b.den) (nm b * a.den) := by
  rw [cmpQ_same a b h, if_pos hn]; unfold cmpN; omega
theorem cmp_pos {a b : Rat} (h : sgnQ a = sgnQ b) (hn : negB a = false) : cmpQ a b = cmpN (nm a * b.den) (nm b * a.den) := by
  rw [cmpQ_same a b h, if_neg (by rw [hn]; exact Bool.false_ne_true)]; unfold cmpN; omega
def minQ (a b : Rat) : Rat := if cmpQ a b ≤ 0 then a else b
def maxQ (a b : Rat) : Rat := if 0 ≤ cmpQ a b then a else b
theorem i64_frac {q : Rat} (h : q.den ≠ 1) : int64Q q = (0, false) := by unfold int64Q; rw [if_neg (fun e => h e.1)]
theorem num_pos {q : Rat} (h : negB q = false) : q.num = (nm q : Int) := by have := sg_num q; rw [h] at this; unfold sg at this; exact this.symm
theorem num_neg {q : Rat} (h : negB q = true) : q.num = -(nm q : Int) := by have := sg_num q; rw [h] at this; unfold sg at this; exact this.symm
theorem i64_neg {q : Rat} (h1 : q.den = 1) (h : negB q = true) : int64Q q = if nm q ≤ 9223372036854775808 then (-(nm q : Int), true) else (0, false) := by
  unfold int64Q
  rw [num_neg h]
  by_cases h2 : nm q ≤ 9223372036854775808
  · rw [if_pos ⟨h1, by unfold In64; omega⟩, if_pos h2]
  · rw [if_neg (by unfold In64; omega), if_neg h2]
theorem i64_pos {q : Rat} (h1 : q.den = 1) (h : negB q = false) : int64Q q = if nm q ≤ 9223372036854775807 then ((nm q : Int), true) else (0, false) := by
  unfold int64Q
  rw [num_pos h]
  by_cases h2 : nm q ≤ 9223372036854775807
  · rw [if_pos ⟨h1, by unfold In64; omega⟩, if_pos h2]
  · rw [if_neg (by unfold In64; omega), if_neg h2]
def IPost (p : Int × Bool) (w : World) (e : Ending) (w' : World) : Prop := e = .returned (.tuple #[.int .i64 p.1, .bool p.2]) ∧ Below w.heap.size w w'
end Go.Proofs.YtghbhchkdomfhaaGreatDoor.RpL
