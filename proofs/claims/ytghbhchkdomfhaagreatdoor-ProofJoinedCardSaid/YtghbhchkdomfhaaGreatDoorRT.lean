/- RtE, RtG, RtH, RtI, RtJ, RtK, RtL, in one text. -/
import Derived.Test.YtghbhchkdomfhaaGreatDoorRK
import Derived.Test.YtghbhchkdomfhaaGreatDoorRP
import Derived.Test.YtghbhchkdomfhaaGreatDoorQmx
namespace Go.Proofs.YtghbhchkdomfhaaGreatDoor.RtE
theorem here : True := trivial
open Go.RowKit RnA RnB RnS RnC RnK RnM RnL RnN RnD RnE RnQ RnR RnP RnW RnX RoA RoB RoC RoD RoE RoF RoG RoH RoI RoJ RoK RoL RoM RoN PnA PnB PnC PnD PnE PnF PnG PnH PnI PnJ PnK PnL RtA RtB RtC RpA RpB RpC RpD RpE RpF RpG RpH
end Go.Proofs.YtghbhchkdomfhaaGreatDoor.RtE
namespace Go.Proofs.YtghbhchkdomfhaaGreatDoor.RtG
theorem here : True := trivial
open Go.RowKit RnA RnB RnS RnC RnK RnM RnL RnN RnD RnE RnQ RnR RnG RnP RnW RnX RoA RoB RoC RoD RoE RoF RoG RoH RoI RoJ RoK RoL RoM RoN PnA PnB PnC PnD PnE PnF PnG PnH PnI PnJ PnK PnL RtA RtB RtC RtE RpA RpB RpC RpD RpE RpF RpG RpH RnY RpI RpJ RpK RpL
theorem rlimbsq (x : Nat) (w : World) (h : (bs x).size ≤ 1000000) : Calls Tryz.prog 96 #[.string (bs x)] w (LPost (limbs x) w) := by
  have h1 := rlimbs_any (bs x) w h
  rwa [nv_bs] at h1
theorem rtimesq {x y : Nat} {A B : Option Addr} {c c' : Nat} {w : World} (ha : NAt w A c x) (hb : NAt w B c' y) (hx : sz x ≤ 100000) (hy : sz y ≤ 100000) :
    Calls Tryz.prog 109 #[.slice A (limbs x).length c, .slice B (limbs y).length c'] w (LPost (limbs (x * y)) w) := rtimes_any x y A B c c' w ha.1 hb.1 hx hy
theorem rredq {s : Bool} {x y : Nat} {q : Rat} (hq : mk s x y = q) {A B : Option Addr} {c c' : Nat} {w : World} (ha : NAt w A c x) (hb : NAt w B c' y) (hx : sz x ≤ 100000) (hy : sz y ≤ 100000) (h0 : y ≠ 0) :
    Calls Tryz.prog 99 #[.bool s, .slice A (limbs x).length c, .slice B (limbs y).length c'] w fun e w' => e = .returned (.agg #[.bool (negB q), .string (bs (nm q)), .string (dstr q)]) ∧ Below w.heap.size w w' := by
  have h := rreduced_any s x y A B c c' w ha hb hx hy h0
  rw [hq] at h
  exact h
theorem LPost.out {x : Nat} {w : World} {e : Ending} {w' : World} (h : LPost (limbs x) w e w') : ∃ A c, e = .returned (.slice A (limbs x).length c) ∧ Hid (NAt w' A c x) ∧ (limbs x).length ≤ 9223372036854775807 ∧ Below w.heap.size w w' := by
  obtain ⟨A, c, h1, h2, h3, h4, h5⟩ := h
  exact ⟨A, c, h1, ⟨h4, h2, h3⟩, h4.len, h5⟩
theorem sz_bs {x k : Nat} (h : (bs x).size ≤ 4 * k) : sz x ≤ k := by have := nv_le h; rwa [nv_bs] at this
/-- the worlds behind a world -/
abbrev Beh (W : World) (w' : World) : Prop := ∃ x : Qin.In (Below W.heap.size W), w' = x.val
theorem beh {W w' : World} (h : Below W.heap.size W w') : Beh W w' := ⟨⟨w', h⟩, rfl⟩
theorem draw_below (W : World) : Below W.heap.size W { W with drawn := W.drawn + 1 } := Qin.start _ W
end Go.Proofs.YtghbhchkdomfhaaGreatDoor.RtG
namespace Go.Proofs.YtghbhchkdomfhaaGreatDoor.RtH
theorem here : True := trivial
open Go.RowKit RnA RnB RnS RnC RnK RnM RnL RnN RnD RnE RnQ RnR RnG RnP RnW RnX RoA RoB RoC RoD RoE RoF RoG RoH RoI RoJ RoK RoL RoM RoN PnA PnB PnC PnD PnE PnF PnG PnH PnI PnJ PnK PnL RtA RtB RtC RtE RtG RpA RpB RpC RpD RpE RpF RpG RpH RnY RpI RpJ RpK RpL
set_option maxHeartbeats 1000000 in
set_option maxRecDepth 100000 in
theorem rsignum_q (q : Rat) (w : World) :
    Calls Tryz.prog 54 #[.agg #[.bool (negB q), .string (bs (nm q)), .string (dstr q)]] w fun e w' => e = .returned (.int .i64 (sgnQ q)) ∧ Below w.heap.size w w' := by
  have hs := hide (sgnB_eq q)
  generalize sgnQ q = s at *
  generalize negB q = n at *
  generalize dstr q = D at *
  generalize bs (nm q) = t at *
  obtain ⟨V0, hV0, HX0, hc0, hl0⟩ := box_new w (.bool n) (.string t) (.string D)
  obtain ⟨c0, c1, c2, _⟩ := HX0.out
  by_cases h0 : 0 < t.size
  · obtain ⟨e1, e2⟩ := str_ne h0
    cases n
    · have hr : Hid (s = 1) := by show _ = _; rw [← hs.out]; unfold sgnB; rw [if_neg (by omega)]; rfl
      go_enter Tryz.func54, Tryz.ntmps54
      go_wp2_with fail
      go_ret
      exact ⟨by rw [hr.out]; rfl, hc0⟩
    · have hr : Hid (s = -1) := by show _ = _; rw [← hs.out]; unfold sgnB; rw [if_neg (by omega)]; rfl
      go_enter Tryz.func54, Tryz.ntmps54
      go_wp2_with fail
      go_ret
      exact ⟨by rw [hr.out]; rfl, hc0⟩
  · obtain ⟨e1, e2⟩ := str_em (s := t) (by omega)
    have hr : Hid (s = 0) := by show _ = _; rw [← hs.out]; unfold sgnB; rw [if_pos (by omega)]
    go_enter Tryz.func54, Tryz.ntmps54
    go_wp2_with fail
    go_ret
    exact ⟨by rw [hr.out]; rfl, hc0⟩
set_option maxHeartbeats 1000000 in
set_option maxRecDepth 100000 in
theorem rsign_any (n : Bool) (a d : ByteArray) (w : World) (ha : a.size ≤ 100000) (hd : d.size ≤ 100000) :
    Calls Tryz.prog 35 #[.agg #[.bool n, .string a, .string d]] w fun e w' => e = .returned (.int .i64 (sgnQ (fixQ n a.data.toList d.data.toList))) ∧ Below w.heap.size w w' := by
  have HC := Lib.hid (fun w => rfix_any n a d w ha hd)
  generalize fixQ n a.data.toList d.data.toList = q at *
  rw [enc_open] at HC
  have HS := Lib.hid (fun w => rsignum_q q w)
  obtain ⟨V0, hV0, HX0, hc0, hl0⟩ := box_new w (.bool n) (.string a) (.string d)
  obtain ⟨c0, c1, c2, _⟩ := HX0.out
  go_enter Tryz.func35, Tryz.ntmps35
  go_wp2_with fail
  refine (HC.out _).mono ?_
  rintro e w1 ⟨rfl, hb1⟩
  have HB1 := hc0.trans (hb1.mono hc0.size)
  go_wp2_with fail
  refine (HS.out _).mono ?_
  rintro e w2 ⟨rfl, hb2⟩
  go_wp2_with fail
  go_ret
  exact ⟨rfl, HB1.trans (hb2.mono HB1.size)⟩
end Go.Proofs.YtghbhchkdomfhaaGreatDoor.RtH
namespace Go.Proofs.YtghbhchkdomfhaaGreatDoor.RtI
theorem here : True := trivial
open Go.RowKit RnA RnB RnS RnC RnK RnM RnL RnN RnD RnE RnQ RnR RnG RnP RnW RnX RoA RoB RoC RoD RoE RoF RoG RoH RoI RoJ RoK RoL RoM RoN PnA PnB PnC PnD PnE PnF PnG PnH PnI PnJ PnK PnL RtA RtB RtC RtE RtG RtH RpA RpB RpC RpD RpE RpF RpG RpH RnY RpI RpJ RpK RpL
theorem rorderq {x y : Nat} {A B : Option Addr} {c c' : Nat} {w : World} (ha : NAt w A c x) (hb : NAt w B c' y) :
    Calls Tryz.prog 151 #[.slice A (limbs x).length c, .slice B (limbs y).length c'] w fun e w' => e = .returned (.int .i64 (cmpN x y)) ∧ Below w.heap.size w w' := rorder_any x y A B c c' w ha.1 hb.1
theorem over_same {a b : Rat} (h : negB a = negB b) : mk (negB a) (nm a * b.den + nm b * a.den) (a.den * b.den) = a + b := by
  rw [← mk_add_eq _ _ _ _ (Nat.mul_ne_zero a.den_nz b.den_nz), (over_prod a b).1, h, (over_prod a b).2]
theorem over_ge {a b : Rat} (h : negB a ≠ negB b) (hle : nm b * a.den ≤ nm a * b.den) : mk (negB a) (nm a * b.den - nm b * a.den) (a.den * b.den) = a + b := by
  rw [← mk_add_ge h _ _ _ (Nat.mul_ne_zero a.den_nz b.den_nz) hle, (over_prod a b).1, (over_prod a b).2]
theorem over_lt {a b : Rat} (h : negB a ≠ negB b) (hlt : nm a * b.den < nm b * a.den) : mk (negB b) (nm b * a.den - nm a * b.den) (a.den * b.den) = a + b := by
  rw [← mk_add_lt h _ _ _ (Nat.mul_ne_zero a.den_nz b.den_nz) hlt, (over_prod a b).1, (over_prod a b).2]
theorem sz_sub {x y k : Nat} (h : sz x ≤ k) : sz (x - y) ≤ k := sz_le (Nat.lt_of_le_of_lt (Nat.sub_le x y) (Nat.lt_of_lt_of_le (sz_lt x) (Nat.pow_le_pow_right (by omega) h)))
theorem sz_add1 {x y k : Nat} (h1 : sz x ≤ k) (h2 : sz y ≤ k) : sz (x + y) ≤ k + 1 := by
  have e1 := Nat.lt_of_lt_of_le (sz_lt x) (Nat.pow_le_pow_right (n := 4294967296) (by omega) h1)
  have e2 := Nat.lt_of_lt_of_le (sz_lt y) (Nat.pow_le_pow_right (n := 4294967296) (by omega) h2)
  refine sz_le ?_
  rw [Nat.pow_succ]
  omega
end Go.Proofs.YtghbhchkdomfhaaGreatDoor.RtI
namespace Go.Proofs.YtghbhchkdomfhaaGreatDoor.RtJ
theorem here : True := trivial
open Go.RowKit RnA RnB RnS RnC RnK RnM RnL RnN RnD RnE RnQ RnR RnG RnP RnW RnX RoA RoB RoC RoD RoE RoF RoG RoH RoI RoJ RoK RoL RoM RoN PnA PnB PnC PnD PnE PnF PnG PnH PnI PnJ PnK PnL RtA RtB RtC RtE RtG RtH RtI RpA RpB RpC RpD RpE RpF RpG RpH RnY RpI RpJ RpK RpL
theorem fix_in (n : Bool) (a d : ByteArray) (q : Rat) (hq : fixQ n a.data.toList d.data.toList = q) (W : World) (v : Qin.In (Below W.heap.size W)) (ha : a.size ≤ 100000) (hd : d.size ≤ 100000) : Calls Tryz.prog 55 #[.agg #[.bool n, .string a, .string d]] v.val fun e w' => e = .returned (.agg #[.bool (negB q), .string (bs (nm q)), .string (dstr q)]) ∧ ∃ y : Qin.In (Below W.heap.size W), w' = y.val :=
  Qin.call ((rfix_any n a d v.val ha hd).mono fun _ _ ⟨h1, h2⟩ => ⟨by rw [h1, hq, enc_open], v.ok.trans (h2.mono v.ok.size)⟩)
theorem minQ_b {a b : Rat} (h : cmpQ b a < 0) : minQ a b = b := by
  unfold minQ
  rw [if_neg]
  unfold cmpQ at h ⊢
  split at h
  · split
    · grind
    · split <;> grind
  · split at h <;> omega
theorem minQ_a {a b : Rat} (h : ¬ cmpQ b a < 0) : minQ a b = a := by
  unfold minQ
  rw [if_pos]
  unfold cmpQ at h ⊢
  split at h
  · omega
  · split
    · omega
    · split
      · omega
      · grind
theorem maxQ_b {a b : Rat} (h : cmpQ a b < 0) : maxQ a b = b := by unfold maxQ; rw [if_neg (by omega)]
theorem maxQ_a {a b : Rat} (h : ¬ cmpQ a b < 0) : maxQ a b = a := by unfold maxQ; rw [if_pos (by omega)]
theorem signum_in (q : Rat) (W : World) (v : Qin.In (Below W.heap.size W)) : Calls Tryz.prog 54 #[.agg #[.bool (negB q), .string (bs (nm q)), .string (dstr q)]] v.val fun e w' => e = .returned (.int .i64 (sgnQ q)) ∧ ∃ y : Qin.In (Below W.heap.size W), w' = y.val :=
  Qin.call ((rsignum_q q v.val).mono fun _ _ ⟨h1, h2⟩ => ⟨h1, v.ok.trans (h2.mono v.ok.size)⟩)
end Go.Proofs.YtghbhchkdomfhaaGreatDoor.RtJ
namespace Go.Proofs.YtghbhchkdomfhaaGreatDoor.RtK
theorem here : True := trivial
open Go.RowKit RnA RnB RnS RnC RnK RnM RnL RnN RnD RnE RnQ RnR RnG RnP RnW RnX RoA RoB RoC RoD RoE RoF RoG RoH RoI RoJ RoK RoL RoM RoN PnA PnB PnC PnD PnE PnF PnG PnH PnI PnJ PnK PnL RtA RtB RtC RtE RtG RtH RtI RtJ RpA RpB RpC RpD RpE RpF RpG RpH RnY RpI RpJ RpK RpL
/-- a row of one limb of the walk's own -/
theorem one_row (w : World) (x T : Nat) (h0 : x ≠ 0) (h : x < 4294967296) : NAt (w.alloc (.cells #[.int .u32 (x : Int)] T)) (some ⟨w.heap.size, 0, none⟩) 1 x := by
  refine ⟨?_, by rw [limbs_one h0 h]; exact Nat.le_refl _, by decide⟩
  rw [limbs_one h0 h]
  refine ⟨fun y hy => by simp at hy; omega, by show 1 ≤ maxLen; decide, fun _ => ⟨w.heap.size, 0, rfl, by simp, fun k y hk => ?_⟩⟩
  match k, hk with
  | 0, hk =>
    simp at hk
    subst hk
    simp [go_sem]
  | k + 1, hk => simp at hk
theorem len_one : (limbs 1).length = 1 := by rw [limbs_one (by decide) (by decide)]; rfl
theorem len_ten : (limbs 10).length = 1 := by rw [limbs_one (by decide) (by decide)]; rfl
theorem new_one (w : World) : ∃ V, w.alloc (.cells #[.int .u32 1] 120) = V ∧ Hid (NAt V (some ⟨w.heap.size, 0, none⟩) 1 1) ∧ Below w.heap.size w V :=
  ⟨_, rfl, one_row w 1 _ (by decide) (by decide), (Below.refl _ _).alloc (Nat.le_refl _) _⟩
theorem new_ten (w : World) : ∃ V, w.alloc (.cells #[.int .u32 10] 120) = V ∧ Hid (NAt V (some ⟨w.heap.size, 0, none⟩) 1 10) ∧ Below w.heap.size w V :=
  ⟨_, rfl, one_row w 10 _ (by decide) (by decide), (Below.refl _ _).alloc (Nat.le_refl _) _⟩
theorem rdivq {x y : Nat} {A B : Option Addr} {c c' : Nat} {w : World} (ha : NAt w A c x) (hb : NAt w B c' y) (hx : sz x ≤ 100000) (hy : y ≠ 0) :
    Calls Tryz.prog 126 #[.slice A (limbs x).length c, .slice B (limbs y).length c'] w (QPost (x / y) (x % y) w) := rdivide_any x y _ _ A B c c' w ha.1 hb.1 rfl rfl ha.2.1 ha.2.2 hx hy
theorem QPost.out {q r : Nat} {w : World} {e : Ending} {w' : World} (h : QPost q r w e w') : ∃ A c A' c', e = .returned (.tuple #[.slice A (limbs q).length c, .slice A' (limbs r).length c']) ∧ Hid (NAt w' A c q) ∧ (limbs q).length ≤ 9223372036854775807 ∧ (limbs r).length ≤ 9223372036854775807 ∧ Below w.heap.size w w' := by
  obtain ⟨A, c, A', c', h1, h2, h3, h4, h5, h6, h7, h8⟩ := h
  exact ⟨A, c, A', c', h1, ⟨h6, h2, h3⟩, h6.len, h7.len, h8⟩
theorem mod_ne {q : Rat} (h : q.den ≠ 1) : nm q % q.den ≠ 0 := by
  intro h0
  have hr : (nm q).gcd q.den = 1 := q.reduced
  have hd := Nat.dvd_of_mod_eq_zero h0
  rw [Nat.gcd_eq_right hd] at hr
  exact h hr
theorem floor_one {q : Rat} (h : q.den = 1) : mk (negB q) (floorN q) 1 = q := by
  unfold floorN
  rw [h, Nat.div_one, Nat.mod_one, if_neg (by simp), Nat.add_zero]
  have := mk_nm q
  rwa [h] at this
theorem floor_neg {q : Rat} (h : q.den ≠ 1) (hn : negB q = true) : floorN q = nm q / q.den + 1 := by
  unfold floorN
  rw [if_pos ⟨hn, mod_ne h⟩]
theorem floor_pos {q : Rat} (hn : negB q = false) : floorN q = nm q / q.den := by
  unfold floorN
  rw [if_neg (by rw [hn]; simp), Nat.add_zero]
end Go.Proofs.YtghbhchkdomfhaaGreatDoor.RtK
namespace Go.Proofs.YtghbhchkdomfhaaGreatDoor.RtL
theorem here : True := trivial
open Go.RowKit RnA RnB RnS RnC RnK RnM RnL RnN RnD RnE RnQ RnR RnG RnP RnW RnX RoA RoB RoC RoD RoE RoF RoG RoH RoI RoJ RoK RoL RoM RoN PnA PnB PnC PnD PnE PnF PnG PnH PnI PnJ PnK PnL RtA RtB RtC RtE RtG RtH RtI RtJ RtK RpA RpB RpC RpD RpE RpF RpG RpH RnY RpI RpJ RpK RpL
theorem head_minus {s : ByteArray} (h : 0 < s.size) : s.data.toList = s[0] :: (s.extract 1 s.size).data.toList := by
  rw [drop_bytes]
  exact byte0 h
theorem c45 {c : UInt8} : ((c.toNat : Int) == 45) = (c == 45) := by
  by_cases h : c = 45
  · subst h; rfl
  · have h1 : (c == 45) = false := by simpa using h
    rw [h1]
    have h2 : c.toNat ≠ 45 := fun e => h (UInt8.toNat_inj.1 (by rw [e]; rfl))
    have h3 : ¬ (c.toNat : Int) = 45 := by omega
    simpa using h3
def bodyOf (l : List UInt8) : List UInt8 := if l.head? = some 45 then l.tail else l
def negOf (l : List UInt8) : Bool := decide (l.head? = some 45)
theorem parse_body (l : List UInt8) : parseQ l = readQ (negOf l) (bodyOf l) := by
  unfold parseQ negOf bodyOf
  by_cases h : l.head? = some 45
  · rw [if_pos h, if_pos h, decide_eq_true h]
  · rw [if_neg h, if_neg h, decide_eq_false h]
theorem body_len (l : List UInt8) : (bodyOf l).length ≤ l.length := by
  unfold bodyOf
  split
  · rw [List.length_tail]; omega
  · exact Nat.le_refl _
set_option maxHeartbeats 8000000 in
set_option maxRecDepth 100000 in
theorem rparse_any (s : ByteArray) (w : World) (hs : s.size ≤ 50000) :
    Calls Tryz.prog 89 #[.string s] w (RCPost (parseQ s.data.toList) w) := by
  have hz : ∀ S : ByteArray, S.data.toList.length = S.size := fun S => by simp
  have hpo := parse_body s.data.toList
  have hbl : (bodyOf s.data.toList).length ≤ 50000 := by
    have := body_len s.data.toList
    rw [hz] at this
    omega
  rw [hpo, readQ_cut]
  obtain ⟨neg, hneg⟩ : ∃ b, negOf s.data.toList = b := ⟨_, rfl⟩
  obtain ⟨bd, hbd⟩ : ∃ S : ByteArray, bodyOf s.data.toList = S.data.toList := ⟨st _, rfl⟩
  rw [hneg, hbd]
  rw [hbd, hz] at hbl
  have HNEG := hide hneg
  have HBD := hide hbd
  clear hneg hbd hpo
  obtain ⟨hc1, hc2⟩ := cut_len 46 bd.data.toList
  obtain ⟨hc3, hc4⟩ := cut_len 47 bd.data.toList
  have HC46 := Lib.hid (fun w => rcut_any bd 46 w (by omega))
  have HC47 := Lib.hid (fun w => rcut_any bd 47 w (by omega))
  rw [show (((46 : UInt8).toNat : Nat) : Int) = 46 from rfl] at HC46
  rw [show (((47 : UInt8).toNat : Nat) : Int) = 47 from rfl] at HC47
  unfold CutPost at HC46 HC47
  generalize cutL 46 bd.data.toList = A at *
  generalize cutL 47 bd.data.toList = B at *
  obtain ⟨w1, f1, pt⟩ := A
  obtain ⟨p2, q2, sl⟩ := B
  simp only at *
  obtain ⟨S1, rfl⟩ : ∃ S : ByteArray, w1 = S.data.toList := ⟨st w1, rfl⟩
  obtain ⟨F1, rfl⟩ : ∃ S : ByteArray, f1 = S.data.toList := ⟨st f1, rfl⟩
  obtain ⟨P2, rfl⟩ : ∃ S : ByteArray, p2 = S.data.toList := ⟨st p2, rfl⟩
  obtain ⟨Q2, rfl⟩ : ∃ S : ByteArray, q2 = S.data.toList := ⟨st q2, rfl⟩
  rw [hz, hz] at hc1 hc2 hc3 hc4
  rw [st_self, st_self] at HC46 HC47
  have I1 := Lib.hid (fun w => rdigits_any S1 w (by omega))
  have D1 := Lib.hid (fun w => rsome_any F1 w (by omega))
  have I2 := Lib.hid (fun w => rdigits_any P2 w (by omega))
  have I3 := Lib.hid (fun w => rdigits_any Q2 w (by omega))
  have I4 := Lib.hid (fun w => rdigits_any bd w (by omega))
  obtain ⟨W, hW, HBX, hb0, hbl0⟩ := box_new w (.bool false) (.string ⟨#[]⟩) (.string ⟨#[]⟩)
  have HB0 := hide hb0
  clear hb0
  go_enter Tryz.func89, Tryz.ntmps89
  go_upto_region 1 with fail
  go_cut [4] (fun v wx => v = .bool neg ∧ W = wx)
  case first =>
    by_cases h0 : 0 < s.size
    · have hh := head_minus h0
      have hv : Hid (((s[0].toNat : Int) == 45) = neg) := by
        show _ = _
        rw [c45, ← HNEG.out, hh]
        unfold negOf
        simp only [List.head?_cons, Option.some.injEq]
        by_cases h : s[0] = 45
        · simp [h]
        · simp [h]
      clear hh
      go_wp2_with fail
      go_meet
      case rel => exact ⟨by rw [← hv.out], rfl⟩
    · have hv : Hid (neg = false) := by
        show _ = _
        rw [← HNEG.out, len0 (by omega)]
        rfl
      go_wp2_with fail
      go_meet
      case rel => exact ⟨by rw [hv.out], rfl⟩
  case rest =>
    obtain ⟨rfl, rfl⟩ := hcut
    go_upto_if 21 with fail
    go_cut [0, 4] (fun v u wx => v = .string bd ∧ u = .bool neg ∧ W = wx)
    case first =>
      cases hn : neg
      · have hv : Hid (s = bd) := by
          show _ = _
          have h := HBD.out
          have h2 := HNEG.out
          rw [hn] at h2
          unfold negOf at h2
          unfold bodyOf at h
          rw [if_neg (by simpa using h2)] at h
          exact ext_bytes h
        go_wp2_with fail
        go_meet
        case rel => exact ⟨by rw [hv.out], by rw [hn], rfl⟩
      · have h0 : 0 < s.size := by
          rcases Nat.eq_zero_or_pos s.size with h | h
          · have h2 := HNEG.out
            rw [hn, len0 h] at h2
            cases h2
          · exact h
        have hv : Hid (s.extract 1 s.size = bd) := by
          show _ = _
          have h := HBD.out
          have h2 := HNEG.out
          rw [hn] at h2
          unfold negOf at h2
          unfold bodyOf at h
          rw [if_pos (by simpa using h2)] at h
          refine ext_bytes ?_
          rw [← h, head_minus h0]
          rfl
        go_wp2_with fail
        go_meet
        case rel => exact ⟨by rw [hv.out], by rw [hn], rfl⟩
    case rest =>
      obtain ⟨rfl, rfl, rfl⟩ := hcut
      clear HNEG HBD
      go_wp2_with fail
      refine (HC46.out _).mono ?_
      rintro e wB ⟨rfl, hbB⟩
      go_wp2_with fail
      refine (HC47.out _).mono ?_
      rintro e wC ⟨rfl, hbC⟩
      have hbC2 := below_next hbB hbC
      have HBX2 := hide (HBX.out.keep hbC2 hbl0)
      have HB2 := hide (HB0.out.trans (hbC2.mono (Nat.le_of_lt hbl0)))
      have hszC : w.heap.size < wC.heap.size := HBX2.out.lt
      clear hbB hbC hbC2 HBX HB0 HC46 HC47 hbl0
      unfold RCPost
      cases pt
      · cases sl
        · as_aux_lemma =>
            cases hi : isInt bd.data.toList
            · have hr : Hid (readC neg bd.data.toList S1.data.toList F1.data.toList false P2.data.toList Q2.data.toList false = (0, 3)) := by
                show _ = _
                unfold readC; simp [hi]
              rw [hi] at I4
              obtain ⟨c0, c1, c2, f0, f1, f2⟩ := HBX2.out
              go_wp2_with fail
              refine (I4.out _).mono ?_
              rintro e wD ⟨rfl, rfl⟩
              go_wp2_with fail
              refine bodyPost_ret (results_rat2 rfl _ rfl (HBX2.out.set3 _ _ _)) rfl ?_
              refine ⟨?_, below_set3 HB2.out (Nat.le_refl _) _ _ _⟩
              rw [hr.out, enc_zero_val]; rfl
            · rw [hi] at I4
              by_cases hl1 : 2000 < bd.size
              · have hr : Hid (readC neg bd.data.toList S1.data.toList F1.data.toList false P2.data.toList Q2.data.toList false = (0, 2)) := by
                  show _ = _
                  unfold readC
                  rw [if_neg (by simp), if_neg (by simp), if_pos hi, if_pos (by rw [hz]; exact hl1)]
                obtain ⟨c0, c1, c2, f0, f1, f2⟩ := HBX2.out
                go_wp2_with fail
                refine (I4.out _).mono ?_
                rintro e wD ⟨rfl, rfl⟩
                go_wp2_with fail
                refine bodyPost_ret (results_rat2 rfl _ rfl (HBX2.out.set3 _ _ _)) rfl ?_
                refine ⟨?_, below_set3 HB2.out (Nat.le_refl _) _ _ _⟩
                rw [hr.out, enc_zero_val]; rfl
              · have hr : Hid (readC neg bd.data.toList S1.data.toList F1.data.toList false P2.data.toList Q2.data.toList false = (mk neg (dec bd.data.toList) 1, 0)) := by
                  show _ = _
                  unfold readC
                  rw [if_neg (by simp), if_neg (by simp), if_pos hi, if_neg (by rw [hz]; exact hl1)]
                have hdp := isInt_digs hi
                have HD1 := Lib.hid (fun w => rvalue_any bd w (by omega) hdp)
                have z1 : sz (dec bd.data.toList) ≤ 2000 := by have := dec_bs hdp; exact sz_bs (by omega)
                generalize hq : mk neg (dec bd.data.toList) 1 = q at *
                have HQ := hide hq
                clear hdp hq
                go_wp2_with fail
                refine (I4.out _).mono ?_
                rintro e wD ⟨rfl, rfl⟩
                go_wp2_with fail
                refine (HD1.out _).mono ?_
                rintro e wE hp
                obtain ⟨A5, c5, rfl, HN5, hl5, hb5⟩ := LPost.out hp
                obtain ⟨V6, hV6, HO6, hb6⟩ := new_one wE
                have HN6 := hide (HN5.out.next hb6)
                have HR := rredq HQ.out HN6.out HO6.out (by omega) (Nat.le_trans (sz_small (by decide)) (by decide)) (by decide)
                rw [len_one] at HR
                have HRD := hide HR
                have hb7 := below_next hb5 hb6
                clear HR hp hb5 hb6
                go_wp2_with fail
                refine HRD.out.mono ?_
                rintro e wI ⟨rfl, hb8⟩
                have hb9 := below_next hb7 hb8
                have HB9 := hide (HBX2.out.keep hb9 hszC)
                obtain ⟨c0, c1, c2, f0, f1, f2⟩ := HB9.out
                have hbf := HB2.out.trans (hb9.mono (Nat.le_of_lt hszC))
                go_wp2_with fail
                refine bodyPost_ret (results_rat2 rfl _ rfl (HB9.out.set3 _ _ _)) rfl ?_
                refine ⟨?_, below_set3 hbf (Nat.le_refl _) _ _ _⟩
                rw [hr.out]; rfl
        · as_aux_lemma =>
            cases hi : isInt P2.data.toList
            · have hr : Hid (readC neg bd.data.toList S1.data.toList F1.data.toList false P2.data.toList Q2.data.toList true = (0, 3)) := by
                show _ = _
                unfold readC; simp [hi]
              rw [hi] at I2
              obtain ⟨c0, c1, c2, f0, f1, f2⟩ := HBX2.out
              go_wp2_with fail
              refine (I2.out _).mono ?_
              rintro e wD ⟨rfl, rfl⟩
              go_wp2_with fail
              refine bodyPost_ret (results_rat2 rfl _ rfl (HBX2.out.set3 _ _ _)) rfl ?_
              refine ⟨?_, below_set3 HB2.out (Nat.le_refl _) _ _ _⟩
              rw [hr.out, enc_zero_val]; rfl
            · rw [hi] at I2
              cases hd : isInt Q2.data.toList
              · have hr : Hid (readC neg bd.data.toList S1.data.toList F1.data.toList false P2.data.toList Q2.data.toList true = (0, 3)) := by
                  show _ = _
                  unfold readC; simp [hi, hd]
                rw [hd] at I3
                obtain ⟨c0, c1, c2, f0, f1, f2⟩ := HBX2.out
                go_wp2_with fail
                refine (I2.out _).mono ?_
                rintro e wD ⟨rfl, rfl⟩
                go_wp2_with fail
                refine (I3.out _).mono ?_
                rintro e wD ⟨rfl, rfl⟩
                go_wp2_with fail
                refine bodyPost_ret (results_rat2 rfl _ rfl (HBX2.out.set3 _ _ _)) rfl ?_
                refine ⟨?_, below_set3 HB2.out (Nat.le_refl _) _ _ _⟩
                rw [hr.out, enc_zero_val]; rfl
              · rw [hd] at I3
                by_cases hlen : 2000 < P2.size ∨ 2000 < Q2.size
                · have hr : Hid (readC neg bd.data.toList S1.data.toList F1.data.toList false P2.data.toList Q2.data.toList true = (0, 2)) := by
                    show _ = _
                    unfold readC
                    rw [if_neg (by simp), if_pos rfl, if_pos ⟨hi, hd⟩, if_pos (by rw [hz, hz]; exact hlen)]
                  obtain ⟨c0, c1, c2, f0, f1, f2⟩ := HBX2.out
                  by_cases hl1 : 2000 < P2.size
                  all_goals
                    go_wp2_with fail
                    refine (I2.out _).mono ?_
                    rintro e wD ⟨rfl, rfl⟩
                    go_wp2_with fail
                    refine (I3.out _).mono ?_
                    rintro e wD ⟨rfl, rfl⟩
                    go_wp2_with fail
                    refine bodyPost_ret (results_rat2 rfl _ rfl (HBX2.out.set3 _ _ _)) rfl ?_
                    refine ⟨?_, below_set3 HB2.out (Nat.le_refl _) _ _ _⟩
                    rw [hr.out, enc_zero_val]; rfl
                · have hl1 : ¬ 2000 < P2.size := fun h => hlen (.inl h)
                  have hl2 : ¬ 2000 < Q2.size := fun h => hlen (.inr h)
                  cases hq : (Q2.toList == [48])
                  · have hq1 : Q2.data.toList ≠ [48] := by rw [tl] at hq; simpa using hq
                    have hr : Hid (readC neg bd.data.toList S1.data.toList F1.data.toList false P2.data.toList Q2.data.toList true = (mk neg (dec P2.data.toList) (dec Q2.data.toList), 0)) := by
                      show _ = _
                      unfold readC
                      rw [if_neg (by simp), if_pos rfl, if_pos ⟨hi, hd⟩, if_neg (by rw [hz, hz]; exact hlen), if_neg hq1]
                    have hdp := isInt_digs hi
                    have hdq := isInt_digs hd
                    have hq0 : dec Q2.data.toList ≠ 0 := fun e => hq1 (by rw [← decOf_dec hd, e, decOf_small (by omega)]; rfl)
                    have HD1 := Lib.hid (fun w => rvalue_any P2 w (by omega) hdp)
                    have HD2 := Lib.hid (fun w => rvalue_any Q2 w (by omega) hdq)
                    have z1 : sz (dec P2.data.toList) ≤ 2000 := by have := dec_bs hdp; exact sz_bs (by omega)
                    have z2 : sz (dec Q2.data.toList) ≤ 2000 := by have := dec_bs hdq; exact sz_bs (by omega)
                    have HQ0 := hide hq0
                    generalize hqq : mk neg (dec P2.data.toList) (dec Q2.data.toList) = q at *
                    have HQ := hide hqq
                    clear hdp hdq hlen hq0 hq1 hqq
                    go_wp2_with fail
                    refine (I2.out _).mono ?_
                    rintro e wD ⟨rfl, rfl⟩
                    go_wp2_with fail
                    refine (I3.out _).mono ?_
                    rintro e wD ⟨rfl, rfl⟩
                    go_wp2_with fail
                    refine (HD1.out _).mono ?_
                    rintro e wE hp
                    obtain ⟨A5, c5, rfl, HN5, hl5, hb5⟩ := LPost.out hp
                    clear hp
                    go_wp2_with fail
                    refine (HD2.out _).mono ?_
                    rintro e wF hp
                    obtain ⟨A6, c6, rfl, HN6, hl6, hb6⟩ := LPost.out hp
                    have HN7 := hide (HN5.out.next hb6)
                    have hb7 := below_next hb5 hb6
                    clear hp hb5 hb6
                    go_wp2_with fail
                    refine (rredq HQ.out HN7.out HN6.out (by omega) (by omega) HQ0.out).mono ?_
                    rintro e wI ⟨rfl, hb8⟩
                    have hb9 := below_next hb7 hb8
                    have HB9 := hide (HBX2.out.keep hb9 hszC)
                    obtain ⟨c0, c1, c2, f0, f1, f2⟩ := HB9.out
                    have hbf := HB2.out.trans (hb9.mono (Nat.le_of_lt hszC))
                    go_wp2_with fail
                    refine bodyPost_ret (results_rat2 rfl _ rfl (HB9.out.set3 _ _ _)) rfl ?_
                    refine ⟨?_, below_set3 hbf (Nat.le_refl _) _ _ _⟩
                    rw [hr.out]; rfl
                  · have hq1 : Q2.data.toList = [48] := by rw [tl] at hq; simpa using hq
                    have hr : Hid (readC neg bd.data.toList S1.data.toList F1.data.toList false P2.data.toList Q2.data.toList true = (0, 1)) := by
                      show _ = _
                      unfold readC
                      rw [if_neg (by simp), if_pos rfl, if_pos ⟨hi, hd⟩, if_neg (by rw [hz, hz]; exact hlen), if_pos hq1]
                    obtain ⟨c0, c1, c2, f0, f1, f2⟩ := HBX2.out
                    clear hq1 hlen
                    go_wp2_with fail
                    refine (I2.out _).mono ?_
                    rintro e wD ⟨rfl, rfl⟩
                    go_wp2_with fail
                    refine (I3.out _).mono ?_
                    rintro e wD ⟨rfl, rfl⟩
                    go_wp2_with fail
                    refine bodyPost_ret (results_rat2 rfl _ rfl (HBX2.out.set3 _ _ _)) rfl ?_
                    refine ⟨?_, below_set3 HB2.out (Nat.le_refl _) _ _ _⟩
                    rw [hr.out, enc_zero_val]; rfl
      · as_aux_lemma =>
          cases hi : isInt S1.data.toList
          · have hr : Hid (readC neg bd.data.toList S1.data.toList F1.data.toList true P2.data.toList Q2.data.toList sl = (0, 3)) := by
              show _ = _
              unfold readC; simp [hi]
            rw [hi] at I1
            obtain ⟨c0, c1, c2, f0, f1, f2⟩ := HBX2.out
            go_wp2_with fail
            refine (I1.out _).mono ?_
            rintro e wD ⟨rfl, rfl⟩
            go_wp2_with fail
            refine bodyPost_ret (results_rat2 rfl _ rfl (HBX2.out.set3 _ _ _)) rfl ?_
            refine ⟨?_, below_set3 HB2.out (Nat.le_refl _) _ _ _⟩
            rw [hr.out, enc_zero_val]; rfl
          · rw [hi] at I1
            cases hd : someB F1.data.toList
            · have hr : Hid (readC neg bd.data.toList S1.data.toList F1.data.toList true P2.data.toList Q2.data.toList sl = (0, 3)) := by
                show _ = _
                unfold readC; simp [hi, hd]
              rw [hd] at D1
              obtain ⟨c0, c1, c2, f0, f1, f2⟩ := HBX2.out
              go_wp2_with fail
              refine (I1.out _).mono ?_
              rintro e wD ⟨rfl, rfl⟩
              go_wp2_with fail
              refine (D1.out _).mono ?_
              rintro e wD ⟨rfl, rfl⟩
              go_wp2_with fail
              refine bodyPost_ret (results_rat2 rfl _ rfl (HBX2.out.set3 _ _ _)) rfl ?_
              refine ⟨?_, below_set3 HB2.out (Nat.le_refl _) _ _ _⟩
              rw [hr.out, enc_zero_val]; rfl
            · rw [hd] at D1
              by_cases hlen : 2000 < S1.size ∨ 2000 < F1.size
              · have hr : Hid (readC neg bd.data.toList S1.data.toList F1.data.toList true P2.data.toList Q2.data.toList sl = (0, 2)) := by
                  show _ = _
                  unfold readC
                  rw [if_pos rfl, if_pos ⟨hi, hd⟩, if_pos (by rw [hz, hz]; exact hlen)]
                obtain ⟨c0, c1, c2, f0, f1, f2⟩ := HBX2.out
                by_cases hl1 : 2000 < S1.size
                all_goals
                  go_wp2_with fail
                  refine (I1.out _).mono ?_
                  rintro e wD ⟨rfl, rfl⟩
                  go_wp2_with fail
                  refine (D1.out _).mono ?_
                  rintro e wD ⟨rfl, rfl⟩
                  go_wp2_with fail
                  refine bodyPost_ret (results_rat2 rfl _ rfl (HBX2.out.set3 _ _ _)) rfl ?_
                  refine ⟨?_, below_set3 HB2.out (Nat.le_refl _) _ _ _⟩
                  rw [hr.out, enc_zero_val]; rfl
              · as_aux_lemma =>
                  have hl1 : ¬ 2000 < S1.size := fun h => hlen (.inl h)
                  have hl2 : ¬ 2000 < F1.size := fun h => hlen (.inr h)
                  have hr : Hid (readC neg bd.data.toList S1.data.toList F1.data.toList true P2.data.toList Q2.data.toList sl = (mk neg (dec S1.data.toList * 10 ^ F1.size + dec F1.data.toList) (10 ^ F1.size), 0)) := by
                    show _ = _
                    unfold readC
                    rw [if_pos rfl, if_pos ⟨hi, hd⟩, if_neg (by rw [hz, hz]; exact hlen), hz]
                  have hdf := (some_pos hd).2
                  have hds := isInt_digs hi
                  have b1 := dec_bs hds
                  have b2 := dec_bs hdf
                  have HZT : Hid (∀ k, k ≤ 2000 → sz (10 ^ k) ≤ 600) := fun k hk => by
                    have := ten_size k
                    exact sz_bs (by omega)
                  have b5 : (bs (dec S1.data.toList * 10 ^ F1.size + dec F1.data.toList)).size ≤ S1.size + F1.size + 1 := by
                    refine bs_pow ?_
                    have h1 := dec_lt hds
                    have h2 := dec_lt hdf
                    rw [hz] at h1 h2
                    have h3 : dec S1.data.toList * 10 ^ F1.size < 10 ^ (S1.size + F1.size) := by
                      rw [Nat.pow_add]
                      exact Nat.mul_lt_mul_of_pos_right h1 (Nat.pow_pos (by omega))
                    have h4 : 10 ^ F1.size ≤ 10 ^ (S1.size + F1.size) := Nat.pow_le_pow_right (by omega) (by omega)
                    rw [Nat.pow_succ]
                    omega
                  have z1 : sz (dec S1.data.toList * 10 ^ F1.size + dec F1.data.toList) ≤ 2000 := sz_bs (by omega)
                  have hapl : (S1 ++ F1).data.toList = S1.data.toList ++ F1.data.toList := by simp
                  have HD1 := Lib.hid (fun w => rvalue_any (S1 ++ F1) w (by rw [ByteArray.size_append]; omega) (by rw [hapl, digs_app, hds, hdf]; rfl))
                  rw [hapl, dec_append, hz, Nat.mul_comm] at HD1
                  have HT0 : Hid (10 ^ F1.size ≠ 0) := by have : 0 < 10 ^ F1.size := Nat.pow_pos (by omega); show _ ≠ _; omega
                  generalize hqq : mk neg (dec S1.data.toList * 10 ^ F1.size + dec F1.data.toList) (10 ^ F1.size) = q at *
                  have HQ := hide hqq
                  generalize dec S1.data.toList * 10 ^ F1.size + dec F1.data.toList = N at *
                  obtain ⟨V6, hV6, HO6, hb6⟩ := new_one wC
                  have HBX6 := hide (HBX2.out.keep hb6 HBX2.out.lt)
                  have HB6 := hide (HB2.out.trans (hb6.mono HB2.out.size))
                  clear b1 b2 b5 hapl hdf hds hlen hqq hb6 HBX2 HB2
                  go_wp2_with fail
                  refine (I1.out _).mono ?_
                  rintro e wD ⟨rfl, rfl⟩
                  go_wp2_with fail
                  refine (D1.out _).mono ?_
                  rintro e wD ⟨rfl, rfl⟩
                  go_wp2_with fail
                  go_loopw [11, 12] (fun va vi wr => ∃ (k m : Nat) (A : Option Addr) (c : Nat), va = .slice A m c ∧ vi = .int .i64 k ∧ k ≤ F1.size ∧ m ≤ 1000000 ∧ Hid ((limbs (10 ^ k)).length = m) ∧ Hid (NAt wr A c (10 ^ k)) ∧ Below V6.heap.size V6 wr) (fun _ vi _ => F1.size - (intOf vi).toNat)
                  case atStart => exact ⟨0, 1, _, 1, rfl, rfl, by omega, by omega, len_one, HO6, Below.refl _ _⟩
                  case round =>
                    obtain ⟨k, m, A, c, rfl, rfl, hk, hm, HM, HA, hbr⟩ := hrel
                    by_cases hlt : k < F1.size
                    · obtain ⟨V, hV, hone, hbv⟩ := new_ten wr
                      have hAV := HA.out.next hbv
                      have htm := rtimesq hAV hone.out (by have := HZT.out k (by omega); omega) (Nat.le_trans (sz_small (by decide)) (by decide))
                      rw [HM.out, len_ten, ← Nat.pow_succ] at htm
                      have HTM := hide htm
                      have HBV := hide (hbr.trans (hbv.mono hbr.size))
                      have hl2 : (limbs (10 ^ (k + 1))).length ≤ 600 := HZT.out (k + 1) (by omega)
                      clear htm hone hbv hAV
                      go_wp2_with fail
                      refine HTM.out.mono ?_
                      rintro e w5 ⟨A2, c2, rfl, h1, h2, h3, h4⟩
                      have HA2 : Hid (NAt w5 A2 c2 (10 ^ (k + 1))) := ⟨h3, h1, h2⟩
                      have hbf := HBV.out.trans (h4.mono HBV.out.size)
                      clear h1 h2 h3 h4
                      go_wp2_with fail
                      go_roundw
                      case rel => exact ⟨k + 1, _, A2, c2, rfl, by go_num, by omega, by omega, rfl, HA2, hbf⟩
                      case measure => simp [intOf]; omega
                    · have hkp : k = F1.size := by omega
                      have HK := hide hkp
                      have HBX7 := hide (HBX6.out.keep hbr HBX6.out.lt)
                      have HB7 := hide (HB6.out.trans (hbr.mono HB6.out.size))
                      have hszk := HZT.out k (by omega)
                      clear hkp hbr HBX6 HB6 HZT
                      go_wp2_with fail
                      refine (HD1.out _).mono ?_
                      rintro e w8 hp
                      obtain ⟨A5, c5, rfl, HN5, hl5, hb5⟩ := LPost.out hp
                      have HST := strip_any (limbs N) A5 c5 w8 HN5.out.1 HN5.out.2.1
                      rw [lval_limbs] at HST
                      have HST2 := hide HST
                      have HA8 := hide (HA.out.next hb5)
                      have HBX8 := hide (HBX7.out.keep hb5 HBX7.out.lt)
                      have HB8 := hide (HB7.out.trans (hb5.mono HB7.out.size))
                      clear hp HST hb5 HBX7 HB7
                      go_wp2_with fail
                      refine HST2.out.mono ?_
                      rintro e w9 ⟨rfl, rfl⟩
                      have hrd := rredq (A := A5) (c := c5) (B := A) (c' := c) (w := w8) HQ.out HN5.out (by rw [← HK.out]; exact HA8.out) (by omega) (by rw [← HK.out]; omega) HT0.out
                      rw [← HK.out, HM.out] at hrd
                      have HRD := hide hrd
                      clear hrd
                      go_wp2_with fail
                      refine HRD.out.mono ?_
                      rintro e wI ⟨rfl, hb9⟩
                      have HBX9 := hide (HBX8.out.keep hb9 HBX8.out.lt)
                      obtain ⟨c0, c1, c2, f0, f1, f2⟩ := HBX9.out
                      have hbf := HB8.out.trans (hb9.mono HB8.out.size)
                      go_wp2_with fail
                      refine bodyPost_ret (results_rat2 rfl _ rfl (HBX9.out.set3 _ _ _)) rfl ?_
                      refine ⟨?_, below_set3 hbf (Nat.le_refl _) _ _ _⟩
                      rw [hr.out]; rfl
end Go.Proofs.YtghbhchkdomfhaaGreatDoor.RtL
