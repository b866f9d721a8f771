/- RtE, RtG, RtH, RtI, RtJ, RtK, RtL, in one text. -/
import Derived.Test.YtpbgmpjnfndfjaaGreatDoorRK
import Derived.Test.YtpbgmpjnfndfjaaGreatDoorRP
import Derived.Test.YtpbgmpjnfndfjaaGreatDoorQmx
namespace Go.Proofs.YtpbgmpjnfndfjaaGreatDoor.RtE
theorem here : True := trivial
open Go.RowKit RnA RnB RnS RnC RnK RnM RnL RnN RnD RnE RnQ RnR RnP RnW RnX RoA RoB RoC RoD RoE RoF RoG RoH RoI RoJ RoK RoL RoM RoN PnA PnB PnC PnD PnE PnF PnG PnH PnI PnJ PnK PnL RtA RtB RtC RpA RpB RpC RpD RpE RpF RpG RpH
end Go.Proofs.YtpbgmpjnfndfjaaGreatDoor.RtE
namespace Go.Proofs.YtpbgmpjnfndfjaaGreatDoor.RtG
theorem here : True := trivial
open Go.RowKit RnA RnB RnS RnC RnK RnM RnL RnN RnD RnE RnQ RnR RnG RnP RnW RnX RoA RoB RoC RoD RoE RoF RoG RoH RoI RoJ RoK RoL RoM RoN PnA PnB PnC PnD PnE PnF PnG PnH PnI PnJ PnK PnL RtA RtB RtC RtE RpA RpB RpC RpD RpE RpF RpG RpH RnY RpI RpJ RpK RpL
theorem rlimbsq (x : Nat) (w : World) (h : (bs x).size ≤ 1000000000000) : Calls Tryz.prog 155 #[.string (bs x)] w (LPost (limbs x) w) := by
  have h1 := rlimbs_any (bs x) w h
  rwa [nv_bs] at h1
theorem rredq {s : Bool} {x y : Nat} {q : Rat} (hq : mk s x y = q) {A B : Option Addr} {c c' : Nat} {w : World} (ha : NAt w A c x) (hb : NAt w B c' y) (hx : sz x ≤ 100000000000) (hy : sz y ≤ 100000000000) (h0 : y ≠ 0) :
    Calls Tryz.prog 156 #[.bool s, .slice A (limbs x).length c, .slice B (limbs y).length c'] w fun e w' => e = .returned (.agg #[.bool (negB q), .string (bs (nm q)), .string (dstr q)]) ∧ Below w.heap.size w w' := by
  have h := rreduced_any s x y A B c c' w ha hb hx hy h0
  rw [hq] at h
  exact h
theorem LPost.out {x : Nat} {w : World} {e : Ending} {w' : World} (h : LPost (limbs x) w e w') : ∃ A c, e = .returned (.slice A (limbs x).length c) ∧ Hid (NAt w' A c x) ∧ (limbs x).length ≤ 9223372036854775807 ∧ Below w.heap.size w w' := by
  obtain ⟨A, c, h1, h2, h3, h4, h5⟩ := h
  exact ⟨A, c, h1, ⟨h4, h2, h3⟩, h4.len, h5⟩
theorem sz_bs {x k : Nat} (h : (bs x).size ≤ 4 * k) : sz x ≤ k := by have := nv_le h; rwa [nv_bs] at this
/-- the worlds behind a world -/
abbrev Beh (W : World) (w' : World) : Prop := ∃ x : Qin.In (Below W.heap.size W), w' = x.val
theorem beh {W w' : World} (h : Below W.heap.size W w') : Beh W w' := ⟨⟨w', h⟩, rfl⟩
theorem draw_below (W : World) : Below W.heap.size W { W with drawn := W.drawn + 1 } := Qin.start _ W
end Go.Proofs.YtpbgmpjnfndfjaaGreatDoor.RtG
namespace Go.Proofs.YtpbgmpjnfndfjaaGreatDoor.RtH
theorem here : True := trivial
open Go.RowKit RnA RnB RnS RnC RnK RnM RnL RnN RnD RnE RnQ RnR RnG RnP RnW RnX RoA RoB RoC RoD RoE RoF RoG RoH RoI RoJ RoK RoL RoM RoN PnA PnB PnC PnD PnE PnF PnG PnH PnI PnJ PnK PnL RtA RtB RtC RtE RtG RpA RpB RpC RpD RpE RpF RpG RpH RnY RpI RpJ RpK RpL
set_option maxHeartbeats 1000000000000 in
set_option maxRecDepth 100000000000 in
theorem rsignum_q (q : Rat) (w : World) :
    Calls Tryz.prog 176 #[.agg #[.bool (negB q), .string (bs (nm q)), .string (dstr q)]] w fun e w' => e = .returned (.int .i64 (sgnQ q)) ∧ Below w.heap.size w w' := by
  have hs := hide (sgnB_eq q)
  generalize sgnQ q = s at *
  generalize negB q = n at *
  generalize dstr q = D at *
  generalize bs (nm q) = t at *
  obtain ⟨V0, hV0, HX0, hc0, hl0⟩ := box_new w (.bool n) (.string t) (.string D)
  obtain ⟨c0, c1, c2, _⟩ := HX0.out
  by_cases h0 : 0 < t.size
  · obtain ⟨e1, e2⟩ := str_ne h0
    cases n
    · have hr : Hid (s = 1) := by show _ = _; rw [← hs.out]; unfold sgnB; rw [if_neg (by omega)]; rfl
      go_enter Tryz.func176, Tryz.ntmps176
      go_wp2_with fail
      go_ret
      exact ⟨by rw [hr.out]; rfl, hc0⟩
    · have hr : Hid (s = -1) := by show _ = _; rw [← hs.out]; unfold sgnB; rw [if_neg (by omega)]; rfl
      go_enter Tryz.func176, Tryz.ntmps176
      go_wp2_with fail
      go_ret
      exact ⟨by rw [hr.out]; rfl, hc0⟩
  · obtain ⟨e1, e2⟩ := str_em (s := t) (by omega)
    have hr : Hid (s = 0) := by show _ = _; rw [← hs.out]; unfold sgnB; rw [if_pos (by omega)]
    go_enter Tryz.func176, Tryz.ntmps176
    go_wp2_with fail
    go_ret
    exact ⟨by rw [hr.out]; rfl, hc0⟩
set_option maxHeartbeats 1000000000000 in
set_option maxRecDepth 100000000000 in
theorem rsign_any (n : Bool) (a d : ByteArray) (w : World) (ha : a.size ≤ 100000000000) (hd : d.size ≤ 100000000000) :
    Calls Tryz.prog 143 #[.agg #[.bool n, .string a, .string d]] w fun e w' => e = .returned (.int .i64 (sgnQ (fixQ n a.data.toList d.data.toList))) ∧ Below w.heap.size w w' := by
  have HC := Lib.hid (fun w => rfix_any n a d w ha hd)
  generalize fixQ n a.data.toList d.data.toList = q at *
  rw [enc_open] at HC
  have HS := Lib.hid (fun w => rsignum_q q w)
  obtain ⟨V0, hV0, HX0, hc0, hl0⟩ := box_new w (.bool n) (.string a) (.string d)
  obtain ⟨c0, c1, c2, _⟩ := HX0.out
  go_enter Tryz.func143, Tryz.ntmps143
  go_wp2_with fail
  refine (HC.out _).mono ?_
  rintro e w1 ⟨rfl, hb1⟩
  have HB1 := hc0.trans (hb1.mono hc0.size)
  go_wp2_with fail
  refine (HS.out _).mono ?_
  rintro e w2 ⟨rfl, hb2⟩
  go_wp2_with fail
  go_ret
  exact ⟨rfl, HB1.trans (hb2.mono HB1.size)⟩
end Go.Proofs.YtpbgmpjnfndfjaaGreatDoor.RtH
namespace Go.Proofs.YtpbgmpjnfndfjaaGreatDoor.RtI
theorem here : True := trivial
open Go.RowKit RnA RnB RnS RnC RnK RnM RnL RnN RnD RnE RnQ RnR RnG RnP RnW RnX RoA RoB RoC RoD RoE RoF RoG RoH RoI RoJ RoK RoL RoM RoN PnA PnB PnC PnD PnE PnF PnG PnH PnI PnJ PnK PnL RtA RtB RtC RtE RtG RtH RpA RpB RpC RpD RpE RpF RpG RpH RnY RpI RpJ RpK RpL
theorem rorderq {x y : Nat} {A B : Option Addr} {c c' : Nat} {w : World} (ha : NAt w A c x) (hb : NAt w B c' y) :
    Calls Tryz.prog 233 #[.slice A (limbs x).length c, .slice B (limbs y).length c'] w fun e w' => e = .returned (.int .i64 (cmpN x y)) ∧ Below w.heap.size w w' := rorder_any x y A B c c' w ha.1 hb.1
theorem over_same {a b : Rat} (h : negB a = negB b) : mk (negB a) (nm a * b.den + nm b * a.den) (a.den * b.den) = a + b := by
  rw [← mk_add_eq _ _ _ _ (Nat.mul_ne_zero a.den_nz b.den_nz), (over_prod a b).1, h, (over_prod a b).2]
theorem over_ge {a b : Rat} (h : negB a ≠ negB b) (hle : nm b * a.den ≤ nm a * b.den) : mk (negB a) (nm a * b.den - nm b * a.den) (a.den * b.den) = a + b := by
  rw [← mk_add_ge h _ _ _ (Nat.mul_ne_zero a.den_nz b.den_nz) hle, (over_prod a b).1, (over_prod a b).2]
theorem over_lt {a b : Rat} (h : negB a ≠ negB b) (hlt : nm a * b.den < nm b * a.den) : mk (negB b) (nm b * a.den - nm a * b.den) (a.den * b.den) = a + b := by
  rw [← mk_add_lt h _ _ _ (Nat.mul_ne_zero a.den_nz b.den_nz) hlt, (over_prod a b).1, (over_prod a b).2]
theorem sz_sub {x y k : Nat} (h : sz x ≤ k) : sz (x - y) ≤ k := sz_le (Nat.lt_of_le_of_lt (Nat.sub_le x y) (Nat.lt_of_lt_of_le (sz_lt x) (Nat.pow_le_pow_right (by omega) h)))
theorem sz_add1 {x y k : Nat} (h1 : sz x ≤ k) (h2 : sz y ≤ k) : sz (x + y) ≤ k + 1 := by
  have e1 := Nat.lt_of_lt_of_le (sz_lt x) (Nat.pow_le_pow_right (n := 4294967296) (by omega) h1)
  have e2 := Nat.lt_of_lt_of_le (sz_lt y) (Nat.pow_le_pow_right (n := 4294967296) (by omega) h2)
  refine sz_le ?_
  rw [Nat.pow_succ]
  omega
end Go.Proofs.YtpbgmpjnfndfjaaGreatDoor.RtI
namespace Go.Proofs.YtpbgmpjnfndfjaaGreatDoor.RtJ
theorem here : True := trivial
open Go.RowKit RnA RnB RnS RnC RnK RnM RnL RnN RnD RnE RnQ RnR RnG RnP RnW RnX RoA RoB RoC RoD RoE RoF RoG RoH RoI RoJ RoK RoL RoM RoN PnA PnB PnC PnD PnE PnF PnG PnH PnI PnJ PnK PnL RtA RtB RtC RtE RtG RtH RtI RpA RpB RpC RpD RpE RpF RpG RpH RnY RpI RpJ RpK RpL
theorem fix_in (n : Bool) (a d : ByteArray) (q : Rat) (hq : fixQ n a.data.toList d.data.toList = q) (W : World) (v : Qin.In (Below W.heap.size W)) (ha : a.size ≤ 100000000000) (hd : d.size ≤ 100000000000) : Calls Tryz.prog 177 #[.agg #[.bool n, .string a, .string d]] v.val fun e w' => e = .returned (.agg #[.bool (negB q), .string (bs (nm q)), .string (dstr q)]) ∧ ∃ y : Qin.In (Below W.heap.size W), w' = y.val :=
  Qin.call ((rfix_any n a d v.val ha hd).mono fun _ _ ⟨h1, h2⟩ => ⟨by rw [h1, hq, enc_open], v.ok.trans (h2.mono v.ok.size)⟩)
theorem minQ_b {a b : Rat} (h : cmpQ b a < 0) : minQ a b = b := by
  unfold minQ
  rw [if_neg]
  unfold cmpQ at h ⊢
  split at h
  · split
    · grind
    · split <;> grind
  · split at h <;> omega
theorem minQ_a {a b : Rat} (h : ¬ cmpQ b a < 0) : minQ a b = a := by
  unfold minQ
  rw [if_pos]
  unfold cmpQ at h ⊢
  split at h
  · omega
  · split
    · omega
    · split
      · omega
      · grind
theorem maxQ_b {a b : Rat} (h : cmpQ a b < 0) : maxQ a b = b := by unfold maxQ; rw [if_neg (by omega)]
theorem maxQ_a {a b : Rat} (h : ¬ cmpQ a b < 0) : maxQ a b = a := by unfold maxQ; rw [if_pos (by omega)]
theorem signum_in (q : Rat) (W : World) (v : Qin.In (Below W.heap.size W)) : Calls Tryz.prog 176 #[.agg #[.bool (negB q), .string (bs (nm q)), .string (dstr q)]] v.val fun e w' => e = .returned (.int .i64 (sgnQ q)) ∧ ∃ y : Qin.In (Below W.heap.size W), w' = y.val :=
  Qin.call ((rsignum_q q v.val).mono fun _ _ ⟨h1, h2⟩ => ⟨h1, v.ok.trans (h2.mono v.ok.size)⟩)
end Go.Proofs.YtpbgmpjnfndfjaaGreatDoor.RtJ
namespace Go.Proofs.YtpbgmpjnfndfjaaGreatDoor.RtK
theorem here : True := trivial
open Go.RowKit RnA RnB RnS RnC RnK RnM RnL RnN RnD RnE RnQ RnR RnG RnP RnW RnX RoA RoB RoC RoD RoE RoF RoG RoH RoI RoJ RoK RoL RoM RoN PnA PnB PnC PnD PnE PnF PnG PnH PnI PnJ PnK PnL RtA RtB RtC RtE RtG RtH RtI RtJ RpA RpB RpC RpD RpE RpF RpG RpH RnY RpI RpJ RpK RpL
/-- a row of one limb of the walk's own -/
theorem one_row (w : World) (x T : Nat) (h0 : x ≠ 0) (h : x < 4294967296) : NAt (w.alloc (.cells #[.int .u32 (x : Int)] T)) (some ⟨w.heap.size, 0, none⟩) 1 x := by
  refine ⟨?_, by rw [limbs_one h0 h]; exact Nat.le_refl _, by decide⟩
  rw [limbs_one h0 h]
  refine ⟨fun y hy => by simp at hy; omega, by show 1 ≤ maxLen; decide, fun _ => ⟨w.heap.size, 0, rfl, by simp, fun k y hk => ?_⟩⟩
  match k, hk with
  | 0, hk =>
    simp at hk
    subst hk
    simp [go_sem]
  | k + 1, hk => simp at hk
theorem len_one : (limbs 1).length = 1 := by rw [limbs_one (by decide) (by decide)]; rfl
theorem len_ten : (limbs 10).length = 1 := by rw [limbs_one (by decide) (by decide)]; rfl
theorem new_one (w : World) : ∃ V, w.alloc (.cells #[.int .u32 1] 219) = V ∧ Hid (NAt V (some ⟨w.heap.size, 0, none⟩) 1 1) ∧ Below w.heap.size w V :=
  ⟨_, rfl, one_row w 1 _ (by decide) (by decide), (Below.refl _ _).alloc (Nat.le_refl _) _⟩
theorem new_ten (w : World) : ∃ V, w.alloc (.cells #[.int .u32 10] 219) = V ∧ Hid (NAt V (some ⟨w.heap.size, 0, none⟩) 1 10) ∧ Below w.heap.size w V :=
  ⟨_, rfl, one_row w 10 _ (by decide) (by decide), (Below.refl _ _).alloc (Nat.le_refl _) _⟩
theorem rdivq {x y : Nat} {A B : Option Addr} {c c' : Nat} {w : World} (ha : NAt w A c x) (hb : NAt w B c' y) (hx : sz x ≤ 100000000000) (hy : y ≠ 0) :
    Calls Tryz.prog 199 #[.slice A (limbs x).length c, .slice B (limbs y).length c'] w (QPost (x / y) (x % y) w) := rdivide_any x y _ _ A B c c' w ha.1 hb.1 rfl rfl ha.2.1 ha.2.2 hx hy
theorem QPost.out {q r : Nat} {w : World} {e : Ending} {w' : World} (h : QPost q r w e w') : ∃ A c A' c', e = .returned (.tuple #[.slice A (limbs q).length c, .slice A' (limbs r).length c']) ∧ Hid (NAt w' A c q) ∧ (limbs q).length ≤ 9223372036854775807 ∧ (limbs r).length ≤ 9223372036854775807 ∧ Below w.heap.size w w' := by
  obtain ⟨A, c, A', c', h1, h2, h3, h4, h5, h6, h7, h8⟩ := h
  exact ⟨A, c, A', c', h1, ⟨h6, h2, h3⟩, h6.len, h7.len, h8⟩
theorem mod_ne {q : Rat} (h : q.den ≠ 1) : nm q % q.den ≠ 0 := by
  intro h0
  have hr : (nm q).gcd q.den = 1 := q.reduced
  have hd := Nat.dvd_of_mod_eq_zero h0
  rw [Nat.gcd_eq_right hd] at hr
  exact h hr
theorem floor_one {q : Rat} (h : q.den = 1) : mk (negB q) (floorN q) 1 = q := by
  unfold floorN
  rw [h, Nat.div_one, Nat.mod_one, if_neg (by simp), Nat.add_zero]
  have := mk_nm q
  rwa [h] at this
theorem floor_neg {q : Rat} (h : q.den ≠ 1) (hn : negB q = true) : floorN q = nm q / q.den + 1 := by
  unfold floorN
  rw [if_pos ⟨hn, mod_ne h⟩]
theorem floor_pos {q : Rat} (hn : negB q = false) : floorN q = nm q / q.den := by
  unfold floorN
  rw [if_neg (by rw [hn]; simp), Nat.add_zero]
end Go.Proofs.YtpbgmpjnfndfjaaGreatDoor.RtK
namespace Go.Proofs.YtpbgmpjnfndfjaaGreatDoor.RtL
theorem here : True := trivial
open Go.RowKit RnA RnB RnS RnC RnK RnM RnL RnN RnD RnE RnQ RnR RnG RnP RnW RnX RoA RoB RoC RoD RoE RoF RoG RoH RoI RoJ RoK RoL RoM RoN PnA PnB PnC PnD PnE PnF PnG PnH PnI PnJ PnK PnL RtA RtB RtC RtE RtG RtH RtI RtJ RtK RpA RpB RpC RpD RpE RpF RpG RpH RnY RpI RpJ RpK RpL
theorem head_minus {s : ByteArray} (h : 0 < s.size) : s.data.toList = s[0] :: (s.extract 1 s.size).data.toList := by
  rw [drop_bytes]
  exact byte0 h
theorem c45 {c : UInt8} : ((c.toNat : Int) == 45) = (c == 45) := by
  by_cases h : c = 45
  · subst h; rfl
  · have h1 : (c == 45) = false := by simpa using h
    rw [h1]
    have h2 : c.toNat ≠ 45 := fun e => h (UInt8.toNat_inj.1 (by rw [e]; rfl))
    have h3 : ¬ (c.toNat : Int) = 45 := by omega
    simpa using h3
def bodyOf (l : List UInt8) : List UInt8 := if l.head? = some 45 then l.tail else l
def negOf (l : List UInt8) : Bool := decide (l.head? = some 45)
theorem parse_body (l : List UInt8) : parseQ l = readQ (negOf l) (bodyOf l) := by
  unfold parseQ negOf bodyOf
  by_cases h : l.head? = some 45
  · rw [if_pos h, if_pos h, decide_eq_true h]
  · rw [if_neg h, if_neg h, decide_eq_false h]
theorem body_len (l : List UInt8) : (bodyOf l).length ≤ l.length := by
  unfold bodyOf
  split
  · rw [List.length_tail]; omega
  · exact Nat.le_refl _
end Go.Proofs.YtpbgmpjnfndfjaaGreatDoor.RtL
