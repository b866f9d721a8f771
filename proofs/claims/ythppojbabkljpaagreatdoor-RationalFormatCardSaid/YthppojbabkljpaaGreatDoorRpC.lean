/- The walks of the program's Make, magnitude, Int, Fraction. -/
import Derived.Test.YthppojbabkljpaaGreatDoorRpB
namespace Go.Proofs.YthppojbabkljpaaGreatDoor.RpC
open Go.RowKit RnA RnB RnS RnC RnK RnM RnL RnN RnD RnE RnQ RnR RnP RnW RnX RoA RoB RoC RoD RoE RoF RoG RoH RoI RoJ RoK RoL RoM RoN PnA PnB PnC PnD PnE PnG PnH PnI PnJ RtA RpA RpB
def makeQ (s : Bool) (x y : Nat) : Rat × Bool := if y = 0 then (0, false) else (mk s x y, true)
/-- a function that answers a rational number and whether there is one -/
def RBPost (p : Rat × Bool) (w : World) (e : Ending) (w' : World) : Prop := e = .returned (.tuple #[enc p.1, .bool p.2]) ∧ Below w.heap.size w w'
theorem enc_open (q : Rat) : enc q = .agg #[.bool (negB q), .string (bs (nm q)), .string (dstr q)] := rfl
set_option maxHeartbeats 2000000 in
set_option maxRecDepth 100000 in
theorem make_any (s : Bool) (num den : ByteArray) (w : World) (h1 : num.size ≤ 100000) (h2 : den.size ≤ 100000) :
    Calls Tryz.prog 83 #[.bool s, .string num, .string den] w (RBPost (makeQ s (nv num) (nv den)) w) := by
  have N2 := Lib.hid (fun w => norm_any den w (by omega))
  have HR : Hid (nv den ≠ 0 → ∀ w, Calls Tryz.prog 62 #[.bool s, .string num, .string den] w (RPost (mk s (nv num) (nv den)) w)) := fun h w => reduced_any s num den w h1 h2 h
  generalize nv num = x at *
  generalize nv den = y at *
  obtain ⟨hbx, hb0, hbl⟩ := res_start w
  have HBX := hide hbx
  have HB0 := hide hb0
  clear hbx hb0 h1 h2
  generalize hW : w.alloc (.cells #[.bool false, .string ⟨#[]⟩, .string ⟨#[]⟩] 24) = W at HBX HB0 hbl
  by_cases hy : y = 0
  · have hr : Hid (makeQ s x y = (0, false)) := by show _ = _; unfold makeQ; rw [if_pos hy]
    rw [hy, bs0] at N2
    obtain ⟨c0, c1, c2, f0, f1, f2⟩ := HBX.out
    go_enter Tryz.func83, Tryz.ntmps83
    go_wp2_with fail
    refine (N2.out _).mono ?_
    rintro e w1 ⟨rfl, rfl⟩
    go_wp2_with fail
    refine bodyPost_ret (results_rat2 rfl _ rfl (HBX.out.set3 _ _ _)) rfl ?_
    refine ⟨?_, below_set3 HB0.out (Nat.le_refl _) _ _ _⟩
    rw [hr.out, enc_zero_val]; rfl
  · have hr : Hid (makeQ s x y = (mk s x y, true)) := by show _ = _; unfold makeQ; rw [if_neg hy]
    obtain ⟨e1, e2⟩ := str_ne (bytes_ne_nil hy)
    have HR2 := Lib.hid (HR.out hy)
    unfold RPost at HR2
    rw [enc_open] at HR2
    generalize bs y = u at *
    clear hy
    go_enter Tryz.func83, Tryz.ntmps83
    go_wp2_with fail
    refine (N2.out _).mono ?_
    rintro e w1 ⟨rfl, rfl⟩
    go_wp2_with fail
    refine (HR2.out _).mono ?_
    rintro e w1 ⟨rfl, hb1⟩
    have HB1 := hide (HBX.out.keep hb1 hbl)
    obtain ⟨c0, c1, c2, f0, f1, f2⟩ := HB1.out
    have hbf := HB0.out.trans (hb1.mono (Nat.le_of_lt hbl))
    go_wp2_with fail
    refine bodyPost_ret (results_rat2 rfl _ rfl (HB1.out.set3 _ _ _)) rfl ?_
    refine ⟨?_, below_set3 hbf (Nat.le_refl _) _ _ _⟩
    rw [hr.out]; rfl
def In64 (n : Int) : Prop := -9223372036854775808 ≤ n ∧ n ≤ 9223372036854775807
set_option maxHeartbeats 2000000 in
set_option maxRecDepth 100000 in
theorem mag_any (n : Int) (w : World) (hn : In64 n) :
    Calls Tryz.prog 84 #[.int .i64 n] w (SPost (bs n.natAbs) w) := by
  obtain ⟨h1, h2⟩ := hn
  have HF := Lib.hid (fun w => from_any n.natAbs w (by omega))
  by_cases hneg : n < 0
  · have e : ((n.natAbs : Nat) : Int) = -n := by omega
    rw [e] at HF
    generalize bs n.natAbs = t at *
    have p1 : IntKind.u64.wrap (-IntKind.u64.wrap n) = -n := by rw [IntKind.wrap_u64, IntKind.wrap_u64]; omega
    clear e
    go_enter Tryz.func84, Tryz.ntmps84
    go_wp2_with fail
    refine (HF.out _).mono ?_
    rintro e w1 ⟨rfl, hb1⟩
    go_wp2_with fail
    go_ret
    exact ⟨rfl, hb1⟩
  · have e : ((n.natAbs : Nat) : Int) = n := by omega
    rw [e] at HF
    generalize bs n.natAbs = t at *
    clear e
    go_enter Tryz.func84, Tryz.ntmps84
    go_wp2_with fail
    refine (HF.out _).mono ?_
    rintro e w1 ⟨rfl, hb1⟩
    go_wp2_with fail
    go_ret
    exact ⟨rfl, hb1⟩
theorem abs_size {n : Int} (h : In64 n) : (bs n.natAbs).size ≤ 8 := by
  rw [bs_size]
  refine bytesOf_len_le (Nat.lt_of_lt_of_le (m := 18446744073709551616) ?_ (by decide))
  obtain ⟨h1, h2⟩ := h
  omega
/-- an integer as a rational number -/
def intQ (n : Int) : Rat := mk (decide (n < 0)) n.natAbs 1
set_option maxHeartbeats 2000000 in
set_option maxRecDepth 100000 in
theorem int_any (n : Int) (w : World) (hn : In64 n) :
    Calls Tryz.prog 27 #[.int .i64 n] w (RPost (intQ n) w) := by
  have HM := Lib.hid (fun w => mag_any n w hn)
  have hs := abs_size hn
  have HR := Lib.hid (fun w => reduced_any (decide (n < 0)) (bs n.natAbs) ⟨#[1]⟩ w (by omega) (by decide) (by decide))
  rw [nv_bs, show nv ⟨#[1]⟩ = 1 from rfl] at HR
  unfold RPost at HR
  have hr : Hid (enc (intQ n) = enc (mk (decide (n < 0)) n.natAbs 1)) := rfl
  rw [enc_open (mk (decide (n < 0)) n.natAbs 1)] at HR hr
  obtain ⟨h1, h2⟩ := hn
  obtain ⟨hbx, hb0, hbl⟩ := res_start w
  have HBX := hide hbx
  have HB0 := hide hb0
  generalize hq : mk (decide (n < 0)) n.natAbs 1 = q at *
  generalize bs n.natAbs = t at *
  generalize intQ n = q0 at *
  clear hbx hb0 hs hq
  generalize hW : w.alloc (.cells #[.bool false, .string ⟨#[]⟩, .string ⟨#[]⟩] 24) = W at HBX HB0 hbl
  go_enter Tryz.func27, Tryz.ntmps27
  go_wp2_with fail
  refine (HM.out _).mono ?_
  rintro e w1 ⟨rfl, hb1⟩
  go_wp2_with fail
  refine (HR.out _).mono ?_
  rintro e w2 ⟨rfl, hb2⟩
  have hb4 := below_next hb1 hb2
  have HB1 := hide (HBX.out.keep hb4 hbl)
  obtain ⟨c0, c1, c2, f0, f1, f2⟩ := HB1.out
  have hbf := HB0.out.trans (hb4.mono (Nat.le_of_lt hbl))
  go_wp2_with fail
  refine bodyPost_ret (results_rat rfl _ rfl (HB1.out.set3 _ _ _)) rfl ?_
  refine ⟨?_, below_set3 hbf (Nat.le_refl _) _ _ _⟩
  rw [hr.out]
set_option maxHeartbeats 2000000 in
set_option maxRecDepth 100000 in
theorem fraction_any (a b : Int) (w : World) (ha : In64 a) (hb : In64 b) :
    Calls Tryz.prog 25 #[.int .i64 a, .int .i64 b] w (RBPost (makeQ (decide (a < 0) != decide (b < 0)) a.natAbs b.natAbs) w) := by
  have HM := Lib.hid (fun w => mag_any a w ha)
  have HN := Lib.hid (fun w => mag_any b w hb)
  have hs := abs_size ha
  have hs2 := abs_size hb
  have HR := Lib.hid (fun w => make_any (decide (a < 0) != decide (b < 0)) (bs a.natAbs) (bs b.natAbs) w (by omega) (by omega))
  rw [nv_bs, nv_bs] at HR
  obtain ⟨h1, h2⟩ := ha
  obtain ⟨h3, h4⟩ := hb
  obtain ⟨hbx, hb0, hbl⟩ := res_start w
  have HBX := hide hbx
  have HB0 := hide hb0
  generalize hp : makeQ (decide (a < 0) != decide (b < 0)) a.natAbs b.natAbs = p at *
  obtain ⟨q, ok⟩ := p
  unfold RBPost at HR ⊢
  have hr : Hid (enc q = enc q) := rfl
  simp only at HR hr ⊢
  rw [enc_open q] at HR
  generalize bs a.natAbs = t at *
  generalize bs b.natAbs = u at *
  clear hbx hb0 hs hs2 hp
  generalize hW : w.alloc (.cells #[.bool false, .string ⟨#[]⟩, .string ⟨#[]⟩] 24) = W at HBX HB0 hbl
  go_enter Tryz.func25, Tryz.ntmps25
  go_wp2_with fail
  refine (HM.out _).mono ?_
  rintro e w1 ⟨rfl, hb1⟩
  go_wp2_with fail
  refine (HN.out _).mono ?_
  rintro e w2 ⟨rfl, hb2⟩
  go_wp2_with fail
  refine (HR.out _).mono ?_
  rintro e w3 ⟨rfl, hb3⟩
  have hb4 := below_next hb1 (below_next hb2 hb3)
  have HB1 := hide (HBX.out.keep hb4 hbl)
  obtain ⟨c0, c1, c2, f0, f1, f2⟩ := HB1.out
  have hbf := HB0.out.trans (hb4.mono (Nat.le_of_lt hbl))
  go_wp2_with fail
  refine bodyPost_ret (results_rat2 rfl _ rfl (HB1.out.set3 _ _ _)) rfl ?_
  exact ⟨rfl, below_set3 hbf (Nat.le_refl _) _ _ _⟩
end Go.Proofs.YthppojbabkljpaaGreatDoor.RpC
