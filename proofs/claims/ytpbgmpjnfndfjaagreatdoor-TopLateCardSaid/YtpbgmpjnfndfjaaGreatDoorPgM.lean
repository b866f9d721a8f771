/- Small amounts and names. -/
import Derived.Test.YtpbgmpjnfndfjaaGreatDoorPGB
import Derived.Test.YtpbgmpjnfndfjaaGreatDoorPfV
namespace Go.Proofs.YtpbgmpjnfndfjaaGreatDoor.PgM
theorem here : True := trivial
open Go.RowKit Wd RnA RnB RnW RnQ RnR RnP RnD RnE RtA RtC RpB RpC RpF RpH RsX RoA RoC RoL PqB PfS PfB PfA PfD PfE PfG PfH PfI PfN PfO PfQ PfU PgC PgG PgH
set_option maxHeartbeats 2000000 in
set_option maxRecDepth 100000 in
theorem whole_any (n : Nat) (hn : n ≤ 1000000) (w : World) :
    Calls Tryz.prog 37 #[.int .i64 (n : Int)] w (RPost (mk false n 1) w) := by
  have HF := Lib.hid (fun w => rint_any (n : Int) w ⟨by omega, by omega⟩)
  have hm : intQ (n : Int) = mk false n 1 := by unfold intQ; rw [decide_eq_false (by omega)]; rfl
  rw [hm] at HF
  unfold RPost at HF ⊢
  generalize mk false n 1 = q at *
  simp only [enc_open] at HF
  rw [enc_open]
  obtain ⟨V0, hV0, HJ, hB0, hl0⟩ := box_new w (.bool false) (.string ⟨#[]⟩) (.string ⟨#[]⟩)
  have HB0 := hide hB0
  clear hm hB0
  go_enter Tryz.func37, Tryz.ntmps37
  go_wp2_with fail
  refine (HF.out _).mono ?_
  rintro e w1 ⟨rfl, hb1⟩
  have HJ2 := hide (HJ.out.keep hb1 hl0)
  have HBF := hide (HB0.out.trans (hb1.mono (Nat.le_of_lt hl0)))
  obtain ⟨c0, c1, c2, f0, f1, f2⟩ := HJ2.out
  clear hb1
  go_wp2_with fail
  refine bodyPost_ret (results_rat rfl _ rfl (HJ2.out.set3 _ _ _)) rfl ?_
  exact ⟨rfl, below_set3 HBF.out (Nat.le_refl _) _ _ _⟩
/-- a small amount -/
def Aq (q : Rat) : Prop := ∃ a b, a ≤ 30 ∧ 1 ≤ b ∧ b ≤ 6 ∧ q = mk false a b
def AmtP (w : World) (e : Ending) (w' : World) : Prop := ∃ q, Aq q ∧ e = .returned (.agg #[.bool (negB q), .string (bs (nm q)), .string (dstr q)]) ∧ Below w.heap.size w w'
theorem amt_post {q : Rat} {a b : Nat} {w : World} {e : Ending} {w' : World} (hq : q = mk false a b) (ha : a ≤ 30) (h1 : 1 ≤ b) (h2 : b ≤ 6) (he : e = .returned (.agg #[.bool (negB q), .string (bs (nm q)), .string (dstr q)])) (hb : Below w.heap.size w w') : AmtP w e w' := ⟨q, ⟨a, b, ha, h1, h2, hq⟩, he, hb⟩
set_option maxHeartbeats 4000000 in
set_option maxRecDepth 100000 in
theorem amount_any (x : Nat) (hx : x < 65536) (w : World) :
    Calls Tryz.prog 13 #[.int .u16 (x : Int)] w (AmtP w) := by
  obtain ⟨V0, hV0, HJ, hB0, hl0⟩ := box_new w (.bool false) (.string ⟨#[]⟩) (.string ⟨#[]⟩)
  have HB0 := hide hB0
  clear hB0
  by_cases h0 : x % 5 = 0
  · have hm0 : (((x : Int) % 5) == 0) = true := by rw [beq_iff_eq]; omega
    have HF := Lib.hid (fun w => ratio_any (x / 5 % 23) (1 + x / 115 % 6) w (by omega) (by omega) (by omega))
    rw [show ((x / 5 % 23 : Nat) : Int) = (x : Int) / 5 % 23 by omega, show ((1 + x / 115 % 6 : Nat) : Int) = 1 + (x : Int) / 115 % 6 by omega] at HF
    obtain ⟨a, ha⟩ : ∃ a, x / 5 % 23 = a := ⟨_, rfl⟩
    obtain ⟨b, hb⟩ : ∃ b, 1 + x / 115 % 6 = b := ⟨_, rfl⟩
    have ha' : a ≤ 30 := by omega
    have hb' : 1 ≤ b ∧ b ≤ 6 := by omega
    rw [ha, hb] at HF
    obtain ⟨q, hq⟩ : ∃ q, mk false a b = q := ⟨_, rfl⟩
    have HQ := hide hq
    rw [hq] at HF
    unfold RPost at HF
    simp only [enc_open] at HF
    obtain ⟨hb1, hb2⟩ := hb'
    clear hq ha hb h0
    go_enter Tryz.func13, Tryz.ntmps13
    go_wp2_with fail
    refine (HF.out _).mono ?_
    rintro e w1 ⟨rfl, hb1⟩
    have HJ2 := hide (HJ.out.keep hb1 hl0)
    have HBF := hide (HB0.out.trans (hb1.mono (Nat.le_of_lt hl0)))
    obtain ⟨c0, c1, c2, f0, f1, f2⟩ := HJ2.out
    clear hb1
    go_wp2_with fail
    refine bodyPost_ret (results_rat rfl _ rfl (HJ2.out.set3 _ _ _)) rfl ?_
    exact amt_post HQ.out.symm ha' (by assumption) (by assumption) rfl (below_set3 HBF.out (Nat.le_refl _) _ _ _)
  · have hm0 : (((x : Int) % 5) == 0) = false := by rw [beq_eq_false_iff_ne]; omega
    by_cases h1 : x % 5 = 1
    · have hm1 : (((x : Int) % 5) == 1) = true := by rw [beq_iff_eq]; omega
      have HF := Lib.hid (fun w => whole_any (10 * (x / 5 % 4)) (by omega) w)
      rw [show ((10 * (x / 5 % 4) : Nat) : Int) = 10 * ((x : Int) / 5 % 4) by omega] at HF
      obtain ⟨a, ha⟩ : ∃ a, 10 * (x / 5 % 4) = a := ⟨_, rfl⟩
      have ha' : a ≤ 30 := by omega
      rw [ha] at HF
      obtain ⟨q, hq⟩ : ∃ q, mk false a 1 = q := ⟨_, rfl⟩
      have HQ := hide hq
      rw [hq] at HF
      unfold RPost at HF
      simp only [enc_open] at HF
      clear hq ha h0 h1
      go_enter Tryz.func13, Tryz.ntmps13
      go_wp2_with fail
      refine (HF.out _).mono ?_
      rintro e w1 ⟨rfl, hb1⟩
      have HJ2 := hide (HJ.out.keep hb1 hl0)
      have HBF := hide (HB0.out.trans (hb1.mono (Nat.le_of_lt hl0)))
      obtain ⟨c0, c1, c2, f0, f1, f2⟩ := HJ2.out
      clear hb1
      go_wp2_with fail
      refine bodyPost_ret (results_rat rfl _ rfl (HJ2.out.set3 _ _ _)) rfl ?_
      exact amt_post HQ.out.symm ha' (by omega) (by omega) rfl (below_set3 HBF.out (Nat.le_refl _) _ _ _)
    · have hm1 : (((x : Int) % 5) == 1) = false := by rw [beq_eq_false_iff_ne]; omega
      have HF := Lib.hid (fun w => whole_any (x / 5 % 13) (by omega) w)
      rw [show ((x / 5 % 13 : Nat) : Int) = (x : Int) / 5 % 13 by omega] at HF
      obtain ⟨a, ha⟩ : ∃ a, x / 5 % 13 = a := ⟨_, rfl⟩
      have ha' : a ≤ 30 := by omega
      rw [ha] at HF
      obtain ⟨q, hq⟩ : ∃ q, mk false a 1 = q := ⟨_, rfl⟩
      have HQ := hide hq
      rw [hq] at HF
      unfold RPost at HF
      simp only [enc_open] at HF
      clear hq ha h0 h1
      go_enter Tryz.func13, Tryz.ntmps13
      go_wp2_with fail
      refine (HF.out _).mono ?_
      rintro e w1 ⟨rfl, hb1⟩
      have HJ2 := hide (HJ.out.keep hb1 hl0)
      have HBF := hide (HB0.out.trans (hb1.mono (Nat.le_of_lt hl0)))
      obtain ⟨c0, c1, c2, f0, f1, f2⟩ := HJ2.out
      clear hb1
      go_wp2_with fail
      refine bodyPost_ret (results_rat rfl _ rfl (HJ2.out.set3 _ _ _)) rfl ?_
      exact amt_post HQ.out.symm ha' (by omega) (by omega) rfl (below_set3 HBF.out (Nat.le_refl _) _ _ _)
theorem negB_mk (a b : Nat) (hb : 0 < b) : negB (mk false a b) = false := by
  unfold negB mk
  rw [decide_eq_false_iff_not, Rat.num_mkRat, if_neg (by omega)]
  have : (0 : Int) ≤ sg false a / (b.gcd (Int.natAbs (sg false a)) : Nat) := Int.ediv_nonneg (by unfold sg; simp) (by omega)
  omega
theorem Aq.small {q : Rat} (h : Aq q) : negB q = false ∧ nm q < 10000 ∧ q.den < 10000 := by
  obtain ⟨a, b, h1, h2, h3, rfl⟩ := h
  have hb := PfC.mk_bd (B := 10000) false (n := a) (d := b) (by omega) (by omega) (by omega)
  exact ⟨negB_mk a b (by omega), hb.1, hb.2⟩
theorem name_of (j : Nat) (hj : j < 12) : ∃ p : ByteArray, p.size ≤ 3 ∧ NmA.nmB p = true ∧ (#[.string ⟨#[97]⟩, .string ⟨#[98]⟩, .string ⟨#[99]⟩, .string ⟨#[100]⟩, .string ⟨#[101]⟩, .string ⟨#[102]⟩, .string ⟨#[103]⟩, .string ⟨#[104]⟩, .string ⟨#[115, 49]⟩, .string ⟨#[115, 45, 50]⟩, .string ⟨#[116, 95, 51]⟩, .string ⟨#[117]⟩] : Array Value)[j]? = some (.string p) := by
  match j, hj with
  | 0, _ => exact ⟨⟨#[97]⟩, by decide, by decide, rfl⟩
  | 1, _ => exact ⟨⟨#[98]⟩, by decide, by decide, rfl⟩
  | 2, _ => exact ⟨⟨#[99]⟩, by decide, by decide, rfl⟩
  | 3, _ => exact ⟨⟨#[100]⟩, by decide, by decide, rfl⟩
  | 4, _ => exact ⟨⟨#[101]⟩, by decide, by decide, rfl⟩
  | 5, _ => exact ⟨⟨#[102]⟩, by decide, by decide, rfl⟩
  | 6, _ => exact ⟨⟨#[103]⟩, by decide, by decide, rfl⟩
  | 7, _ => exact ⟨⟨#[104]⟩, by decide, by decide, rfl⟩
  | 8, _ => exact ⟨⟨#[115, 49]⟩, by decide, by decide, rfl⟩
  | 9, _ => exact ⟨⟨#[115, 45, 50]⟩, by decide, by decide, rfl⟩
  | 10, _ => exact ⟨⟨#[116, 95, 51]⟩, by decide, by decide, rfl⟩
  | 11, _ => exact ⟨⟨#[117]⟩, by decide, by decide, rfl⟩
  | n + 12, h => exact absurd h (by omega)
set_option maxHeartbeats 4000000 in
set_option maxRecDepth 100000 in
theorem name_any (x : Nat) (hx : x < 65536) (w : World) :
    Calls Tryz.prog 27 #[.int .u16 (x : Int)] w fun e w' => ∃ p : ByteArray, (e = .returned (.string p) ∧ p.size ≤ 3 ∧ NmA.nmB p = true) ∧ Below w.heap.size w w' := by
  obtain ⟨p, hp1, hp2, hp3⟩ := name_of (x % 12) (by omega)
  have hc : (w.alloc (.cells #[.string ⟨#[97]⟩, .string ⟨#[98]⟩, .string ⟨#[99]⟩, .string ⟨#[100]⟩, .string ⟨#[101]⟩, .string ⟨#[102]⟩, .string ⟨#[103]⟩, .string ⟨#[104]⟩, .string ⟨#[115, 49]⟩, .string ⟨#[115, 45, 50]⟩, .string ⟨#[116, 95, 51]⟩, .string ⟨#[117]⟩] 9)).cell? ⟨w.heap.size, x % 12, none⟩ = some (.string p) := by rw [World.cell?_alloc_new]; exact hp3
  have HP := hide (And.intro hp1 hp2)
  clear hp1 hp2 hp3
  go_enter Tryz.func27, Tryz.ntmps27
  go_wp2_with fail
  go_ret
  exact ⟨p, ⟨rfl, HP.out.1, HP.out.2⟩, (Below.refl _ _).alloc (Nat.le_refl _) _⟩
end Go.Proofs.YtpbgmpjnfndfjaaGreatDoor.PgM
