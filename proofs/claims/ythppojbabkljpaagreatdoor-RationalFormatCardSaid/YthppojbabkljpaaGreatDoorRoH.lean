/- The walk of the reference's shifted. -/
import Derived.Test.YthppojbabkljpaaGreatDoorRoG
namespace Go.Proofs.YthppojbabkljpaaGreatDoor.RoH
open Go.RowKit RnA RnB RnS RnC RnM RnL RnN RnW RoA RoB RoC RoD RoE RoF RoG
/-- what a function that makes a row of limbs of the call's own answers -/
def OPost (n v : Nat) (w : World) (e : Ending) (w' : World) : Prop :=
  ∃ g O, e = .returned (.slice (some ⟨g, 0, none⟩) n n) ∧ O.length = n ∧ Ok O ∧ lval O = v ∧ w'.ownsRow w.heap.size 52 1 (.slice (some ⟨g, 0, none⟩) n n) n (uv O) ∧ Below w.heap.size w w'
set_option maxHeartbeats 4000000 in
set_option maxRecDepth 100000 in
theorem rshifted_any (x s : Nat) (A : Option Addr) (c : Nat) (w : World) (ha : LAt w w.heap.size A (limbs x)) (hx : sz x ≤ 1000000) (hs : s ≤ 31) :
    Calls Tryz.prog 153 #[.slice A (limbs x).length c, .int .u64 (s : Int)] w (OPost ((limbs x).length + 1) (x * 2 ^ s) w) := by
  obtain ⟨i0, hi0, hz0, hz1, hz2⟩ := info_parts u32Info
  have hla : (limbs x).length ≤ 1000000 := hx
  have HVA := hide (lval_limbs x)
  have HA := hide ha
  clear ha hx
  generalize limbs x = a at *
  go_enter Tryz.func153, Tryz.ntmps153
  go_wp2_with (first
    | (at_make
       refine wpList_make_full _ rfl (.tmp 10) (.tmp 10) 71 rfl w.heap.size 52 i0 _ 1 Tryz.underlying71 hi0 hz0 hz1 .i64 .i64 _ _ (a.length + 1) rfl rfl ?c1 ?c2 ?c3 ?c4 ?c5 ?_
       case c1 => omega
       case c2 => omega
       case c3 => rw [hz2]; omega
       case c4 => unfold maxLen; omega
       case c5 => exact Nat.le_refl _
       intro w2 hown hg))
  rw [made_uv] at hown
  have hb2 : Below w.heap.size w w2 := (Below.refl _ _).grown hg (Nat.le_refl _) (by simp)
  clear hg
  generalize hn : a.length + 1 = n at hown ⊢
  go_loopw [6] (fun vi wr => ∃ (i : Nat) (O : List Nat), i ≤ a.length ∧ vi = .int .i64 i ∧ Hid (O.length = n) ∧ Hid (Ok O) ∧ Hid (lval O = lval (a.take i) * 2 ^ s) ∧ wr.ownsRow w.heap.size 52 1 (.slice (some ⟨w.heap.size, 0, none⟩) n n) n (uv O) ∧ Below w.heap.size w wr) (fun vi _ => a.length - (intOf vi).toNat)
  case atStart => exact ⟨0, List.replicate n 0, by omega, rfl, by show _ = _; simp, Ok.replicate _, by show _ = _; simp [lval, lval_replicate], hown, hb2⟩
  case round =>
    obtain ⟨i, O, hi, rfl, HOL, HO, HV, hown, hbr⟩ := hrel
    by_cases hlt : i < a.length
    · obtain ⟨p, hp⟩ : ∃ p, a[i]? = some p := ⟨_, List.getElem?_eq_getElem hlt⟩
      obtain ⟨z, hz⟩ : ∃ z, O[i]? = some z := ⟨_, List.getElem?_eq_getElem (by have := HOL.out; omega)⟩
      obtain ⟨b1, o1, rfl, hb1, hc1⟩ := (HA.out.below hbr).2.2 (by omega)
      have c1 := hc1 i p hp
      have hpl : p < 4294967296 := HA.out.ok.at_ hp
      have hsmall := shl_small (s := s) HA.out.ok hi
      rw [← HV.out] at hsmall
      have hzl : z < 2 ^ s := limb_lt hsmall hz
      obtain ⟨hs1, hs2, hs3⟩ := shl_bounds hs hzl hpl
      have hy0 : O[i + 1]? = some 0 := by
        obtain ⟨y, hy⟩ : ∃ y, O[i + 1]? = some y := ⟨_, List.getElem?_eq_getElem (by have := HOL.out; omega)⟩
        rw [hy]
        congr 1
        refine zero_above ?_ hy
        have h1 : 4294967296 ^ i * 2 ^ s ≤ 4294967296 ^ i * 4294967296 := Nat.mul_le_mul_left _ (Nat.pow_le_pow_right (n := 2) (by omega) (by omega : s ≤ 32))
        rw [Nat.pow_succ]
        omega
      have hround := shl_round HV.out hp hz hy0
      have hor := or_shift (s := s) (a := p) (by omega) hzl
      have cz : wr.cell? ⟨w.heap.size, i, none⟩ = some (.int .u32 (z : Int)) := (hown.cellAt i (by omega)).trans (uv_get hz)
      have cy : wr.cell? ⟨w.heap.size, i + 1, none⟩ = some (.int .u32 (0 : Nat)) := (hown.cellAt (i + 1) (by omega)).trans (uv_get hy0)
      have fz := hown.frozenAt i
      have fy := hown.frozenAt (i + 1)
      have HR := hide hround
      have HOR := hide hor
      have HP := hide hp
      obtain ⟨t, ht⟩ : ∃ t, p * 2 ^ s = t := ⟨_, rfl⟩
      rw [ht] at hs1 hs2 hs3 HR HOR
      have hw1 : IntKind.u64.wrap ((p : Int) * 2 ^ s) = (t : Int) := by
        rw [← ht]
        have e : (p : Int) * 2 ^ s = ((p * 2 ^ s : Nat) : Int) := by simp
        rw [e]
        exact IntWalk.u64_in _ (by rw [ht]; omega)
      have HT := hide ht
      have HZL := hide hzl
      clear hc1 hp hz hy0 hround hor hsmall ht hzl hs2
      go_wp2_with fail
      have e1 : bits BinOp.or IntKind.u32 (z : Int) ((t : Int) % 4294967296) = ((z + t % 4294967296 : Nat) : Int) := by
        have e : (t : Int) % 4294967296 = ((t % 4294967296 : Nat) : Int) := by omega
        rw [e, u32_or_nat _ _ (by omega) (by omega), HOR.out]
      have e2 : (t : Int) / 4294967296 = ((t / 4294967296 : Nat) : Int) := by omega
      rw [e1, e2]
      obtain ⟨hos, hgs⟩ := hown.stored i (.int .u32 ((z + t % 4294967296 : Nat) : Int))
      rw [uv_set] at hos
      obtain ⟨hos2, hgs2⟩ := hos.stored (i + 1) (.int .u32 ((t / 4294967296 : Nat) : Int))
      rw [uv_set] at hos2
      have hbs := (hbr.setCell (p := ⟨w.heap.size, i, none⟩) (Nat.le_refl _) (.int .u32 ((z + t % 4294967296 : Nat) : Int))).setCell (p := ⟨w.heap.size, i + 1, none⟩) (Nat.le_refl _) (.int .u32 ((t / 4294967296 : Nat) : Int))
      have hok : Hid (Ok ((O.set i (z + t % 4294967296)).set (i + 1) (t / 4294967296))) := (HO.out.set _ hs1).set _ (by omega)
      go_roundw
      case rel => exact ⟨i + 1, _, by omega, by go_num, by show _ = _; rw [List.length_set, List.length_set]; exact HOL.out, hok, HR.out, hos2, hbs⟩
      case measure => simp [intOf]; omega
    · have hfin : Hid (lval O = x * 2 ^ s) := by
        show _ = _
        rw [HV.out, lval_take_all (by omega), HVA.out]
      go_wp2_with fail
      go_ret
      subst hn
      exact ⟨_, O, rfl, HOL.out, HO.out, hfin.out, hown, hbr⟩
end Go.Proofs.YthppojbabkljpaaGreatDoor.RoH
