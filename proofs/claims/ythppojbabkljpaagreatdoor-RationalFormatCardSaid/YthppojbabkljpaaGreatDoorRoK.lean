/- The walks of the reference's divide and common. -/
import Derived.Test.YthppojbabkljpaaGreatDoorRoJ
import Derived.Test.YthppojbabkljpaaGreatDoorRoM
namespace Go.Proofs.YthppojbabkljpaaGreatDoor.RoK
open Go.RowKit RnA RnB RnS RnC RnK RnM RnL RnN RnW RoA RoB RoC RoD RoE RoF RoG RoH RoI RoJ RoL RoM
theorem limbs_of_lt (r : Nat) : limbs (lval [r]) = limbs r := by simp [lval]
theorem ok_one {r : Nat} (h : r < 4294967296) : Ok [r] := Ok.cons h Ok.nil
theorem lat_one (w : World) (x : Nat) (t : TypeId) (hx : x < 4294967296) : LAt (w.alloc (.cells #[.int .u32 (x : Int)] t)) (w.alloc (.cells #[.int .u32 (x : Int)] t)).heap.size (some ⟨w.heap.size, 0, none⟩) [x] := by
  refine ⟨ok_one hx, by simp [maxLen], fun _ => ⟨_, _, rfl, by simp, fun k z hk => ?_⟩⟩
  rcases k with _ | k
  · simp at hk; subst hk; simp
  · simp at hk
set_option maxHeartbeats 4000000 in
set_option maxRecDepth 100000 in
theorem rdivide_any (x y m n : Nat) (A B : Option Addr) (c c' : Nat) (w : World) (ha : LAt w w.heap.size A (limbs x)) (hb : LAt w w.heap.size B (limbs y)) (hm : (limbs x).length = m) (hn : (limbs y).length = n) (hmc : m ≤ c) (hcm : c ≤ maxLen) (hx : sz x ≤ 100000) (hy : y ≠ 0) :
    Calls Tryz.prog 80 #[.slice A m c, .slice B n c'] w (QPost (x / y) (x % y) w) := by
  have hord := rorder_any x y A B c c' w ha hb
  rw [hm, hn] at hord
  have HORD := hide hord
  have HA := hide ha
  have HB := hide hb
  have HM := hide hm
  have HN := hide hn
  have HCM := hide hcm
  have HSX := hide hx
  have HY := Lib.hid hy
  have hsm : (limbs x).length ≤ 100000 := hx
  have hml : m ≤ 100000 := by omega
  clear hord ha hb hm hn hcm hx hy hsm
  go_enter Tryz.func80, Tryz.ntmps80
  go_wp2_with fail
  refine HORD.out.mono ?_
  rintro e w1 ⟨rfl, hb1⟩
  by_cases hlt : x < y
  · have hc : cmpN x y = -1 := (cmpN_lt hlt).symm
    rw [hc]
    have hq : Hid (x / y = 0 ∧ x % y = x) := ⟨Nat.div_eq_of_lt hlt, Nat.mod_eq_of_lt hlt⟩
    clear hlt
    go_wp2_with fail
    go_ret2
    refine ⟨none, 0, A, c, ?_, ?_, by unfold maxLen; omega, ?_, HCM.out, ?_, ?_, hb1⟩
    · rw [hq.out.1, hq.out.2, limbs_zero, HM.out]; rfl
    · rw [hq.out.1, limbs_zero]; exact Nat.le_refl _
    · rw [hq.out.2, HM.out]; exact hmc
    · rw [hq.out.1, limbs_zero]; exact LAt.nil
    · rw [hq.out.2]; exact HA.out.next hb1
  · have hc : ¬ cmpN x y < 0 := by
      unfold cmpN
      rw [if_neg hlt]
      split <;> omega
    have hyx : y ≤ x := by omega
    have HYX := hide hyx
    generalize cmpN x y = cv at hc ⊢
    clear hlt hyx
    have HA1 := hide (HA.out.next hb1)
    have HB1 := hide (HB.out.next hb1)
    have hn0 : 0 < n := by
      rcases Nat.eq_zero_or_pos n with h | h
      · exfalso
        have h1 := HN.out
        rw [h] at h1
        exact HY.out (limbs_nil.1 h1)
      · exact h
    by_cases hn1 : n = 1
    · subst hn1
      obtain ⟨hl, _, hyl⟩ := limbs_single HN.out
      obtain ⟨b1, o1, rfl, hbb, hcc⟩ := HB1.out.2.2 (by rw [HN.out]; omega)
      have c1 := hcc 0 y (by rw [hl]; rfl)
      rw [Nat.add_zero] at c1
      have hsh := rshort_any x y A c w1 HA1.out (by have := HSX.out; omega) (by have := HY.out; omega) hyl
      rw [HM.out] at hsh
      have HSH := hide hsh
      have hrl : x % y < 4294967296 := Nat.lt_trans (Nat.mod_lt _ (by have := HY.out; omega)) hyl
      clear hl hcc hsh hn0
      go_wp2_with fail
      refine HSH.out.mono ?_
      rintro e w2 ⟨A2, c2, rfl, hc2a, hc2b, hL2, hb2, _⟩
      generalize hr : x % y = r at *
      have HL2 := hide hL2
      clear hL2
      have hst := lat_one w2 r 52 hrl
      have hst2 := strip_any [r] _ 1 _ hst (Nat.le_refl _)
      rw [limbs_of_lt r] at hst2
      have hstr := (RoF.LAt.strip hst).1
      rw [limbs_of_lt r] at hstr
      have hlen := (RoF.LAt.strip hst).2
      rw [limbs_of_lt r] at hlen
      have HST := hide hst2
      have HSTR := hide hstr
      have HLEN := hide hlen
      have hbf : Below w.heap.size w (w2.alloc (.cells #[.int .u32 (r : Int)] 52)) := (below_next hb1 hb2).alloc (Nat.le_trans hb1.size hb2.size) _
      have HLN := hide (HL2.out.next (w' := w2.alloc (.cells #[.int .u32 (r : Int)] 52)) ((Below.refl _ _).alloc (Nat.le_refl _) _))
      clear hst hst2 hstr hlen
      go_wp2_with fail
      refine HST.out.mono ?_
      rintro e w3 ⟨rfl, rfl⟩
      go_wp2_with fail
      go_ret2
      exact ⟨A2, c2, _, 1, rfl, hc2a, hc2b, HLEN.out, by unfold maxLen; omega, HLN.out, HSTR.out, hbf⟩
    · have hlo := rlong_any x y m n A B c c' w1 HA1.out HB1.out HSX.out HM.out HN.out (by omega) HYX.out
      have HLO := hide hlo
      clear hlo
      go_wp2_with fail
      refine HLO.out.mono ?_
      rintro e w2 ⟨A2, c2, A3, c3, rfl, h1, h2, h3, h4, h5, h6, h7⟩
      have H5 := hide h5
      have H6 := hide h6
      clear h5 h6
      go_wp2_with fail
      go_ret2
      exact ⟨A2, c2, A3, c3, rfl, h1, h2, h3, h4, H5.out, H6.out, below_next hb1 h7⟩
/-- a number's limbs lie where a slice says, the slice's capacity is sound -/
def NAt (w : World) (A : Option Addr) (c x : Nat) : Prop := LAt w w.heap.size A (limbs x) ∧ (limbs x).length ≤ c ∧ c ≤ maxLen
theorem NAt.next {w w' : World} {A : Option Addr} {c x : Nat} (h : NAt w A c x) (hb : Below w.heap.size w w') : NAt w' A c x := ⟨h.1.next hb, h.2⟩
set_option maxHeartbeats 4000000 in
set_option maxRecDepth 100000 in
theorem rcommon_any (x y : Nat) (A B : Option Addr) (c c' : Nat) (w : World) (ha : NAt w A c x) (hb : NAt w B c' y) (hx : sz x ≤ 100000) (hy : sz y ≤ 100000) :
    Calls Tryz.prog 114 #[.slice A (limbs x).length c, .slice B (limbs y).length c'] w (LPost (limbs (x.gcd y)) w) := by
  have HA := hide ha
  have HB := hide hb
  have HX := hide hx
  have HY := hide hy
  clear ha hb hx hy
  go_enter Tryz.func114, Tryz.ntmps114
  go_wp2_with fail
  go_loopw [0, 1] (fun va vb wr => ∃ (p q m n : Nat) (A B : Option Addr) (c c' : Nat), va = .slice A m c ∧ vb = .slice B n c' ∧ m = (limbs p).length ∧ n = (limbs q).length ∧ Hid (NAt wr A c p) ∧ Hid (NAt wr B c' q) ∧ Hid (p.gcd q = x.gcd y) ∧ Hid (sz p ≤ 100000) ∧ Hid (sz q ≤ 100000) ∧ Below w.heap.size w wr) (fun _ vb wr => sval wr vb)
  case atStart => exact ⟨x, y, _, _, A, B, c, c', rfl, rfl, rfl, rfl, HA, HB, rfl, HX, HY, Below.refl _ _⟩
  case round =>
    clear HA HB
    obtain ⟨p, q, m, n, A, B, c, c', rfl, rfl, hm, hn, HA, HB, HG, HP, HQ, hbr⟩ := hrel
    by_cases hq : q = 0
    · have hn0 : n = 0 := by rw [hn, hq, limbs_zero]; rfl
      subst hn0
      have hfin : Hid (p = x.gcd y) := by
        show _ = _
        rw [← HG.out, hq, Nat.gcd_zero_right]
      have HM := hide hm
      clear hq hn hm
      go_wp2_with fail
      go_ret
      refine ⟨A, c, ?_, ?_, HA.out.2.2, ?_, hbr⟩
      · rw [HM.out, hfin.out]; rfl
      · rw [← hfin.out]; exact HA.out.2.1
      · rw [← hfin.out]; exact HA.out.1
    · have hn0 : 0 < n := by
        have := sz_pos hq
        unfold sz at this
        omega
      have hdv := rdivide_any p q m n A B c c' wr HA.out.1 HB.out.1 hm.symm hn.symm (by rw [hm]; exact HA.out.2.1) HA.out.2.2 HP.out hq
      have HDV := hide hdv
      have hmes : Hid (sval wr (.slice B n c') = q) := by
        show _ = _
        rw [hn, sval_at HB.out.1, lval_limbs]
      have hlt : Hid (p % q < q) := Nat.mod_lt _ (by omega)
      have hgc : Hid (q.gcd (p % q) = x.gcd y) := by
        show _ = _
        rw [← HG.out, Nat.gcd_comm q, ← Nat.gcd_rec, Nat.gcd_comm]
      have hszr : Hid (sz (p % q) ≤ 100000) := Nat.le_trans (sz_mod _ _) HP.out
      have HN := hide hn
      clear hdv hq hm hn
      go_wp2_with fail
      refine HDV.out.mono ?_
      rintro e w2 ⟨A2, c2, A3, c3, rfl, h1, h2, h3, h4, h5, h6, h7⟩
      have H6 : Hid (NAt w2 A3 c3 (p % q)) := ⟨h6, h3, h4⟩
      have HB2 : Hid (NAt w2 B c' q) := HB.out.next h7
      have hm2 : sval w2 (.slice A3 (limbs (p % q)).length c3) < sval wr (.slice B n c') := by
        rw [hmes.out, sval_at h6, lval_limbs]; exact hlt.out
      have hbf : Below w.heap.size w w2 := hbr.trans (h7.mono hbr.size)
      clear h5 h6
      go_wp2_with fail
      go_roundw
      case rel => exact ⟨q, p % q, _, _, B, A3, c', c3, rfl, rfl, HN.out, rfl, HB2, H6, hgc, HQ, hszr, hbf⟩
      case measure => exact hm2
end Go.Proofs.YthppojbabkljpaaGreatDoor.RoK
