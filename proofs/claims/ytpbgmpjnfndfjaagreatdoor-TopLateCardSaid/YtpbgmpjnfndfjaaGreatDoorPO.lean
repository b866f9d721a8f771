/- RoK, PnG, PnH, PnI, PnJ, PnL, in one text. -/
import Derived.Test.YtpbgmpjnfndfjaaGreatDoorRoJ
import Derived.Test.YtpbgmpjnfndfjaaGreatDoorRO
import Derived.Test.YtpbgmpjnfndfjaaGreatDoorPN
import Derived.Deep.RegionWith
import Derived.BigRegion
import Derived.Maps.AppendAt
namespace Go.Proofs.YtpbgmpjnfndfjaaGreatDoor.RoK
theorem here : True := trivial
open Go.RowKit RnA RnB RnS RnC RnK RnM RnL RnN RnW RoA RoB RoC RoD RoE RoF RoG RoH RoI RoJ RoL RoM
theorem limbs_of_lt (r : Nat) : limbs (lval [r]) = limbs r := by simp [lval]
theorem ok_one {r : Nat} (h : r < 4294967296) : Ok [r] := Ok.cons h Ok.nil
theorem lat_one (w : World) (x : Nat) (t : TypeId) (hx : x < 4294967296) : LAt (w.alloc (.cells #[.int .u32 (x : Int)] t)) (w.alloc (.cells #[.int .u32 (x : Int)] t)).heap.size (some ⟨w.heap.size, 0, none⟩) [x] := by
  refine ⟨ok_one hx, by simp [maxLen], fun _ => ⟨_, _, rfl, by simp, fun k z hk => ?_⟩⟩
  rcases k with _ | k
  · simp at hk; subst hk; simp
  · simp at hk
set_option maxHeartbeats 4000000000000 in
set_option maxRecDepth 100000000000 in
theorem rdivide_any (x y m n : Nat) (A B : Option Addr) (c c' : Nat) (w : World) (ha : LAt w w.heap.size A (limbs x)) (hb : LAt w w.heap.size B (limbs y)) (hm : (limbs x).length = m) (hn : (limbs y).length = n) (hmc : m ≤ c) (hcm : c ≤ maxLen) (hx : sz x ≤ 100000000000) (hy : y ≠ 0) :
    Calls Tryz.prog 199 #[.slice A m c, .slice B n c'] w (QPost (x / y) (x % y) w) := by
  have hord := rorder_any x y A B c c' w ha hb
  rw [hm, hn] at hord
  have HORD := hide hord
  have HA := hide ha
  have HB := hide hb
  have HM := hide hm
  have HN := hide hn
  have HCM := hide hcm
  have HSX := hide hx
  have HY := Lib.hid hy
  have hsm : (limbs x).length ≤ 100000000000 := hx
  have hml : m ≤ 100000000000 := by omega
  clear hord ha hb hm hn hcm hx hy hsm
  go_enter Tryz.func199, Tryz.ntmps199
  go_wp2_with fail
  refine HORD.out.mono ?_
  rintro e w1 ⟨rfl, hb1⟩
  by_cases hlt : x < y
  · have hc : cmpN x y = -1 := (cmpN_lt hlt).symm
    rw [hc]
    have hq : Hid (x / y = 0 ∧ x % y = x) := ⟨Nat.div_eq_of_lt hlt, Nat.mod_eq_of_lt hlt⟩
    clear hlt
    go_wp2_with fail
    go_ret2
    refine ⟨none, 0, A, c, ?_, ?_, by unfold maxLen; omega, ?_, HCM.out, ?_, ?_, hb1⟩
    · rw [hq.out.1, hq.out.2, limbs_zero, HM.out]; rfl
    · rw [hq.out.1, limbs_zero]; exact Nat.le_refl _
    · rw [hq.out.2, HM.out]; exact hmc
    · rw [hq.out.1, limbs_zero]; exact LAt.nil
    · rw [hq.out.2]; exact HA.out.next hb1
  · have hc : ¬ cmpN x y < 0 := by
      unfold cmpN
      rw [if_neg hlt]
      split <;> omega
    have hyx : y ≤ x := by omega
    have HYX := hide hyx
    generalize cmpN x y = cv at hc ⊢
    clear hlt hyx
    have HA1 := hide (HA.out.next hb1)
    have HB1 := hide (HB.out.next hb1)
    have hn0 : 0 < n := by
      rcases Nat.eq_zero_or_pos n with h | h
      · exfalso
        have h1 := HN.out
        rw [h] at h1
        exact HY.out (limbs_nil.1 h1)
      · exact h
    by_cases hn1 : n = 1
    · subst hn1
      obtain ⟨hl, _, hyl⟩ := limbs_single HN.out
      obtain ⟨b1, o1, rfl, hbb, hcc⟩ := HB1.out.2.2 (by rw [HN.out]; omega)
      have c1 := hcc 0 y (by rw [hl]; rfl)
      rw [Nat.add_zero] at c1
      have hsh := rshort_any x y A c w1 HA1.out (by have := HSX.out; omega) (by have := HY.out; omega) hyl
      rw [HM.out] at hsh
      have HSH := hide hsh
      have hrl : x % y < 4294967296 := Nat.lt_trans (Nat.mod_lt _ (by have := HY.out; omega)) hyl
      clear hl hcc hsh hn0
      go_wp2_with fail
      refine HSH.out.mono ?_
      rintro e w2 ⟨A2, c2, rfl, hc2a, hc2b, hL2, hb2, _⟩
      generalize hr : x % y = r at *
      have HL2 := hide hL2
      clear hL2
      have hst := lat_one w2 r 219 hrl
      have hst2 := strip_any [r] _ 1 _ hst (Nat.le_refl _)
      rw [limbs_of_lt r] at hst2
      have hstr := (RoF.LAt.strip hst).1
      rw [limbs_of_lt r] at hstr
      have hlen := (RoF.LAt.strip hst).2
      rw [limbs_of_lt r] at hlen
      have HST := hide hst2
      have HSTR := hide hstr
      have HLEN := hide hlen
      have hbf : Below w.heap.size w (w2.alloc (.cells #[.int .u32 (r : Int)] 219)) := (below_next hb1 hb2).alloc (Nat.le_trans hb1.size hb2.size) _
      have HLN := hide (HL2.out.next (w' := w2.alloc (.cells #[.int .u32 (r : Int)] 219)) ((Below.refl _ _).alloc (Nat.le_refl _) _))
      clear hst hst2 hstr hlen
      go_wp2_with fail
      refine HST.out.mono ?_
      rintro e w3 ⟨rfl, rfl⟩
      go_wp2_with fail
      go_ret2
      exact ⟨A2, c2, _, 1, rfl, hc2a, hc2b, HLEN.out, by unfold maxLen; omega, HLN.out, HSTR.out, hbf⟩
    · have hlo := rlong_any x y m n A B c c' w1 HA1.out HB1.out HSX.out HM.out HN.out (by omega) HYX.out
      have HLO := hide hlo
      clear hlo
      go_wp2_with fail
      refine HLO.out.mono ?_
      rintro e w2 ⟨A2, c2, A3, c3, rfl, h1, h2, h3, h4, h5, h6, h7⟩
      have H5 := hide h5
      have H6 := hide h6
      clear h5 h6
      go_wp2_with fail
      go_ret2
      exact ⟨A2, c2, A3, c3, rfl, h1, h2, h3, h4, H5.out, H6.out, below_next hb1 h7⟩
/-- a number's limbs lie where a slice says, the slice's capacity is sound -/
def NAt (w : World) (A : Option Addr) (c x : Nat) : Prop := LAt w w.heap.size A (limbs x) ∧ (limbs x).length ≤ c ∧ c ≤ maxLen
theorem NAt.next {w w' : World} {A : Option Addr} {c x : Nat} (h : NAt w A c x) (hb : Below w.heap.size w w') : NAt w' A c x := ⟨h.1.next hb, h.2⟩
set_option maxHeartbeats 4000000000000 in
set_option maxRecDepth 100000000000 in
theorem rcommon_any (x y : Nat) (A B : Option Addr) (c c' : Nat) (w : World) (ha : NAt w A c x) (hb : NAt w B c' y) (hx : sz x ≤ 100000000000) (hy : sz y ≤ 100000000000) :
    Calls Tryz.prog 198 #[.slice A (limbs x).length c, .slice B (limbs y).length c'] w (LPost (limbs (x.gcd y)) w) := by
  have HA := hide ha
  have HB := hide hb
  have HX := hide hx
  have HY := hide hy
  clear ha hb hx hy
  go_enter Tryz.func198, Tryz.ntmps198
  go_wp2_with fail
  go_loopw [0, 1] (fun va vb wr => ∃ (p q m n : Nat) (A B : Option Addr) (c c' : Nat), va = .slice A m c ∧ vb = .slice B n c' ∧ m = (limbs p).length ∧ n = (limbs q).length ∧ Hid (NAt wr A c p) ∧ Hid (NAt wr B c' q) ∧ Hid (p.gcd q = x.gcd y) ∧ Hid (sz p ≤ 100000000000) ∧ Hid (sz q ≤ 100000000000) ∧ Below w.heap.size w wr) (fun _ vb wr => sval wr vb)
  case atStart => exact ⟨x, y, _, _, A, B, c, c', rfl, rfl, rfl, rfl, HA, HB, rfl, HX, HY, Below.refl _ _⟩
  case round =>
    clear HA HB
    obtain ⟨p, q, m, n, A, B, c, c', rfl, rfl, hm, hn, HA, HB, HG, HP, HQ, hbr⟩ := hrel
    by_cases hq : q = 0
    · have hn0 : n = 0 := by rw [hn, hq, limbs_zero]; rfl
      subst hn0
      have hfin : Hid (p = x.gcd y) := by
        show _ = _
        rw [← HG.out, hq, Nat.gcd_zero_right]
      have HM := hide hm
      clear hq hn hm
      go_wp2_with fail
      go_ret
      refine ⟨A, c, ?_, ?_, HA.out.2.2, ?_, hbr⟩
      · rw [HM.out, hfin.out]; rfl
      · rw [← hfin.out]; exact HA.out.2.1
      · rw [← hfin.out]; exact HA.out.1
    · have hn0 : 0 < n := by
        have := sz_pos hq
        unfold sz at this
        omega
      have hdv := rdivide_any p q m n A B c c' wr HA.out.1 HB.out.1 hm.symm hn.symm (by rw [hm]; exact HA.out.2.1) HA.out.2.2 HP.out hq
      have HDV := hide hdv
      have hmes : Hid (sval wr (.slice B n c') = q) := by
        show _ = _
        rw [hn, sval_at HB.out.1, lval_limbs]
      have hlt : Hid (p % q < q) := Nat.mod_lt _ (by omega)
      have hgc : Hid (q.gcd (p % q) = x.gcd y) := by
        show _ = _
        rw [← HG.out, Nat.gcd_comm q, ← Nat.gcd_rec, Nat.gcd_comm]
      have hszr : Hid (sz (p % q) ≤ 100000000000) := Nat.le_trans (sz_mod _ _) HP.out
      have HN := hide hn
      clear hdv hq hm hn
      go_wp2_with fail
      refine HDV.out.mono ?_
      rintro e w2 ⟨A2, c2, A3, c3, rfl, h1, h2, h3, h4, h5, h6, h7⟩
      have H6 : Hid (NAt w2 A3 c3 (p % q)) := ⟨h6, h3, h4⟩
      have HB2 : Hid (NAt w2 B c' q) := HB.out.next h7
      have hm2 : sval w2 (.slice A3 (limbs (p % q)).length c3) < sval wr (.slice B n c') := by
        rw [hmes.out, sval_at h6, lval_limbs]; exact hlt.out
      have hbf : Below w.heap.size w w2 := hbr.trans (h7.mono hbr.size)
      clear h5 h6
      go_wp2_with fail
      go_roundw
      case rel => exact ⟨q, p % q, _, _, B, A3, c', c3, rfl, rfl, HN.out, rfl, HB2, H6, hgc, HQ, hszr, hbf⟩
      case measure => exact hm2
end Go.Proofs.YtpbgmpjnfndfjaaGreatDoor.RoK
namespace Go.Proofs.YtpbgmpjnfndfjaaGreatDoor.PnG
theorem here : True := trivial
open Go.RowKit RnA RnB RnS RnC RnK RnM RnL RnN RnD RnE RnQ RnR RnP RnW RnX RoA RoB RoC RoD RoE RoF RoG RoH RoI RoL PnA PnB PnC PnD PnE
set_option maxHeartbeats 4000000000000 in
set_option maxRecDepth 100000000000 in
theorem small_any (x d m : Nat) (A : Option Addr) (c : Nat) (w : World) (ha : LAt w w.heap.size A (limbs x)) (hm : (limbs x).length = m) (hx : m ≤ 1000000000000) (hd0 : 0 < d) (hd : d < 4294967296) :
    Calls Tryz.prog 205 #[.slice A m c, .int .u32 (d : Int)] w (DPost (x / d) (x % d) w) := by
  obtain ⟨i0, hi0, hz0, hz1, hz2⟩ := info_parts u32Info
  have HVA := hide (lval_limbs x)
  have HA := hide ha
  have HM := hide hm
  clear ha hm
  generalize limbs x = a at HVA HA HM
  go_enter Tryz.func205, Tryz.ntmps205
  go_wp2_with (first
    | (at_make
       refine wpList_make_full _ rfl (.tmp 11) (.tmp 11) 217 rfl w.heap.size 219 i0 _ 1 Tryz.underlying217 hi0 hz0 hz1 .i64 .i64 _ _ m rfl rfl ?c1 ?c2 ?c3 ?c4 ?c5 ?_
       case c1 => rfl
       case c2 => rfl
       case c3 => rw [hz2]; omega
       case c4 => unfold maxLen; omega
       case c5 => exact Nat.le_refl _
       intro w2 hown hg))
  rw [made_uv] at hown
  have hb2 : Below w.heap.size w w2 := (Below.refl _ _).grown hg (Nat.le_refl _) (by simp)
  clear hg
  go_loopw [7, 8] (fun vr vi wr => ∃ (k r : Nat) (O : List Nat), k ≤ m ∧ r < d ∧ vi = .int .i64 ((k : Int) - 1) ∧ vr = .int .u64 r ∧ Hid (O.length = m) ∧ Hid (Ok O) ∧ Hid (lval (a.drop k) = d * lval (O.drop k) + r) ∧ wr.ownsRow w.heap.size 219 1 (.slice (some ⟨w.heap.size, 0, none⟩) m m) m (uv O) ∧ Below w.heap.size w wr) (fun _ vi _ => (intOf vi + 1).toNat)
  case atStart => exact ⟨m, 0, List.replicate m 0, by omega, hd0, rfl, rfl, by show _ = _; simp, Ok.replicate _, by show _ = _; rw [List.drop_eq_nil_of_le (by rw [HM.out]; exact Nat.le_refl _), List.drop_eq_nil_of_le (by simp)]; rfl, hown, hb2⟩
  case round =>
    obtain ⟨k, r, O, hk, hr, rfl, rfl, HOL, HO, HV, hown, hbr⟩ := hrel
    rcases Nat.eq_zero_or_pos k with h0 | h0
    · subst h0
      have hfin : Hid (lval O = x / d ∧ r = x % d) := by
        have h1 := HV.out
        rw [List.drop_zero, List.drop_zero, HVA.out] at h1
        constructor
        · rw [h1, Nat.mul_add_div hd0, Nat.div_eq_of_lt hr, Nat.add_zero]
        · rw [h1, Nat.mul_add_mod, Nat.mod_eq_of_lt hr]
      have hL := LAt.of_own hown HO.out
      obtain ⟨hL2, hle⟩ := LAt.strip hL
      have hcap := own_cap hown
      rw [hfin.out.1] at hL2 hle
      rw [HOL.out] at hle
      have HL := hide hL
      have HL2 := hide hL2
      clear hL hL2
      go_wp2_with fail
      refine (trim_any O _ _ _ _ HOL.out HL.out (Nat.le_refl _)).mono ?_
      rintro e w3 ⟨rfl, rfl⟩
      rw [hfin.out.1]
      go_wp2_with fail
      go_ret2
      rw [← hfin.out.2]
      exact ⟨_, _, rfl, hle, hcap.2, HL2.out, hbr, fun a ha => by cases ha; exact Nat.le_refl _⟩
    · obtain ⟨j, rfl⟩ : ∃ j, k = j + 1 := ⟨k - 1, by omega⟩
      obtain ⟨p, hp⟩ : ∃ p, a[j]? = some p := ⟨_, List.getElem?_eq_getElem (by have := HM.out; omega)⟩
      obtain ⟨z, hz⟩ : ∃ z, O[j]? = some z := ⟨_, List.getElem?_eq_getElem (by have := HOL.out; omega)⟩
      obtain ⟨b1, o1, rfl, hb1, hc1⟩ := (HA.out.below hbr).2.2 (by have := HM.out; omega)
      have c1 := hc1 j p hp
      have hpl : p < 4294967296 := HA.out.ok.at_ hp
      have cz : wr.cell? ⟨w.heap.size, j, none⟩ = some (.int .u32 (z : Int)) := (hown.cellAt j (by omega)).trans (uv_get hz)
      have fz := hown.frozenAt j
      have hor := or_hi (r := r) (x := p) (by omega) hpl
      obtain ⟨hd1, hd2, hd3⟩ := div_lt (d := d) hpl hr hd
      have hstep := div_round HV.out hp
      have e1 : (((j + 1 : Nat) : Int) - 1) = j := by omega
      obtain ⟨T, hT⟩ : ∃ T, r * 4294967296 + p = T := ⟨_, rfl⟩
      rw [hT] at hor hd1 hd2 hd3 hstep
      have HSTEP := hide hstep
      have hjn : j < m := by omega
      obtain ⟨hos, hgs⟩ := hown.stored j (.int .u32 ((T / d : Nat) : Int))
      rw [uv_set] at hos
      have hbs := hbr.setCell (p := ⟨w.heap.size, j, none⟩) (Nat.le_refl _) (.int .u32 ((T / d : Nat) : Int))
      have hok : Hid (Ok (O.set j (T / d))) := HO.out.set _ hd2
      have hval : Hid (lval (a.drop j) = d * lval ((O.set j (T / d)).drop j) + T % d) := by
        show _ = _
        rw [HSTEP.out, drop_set_self (by have := HOL.out; omega)]
      rw [e1]
      clear hc1 hp hz hT hstep h0 e1
      go_wp2_with fail
      rw [quo_eq hd2]
      go_roundw
      case rel => exact ⟨j, T % d, O.set j (T / d), by omega, hd3, rfl, by congr 1, by show _ = _; rw [List.length_set]; exact HOL.out, hok, hval, hos, hbs⟩
      case measure => simp [intOf] <;> omega
/-- nothing is carried out of the last limb -/
theorem shl_none {a : List Nat} {i s v n : Nat} (hv : a[i]? = some v) (hn : i + 1 = n) (h : lval a * 2 ^ s < 4294967296 ^ n) : v * 2 ^ s / 4294967296 = 0 := by
  have hi : i < a.length := (List.getElem?_eq_some_iff.1 hv).1
  have e := lval_split a i (by omega)
  rw [lval_drop_at hv] at e
  have h1 : 4294967296 ^ i * v ≤ lval a := by
    rw [e]
    exact Nat.le_trans (Nat.mul_le_mul_left _ (by omega)) (Nat.le_add_left _ _)
  have h2 : 4294967296 ^ i * v * 2 ^ s ≤ lval a * 2 ^ s := Nat.mul_le_mul_right _ h1
  rw [← hn, Nat.pow_succ] at h
  have h3 : 4294967296 ^ i * (v * 2 ^ s) < 4294967296 ^ i * 4294967296 := by
    rw [← Nat.mul_assoc]; omega
  have h4 := Nat.lt_of_mul_lt_mul_left h3
  omega
set_option maxHeartbeats 4000000000000 in
set_option maxRecDepth 100000000000 in
theorem shift_any (x s m n : Nat) (A : Option Addr) (c : Nat) (w : World) (ha : LAt w w.heap.size A (limbs x)) (hm : (limbs x).length = m) (hmn : m ≤ n) (hx : n ≤ 1000000000000) (hs : s ≤ 31) (hfit : x * 2 ^ s < 4294967296 ^ n) :
    Calls Tryz.prog 207 #[.slice A m c, .int .u64 (s : Int), .int .i64 (n : Int)] w (OPost n (x * 2 ^ s) w) := by
  obtain ⟨i0, hi0, hz0, hz1, hz2⟩ := info_parts u32Info
  have HVA := hide (lval_limbs x)
  have HA := hide ha
  have HM := hide hm
  have HFIT := hide hfit
  clear ha hm hfit
  generalize limbs x = a at HVA HA HM
  go_enter Tryz.func207, Tryz.ntmps207
  go_wp2_with (first
    | (at_make
       refine wpList_make_full _ rfl (.tmp 11) (.tmp 11) 217 rfl w.heap.size 219 i0 _ 1 Tryz.underlying217 hi0 hz0 hz1 .i64 .i64 _ _ n rfl rfl ?c1 ?c2 ?c3 ?c4 ?c5 ?_
       case c1 => rfl
       case c2 => rfl
       case c3 => rw [hz2]; omega
       case c4 => unfold maxLen; omega
       case c5 => exact Nat.le_refl _
       intro w2 hown hg))
  rw [made_uv] at hown
  have hb2 : Below w.heap.size w w2 := (Below.refl _ _).grown hg (Nat.le_refl _) (by simp)
  clear hg
  go_loopw [15] (fun vi wr => ∃ (i : Nat) (O : List Nat), i ≤ m ∧ vi = .int .i64 i ∧ Hid (O.length = n) ∧ Hid (Ok O) ∧ Hid (lval O = lval (a.take i) * 2 ^ s) ∧ wr.ownsRow w.heap.size 219 1 (.slice (some ⟨w.heap.size, 0, none⟩) n n) n (uv O) ∧ Below w.heap.size w wr) (fun vi _ => m - (intOf vi).toNat)
  case atStart => exact ⟨0, List.replicate n 0, by omega, rfl, by show _ = _; simp, Ok.replicate _, by show _ = _; simp [lval, lval_replicate], hown, hb2⟩
  case round =>
    obtain ⟨i, O, hi, rfl, HOL, HO, HV, hown, hbr⟩ := hrel
    by_cases hlt : i < m
    · obtain ⟨p, hp⟩ : ∃ p, a[i]? = some p := ⟨_, List.getElem?_eq_getElem (by rw [HM.out]; exact hlt)⟩
      obtain ⟨z, hz⟩ : ∃ z, O[i]? = some z := ⟨_, List.getElem?_eq_getElem (by have := HOL.out; omega)⟩
      obtain ⟨b1, o1, rfl, hb1, hc1⟩ := (HA.out.below hbr).2.2 (by rw [HM.out]; omega)
      have c1 := hc1 i p hp
      have hpl : p < 4294967296 := HA.out.ok.at_ hp
      have hsmall := shl_small (s := s) HA.out.ok (by rw [HM.out]; exact hi)
      rw [← HV.out] at hsmall
      have hzl : z < 2 ^ s := limb_lt hsmall hz
      obtain ⟨hs1, hs2, hs3⟩ := shl_bounds hs hzl hpl
      have hor := or_shift (s := s) (a := p) (by omega) hzl
      have cz : wr.cell? ⟨w.heap.size, i, none⟩ = some (.int .u32 (z : Int)) := (hown.cellAt i (by omega)).trans (uv_get hz)
      have fz := hown.frozenAt i
      have HOR := hide hor
      have HP := hide hp
      have HZ := hide hz
      have HNONE : i + 1 = n → p * 2 ^ s / 4294967296 = 0 := fun e => shl_none hp e (by rw [HVA.out]; exact HFIT.out)
      have HNONE2 := Lib.hid HNONE
      have HY : i + 1 < n → O[i + 1]? = some 0 := fun hlt2 => by
        obtain ⟨y, hy⟩ : ∃ y, O[i + 1]? = some y := ⟨_, List.getElem?_eq_getElem (by have := HOL.out; omega)⟩
        rw [hy]
        congr 1
        refine zero_above ?_ hy
        have h1 : 4294967296 ^ i * 2 ^ s ≤ 4294967296 ^ i * 4294967296 := Nat.mul_le_mul_left _ (Nat.pow_le_pow_right (n := 2) (by omega) (by omega : s ≤ 32))
        rw [Nat.pow_succ]
        omega
      have HY2 := Lib.hid HY
      have HR1 : i + 1 < n → lval ((O.set i (z + (p * 2 ^ s) % 4294967296)).set (i + 1) ((p * 2 ^ s) / 4294967296)) = lval (a.take (i + 1)) * 2 ^ s := fun h => shl_round HV.out hp hz (HY h)
      have HR2 : i + 1 = n → lval (O.set i (z + (p * 2 ^ s) % 4294967296)) = lval (a.take (i + 1)) * 2 ^ s := fun h => shl_round_last HV.out hp hz (HNONE h)
      obtain ⟨t, ht⟩ : ∃ t, p * 2 ^ s = t := ⟨_, rfl⟩
      rw [ht] at hs1 hs2 hs3 HOR HR1 HR2
      have HRA := Lib.hid HR1
      have HRB := Lib.hid HR2
      have hw1 : IntKind.u64.wrap ((p : Int) * 2 ^ s) = (t : Int) := by
        rw [← ht]
        have e : (p : Int) * 2 ^ s = ((p * 2 ^ s : Nat) : Int) := by simp
        rw [e]
        exact IntWalk.u64_in _ (by rw [ht]; omega)
      have HZL := hide hzl
      have e1 : bits BinOp.or IntKind.u32 (z : Int) ((t : Int) % 4294967296) = ((z + t % 4294967296 : Nat) : Int) := by
        have e : (t : Int) % 4294967296 = ((t % 4294967296 : Nat) : Int) := by omega
        rw [e, u32_or_nat _ _ (by omega) (by omega), HOR.out]
      obtain ⟨D, hD⟩ : ∃ D, z + t % 4294967296 = D := ⟨_, rfl⟩
      rw [hD] at hs1 HRA HRB e1
      obtain ⟨E, hE⟩ : ∃ E, t / 4294967296 = E := ⟨_, rfl⟩
      rw [hE] at HRA
      have e2 : (t : Int) / 4294967296 = (E : Int) := by omega
      have hEl : E < 4294967296 := by omega
      have hin : i < n := by omega
      obtain ⟨hos, hgs⟩ := hown.stored i (.int .u32 (D : Int))
      rw [uv_set] at hos
      have hbs := hbr.setCell (p := ⟨w.heap.size, i, none⟩) (Nat.le_refl _) (.int .u32 (D : Int))
      have hok : Hid (Ok (O.set i D)) := HO.out.set _ hs1
      have E1 := Lib.hid e1
      clear hc1 hp hz hor hsmall ht hzl hs2 HNONE HY HR1 HR2 hD hE e1
      by_cases hlast : i + 1 < n
      · have hy0 := HY2.out hlast
        have hy1 : (O.set i D)[i + 1]? = some 0 := by rw [List.getElem?_set_ne (by omega)]; exact hy0
        have cy : (wr.setCell ⟨w.heap.size, i, none⟩ (.int .u32 (D : Int))).cell? ⟨w.heap.size, i + 1, none⟩ = some (.int .u32 (0 : Nat)) := (hos.cellAt (i + 1) (by omega)).trans (uv_get hy1)
        have fy := hos.frozenAt (i + 1)
        obtain ⟨hos2, hgs2⟩ := hos.stored (i + 1) (.int .u32 (E : Int))
        rw [uv_set] at hos2
        have hbs2 := hbs.setCell (p := ⟨w.heap.size, i + 1, none⟩) (Nat.le_refl _) (.int .u32 (E : Int))
        have hok2 : Hid (Ok ((O.set i D).set (i + 1) E)) := hok.out.set _ hEl
        have hval := hide (HRA.out hlast)
        have e3 : bits BinOp.or IntKind.u32 0 (E : Int) = (E : Int) := by
          have := u32_or_nat 0 E (by omega) hEl
          rw [Nat.zero_or] at this
          exact this
        have hlen : Hid (((O.set i D).set (i + 1) E).length = n) := by show _ = _; rw [List.length_set, List.length_set]; exact HOL.out
        clear hy0 hy1
        have e1 := E1.out
        go_wp2_with fail
        go_roundw
        case rel => exact ⟨i + 1, _, by omega, by go_num, hlen, hok2, hval, hos2, hbs2⟩
        case measure => simp [intOf]; omega
      · have hval := hide (HRB.out (by omega))
        have hlen : Hid ((O.set i D).length = n) := by show _ = _; rw [List.length_set]; exact HOL.out
        have e1 := E1.out
        go_wp2_with fail
        go_roundw
        case rel => exact ⟨i + 1, _, by omega, by go_num, hlen, hok, hval, hos, hbs⟩
        case measure => simp [intOf]; omega
    · have hfin : Hid (lval O = x * 2 ^ s) := by
        show _ = _
        rw [HV.out, lval_take_all (by rw [HM.out]; omega), HVA.out]
      go_wp2_with fail
      go_ret
      exact ⟨_, O, rfl, HOL.out, HO.out, hfin.out, hown, hbr⟩
set_option maxHeartbeats 4000000000000 in
set_option maxRecDepth 100000000000 in
theorem unshift_any (a : List Nat) (s n : Nat) (A : Option Addr) (c : Nat) (w : World) (ha : LAt w w.heap.size A a) (hn : a.length = n) (hx : n ≤ 1000000000000) (hs : s ≤ 31) :
    Calls Tryz.prog 209 #[.slice A n c, .int .u64 (s : Int)] w (LPost (limbs (lval a / 2 ^ s)) w) := by
  obtain ⟨i0, hi0, hz0, hz1, hz2⟩ := info_parts u32Info
  have HA := hide ha
  have HN := hide hn
  clear ha hn
  go_enter Tryz.func209, Tryz.ntmps209
  go_wp2_with (first
    | (at_make
       refine wpList_make_full _ rfl (.tmp 9) (.tmp 9) 217 rfl w.heap.size 219 i0 _ 1 Tryz.underlying217 hi0 hz0 hz1 .i64 .i64 _ _ n rfl rfl ?c1 ?c2 ?c3 ?c4 ?c5 ?_
       case c1 => rfl
       case c2 => rfl
       case c3 => rw [hz2]; omega
       case c4 => unfold maxLen; omega
       case c5 => exact Nat.le_refl _
       intro w2 hown hg))
  rw [made_uv] at hown
  have hb2 : Below w.heap.size w w2 := (Below.refl _ _).grown hg (Nat.le_refl _) (by simp)
  clear hg
  go_loopw [13] (fun vi wr => ∃ (i : Nat) (O : List Nat), i ≤ n ∧ vi = .int .i64 i ∧ Hid (O.length = n) ∧ Hid (Ok O) ∧ Hid (O.take i = (ush s a).take i) ∧ wr.ownsRow w.heap.size 219 1 (.slice (some ⟨w.heap.size, 0, none⟩) n n) n (uv O) ∧ Below w.heap.size w wr) (fun vi _ => n - (intOf vi).toNat)
  case atStart => exact ⟨0, List.replicate n 0, by omega, rfl, by show _ = _; simp, Ok.replicate _, by show _ = _; simp, hown, hb2⟩
  case round =>
    obtain ⟨i, O, hi, rfl, HOL, HO, HV, hown, hbr⟩ := hrel
    by_cases hlt : i < n
    · obtain ⟨p, hp⟩ : ∃ p, a[i]? = some p := ⟨_, List.getElem?_eq_getElem (by rw [HN.out]; exact hlt)⟩
      obtain ⟨z, hz⟩ : ∃ z, O[i]? = some z := ⟨_, List.getElem?_eq_getElem (by have := HOL.out; omega)⟩
      obtain ⟨b1, o1, rfl, hb1, hc1⟩ := (HA.out.below hbr).2.2 (by rw [HN.out]; omega)
      have c1 := hc1 i p hp
      have hpl : p < 4294967296 := HA.out.ok.at_ hp
      have cz : wr.cell? ⟨w.heap.size, i, none⟩ = some (.int .u32 (z : Int)) := (hown.cellAt i (by omega)).trans (uv_get hz)
      have fz := hown.frozenAt i
      have hnext := ush_at s hp
      have hql := dig_lt HA.out.ok (i + 1)
      obtain ⟨q, hq⟩ : ∃ q, dig a (i + 1) = q := ⟨_, rfl⟩
      rw [hq] at hnext hql
      have HQ : i + 1 < n → wr.cell? ⟨b1, o1 + (i + 1), none⟩ = some (.int .u32 (q : Int)) := fun h => by
        refine hc1 (i + 1) q ?_
        rw [← hq, dig_at (List.getElem?_eq_getElem (by rw [HN.out]; exact h))]
        exact List.getElem?_eq_getElem (by rw [HN.out]; exact h)
      have HQ0 : ¬ i + 1 < n → q = 0 := fun h => by rw [← hq]; exact dig_out (by rw [HN.out]; omega)
      have HQ1 := Lib.hid HQ
      have HQ2 := Lib.hid HQ0
      obtain ⟨V, hV⟩ : ∃ V, p + 4294967296 * q = V := ⟨_, rfl⟩
      rw [hV] at hnext
      obtain ⟨D, hD⟩ : ∃ D, V / 2 ^ s % 4294967296 = D := ⟨_, rfl⟩
      rw [hD] at hnext
      have hDl : D < 4294967296 := by rw [← hD]; exact Nat.mod_lt _ (by omega)
      have q10 : (V : Int) / 2 ^ s % 4294967296 = (D : Int) := by
        have e : (V : Int) / 2 ^ s = ((V / 2 ^ s : Nat) : Int) := by simp
        rw [e]; omega
      have HN1 : Hid (Ok (O.set i D)) := HO.out.set _ hDl
      have HN2 : Hid ((O.set i D).length = n) := by show _ = _; rw [List.length_set]; exact HOL.out
      have HN3 : Hid ((O.set i D).take (i + 1) = (ush s a).take (i + 1)) := by
        show _ = _
        rw [take_set_succ (by rw [HOL.out]; omega), RnA.take_at hnext, HV.out]
      obtain ⟨hos, hgs⟩ := hown.stored i (.int .u32 (D : Int))
      rw [uv_set] at hos
      have hbs := hbr.setCell (p := ⟨w.heap.size, i, none⟩) (Nat.le_refl _) (.int .u32 (D : Int))
      have HV2 := hide hV
      clear hc1 hp hz hq hnext hD hV HQ HQ0
      by_cases hlast : i + 1 < n
      · have c2 := HQ1.out hlast
        have q9 : IntKind.u64.wrap ((q : Int) * 4294967296) = (q : Int) * 4294967296 := IntWalk.u64_in _ (by omega)
        have hor : bits BinOp.or IntKind.u64 (p : Int) ((q : Int) * 4294967296) = (V : Int) := by
          have e : (q : Int) * 4294967296 = ((q * 4294967296 : Nat) : Int) := by omega
          rw [e, u64_or_nat _ _ (by omega) (by omega), Nat.mul_comm q, show (4294967296 : Nat) = 2 ^ 32 from rfl, or_low hpl, ← HV2.out]
        go_wp2_with fail
        go_roundw
        case rel => exact ⟨i + 1, _, by omega, by go_num, HN2, HN1, HN3, hos, hbs⟩
        case measure => simp [intOf]; omega
      · have hq0 := HQ2.out hlast
        have hpV : p = V := by have := HV2.out; omega
        subst hpV
        go_wp2_with fail
        go_roundw
        case rel => exact ⟨i + 1, _, by omega, by go_num, HN2, HN1, HN3, hos, hbs⟩
        case measure => simp [intOf]; omega
    · obtain rfl : i = n := by omega
      have hfin : Hid (lval O = lval a / 2 ^ s) := by
        show _ = _
        have h := HV.out
        rw [List.take_of_length_le (by rw [HOL.out]; exact Nat.le_refl _), List.take_of_length_le (by rw [ush_length, HN.out]; exact Nat.le_refl _)] at h
        rw [h, ush_val hs HA.out.ok]
      have hL := LAt.of_own hown HO.out
      obtain ⟨hL2, hle⟩ := LAt.strip hL
      have hcap := own_cap hown
      rw [hfin.out] at hL2 hle
      rw [HOL.out] at hle
      have HL := hide hL
      have HL2 := hide hL2
      clear hL hL2
      go_wp2_with fail
      refine (trim_any O _ _ _ _ HOL.out HL.out (Nat.le_refl _)).mono ?_
      rintro e w3 ⟨rfl, rfl⟩
      rw [hfin.out]
      go_wp2_with fail
      go_ret
      exact ⟨_, _, rfl, hle, hcap.2, HL2.out, hbr⟩
end Go.Proofs.YtpbgmpjnfndfjaaGreatDoor.PnG
namespace Go.Proofs.YtpbgmpjnfndfjaaGreatDoor.PnH
theorem here : True := trivial
open Go.RowKit RnA RnB RnS RnC RnK RnM RnL RnN RnD RnE RnQ RnR RnP RnW RnX RoA RoB RoC RoD RoE RoF RoG RoH RoI RoJ RoL PnA PnB PnC PnD PnE PnG
/-- what a step of a long division answers -/
def StepPost (w0 : World) (gu gv gq M L : Nat) (P0 W0 R0 Q ds : List Nat) (n : Nat) (e : Ending) (w' : World) : Prop :=
  e = .returned (.int .u32 ((lval W0 / lval ds : Nat) : Int)) ∧ ∃ W2, lval W2 = lval W0 % lval ds ∧ W2.length = n + 1 ∧ Ok W2 ∧ St w0 w' gu gv gq M L (P0 ++ W2 ++ R0) Q ds
set_option maxHeartbeats 16000000000000 in
set_option maxRecDepth 100000000000 in
theorem step_any (w0 w : World) (gu gv gq M L j n cu : Nat) (P0 W0 R0 Q ds : List Nat) (hst : St w0 w gu gv gq M L (P0 ++ W0 ++ R0) Q ds) (hpl : P0.length = j) (hWL : W0.length = n + 1) (hWO : Ok W0) (hdl : ds.length = n) (hn2 : 2 ≤ n) (hdo : Ok ds)
    (hjn : j + n + 1 ≤ M) (hM : M ≤ 200000000000) (hbigd : 2147483648 * 4294967296 ^ (n - 1) ≤ lval ds) (hwin : lval W0 < lval ds * 4294967296) :
    Calls Tryz.prog 208 #[.slice (some ⟨gu, j, none⟩) (n + 1) cu, .slice (some ⟨gv, 0, none⟩) n n] w (StepPost w0 gu gv gq M L P0 W0 R0 Q ds n) := by
  have HPL := hide hpl
  have HWL := hide hWL
  have HOW := hide hWO
  have HDL := hide hdl
  have HDO := hide hdo
  have HWLT := hide hwin
  have HBD := hide hbigd
  clear hpl hWL hWO hdl hdo hwin hbigd
  obtain ⟨u0, hu0⟩ : ∃ v, W0[n]? = some v := ⟨_, List.getElem?_eq_getElem (by have := HWL.out; omega)⟩
  obtain ⟨u1, hu1⟩ : ∃ v, W0[n - 1]? = some v := ⟨_, List.getElem?_eq_getElem (by have := HWL.out; omega)⟩
  obtain ⟨u2, hu2⟩ : ∃ v, W0[n - 2]? = some v := ⟨_, List.getElem?_eq_getElem (by have := HWL.out; omega)⟩
  obtain ⟨v1, hv1⟩ : ∃ v, ds[n - 1]? = some v := ⟨_, List.getElem?_eq_getElem (by have := HDL.out; omega)⟩
  obtain ⟨v2, hv2⟩ : ∃ v, ds[n - 2]? = some v := ⟨_, List.getElem?_eq_getElem (by have := HDL.out; omega)⟩
  have hu0l := HOW.out.at_ hu0
  have hu1l := HOW.out.at_ hu1
  have hu2l := HOW.out.at_ hu2
  have hv1l := HDO.out.at_ hv1
  have hv2l := HDO.out.at_ hv2
  have hat : ∀ k x, k < n + 1 → W0[k]? = some x → (P0 ++ W0 ++ R0)[j + k]? = some x := fun k x hk h => by rw [win_at HPL.out (by have := HWL.out; omega)]; exact h
  have HAT := Lib.hid hat
  have hbig : 2147483648 ≤ v1 := top_big (n := n - 1) HDO.out (by rw [HDL.out]; omega) hv1 HBD.out
  have hest := est_window (k := n - 2) HDO.out HOW.out (by rw [HDL.out]; omega) (by rw [HWL.out]; omega)
    (x := u0) (y := u1) (z := u2) (v1 := v1) (v2 := v2)
    (by rw [show n - 2 + 2 = n by omega]; exact hu0) (by rw [show n - 2 + 1 = n - 1 by omega]; exact hu1) hu2
    (by rw [show n - 2 + 1 = n - 1 by omega]; exact hv1) hv2 hbig HWLT.out
  obtain ⟨T, hT⟩ : ∃ T, u0 * 4294967296 + u1 = T := ⟨_, rfl⟩
  rw [hT] at hest
  obtain ⟨hq1, hq2, hTt⟩ := hest
  have HQ1 := hide hq1
  have HQ2 := hide hq2
  have HTT := hide hTt
  have HBIG := hide hbig
  have HU0 := hide hu0
  have HU1 := hide hu1
  have HU2 := hide hu2
  have HV1 := hide hv1
  have HV2 := hide hv2
  have HT := hide hT
  have hT64 : T ≤ 18446744073709551615 := by omega
  clear hat hu0 hu1 hu2 hv1 hv2 hq1 hq2 hTt hbig hT
  have q1 : IntKind.i64.wrap ((n : Int) - 1) = (n : Int) - 1 := IntWalk.i64_in _ (by omega)
  have q2 : ((n : Int) - 1).toNat = n - 1 := by omega
  have q3 : 0 ≤ (n : Int) - 1 := by omega
  have q4 : (n : Int) - 1 < (n : Int) := by omega
  have q5 : (n : Int) - 1 < (n : Int) + 1 := by omega
  have q6 : IntKind.i64.wrap ((n : Int) - 2) = (n : Int) - 2 := IntWalk.i64_in _ (by omega)
  have q7 : ((n : Int) - 2).toNat = n - 2 := by omega
  have q8 : 0 ≤ (n : Int) - 2 := by omega
  have q9 : (n : Int) - 2 < (n : Int) := by omega
  have q10 : (n : Int) - 2 < (n : Int) + 1 := by omega
  have cu0 := hst.cu (HAT.out n u0 (by omega) HU0.out)
  have cu1 := hst.cu (HAT.out (n - 1) u1 (by omega) HU1.out)
  go_enter Tryz.func208, Tryz.ntmps208
  go_upto_region 2 with fail
  go_cut [6] (fun v wx => v = .int .u64 (T : Int) ∧ St w0 wx gu gv gq M L (P0 ++ W0 ++ R0) Q ds)
  case first =>
    as_aux_lemma =>
      have hor := or_hi hu0l hu1l
      rw [HT.out] at hor
      have q11 : IntKind.u64.wrap ((u0 : Int) * 4294967296) = (u0 : Int) * 4294967296 := IntWalk.u64_in _ (by omega)
      go_quiet (fail)
      go_wp2_with fail
      go_meet
      case rel => exact ⟨rfl, hst.drewN _⟩
  case rest =>
    clear hst cu0 cu1
    obtain ⟨rfl, hst⟩ := hcut
    have cv1 := hst.cd HV1.out
    have hg0 : T / v1 ≤ 4294967297 := start_le HBIG.out HTT.out
    have hge := est_start (top := T) (v1 := v1) (v2 := v2) (u := u2) (by have := HBIG.out; omega) hu2l
    have hdm : T / v1 * v1 + T % v1 = T := by rw [Nat.mul_comm]; exact Nat.div_add_mod T v1
    have hrl : T % v1 < v1 := Nat.mod_lt _ (by have := HBIG.out; omega)
    have hq64 := quo64 (T := T) (d := v1) (by omega)
    have hv1p : 1 ≤ v1 := by have := HBIG.out; omega
    have HGE := hide hge
    have HDM := hide hdm
    have hmod : (T : Int) % (v1 : Int) = ((T % v1 : Nat) : Int) := (Int.natCast_emod T v1).symm
    generalize T / v1 = g0 at hg0 HGE HDM hq64
    generalize T % v1 = r0 at hrl HDM hmod
    clear hge hdm
    go_upto_region 3 with fail
    go_cut [7, 8] (fun vg vr wx => vg = .int .u64 (g0 : Int) ∧ vr = .int .u64 (r0 : Int) ∧ St w0 wx gu gv gq M L (P0 ++ W0 ++ R0) Q ds)
    case first =>
      as_aux_lemma =>
        go_quiet (fail)
        go_wp2_with fail
        go_meet
        case rel => exact ⟨rfl, by rw [hmod], hst.drewN _⟩
    case rest =>
      clear hst cv1 hq64 hmod
      obtain ⟨rfl, rfl, hst⟩ := hcut
      go_upto_block 0 with fail
      go_cut [7] (fun v wx => v = .int .u64 (est T u2 v1 v2 : Nat) ∧ St w0 wx gu gv gq M L (P0 ++ W0 ++ R0) Q ds)
      case first =>
        as_aux_lemma =>
          go_wp2_with fail
          go_loopw [7, 8] (fun vg vr wr => ∃ g r : Nat, vg = .int .u64 g ∧ vr = .int .u64 r ∧ Hid (g * v1 + r = T) ∧ r < 4294967296 ∧ g ≤ 4294967297 ∧ Hid (est T u2 v1 v2 ≤ g) ∧ St w0 wr gu gv gq M L (P0 ++ W0 ++ R0) Q ds) (fun vg _ _ => (intOf vg).toNat)
          case atStart => exact ⟨g0, r0, rfl, rfl, HDM.out, by omega, hg0, HGE.out, hst⟩
          case round =>
            clear hst HDM hrl HGE hg0
            obtain ⟨g, r, rfl, rfl, HDM, hrl, hgl, HGE, hst⟩ := hrel
            have cu2 := hst.cu (HAT.out (n - 2) u2 (by omega) HU2.out)
            have cv2 := hst.cd HV2.out
            go_upto_region 4 with fail
            go_cut [69] (fun b wx => b = .bool (tooGreat g r u2 v2) ∧ St w0 wx gu gv gq M L (P0 ++ W0 ++ R0) Q ds)
            case first =>
              by_cases hbg : 4294967296 ≤ g
              · have t1 : decide (4294967296 ≤ (g : Int)) = true := decide_eq_true (by omega)
                have hres : Hid (true = tooGreat g r u2 v2) := by show _ = _; unfold tooGreat; rw [decide_eq_true hbg]; rfl
                go_quiet (fail)
                go_wp2_with fail
                go_meet
                case rel => exact ⟨by rw [← hres.out], hst.drewN _⟩
              · have t1 : decide (4294967296 ≤ (g : Int)) = false := decide_eq_false (by omega)
                have hor := or_hi hrl hu2l
                have hpr := guess_prod hgl hv2l
                have hres : Hid (decide (r * 4294967296 + u2 < g * v2) = tooGreat g r u2 v2) := by
                  show _ = _
                  unfold tooGreat
                  rw [decide_eq_false hbg, Bool.false_or]
                have hw1 : IntKind.u64.wrap ((g : Int) * (v2 : Int)) = ((g * v2 : Nat) : Int) := by
                  rw [← Int.natCast_mul]
                  generalize g * v2 = pr at hpr ⊢
                  exact IntWalk.u64_in _ (by omega)
                have hw2 : IntKind.u64.wrap ((r : Int) * 4294967296) = (r : Int) * 4294967296 := IntWalk.u64_in _ (by omega)
                generalize r * 4294967296 + u2 = RU at hor hres
                generalize g * v2 = GV at hpr hres hw1
                go_quiet (fail)
                go_wp2_with fail
                go_meet
                case rel => exact ⟨by rw [← hres.out], hst.drewN _⟩
            case rest =>
              clear hst cu2 cv2
              obtain ⟨rfl, hst⟩ := hcut
              have cv1 := hst.cd HV1.out
              have hHDM := HDM.out
              have hHGE := HGE.out
              cases hc : tooGreat g r u2 v2
              case false =>
                obtain ⟨hc1, hc2⟩ := tg_false hc
                have hfin : g = est T u2 v1 v2 := Nat.le_antisymm (est_stop (by omega) hHDM hc1 hc2) hHGE
                clear hc hc1 hc2 hHDM hHGE
                go_wp2_with fail
                go_meet
                case rel => exact ⟨by rw [hfin], hst⟩
              case true =>
                obtain ⟨hd, hg1⟩ := est_down hHDM (tg_true hc)
                have hs1 : (g - 1) * v1 + (r + v1) = T := by rw [← hHDM]; exact tg_step hg1
                have hw3 : IntKind.u64.wrap ((g : Int) - 1) = ((g - 1 : Nat) : Int) := by rw [show ((g - 1 : Nat) : Int) = (g : Int) - 1 by omega]; exact IntWalk.u64_in _ (by omega)
                have hw4 : IntKind.u64.wrap ((r : Int) + (v1 : Int)) = ((r + v1 : Nat) : Int) := by rw [show ((r + v1 : Nat) : Int) = (r : Int) + (v1 : Int) by omega]; exact IntWalk.u64_in _ (by omega)
                have hg2 : g - 1 ≤ 4294967296 := by omega
                have hmes : g - 1 < g := by omega
                clear hHDM hHGE hc
                obtain ⟨g', hg'⟩ : ∃ g', g - 1 = g' := ⟨_, rfl⟩
                obtain ⟨r', hr'⟩ : ∃ r', r + v1 = r' := ⟨_, rfl⟩
                rw [hg'] at hd hs1 hw3 hg2 hmes
                rw [hr'] at hs1 hw4
                have hs1' := hide hs1
                have hd' := hide hd
                clear hs1 hd hr' hg' HDM HGE
                by_cases hbr : 4294967296 ≤ r'
                · have t1 : decide (4294967296 ≤ (r' : Int)) = true := decide_eq_true (by omega)
                  have hfin : g' = est T u2 v1 v2 := Nat.le_antisymm (est_break (by omega) HTT.out hv2l hg2 hs1'.out hbr) hd'.out
                  go_wp2_with fail
                  go_meet
                  case rel => exact ⟨rfl, hst⟩
                · have t1 : decide (4294967296 ≤ (r' : Int)) = false := decide_eq_false (by omega)
                  go_wp2_with fail
                  exact ⟨⟨g', r', rfl, rfl, hs1', by omega, by omega, hd', hst⟩, by show (g' : Int).toNat < (g : Int).toNat; omega⟩
      case rest =>
        clear hst hg0 hrl HDM HGE
        obtain ⟨rfl, hst⟩ := hcut
        have hGl := est_lt T u2 v1 v2
        obtain ⟨G, hG⟩ : ∃ G, est T u2 v1 v2 = G := ⟨_, rfl⟩
        rw [hG] at hGl HQ1 HQ2 ⊢
        clear HU0 HU1 HU2 HV1 HV2 hu0l hu1l hu2l hv1l hv2l HT HTT HBIG hv1p hT64 hG q1 q2 q3 q4 q5 q6 q7 q8 q9 q10
        go_upto_block 2 with fail
        go_cut [9, 10] (fun vc vb wx => ∃ (c b : Nat) (W' : List Nat), vc = .int .u64 c ∧ vb = .int .u32 b ∧ c < 4294967296 ∧ b ≤ 1 ∧ Hid (MulSub G ds W0 W' n c b) ∧ Hid (Ok W') ∧ St w0 wx gu gv gq M L (P0 ++ W' ++ R0) Q ds)
        case first =>
          as_aux_lemma =>
            go_wp2_with fail
            go_loopw [9, 10, 84] (fun vc vb vi wr => ∃ (k c b : Nat) (W' : List Nat), k ≤ n ∧ vi = .int .i64 k ∧ vc = .int .u64 c ∧ vb = .int .u32 b ∧ c < 4294967296 ∧ b ≤ 1 ∧ Hid (MulSub G ds W0 W' k c b) ∧ Hid (Ok W') ∧ St w0 wr gu gv gq M L (P0 ++ W' ++ R0) Q ds) (fun _ _ vi _ => n - (intOf vi).toNat)
            case atStart => exact ⟨0, 0, 0, W0, by omega, rfl, rfl, rfl, by omega, by omega, MulSub.start G ds W0, HOW, hst⟩
            case round =>
              clear hst
              obtain ⟨k, c, b, W', hk, rfl, rfl, rfl, hcl, hbl, HMS, HOW', hst⟩ := hrel
              by_cases hkn : k < n
              · obtain ⟨v, hv⟩ : ∃ v, ds[k]? = some v := ⟨_, List.getElem?_eq_getElem (by have := HDL.out; omega)⟩
                have hWl' : W'.length = n + 1 := by rw [HMS.out.1, HWL.out]
                obtain ⟨z, hz⟩ : ∃ z, W'[k]? = some z := ⟨_, List.getElem?_eq_getElem (by omega)⟩
                have hz0 : W0[k]? = some z := by rw [← getElem?_of_drop HMS.out.2.1]; exact hz
                have hvl := HDO.out.at_ hv
                have hzl := HOW'.out.at_ hz
                have cd1 := hst.cd hv
                have cu1 := hst.cu (k := j + k) (v := z) (by rw [win_at HPL.out (by omega)]; exact hz)
                have fu1 := hst.fu (j + k)
                have hT1 := (prod_lt hGl hvl (by omega : 0 < 4294967296) hcl).1
                have hT2 := (prod_lt hGl hvl (by omega : 0 < 4294967296) hcl).2
                obtain ⟨T2, hT⟩ : ∃ T2, G * v + 0 + c = T2 := ⟨_, rfl⟩
                rw [hT] at hT1 hT2
                have hp0 : Hid (G * v + c = T2) := by show _ = _; omega
                have hw1 : IntKind.u64.wrap ((G : Int) * (v : Int)) = ((G * v : Nat) : Int) := by
                  rw [← Int.natCast_mul]
                  exact IntWalk.u64_in _ (by omega)
                obtain ⟨pr, hpr⟩ : ∃ pr, G * v = pr := ⟨_, rfl⟩
                rw [hpr] at hw1 hT
                have hw2 : IntKind.u64.wrap ((pr : Int) + (c : Int)) = (T2 : Int) := by rw [IntWalk.u64_in _ (by omega)]; omega
                obtain ⟨Y0, hY0⟩ : ∃ Y0, T2 % 4294967296 = Y0 := ⟨_, rfl⟩
                have hY0l : Y0 < 4294967296 := by omega
                have hw3 : (T2 : Int) % 4294967296 = (Y0 : Int) := by omega
                obtain ⟨hbo1, hbo2⟩ := sub_lt hzl hY0l hbl
                obtain ⟨bo, hbo⟩ : ∃ bo, (if z < Y0 + b then 1 else 0) = bo := ⟨_, rfl⟩
                obtain ⟨D, hD⟩ : ∃ D, (z + 8589934592 - Y0 - b) % 4294967296 = D := ⟨_, rfl⟩
                have HSB := Lib.hid (fun w => sub32_any z Y0 b D bo w hzl hY0l hbl hD.symm hbo)
                rw [hbo] at hbo1 hbo2
                rw [hD] at hbo2
                have hDl : D < 4294967296 := by omega
                have HN1 : Hid (MulSub G ds W0 (W'.set k D) (k + 1) (T2 / 4294967296) bo) := by
                  have := MulSub.step (diff := D) (b' := bo) HMS.out hv hz0 (by rw [hp0.out, hY0]; exact hbo2)
                  rw [hp0.out] at this
                  exact this
                have HN2 : Hid (Ok (W'.set k D)) := HOW'.out.set _ hDl
                have hsn := hst.setU (j + k) D
                rw [win_set HPL.out (by omega)] at hsn
                clear hz hz0 hv hD hbo hbo2 hpr hT hY0
                go_wp2_with fail
                refine (HSB.out _).mono ?_
                rintro e w5 ⟨rfl, rfl⟩
                go_wp2_with fail
                go_roundw
                case rel => exact ⟨k + 1, T2 / 4294967296, bo, _, by omega, by go_num, by go_num, rfl, hT2, hbo1, HN1, HN2, hsn⟩
                case measure => simp [intOf]; omega
              · obtain rfl : k = n := by omega
                go_wp2_with fail
                go_meet
                case rel => exact ⟨c, b, W', rfl, rfl, hcl, hbl, HMS, HOW', hst⟩
        case rest =>
          as_aux_lemma =>
            clear hst
            obtain ⟨c, b, W', rfl, rfl, hcl, hbl, HMS, HOW', hst⟩ := hcut
            have hWl' : W'.length = n + 1 := by rw [HMS.out.1, HWL.out]
            obtain ⟨z, hz⟩ : ∃ z, W'[n]? = some z := ⟨_, List.getElem?_eq_getElem (by omega)⟩
            have hz0 : W0[n]? = some z := by rw [← getElem?_of_drop HMS.out.2.1]; exact hz
            have hzl := HOW'.out.at_ hz
            have cu1 := hst.cu (k := j + n) (v := z) (by rw [win_at HPL.out (by omega)]; exact hz)
            have fu1 := hst.fu (j + n)
            have hw3 : (c : Int) % 4294967296 = (c : Int) := by omega
            obtain ⟨hbo1, hbo2⟩ := sub_lt hzl hcl hbl
            obtain ⟨bo, hbo⟩ : ∃ bo, (if z < c + b then 1 else 0) = bo := ⟨_, rfl⟩
            obtain ⟨D, hD⟩ : ∃ D, (z + 8589934592 - c - b) % 4294967296 = D := ⟨_, rfl⟩
            have HSB := Lib.hid (fun w => sub32_any z c b D bo w hzl hcl hbl hD.symm hbo)
            rw [hbo] at hbo1 hbo2
            rw [hD] at hbo2
            have hDl : D < 4294967296 := by omega
            have hml := MulSub.last (diff := D) (b' := bo) HMS.out HDL.out HWL.out hz0 hbo2
            have HML : Hid (lval (W'.set n D) + G * lval ds = lval W0 + bo * 4294967296 ^ (n + 1)) := hml.1
            have HL1 : Hid ((W'.set n D).length = n + 1) := hml.2
            have HO1 : Hid (Ok (W'.set n D)) := HOW'.out.set _ hDl
            have hsn := hst.setU (j + n) D
            rw [win_set HPL.out (by omega)] at hsn
            have hdp : 0 < lval ds := by
              have := HBD.out
              have := RnC.pow_pos (n - 1)
              omega
            have hHQ : Hid (G = lval W0 / lval ds ∨ G = lval W0 / lval ds + 1) := by
              show _ ∨ _
              have := HQ1.out
              have := HQ2.out
              omega
            clear hz hz0 hD hbo hbo2 hml HMS HOW' hst hWl'
            go_wp2_with fail
            refine (HSB.out _).mono ?_
            rintro e w5 ⟨rfl, rfl⟩
            obtain ⟨W1, hW1⟩ : ∃ W1, W'.set n D = W1 := ⟨_, rfl⟩
            rw [hW1] at hsn HO1 HL1 HML
            clear hW1
            rcases (by omega : bo = 0 ∨ bo = 1) with h0 | h0
            · subst h0
              have h1 := sub_right hdp rfl hHQ.out HML.out rfl
              have HS1 := hide h1.1
              have HS2 := hide h1.2
              have hw4 : (G : Int) % 4294967296 = (G : Int) := by omega
              clear h1 hHQ
              go_wp2_with fail
              go_ret
              unfold StepPost
              rw [← HS1.out]
              exact ⟨rfl, W1, HS2.out, HL1.out, HO1.out, hsn⟩
            · subst h0
              have h1 := sub_over hdp rfl hHQ.out (by have := lval_lt HO1.out; rw [HL1.out] at this; exact this) HML.out rfl
              have HS1 := hide h1.1
              have HS2 := hide h1.2
              clear h1 hHQ
              go_wp2_with fail
              go_loopw [14, 132] (fun vc vi wr => ∃ (k cc : Nat) (W2 : List Nat), k ≤ n ∧ vi = .int .i64 k ∧ vc = .int .u32 cc ∧ cc ≤ 1 ∧ Hid (AddBack ds W1 W2 k cc) ∧ Hid (Ok W2) ∧ St w0 wr gu gv gq M L (P0 ++ W2 ++ R0) Q ds) (fun _ vi _ => n - (intOf vi).toNat)
              case atStart => exact ⟨0, 0, W1, by omega, rfl, rfl, by omega, AddBack.start ds W1, HO1, hsn⟩
              case round =>
                clear hsn cu1 fu1
                obtain ⟨k, cc, W2, hk, rfl, rfl, hcc, HAB, HO2, hst⟩ := hrel
                have hWl2 : W2.length = n + 1 := by rw [HAB.out.1, HL1.out]
                by_cases hkn : k < n
                · obtain ⟨v, hv⟩ : ∃ v, ds[k]? = some v := ⟨_, List.getElem?_eq_getElem (by have := HDL.out; omega)⟩
                  obtain ⟨x2, hx2⟩ : ∃ z, W2[k]? = some z := ⟨_, List.getElem?_eq_getElem (by omega)⟩
                  have hx3 : W1[k]? = some x2 := by rw [← getElem?_of_drop HAB.out.2.1]; exact hx2
                  have hvl := HDO.out.at_ hv
                  have hxl2 := HO2.out.at_ hx2
                  have cd1 := hst.cd hv
                  have cu1 := hst.cu (k := j + k) (v := x2) (by rw [win_at HPL.out (by omega)]; exact hx2)
                  have fu1 := hst.fu (j + k)
                  obtain ⟨T2, hT⟩ : ∃ T2, x2 + v + cc = T2 := ⟨_, rfl⟩
                  have hTl : T2 ≤ 8589934591 := by omega
                  have HN1 := AddBack.step HAB.out hv hx3
                  rw [hT] at HN1
                  have HAD := Lib.hid (fun w => add32_any x2 v cc T2 w hxl2 hvl hcc hT)
                  obtain ⟨D2, hD2⟩ : ∃ D2, T2 % 4294967296 = D2 := ⟨_, rfl⟩
                  obtain ⟨K2, hK2⟩ : ∃ K2, T2 / 4294967296 = K2 := ⟨_, rfl⟩
                  rw [hD2, hK2] at HN1 HAD
                  have hDl2 : D2 < 4294967296 := by omega
                  have hKl2 : K2 ≤ 1 := by omega
                  have HN1 := hide HN1
                  have HN2 : Hid (Ok (W2.set k D2)) := HO2.out.set _ hDl2
                  have hsn2 := hst.setU (j + k) D2
                  rw [win_set HPL.out (by omega)] at hsn2
                  clear hv hx2 hx3 hT hD2 hK2 hWl2
                  go_wp2_with fail
                  refine (HAD.out _).mono ?_
                  rintro e w5 ⟨rfl, rfl⟩
                  go_wp2_with fail
                  go_roundw
                  case rel => exact ⟨k + 1, K2, _, by omega, by go_num, rfl, hKl2, HN1, HN2, hsn2⟩
                  case measure => simp [intOf]; omega
                · obtain rfl : k = n := by omega
                  obtain ⟨x2, hx2⟩ : ∃ z, W2[k]? = some z := ⟨_, List.getElem?_eq_getElem (by omega)⟩
                  have hx3 : W1[k]? = some x2 := by rw [← getElem?_of_drop HAB.out.2.1]; exact hx2
                  have hxl2 := HO2.out.at_ hx2
                  have cu1 := hst.cu (k := j + k) (v := x2) (by rw [win_at HPL.out (by omega)]; exact hx2)
                  have fu1 := hst.fu (j + k)
                  have hlast := AddBack.last HAB.out HDL.out HL1.out hx3
                  obtain ⟨T2, hT⟩ : ∃ T2, x2 + cc = T2 := ⟨_, rfl⟩
                  have hTl : T2 ≤ 4294967296 := by omega
                  rw [hT] at hlast
                  obtain ⟨D2, hD2⟩ : ∃ D2, T2 % 4294967296 = D2 := ⟨_, rfl⟩
                  rw [hD2] at hlast
                  have hDl2 : D2 < 4294967296 := by omega
                  have p9 : ((x2 : Int) + (cc : Int)) % 4294967296 = (D2 : Int) := by omega
                  have HN2 : Hid (Ok (W2.set k D2)) := HO2.out.set _ hDl2
                  have HN3 : Hid ((W2.set k D2).length = k + 1) := hlast.2
                  have HN4 : Hid (lval (W2.set k D2) = lval W0 % lval ds) := by
                    show _ = _
                    have h1 := hlast.1
                    have h2 := HS2.out
                    have h3 := lval_lt HN2.out
                    rw [HN3.out] at h3
                    have h4 := Nat.mod_lt (lval W0) hdp
                    have h5 := lval_lt HDO.out
                    rw [HDL.out] at h5
                    have h6 : 4294967296 ^ k ≤ 4294967296 ^ (k + 1) := Nat.pow_le_pow_right (by omega) (by omega)
                    have h7 : T2 / 4294967296 ≤ 1 := by omega
                    generalize 4294967296 ^ (k + 1) = MM at *
                    generalize lval W0 % lval ds = rr at *
                    generalize lval (W2.set k D2) = aa at *
                    rcases (by omega : T2 / 4294967296 = 0 ∨ T2 / 4294967296 = 1) with h8 | h8
                    · rw [h8] at h1; omega
                    · rw [h8] at h1; omega
                  have hsn2 := hst.setU (j + k) D2
                  rw [win_set HPL.out (by omega)] at hsn2
                  obtain ⟨qd, hqd⟩ : ∃ q, lval W0 / lval ds = q := ⟨_, rfl⟩
                  have hGq : G = qd + 1 := by rw [← hqd]; exact HS1.out
                  have p11 : IntKind.u64.wrap ((G : Int) - 1) = (qd : Int) := by rw [show (qd : Int) = (G : Int) - 1 by omega]; exact IntWalk.u64_in _ (by omega)
                  have p12 : (qd : Int) % 4294967296 = (qd : Int) := by omega
                  have HQD := hide hqd
                  clear hx2 hx3 hT hD2 hlast hWl2 hqd hGq
                  go_wp2_with fail
                  go_ret
                  unfold StepPost
                  rw [HQD.out]
                  exact ⟨rfl, _, HN4.out, HN3.out, HN2.out, hsn2⟩
end Go.Proofs.YtpbgmpjnfndfjaaGreatDoor.PnH
namespace Go.Proofs.YtpbgmpjnfndfjaaGreatDoor.PnI
theorem here : True := trivial
open Go.RowKit RnA RnB RnS RnC RnK RnM RnL RnN RnD RnE RnQ RnR RnP RnW RnX RoA RoB RoC RoD RoE RoF RoG RoH RoI RoJ RoK RoL PnA PnB PnC PnD PnE PnG PnH
theorem bitLen_lo (x : Nat) (k : Nat) (h : x < 2 ^ 64) (hk : Lib.bitLen x ≤ k) : x < 2 ^ k := by
  induction k generalizing x with
  | zero =>
    by_cases h0 : x = 0
    · subst h0; decide
    · rw [Lib.bitLen_half x h0 h] at hk; omega
  | succ k ih =>
    by_cases h0 : x = 0
    · subst h0; exact Nat.pow_pos (by omega)
    · rw [Lib.bitLen_half x h0 h] at hk
      have := ih (x / 2) (by omega) (by omega)
      rw [Nat.pow_succ]
      omega
/-- a limb shifted by its leading zeros -/
theorem lead_zeros {x b : Nat} (h : x < 4294967296) (h0 : x ≠ 0) (hb : Lib.bitLen x = b) : b ≤ 32 ∧ 1 ≤ b ∧ x * 2 ^ (32 - b) < 4294967296 ∧ 2147483648 ≤ x * 2 ^ (32 - b) := by
  have h1 : b ≤ 32 := by rw [← hb]; exact Lib.bitLen_le x 32 (by omega) h
  have h2 : x < 2 ^ b := bitLen_lo x b (by omega) (by omega)
  have h3 : 1 ≤ b := by
    rcases Nat.eq_zero_or_pos b with h4 | h4
    · subst h4; simp at h2; exact absurd h2 h0
    · exact h4
  have h4 : 2 ^ (b - 1) ≤ x := by
    rcases Nat.lt_or_ge x (2 ^ (b - 1)) with h5 | h5
    · have := Lib.bitLen_le x (b - 1) (by omega) h5
      omega
    · exact h5
  have e : 2 ^ b * 2 ^ (32 - b) = 4294967296 := by rw [← Nat.pow_add, show b + (32 - b) = 32 by omega]
  have e2 : 2 ^ (b - 1) * 2 ^ (32 - b) = 2147483648 := by rw [← Nat.pow_add, show b - 1 + (32 - b) = 31 by omega]
  have hp : 0 < 2 ^ (32 - b) := Nat.pow_pos (by omega)
  refine ⟨h1, h3, ?_, ?_⟩
  · rw [← e]; exact Nat.mul_lt_mul_of_pos_right h2 hp
  · rw [← e2]; exact Nat.mul_le_mul_right _ h4
theorem below_same {B : Nat} {a w w' : World} (h : Below B a w) (h1 : w'.os = w.os) (h2 : w'.tape = w.tape) (h3 : w'.output = w.output) (h4 : w'.heap = w.heap) : Below B a w' :=
  ⟨h1.trans h.os, h2.trans h.tape, h3.trans h.output, by rw [h4]; exact h.size, fun i hi => by rw [h4]; exact h.block i hi⟩
set_option maxHeartbeats 16000000000000 in
set_option maxRecDepth 100000000000 in
theorem long_any (x y m n : Nat) (A B : Option Addr) (c c' : Nat) (w : World) (ha : LAt w w.heap.size A (limbs x)) (hb : LAt w w.heap.size B (limbs y)) (hm : (limbs x).length = m) (hn : (limbs y).length = n) (hmc : m ≤ c) (hcm : c ≤ maxLen) (hx : sz x ≤ 100000000000) (hy : y ≠ 0) :
    Calls Tryz.prog 159 #[.slice A m c, .slice B n c'] w (QPost (x / y) (x % y) w) := by
  obtain ⟨i0, hi0, hz0, hz1, hz2⟩ := info_parts u32Info
  have hord := cmp_any x y A B c c' w ha hb
  rw [hm, hn] at hord
  have HORD := hide hord
  have HA := hide ha
  have HB := hide hb
  have HM := hide hm
  have HN := hide hn
  have HCM := hide hcm
  have HSX := hide hx
  have HY := Lib.hid hy
  have hsm : (limbs x).length ≤ 100000000000 := hx
  have hml : m ≤ 100000000000 := by omega
  clear hord ha hb hm hn hcm hx hy hsm
  go_enter Tryz.func159, Tryz.ntmps159
  go_wp2_with fail
  refine HORD.out.mono ?_
  rintro e w1 ⟨rfl, hb1⟩
  by_cases hlt : x < y
  · as_aux_lemma =>
      have hc : cmpN x y = -1 := (cmpN_lt hlt).symm
      rw [hc]
      have hq : Hid (x / y = 0 ∧ x % y = x) := ⟨Nat.div_eq_of_lt hlt, Nat.mod_eq_of_lt hlt⟩
      clear hlt
      go_wp2_with fail
      go_ret2
      refine ⟨none, 0, A, c, ?_, ?_, by unfold maxLen; omega, ?_, HCM.out, ?_, ?_, hb1⟩
      · rw [hq.out.1, hq.out.2, limbs_zero, HM.out]; rfl
      · rw [hq.out.1, limbs_zero]; exact Nat.le_refl _
      · rw [hq.out.2, HM.out]; exact hmc
      · rw [hq.out.1, limbs_zero]; exact LAt.nil
      · rw [hq.out.2]; exact HA.out.next hb1
  · have hc : ¬ cmpN x y < 0 := by
      unfold cmpN
      rw [if_neg hlt]
      split <;> omega
    have hyx : y ≤ x := by omega
    have HYX := hide hyx
    have hnm : n ≤ m := by
      have h := sz_mono hyx
      have h1 : sz y = (limbs y).length := rfl
      have h2 : sz x = (limbs x).length := rfl
      have := HM.out
      have := HN.out
      omega
    generalize cmpN x y = cv at hc ⊢
    clear hlt hyx
    have HA1 := hide (HA.out.next hb1)
    have HB1 := hide (HB.out.next hb1)
    have hn0 : 0 < n := by
      rcases Nat.eq_zero_or_pos n with h | h
      · exfalso
        have h1 := HN.out
        rw [h] at h1
        exact HY.out (limbs_nil.1 h1)
      · exact h
    by_cases hn1 : n = 1
    · as_aux_lemma =>
        subst hn1
        obtain ⟨hl, _, hyl⟩ := limbs_single HN.out
        obtain ⟨b1, o1, rfl, hbb, hcc⟩ := HB1.out.2.2 (by rw [HN.out]; omega)
        have c1 := hcc 0 y (by rw [hl]; rfl)
        rw [Nat.add_zero] at c1
        have HSH := hide (small_any x y m A c w1 HA1.out HM.out (by omega) (by have := HY.out; omega) hyl)
        have hrl : x % y < 4294967296 := Nat.lt_trans (Nat.mod_lt _ (by have := HY.out; omega)) hyl
        clear hl hcc hn0
        go_wp2_with fail
        refine HSH.out.mono ?_
        rintro e w2 ⟨A2, c2, rfl, hc2a, hc2b, hL2, hb2, _⟩
        generalize hr : x % y = r at *
        have HL2 := hide hL2
        clear hL2
        have hst := lat_one w2 r 219 hrl
        have hst2 := trim_any [r] _ 1 1 _ rfl hst (Nat.le_refl _)
        rw [limbs_of_lt r] at hst2
        have hstr := (RoF.LAt.strip hst).1
        rw [limbs_of_lt r] at hstr
        have hlen := (RoF.LAt.strip hst).2
        rw [limbs_of_lt r] at hlen
        have HST := hide hst2
        have HSTR := hide hstr
        have HLEN := hide hlen
        have hbf : Below w.heap.size w (w2.alloc (.cells #[.int .u32 (r : Int)] 219)) := (below_next hb1 hb2).alloc (Nat.le_trans hb1.size hb2.size) _
        have HLN := hide (HL2.out.next (w' := w2.alloc (.cells #[.int .u32 (r : Int)] 219)) ((Below.refl _ _).alloc (Nat.le_refl _) _))
        clear hst hst2 hstr hlen
        go_wp2_with fail
        refine HST.out.mono ?_
        rintro e w3 ⟨rfl, rfl⟩
        go_wp2_with fail
        go_ret2
        exact ⟨A2, c2, _, 1, rfl, hc2a, hc2b, HLEN.out, by unfold maxLen; omega, HLN.out, HSTR.out, hbf⟩
    · have hn2 : 2 ≤ n := by omega
      obtain ⟨top, htop⟩ : ∃ t, (limbs y)[n - 1]? = some t := ⟨_, List.getElem?_eq_getElem (by have := HN.out; omega)⟩
      have htl : top < 4294967296 := (limbs_ok y).at_ htop
      have ht0 : top ≠ 0 := by
        refine limbs_last (n := y) top ?_
        rw [List.getLast?_eq_getElem?, HN.out]; exact htop
      obtain ⟨b, hbl⟩ : ∃ b, Lib.bitLen top = b := ⟨_, rfl⟩
      obtain ⟨hb32, hb0, hs1, hs2⟩ := lead_zeros htl ht0 hbl
      obtain ⟨s, hs⟩ : ∃ s, 32 - b = s := ⟨_, rfl⟩
      rw [hs] at hs1 hs2
      obtain ⟨hD1, hD2⟩ := norm_facts (n := n - 1) (s := s) (by have := HN.out; omega) htop hs1 hs2 (by omega)
      rw [show n - 1 + 1 = n by omega] at hD1
      have HD1 := hide hD1
      have HD2 := hide hD2
      have hs31 : s ≤ 31 := by omega
      have hbi : (32 : Int) - (b : Int) = (s : Int) := by omega
      have HLZ : Hid (∀ w, Calls Tryz.prog 206 #[.int .u32 (top : Int)] w fun e w' => e = .returned (.int .i64 (s : Int)) ∧ w = w') := fun w => by
        refine (Tryz.bits_LeadingZeros32 (top : Int) w (by omega) (by omega)).mono ?_
        rintro e w' ⟨rfl, rfl⟩
        refine ⟨?_, rfl⟩
        rw [Int.toNat_natCast, hbl, hbi]
      have hfx : x * 2 ^ s < 4294967296 ^ (m + 1) := by
        have h1 : x < 4294967296 ^ m := by rw [← HM.out]; exact lt_of_limbs x
        have h2 : 2 ^ s ≤ 4294967296 := Nat.pow_le_pow_right (n := 2) (by omega) (by omega : s ≤ 32)
        rw [Nat.pow_succ]
        exact Nat.mul_lt_mul_of_lt_of_le h1 h2 (by omega)
      have HFX := hide hfx
      obtain ⟨b2, o2, rfl, hbb, hcc⟩ := HB1.out.2.2 (by rw [HN.out]; omega)
      have ctop := hcc (n - 1) top htop
      have q1 : IntKind.i64.wrap ((n : Int) - 1) = (n : Int) - 1 := IntWalk.i64_in _ (by omega)
      have q2 : ((n : Int) - 1).toNat = n - 1 := by omega
      have q3 : 0 ≤ (n : Int) - 1 := by omega
      have q4 : (n : Int) - 1 < (n : Int) := by omega
      clear hcc htop hbl hs hs1 hs2 hD1 hD2 hbi ht0 hfx htl
      go_wp2_with fail
      refine (HLZ.out _).mono ?_
      rintro e w1' ⟨rfl, rfl⟩
      clear q1 q2 q3 q4 ctop
      go_wp2_with fail
      refine (shift_any y s n n (some ⟨b2, o2, none⟩) c' w1 HB1.out HN.out (Nat.le_refl _) (by omega) hs31 HD1.out).mono ?_
      rintro e w2 ⟨gv, ds, rfl, hvl, hvo, hvv, hov, hb2⟩
      have HDL := hide hvl
      have HDO := hide hvo
      have HDV := hide hvv
      clear hvl hvo hvv
      go_wp2_with fail
      refine (shift_any x s m (m + 1) A c w2 (HA1.out.next hb2) HM.out (by omega) (by omega) hs31 HFX.out).mono ?_
      rintro e w3 ⟨gu, us, rfl, hul, huo, huv, hou, hb3⟩
      have HUL := hide hul
      have HUO := hide huo
      have HUV := hide huv
      clear hul huo huv
      go_wp2_with (first
        | (at_make
           refine wpList_make_full _ rfl (.tmp 58) (.tmp 58) 217 rfl w.heap.size 219 i0 _ 1 Tryz.underlying217 hi0 hz0 hz1 .i64 .i64 _ _ (m - n + 1) rfl rfl ?c1 ?c2 ?c3 ?c4 ?c5 ?_
           case c1 => omega
           case c2 => omega
           case c3 => rw [hz2]; omega
           case c4 => unfold maxLen; omega
           case c5 => exact Nat.le_trans hb1.size (Nat.le_trans hb2.size hb3.size)
           intro w4 hoq hg))
      have hgv : w1.heap.size ≤ gv ∧ gv < w2.heap.size := hov.lt _ rfl
      have hgu : w2.heap.size ≤ gu ∧ gu < w3.heap.size := hou.lt _ rfl
      have hs12 := hb1.size
      have hs23 := hb2.size
      have hs34 := hb3.size
      have hou2 := hou.kept hg (.inr (by simp [Value.ownBlock]))
      have hou4 : w4.ownsRow w.heap.size 219 1 (.slice (some ⟨gu, 0, none⟩) (m + 1) (m + 1)) (m + 1) (uv us) := by
        refine ⟨hou2.1, ?_⟩
        rcases hou2.2 with h | ⟨g, cap, cur, hv, hbg, h⟩
        · exact .inl h
        · exact .inr ⟨g, cap, cur, hv, by omega, h⟩
      have hb5 : Below w.heap.size w w4 := (below_next hb1 (below_next hb2 hb3)).grown hg (by omega) (by simp)
      have hD3 : DAt w4 gv ds := ((DAt.of_own hov).kept hb3 hgv.2).kept (B := w3.heap.size) ((Below.refl _ _).grown hg (Nat.le_refl _) (by simp)) (by omega)
      have hne1 : gu ≠ gv := by omega
      have hne2 : gu ≠ w3.heap.size := by omega
      have hne3 : gv ≠ w3.heap.size := by omega
      have hwg : w.heap.size ≤ gu := by omega
      have hwg2 : w.heap.size ≤ w3.heap.size := by omega
      clear hou hou2 hov hg hb2 hb3 hgu hgv hs12 hs23 hs34
      rw [made_uv] at hoq
      generalize w3.heap.size = gq at *
      generalize hL : m - n + 1 = L at *
      have HST := hide (DivInv.start (U0 := x * 2 ^ s) (D := y * 2 ^ s) (s := s) (n := n) (m := L) (a := limbs x) (u := us) (limbs_ok x) HUV.out (by rw [lval_limbs]) hs31 (by rw [HM.out]; omega) (by rw [HUL.out]; omega) (by omega) HD2.out)
      have HL := hide hL
      have hLm : L ≤ 100000000000 := by omega
      have hst : St w w4 gu gv gq (m + 1) L us (List.replicate L 0) ds := ⟨hou4, hoq, hD3, hb5, hne1, hne2, hne3, hwg, hwg2⟩
      clear hou4 hoq hD3 hb5 hne1 hne2 hne3 hwg hwg2
      generalize hMM : m + 1 = M at *
      have HMM := hide hMM
      have hMl : M ≤ 200000000000 := by omega
      have hmM : m < M := by omega
      have HDB : Hid (2147483648 * 4294967296 ^ (n - 1) ≤ lval ds) := by show _ ≤ _; rw [HDV.out]; exact HD2.out
      have hyp : 0 < y := by have := HY.out; omega
      have HYP := hide hyp
      clear hL hMM hyp HB1 HB HA HA1 HORD HFX
      go_loopw [13] (fun vj wr => ∃ (k : Nat) (us Q : List Nat), k ≤ L ∧ vj = .int .i64 ((k : Int) - 1) ∧ Hid (us.length = M) ∧ Hid (Ok us) ∧ Hid (Q.length = L) ∧ Hid (Ok Q) ∧ Hid (DivInv (x * 2 ^ s) (y * 2 ^ s) us (Q.drop k) k) ∧ St w wr gu gv gq M L us Q ds) (fun vj _ => (intOf vj + 1).toNat)
      case atStart =>
        refine ⟨L, us, List.replicate L 0, Nat.le_refl _, ?_, HUL.out, HUO.out, by show _ = _; simp, Ok.replicate _, ?_, hst⟩
        · have := HL.out
          congr 1; omega
        · show DivInv _ _ _ _ _
          rw [List.drop_eq_nil_of_le (by simp)]; exact HST.out
      case round =>
        clear hst HUL HUO HUV HST
        obtain ⟨k, us, Q, hk, rfl, HUL, HUO, HQL, HQO, HI, hst⟩ := hrel
        rcases Nat.eq_zero_or_pos k with h0 | h0
        · as_aux_lemma =>
            subst h0
            have hfin := HI.out.finish
            rw [List.drop_zero] at hfin
            have hlt : lval us < 4294967296 ^ n := by
              have h1 := HI.out.2
              rw [List.drop_zero] at h1
              exact Nat.lt_trans h1 HD1.out
            have HRV : Hid (lval (us.take n) / 2 ^ s = x % y) := by
              show _ = _
              rw [take_val (by rw [HUL.out]; omega) hlt, hfin.2]
            have HQV := hide hfin.1
            obtain ⟨ho1, ho2, _, hbw, _⟩ := hst
            have hLu := LAt.of_own ho1 HUO.out
            have hLq := LAt.of_own ho2 HQO.out
            have hcq := own_cap ho2
            obtain ⟨hLq3, hle3⟩ := LAt.strip hLq
            rw [HQV.out] at hLq3 hle3
            rw [HQL.out] at hle3
            have hLun := RnW.LAt.take hLu n
            have hunl : (us.take n).length = n := take_len (by rw [HUL.out]; omega)
            have HT : Hid (∀ w', Below wr.heap.size wr w' → Calls Tryz.prog 160 #[.slice (some ⟨gq, 0, none⟩) L L] w' fun e w'' => e = .returned (.slice (some ⟨gq, 0, none⟩) (limbs (x / y)).length L) ∧ w' = w'') := fun w' hb => by
              have h := trim_any Q _ L L w' HQL.out (hLq.next hb) (Nat.le_refl _)
              rw [HQV.out] at h
              exact h
            have HU : Hid (∀ w', Below wr.heap.size wr w' → Calls Tryz.prog 209 #[.slice (some ⟨gu, 0, none⟩) n M, .int .u64 (s : Int)] w' (LPost (limbs (x % y)) w')) := fun w' hb => by
              have h := unshift_any (us.take n) s n (some ⟨gu, 0, none⟩) M w' (hLun.next hb) hunl (by omega) hs31
              rw [HRV.out] at h
              exact h
            have HLQ := hide hLq3
            have HBW := hide hbw
            clear hfin hlt hLu hLq hLq3 ho1 ho2 hLun hunl hbw
            have hnM : n ≤ M := by omega
            go_wp2_with fail
            go_region_with (first
              | (go_at_call 160; refine (HT.out _ ?hh).mono ?_; (case hh => exact ⟨rfl, rfl, rfl, Nat.le_refl _, fun _ _ => rfl⟩); rintro e w5 ⟨rfl, rfl⟩)
              | (go_at_call 209; refine (HU.out _ ?hh).mono ?_; (case hh => exact ⟨rfl, rfl, rfl, Nat.le_refl _, fun _ _ => rfl⟩); rintro e w6 ⟨A6, c6, rfl, h1, h2, h3, h4⟩))
            all_goals
              have hb46 : Below wr.heap.size wr w6 := ⟨h4.os, h4.tape, h4.output, h4.size, h4.block⟩
              have hbf := HBW.out.trans (hb46.mono HBW.out.size)
              have H3 := hide h3
              have HQ6 := hide (HLQ.out.next hb46)
              clear h3 h4 hb46
              go_wp2_with fail
              go_ret2
              exact ⟨_, _, A6, c6, rfl, hle3, hcq.2, h1, h2, HQ6.out, H3.out, hbf⟩
        · obtain ⟨j, rfl⟩ : ∃ j, k = j + 1 := ⟨k - 1, by omega⟩
          have hjm : j + n + 1 ≤ M := by have := HL.out; have := HMM.out; omega
          have e1 : (((j + 1 : Nat) : Int) - 1) = j := by omega
          rw [e1]
          have hwin := window_split us j n
          have hWl : ((us.drop j).take (n + 1)).length = n + 1 := by rw [List.length_take, List.length_drop, HUL.out]; omega
          have hpl : (us.take j).length = j := take_len (by rw [HUL.out]; omega)
          have hdlt : y * 2 ^ s < 4294967296 ^ n := HD1.out
          have hI := HI.out
          rw [hwin] at hI
          have hok2 := HUO.out
          rw [hwin] at hok2
          obtain ⟨hpost, hWlt⟩ := DivInv.window hI hpl hWl hok2 hdlt
          have hWo : Ok ((us.drop j).take (n + 1)) := (HUO.out.drop j).take (n + 1)
          have hPo : Ok (us.take j) := HUO.out.take j
          have hRo : Ok (us.drop (j + n + 1)) := HUO.out.drop _
          obtain ⟨W0, hW0⟩ : ∃ W0, (us.drop j).take (n + 1) = W0 := ⟨_, rfl⟩
          obtain ⟨P0, hP0⟩ : ∃ P0, us.take j = P0 := ⟨_, rfl⟩
          obtain ⟨R0, hR0⟩ : ∃ R0, us.drop (j + n + 1) = R0 := ⟨_, rfl⟩
          rw [hW0, hP0, hR0] at hwin hI
          rw [hW0] at hWl hWlt hWo
          rw [hP0] at hpl hPo
          rw [hR0] at hpost hRo
          rw [hwin] at hst
          rw [← HDV.out] at hWlt
          have hdp : 0 < lval ds := by
            have := HDB.out
            have := RnC.pow_pos (n - 1)
            omega
          have HSTEP := Lib.hid (fun cu => step_any w wr gu gv gq M L j n cu P0 W0 R0 Q ds hst hpl hWl hWo HDL.out hn2 HDO.out hjm hMl HDB.out hWlt)
          have hq : lval W0 / lval ds < 4294967296 := (Nat.div_lt_iff_lt_mul hdp).2 (by rw [Nat.mul_comm]; exact hWlt)
          have HPL := hide hpl
          have HPO := hide hPo
          have HRO := hide hRo
          have HPOST := hide hpost
          have HI2 := hide hI
          have hjL : j < L := by omega
          have hjM : j ≤ M := by omega
          have p1 : IntKind.i64.wrap ((j : Int) + (n : Int)) = (j : Int) + (n : Int) := IntWalk.i64_in _ (by omega)
          have p2 : IntKind.i64.wrap ((j : Int) + (n : Int) + 1) = (j : Int) + (n : Int) + 1 := IntWalk.i64_in _ (by omega)
          clear hwin hWl hpl hdlt hI hok2 hpost hWlt hWo hPo hRo hW0 hP0 hR0 HI HUO HUL e1 h0 hst
          clear us
          go_wp2_with fail
          rw [show j + n + 1 - j = n + 1 by omega]
          refine (HSTEP.out _).mono ?_
          rintro e w5 ⟨rfl, W3, hV3, hL3, hO3, hst⟩
          have HV3 := hide hV3
          have HL3 := hide hL3
          have HO3 := hide hO3
          have hinv := DivInv.step (W' := W3) HI2.out HPL.out HPOST.out (by rw [HV3.out, HDV.out]) (by rw [← HDV.out]; exact hdp)
          rw [← HDV.out] at hinv
          obtain ⟨qd, hqd⟩ : ∃ q, lval W0 / lval ds = q := ⟨_, rfl⟩
          rw [hqd] at hq hinv ⊢
          obtain ⟨z9, hz9⟩ : ∃ z, Q[j]? = some z := ⟨_, List.getElem?_eq_getElem (by rw [HQL.out]; omega)⟩
          have cq := hst.cq hz9
          have fq := hst.fq j
          have hsn := hst.setQ j qd
          have HI3 : Hid (DivInv (x * 2 ^ s) (y * 2 ^ s) (P0 ++ W3 ++ R0) ((Q.set j qd).drop j) j) := by
            show DivInv _ _ _ _ _
            rw [drop_set_self (by rw [HQL.out]; omega), ← HDV.out]; exact hinv
          have HQO2 : Hid (Ok (Q.set j qd)) := HQO.out.set _ hq
          have HQL2 : Hid ((Q.set j qd).length = L) := by show _ = _; rw [List.length_set]; exact HQL.out
          have HUL2 : Hid ((P0 ++ W3 ++ R0).length = M) := hst.len
          have HUO2 : Hid (Ok (P0 ++ W3 ++ R0)) := (HPO.out.append HO3.out).append HRO.out
          clear hz9 hinv hqd hst hV3 hL3 hO3 HSTEP
          go_wp2_with fail
          go_roundw
          case rel => exact ⟨j, P0 ++ W3 ++ R0, Q.set j qd, by omega, rfl, HUL2, HUO2, HQL2, HQO2, HI3, hsn⟩
          case measure => simp [intOf] <;> omega
end Go.Proofs.YtpbgmpjnfndfjaaGreatDoor.PnI
namespace Go.Proofs.YtpbgmpjnfndfjaaGreatDoor.PnJ
theorem here : True := trivial
open Go.RowKit RnA RnB RnS RnC RnK RnM RnL RnN RnD RnE RnQ RnR RnP RnW RnX RoA RoB RoC RoD RoE RoF RoG RoH RoI RoJ RoK RoL RoM RoN PnA PnB PnC PnD PnE PnG PnH PnI
set_option maxHeartbeats 4000000000000 in
set_option maxRecDepth 100000000000 in
theorem div_any (s t : ByteArray) (w : World) (hs : s.size ≤ 100000000000) (ht : t.size ≤ 100000000000) (h0 : nv t ≠ 0) :
    Calls Tryz.prog 116 #[.string s, .string t] w fun e w' => e = .returned (.tuple #[.string (bs (nv s / nv t)), .string (bs (nv s % nv t)), .bool true]) ∧ Below w.heap.size w w' := by
  have hx := nv_le (s := s) (k := 25000000000) (by omega)
  have hy := nv_le (s := t) (k := 25000000000) (by omega)
  obtain ⟨x, hX⟩ : ∃ x, nv s = x := ⟨_, rfl⟩
  obtain ⟨y, hY⟩ : ∃ y, nv t = y := ⟨_, rfl⟩
  have P1 := Lib.hid (fun w => parse_any s w (by omega))
  have P2 := Lib.hid (fun w => parse_any t w (by omega))
  rw [hX] at hx P1 ⊢
  rw [hY] at hy P2 h0 ⊢
  have hn0 : 0 < (limbs y).length := by
    have := sz_pos h0
    unfold sz at this
    exact this
  have H0 := Lib.hid h0
  have hq : (limbs (x / y)).length ≤ 1000000000000 := Nat.le_trans (sz_div x y) (by omega)
  have hr : (limbs (x % y)).length ≤ 1000000000000 := Nat.le_trans (sz_mod x y) (by omega)
  have HX := hide hx
  have HLQ := hide (lval_limbs (x / y))
  have HLR := hide (lval_limbs (x % y))
  clear hX hY hs ht h0 hx hy
  go_enter Tryz.func116, Tryz.ntmps116
  go_wp2_with fail
  refine (P2.out _).mono ?_
  rintro e w1 ⟨B, c', rfl, hB1, hB2, hB3, hb1⟩
  have HB := hide hB3
  clear hB1 hB2 hB3
  go_wp2_with fail
  refine (P1.out _).mono ?_
  rintro e w2 ⟨A, c, rfl, hA1, hA2, hA3, hb2⟩
  have HDV := hide (long_any x y _ _ A B c c' w2 hA3 (HB.out.next hb2) rfl rfl hA1 hA2 (by have := HX.out; omega) H0.out)
  have hb3 := below_next hb1 hb2
  clear hA3 hb1 hb2 HB
  go_wp2_with fail
  refine HDV.out.mono ?_
  rintro e w3 ⟨C, c2, D, c3, rfl, h1, h2, h3, h4, h5, h6, h7⟩
  have H5 := hide h5
  have H6 := hide h6
  have hb4 := below_next hb3 h7
  clear h5 h6 h7 hb3 HDV
  go_wp2_with fail
  refine (text_any _ _ _ _ _ H5.out rfl hq).mono ?_
  rintro e w4 ⟨rfl, hb5⟩
  rw [HLQ.out]
  have H62 := hide (H6.out.next hb5)
  have hb6 := below_next hb4 hb5
  clear H6 hb4 hb5
  go_wp2_with fail
  refine (text_any _ _ _ _ _ H62.out rfl hr).mono ?_
  rintro e w5 ⟨rfl, hb7⟩
  rw [HLR.out]
  go_wp2_with fail
  go_ret3
  exact ⟨rfl, below_next hb6 hb7⟩
set_option maxHeartbeats 4000000000000 in
set_option maxRecDepth 100000000000 in
theorem gcd_any (s t : ByteArray) (w : World) (hs : s.size ≤ 100000000000) (ht : t.size ≤ 100000000000) :
    Calls Tryz.prog 115 #[.string s, .string t] w (SPost (bs ((nv s).gcd (nv t))) w) := by
  have hx := nv_le (s := s) (k := 25000000000) (by omega)
  have hy := nv_le (s := t) (k := 25000000000) (by omega)
  obtain ⟨x, hX⟩ : ∃ x, nv s = x := ⟨_, rfl⟩
  obtain ⟨y, hY⟩ : ∃ y, nv t = y := ⟨_, rfl⟩
  have P1 := Lib.hid (fun w => parse_any s w (by omega))
  have P2 := Lib.hid (fun w => parse_any t w (by omega))
  rw [hX] at hx P1 ⊢
  rw [hY] at hy P2 ⊢
  have HX := hide hx
  have HY := hide hy
  clear hX hY hs ht hx hy
  go_enter Tryz.func115, Tryz.ntmps115
  go_wp2_with fail
  refine (P1.out _).mono ?_
  rintro e w1 ⟨A, c, rfl, hA1, hA2, hA3, hb1⟩
  have HA1 : Hid (NAt w1 A c x) := ⟨hA3, hA1, hA2⟩
  clear hA1 hA2 hA3
  go_wp2_with fail
  refine (P2.out _).mono ?_
  rintro e w2 ⟨B, c', rfl, hB1, hB2, hB3, hb2⟩
  have HB : Hid (NAt w2 B c' y) := ⟨hB3, hB1, hB2⟩
  have HA : Hid (NAt w2 A c x) := HA1.out.next hb2
  have hb3 := below_next hb1 hb2
  clear hB1 hB2 hB3 HA1 hb1 hb2
  go_wp2_with fail
  go_loopw [5, 6] (fun va vb wr => ∃ (p q m n : Nat) (A B : Option Addr) (c c' : Nat), va = .slice A m c ∧ vb = .slice B n c' ∧ m = (limbs p).length ∧ n = (limbs q).length ∧ Hid (NAt wr A c p) ∧ Hid (NAt wr B c' q) ∧ Hid (p.gcd q = x.gcd y) ∧ Hid (sz p ≤ 25000000000) ∧ Hid (sz q ≤ 25000000000) ∧ Below w.heap.size w wr) (fun _ vb wr => sval wr vb)
  case atStart => exact ⟨x, y, _, _, A, B, c, c', rfl, rfl, rfl, rfl, HA, HB, rfl, HX, HY, hb3⟩
  case round =>
    clear HA HB hb3
    obtain ⟨p, q, m, n, A, B, c, c', rfl, rfl, hm, hn, HA, HB, HG, HP, HQ, hbr⟩ := hrel
    by_cases hq : q = 0
    · have hn0 : n = 0 := by rw [hn, hq, limbs_zero]; rfl
      subst hn0
      have hfin : Hid (lval (limbs p) = x.gcd y) := by
        show _ = _
        rw [lval_limbs, ← HG.out, hq, Nat.gcd_zero_right]
      have HM := hide hm.symm
      have hml : m ≤ 1000000000000 := by
        have := HP.out
        unfold sz at this
        omega
      clear hq hn hm
      go_wp2_with fail
      refine (text_any (limbs p) _ _ _ _ HA.out.1 HM.out hml).mono ?_
      rintro e w5 ⟨rfl, hb5⟩
      rw [hfin.out]
      go_wp2_with fail
      go_ret
      exact ⟨rfl, hbr.trans (hb5.mono hbr.size)⟩
    · have hn0 : 0 < n := by
        have := sz_pos hq
        unfold sz at this
        omega
      have hdv := long_any p q m n A B c c' wr HA.out.1 HB.out.1 hm.symm hn.symm (by rw [hm]; exact HA.out.2.1) HA.out.2.2 (by have := HP.out; omega) hq
      have HDV := hide hdv
      have hmes : Hid (sval wr (.slice B n c') = q) := by
        show _ = _
        rw [hn, sval_at HB.out.1, lval_limbs]
      have hlt : Hid (p % q < q) := Nat.mod_lt _ (by omega)
      have hgc : Hid (q.gcd (p % q) = x.gcd y) := by
        show _ = _
        rw [← HG.out, Nat.gcd_comm q, ← Nat.gcd_rec, Nat.gcd_comm]
      have hszr : Hid (sz (p % q) ≤ 25000000000) := Nat.le_trans (sz_mod _ _) HP.out
      have HN := hide hn
      clear hdv hq hm hn
      go_wp2_with fail
      refine HDV.out.mono ?_
      rintro e w2 ⟨A2, c2, A3, c3, rfl, h1, h2, h3, h4, h5, h6, h7⟩
      have H6 : Hid (NAt w2 A3 c3 (p % q)) := ⟨h6, h3, h4⟩
      have HB2 : Hid (NAt w2 B c' q) := HB.out.next h7
      have hm2 : sval w2 (.slice A3 (limbs (p % q)).length c3) < sval wr (.slice B n c') := by
        rw [hmes.out, sval_at h6, lval_limbs]; exact hlt.out
      have hbf : Below w.heap.size w w2 := hbr.trans (h7.mono hbr.size)
      clear h5 h6
      go_wp2_with fail
      go_roundw
      case rel => exact ⟨q, p % q, _, _, B, A3, c', c3, rfl, rfl, HN.out, rfl, HB2, H6, hgc, HQ, hszr, hbf⟩
      case measure => exact hm2
set_option maxHeartbeats 4000000000000 in
theorem rgcd_any (s t : ByteArray) (w : World) (hs : s.size ≤ 100000000000) (ht : t.size ≤ 100000000000) :
    Calls Tryz.prog 242 #[.string s, .string t] w (SPost (bs ((nv s).gcd (nv t))) w) := by
  have hx := nv_le (s := s) (k := 25000000000) (by omega)
  have hy := nv_le (s := t) (k := 25000000000) (by omega)
  obtain ⟨x, hX⟩ : ∃ x, nv s = x := ⟨_, rfl⟩
  obtain ⟨y, hY⟩ : ∃ y, nv t = y := ⟨_, rfl⟩
  have P1 := Lib.hid (fun w => rlimbs_any s w (by omega))
  have P2 := Lib.hid (fun w => rlimbs_any t w (by omega))
  rw [hX] at hx P1 ⊢
  rw [hY] at hy P2 ⊢
  have HX := hide hx
  have HY := hide hy
  have hgl : (limbs (x.gcd y)).length ≤ 1000000000000 := by
    rcases Nat.eq_zero_or_pos y with h | h
    · subst h
      rw [Nat.gcd_zero_right]
      have : (limbs x).length ≤ 25000000000 := hx
      omega
    · have h2 := sz_gcd (m := x) h
      have h3 : (limbs (x.gcd y)).length = sz (x.gcd y) := rfl
      omega
  have HLV := hide (lval_limbs (x.gcd y))
  clear hX hY hs ht hx hy
  go_enter Tryz.func242, Tryz.ntmps242
  go_wp2_with fail
  refine (P1.out _).mono ?_
  rintro e w1 ⟨A, c, rfl, hA1, hA2, hA3, hb1⟩
  have HA1 : Hid (NAt w1 A c x) := ⟨hA3, hA1, hA2⟩
  clear hA1 hA2 hA3
  go_wp2_with fail
  refine (P2.out _).mono ?_
  rintro e w2 ⟨B, c', rfl, hB1, hB2, hB3, hb2⟩
  have HB : Hid (NAt w2 B c' y) := ⟨hB3, hB1, hB2⟩
  have HA : Hid (NAt w2 A c x) := HA1.out.next hb2
  have hb3 := below_next hb1 hb2
  clear hB1 hB2 hB3 HA1 hb1 hb2
  have HC := hide (rcommon_any x y A B c c' w2 HA.out HB.out (by have := HX.out; omega) (by have := HY.out; omega))
  go_wp2_with fail
  refine HC.out.mono ?_
  rintro e w3 ⟨C, c2, rfl, h1, h2, h3, h4⟩
  have H3 := hide h3
  have hb4 := below_next hb3 h4
  clear h3 h4 hb3
  go_wp2_with fail
  refine (rtext_any _ _ _ _ H3.out h1 hgl).mono ?_
  rintro e w4 ⟨rfl, hb5⟩
  rw [HLV.out]
  go_wp2_with fail
  go_ret
  exact ⟨rfl, below_next hb4 hb5⟩
end Go.Proofs.YtpbgmpjnfndfjaaGreatDoor.PnJ
namespace Go.Proofs.YtpbgmpjnfndfjaaGreatDoor.PnL
theorem here : True := trivial
open Go.RowKit RnA RnB RnS RnC RnK RnM RnL RnN RnD RnE RnQ RnR RnP RnW RnX RoA RoB RoC RoD RoE RoF RoG RoH RoI RoL RoM RoN PnA PnB PnC PnD PnE PnG PnK
/-- a list of limbs reads as before where another block was written -/
theorem lat_grown {w w' : World} {B : Nat} {A : Option Addr} {l : List Nat} {row : Option Nat} (h : LAt w B A l) (hB : B ≤ w.heap.size) (hg : w.grownBy w' row) (hne : 0 < l.length → ∀ a, A = some a → some a.block ≠ row) : LAt w' w'.heap.size A l :=
  ⟨h.1, h.2.1, fun hp => by
    obtain ⟨b, off, e, hlt, hc⟩ := h.2.2 hp
    refine ⟨b, off, e, by have := hg.size; omega, fun k x hk => ?_⟩
    exact (World.cell?_of_block (a := ⟨b, off + k, none⟩) (hg.block b (by omega) (hne hp _ e))).trans (hc k x hk)⟩
/-- the digits found so far, the chunk's rest and the number that is left -/
def FC (N : Nat) (D : List UInt8) (r k V : Nat) : Prop := N = ldec D + 10 ^ D.length * (r + 10 ^ k * V) ∧ r < 10 ^ k ∧ digs D = true
theorem FC.step {N r k V : Nat} {D : List UInt8} (h : FC N D r (k + 1) V) : FC N (D ++ [UInt8.ofNat (48 + r % 10)]) (r / 10) k V := by
  obtain ⟨h1, h2, h3⟩ := h
  refine ⟨dig_round h1, ?_, digs_snoc h3 (Nat.mod_lt _ (by omega))⟩
  rw [Nat.pow_succ] at h2
  omega
theorem FC.chunk {N V : Nat} {D : List UInt8} (h : N = ldec D + 10 ^ D.length * V) (hd : digs D = true) : FC N D (V % 1000000000) 9 (V / 1000000000) :=
  ⟨dig_chunk h, Nat.mod_lt _ (by decide), hd⟩
theorem FC.fin {N r V : Nat} {D : List UInt8} (h : FC N D r 0 V) : N = ldec D + 10 ^ D.length * V ∧ digs D = true := by
  obtain ⟨h1, h2, h3⟩ := h
  have h0 : r = 0 := by simpa using h2
  subst h0
  refine ⟨?_, h3⟩
  rw [h1]; simp
theorem FC.le {N r k V : Nat} {D : List UInt8} (h : FC N D r k V) : 10 ^ D.length * (10 ^ k * V) ≤ N := by
  rw [h.1, Nat.mul_add]
  omega
end Go.Proofs.YtpbgmpjnfndfjaaGreatDoor.PnL
