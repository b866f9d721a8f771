/- The walks of the program's divide, Divide, GCD. -/
import Derived.Test.YthppojbabkljpaaGreatDoorPnH
import Derived.Test.YthppojbabkljpaaGreatDoorRoK
import Derived.Test.YthppojbabkljpaaGreatDoorPnF
import Derived.Deep.RegionWith
namespace Go.Proofs.YthppojbabkljpaaGreatDoor.PnI
open Go.RowKit RnA RnB RnS RnC RnK RnM RnL RnN RnD RnE RnQ RnR RnP RnW RnX RoA RoB RoC RoD RoE RoF RoG RoH RoI RoJ RoK RoL PnA PnB PnC PnD PnE PnG PnH
theorem bitLen_lo (x : Nat) (k : Nat) (h : x < 2 ^ 64) (hk : Lib.bitLen x ≤ k) : x < 2 ^ k := by
  induction k generalizing x with
  | zero =>
    by_cases h0 : x = 0
    · subst h0; decide
    · rw [Lib.bitLen_half x h0 h] at hk; omega
  | succ k ih =>
    by_cases h0 : x = 0
    · subst h0; exact Nat.pow_pos (by omega)
    · rw [Lib.bitLen_half x h0 h] at hk
      have := ih (x / 2) (by omega) (by omega)
      rw [Nat.pow_succ]
      omega
/-- a limb shifted by its leading zeros -/
theorem lead_zeros {x b : Nat} (h : x < 4294967296) (h0 : x ≠ 0) (hb : Lib.bitLen x = b) : b ≤ 32 ∧ 1 ≤ b ∧ x * 2 ^ (32 - b) < 4294967296 ∧ 2147483648 ≤ x * 2 ^ (32 - b) := by
  have h1 : b ≤ 32 := by rw [← hb]; exact Lib.bitLen_le x 32 (by omega) h
  have h2 : x < 2 ^ b := bitLen_lo x b (by omega) (by omega)
  have h3 : 1 ≤ b := by
    rcases Nat.eq_zero_or_pos b with h4 | h4
    · subst h4; simp at h2; exact absurd h2 h0
    · exact h4
  have h4 : 2 ^ (b - 1) ≤ x := by
    rcases Nat.lt_or_ge x (2 ^ (b - 1)) with h5 | h5
    · have := Lib.bitLen_le x (b - 1) (by omega) h5
      omega
    · exact h5
  have e : 2 ^ b * 2 ^ (32 - b) = 4294967296 := by rw [← Nat.pow_add, show b + (32 - b) = 32 by omega]
  have e2 : 2 ^ (b - 1) * 2 ^ (32 - b) = 2147483648 := by rw [← Nat.pow_add, show b - 1 + (32 - b) = 31 by omega]
  have hp : 0 < 2 ^ (32 - b) := Nat.pow_pos (by omega)
  refine ⟨h1, h3, ?_, ?_⟩
  · rw [← e]; exact Nat.mul_lt_mul_of_pos_right h2 hp
  · rw [← e2]; exact Nat.mul_le_mul_right _ h4
theorem below_same {B : Nat} {a w w' : World} (h : Below B a w) (h1 : w'.os = w.os) (h2 : w'.tape = w.tape) (h3 : w'.output = w.output) (h4 : w'.heap = w.heap) : Below B a w' :=
  ⟨h1.trans h.os, h2.trans h.tape, h3.trans h.output, by rw [h4]; exact h.size, fun i hi => by rw [h4]; exact h.block i hi⟩
set_option maxHeartbeats 16000000 in
set_option maxRecDepth 100000 in
theorem long_any (x y m n : Nat) (A B : Option Addr) (c c' : Nat) (w : World) (ha : LAt w w.heap.size A (limbs x)) (hb : LAt w w.heap.size B (limbs y)) (hm : (limbs x).length = m) (hn : (limbs y).length = n) (hmc : m ≤ c) (hcm : c ≤ maxLen) (hx : sz x ≤ 100000) (hy : y ≠ 0) :
    Calls Tryz.prog 120 #[.slice A m c, .slice B n c'] w (QPost (x / y) (x % y) w) := by
  obtain ⟨i0, hi0, hz0, hz1, hz2⟩ := info_parts u32Info
  have hord := cmp_any x y A B c c' w ha hb
  rw [hm, hn] at hord
  have HORD := hide hord
  have HA := hide ha
  have HB := hide hb
  have HM := hide hm
  have HN := hide hn
  have HCM := hide hcm
  have HSX := hide hx
  have HY := Lib.hid hy
  have hsm : (limbs x).length ≤ 100000 := hx
  have hml : m ≤ 100000 := by omega
  clear hord ha hb hm hn hcm hx hy hsm
  go_enter Tryz.func120, Tryz.ntmps120
  go_wp2_with fail
  refine HORD.out.mono ?_
  rintro e w1 ⟨rfl, hb1⟩
  by_cases hlt : x < y
  · as_aux_lemma =>
      have hc : cmpN x y = -1 := (cmpN_lt hlt).symm
      rw [hc]
      have hq : Hid (x / y = 0 ∧ x % y = x) := ⟨Nat.div_eq_of_lt hlt, Nat.mod_eq_of_lt hlt⟩
      clear hlt
      go_wp2_with fail
      go_ret2
      refine ⟨none, 0, A, c, ?_, ?_, by unfold maxLen; omega, ?_, HCM.out, ?_, ?_, hb1⟩
      · rw [hq.out.1, hq.out.2, limbs_zero, HM.out]; rfl
      · rw [hq.out.1, limbs_zero]; exact Nat.le_refl _
      · rw [hq.out.2, HM.out]; exact hmc
      · rw [hq.out.1, limbs_zero]; exact LAt.nil
      · rw [hq.out.2]; exact HA.out.next hb1
  · have hc : ¬ cmpN x y < 0 := by
      unfold cmpN
      rw [if_neg hlt]
      split <;> omega
    have hyx : y ≤ x := by omega
    have HYX := hide hyx
    have hnm : n ≤ m := by
      have h := sz_mono hyx
      have h1 : sz y = (limbs y).length := rfl
      have h2 : sz x = (limbs x).length := rfl
      have := HM.out
      have := HN.out
      omega
    generalize cmpN x y = cv at hc ⊢
    clear hlt hyx
    have HA1 := hide (HA.out.next hb1)
    have HB1 := hide (HB.out.next hb1)
    have hn0 : 0 < n := by
      rcases Nat.eq_zero_or_pos n with h | h
      · exfalso
        have h1 := HN.out
        rw [h] at h1
        exact HY.out (limbs_nil.1 h1)
      · exact h
    by_cases hn1 : n = 1
    · as_aux_lemma =>
        subst hn1
        obtain ⟨hl, _, hyl⟩ := limbs_single HN.out
        obtain ⟨b1, o1, rfl, hbb, hcc⟩ := HB1.out.2.2 (by rw [HN.out]; omega)
        have c1 := hcc 0 y (by rw [hl]; rfl)
        rw [Nat.add_zero] at c1
        have HSH := hide (small_any x y m A c w1 HA1.out HM.out (by omega) (by have := HY.out; omega) hyl)
        have hrl : x % y < 4294967296 := Nat.lt_trans (Nat.mod_lt _ (by have := HY.out; omega)) hyl
        clear hl hcc hn0
        go_wp2_with fail
        refine HSH.out.mono ?_
        rintro e w2 ⟨A2, c2, rfl, hc2a, hc2b, hL2, hb2, _⟩
        generalize hr : x % y = r at *
        have HL2 := hide hL2
        clear hL2
        have hst := lat_one w2 r 52 hrl
        have hst2 := trim_any [r] _ 1 1 _ rfl hst (Nat.le_refl _)
        rw [limbs_of_lt r] at hst2
        have hstr := (RoF.LAt.strip hst).1
        rw [limbs_of_lt r] at hstr
        have hlen := (RoF.LAt.strip hst).2
        rw [limbs_of_lt r] at hlen
        have HST := hide hst2
        have HSTR := hide hstr
        have HLEN := hide hlen
        have hbf : Below w.heap.size w (w2.alloc (.cells #[.int .u32 (r : Int)] 52)) := (below_next hb1 hb2).alloc (Nat.le_trans hb1.size hb2.size) _
        have HLN := hide (HL2.out.next (w' := w2.alloc (.cells #[.int .u32 (r : Int)] 52)) ((Below.refl _ _).alloc (Nat.le_refl _) _))
        clear hst hst2 hstr hlen
        go_wp2_with fail
        refine HST.out.mono ?_
        rintro e w3 ⟨rfl, rfl⟩
        go_wp2_with fail
        go_ret2
        exact ⟨A2, c2, _, 1, rfl, hc2a, hc2b, HLEN.out, by unfold maxLen; omega, HLN.out, HSTR.out, hbf⟩
    · have hn2 : 2 ≤ n := by omega
      obtain ⟨top, htop⟩ : ∃ t, (limbs y)[n - 1]? = some t := ⟨_, List.getElem?_eq_getElem (by have := HN.out; omega)⟩
      have htl : top < 4294967296 := (limbs_ok y).at_ htop
      have ht0 : top ≠ 0 := by
        refine limbs_last (n := y) top ?_
        rw [List.getLast?_eq_getElem?, HN.out]; exact htop
      obtain ⟨b, hbl⟩ : ∃ b, Lib.bitLen top = b := ⟨_, rfl⟩
      obtain ⟨hb32, hb0, hs1, hs2⟩ := lead_zeros htl ht0 hbl
      obtain ⟨s, hs⟩ : ∃ s, 32 - b = s := ⟨_, rfl⟩
      rw [hs] at hs1 hs2
      obtain ⟨hD1, hD2⟩ := norm_facts (n := n - 1) (s := s) (by have := HN.out; omega) htop hs1 hs2 (by omega)
      rw [show n - 1 + 1 = n by omega] at hD1
      have HD1 := hide hD1
      have HD2 := hide hD2
      have hs31 : s ≤ 31 := by omega
      have hbi : (32 : Int) - (b : Int) = (s : Int) := by omega
      have HLZ : Hid (∀ w, Calls Tryz.prog 145 #[.int .u32 (top : Int)] w fun e w' => e = .returned (.int .i64 (s : Int)) ∧ w = w') := fun w => by
        refine (Tryz.bits_LeadingZeros32 (top : Int) w (by omega) (by omega)).mono ?_
        rintro e w' ⟨rfl, rfl⟩
        refine ⟨?_, rfl⟩
        rw [Int.toNat_natCast, hbl, hbi]
      have hfx : x * 2 ^ s < 4294967296 ^ (m + 1) := by
        have h1 : x < 4294967296 ^ m := by rw [← HM.out]; exact lt_of_limbs x
        have h2 : 2 ^ s ≤ 4294967296 := Nat.pow_le_pow_right (n := 2) (by omega) (by omega : s ≤ 32)
        rw [Nat.pow_succ]
        exact Nat.mul_lt_mul_of_lt_of_le h1 h2 (by omega)
      have HFX := hide hfx
      obtain ⟨b2, o2, rfl, hbb, hcc⟩ := HB1.out.2.2 (by rw [HN.out]; omega)
      have ctop := hcc (n - 1) top htop
      have q1 : IntKind.i64.wrap ((n : Int) - 1) = (n : Int) - 1 := IntWalk.i64_in _ (by omega)
      have q2 : ((n : Int) - 1).toNat = n - 1 := by omega
      have q3 : 0 ≤ (n : Int) - 1 := by omega
      have q4 : (n : Int) - 1 < (n : Int) := by omega
      clear hcc htop hbl hs hs1 hs2 hD1 hD2 hbi ht0 hfx htl
      go_wp2_with fail
      refine (HLZ.out _).mono ?_
      rintro e w1' ⟨rfl, rfl⟩
      clear q1 q2 q3 q4 ctop
      go_wp2_with fail
      refine (shift_any y s n n (some ⟨b2, o2, none⟩) c' w1 HB1.out HN.out (Nat.le_refl _) (by omega) hs31 HD1.out).mono ?_
      rintro e w2 ⟨gv, ds, rfl, hvl, hvo, hvv, hov, hb2⟩
      have HDL := hide hvl
      have HDO := hide hvo
      have HDV := hide hvv
      clear hvl hvo hvv
      go_wp2_with fail
      refine (shift_any x s m (m + 1) A c w2 (HA1.out.next hb2) HM.out (by omega) (by omega) hs31 HFX.out).mono ?_
      rintro e w3 ⟨gu, us, rfl, hul, huo, huv, hou, hb3⟩
      have HUL := hide hul
      have HUO := hide huo
      have HUV := hide huv
      clear hul huo huv
      go_wp2_with (first
        | (at_make
           refine wpList_make_full _ rfl (.tmp 58) (.tmp 58) 88 rfl w.heap.size 52 i0 _ 1 Tryz.underlying88 hi0 hz0 hz1 .i64 .i64 _ _ (m - n + 1) rfl rfl ?c1 ?c2 ?c3 ?c4 ?c5 ?_
           case c1 => omega
           case c2 => omega
           case c3 => rw [hz2]; omega
           case c4 => unfold maxLen; omega
           case c5 => exact Nat.le_trans hb1.size (Nat.le_trans hb2.size hb3.size)
           intro w4 hoq hg))
      have hgv : w1.heap.size ≤ gv ∧ gv < w2.heap.size := hov.lt _ rfl
      have hgu : w2.heap.size ≤ gu ∧ gu < w3.heap.size := hou.lt _ rfl
      have hs12 := hb1.size
      have hs23 := hb2.size
      have hs34 := hb3.size
      have hou2 := hou.kept hg (.inr (by simp [Value.ownBlock]))
      have hou4 : w4.ownsRow w.heap.size 52 1 (.slice (some ⟨gu, 0, none⟩) (m + 1) (m + 1)) (m + 1) (uv us) := by
        refine ⟨hou2.1, ?_⟩
        rcases hou2.2 with h | ⟨g, cap, cur, hv, hbg, h⟩
        · exact .inl h
        · exact .inr ⟨g, cap, cur, hv, by omega, h⟩
      have hb5 : Below w.heap.size w w4 := (below_next hb1 (below_next hb2 hb3)).grown hg (by omega) (by simp)
      have hD3 : DAt w4 gv ds := ((DAt.of_own hov).kept hb3 hgv.2).kept (B := w3.heap.size) ((Below.refl _ _).grown hg (Nat.le_refl _) (by simp)) (by omega)
      have hne1 : gu ≠ gv := by omega
      have hne2 : gu ≠ w3.heap.size := by omega
      have hne3 : gv ≠ w3.heap.size := by omega
      have hwg : w.heap.size ≤ gu := by omega
      have hwg2 : w.heap.size ≤ w3.heap.size := by omega
      clear hou hou2 hov hg hb2 hb3 hgu hgv hs12 hs23 hs34
      rw [made_uv] at hoq
      generalize w3.heap.size = gq at *
      generalize hL : m - n + 1 = L at *
      have HST := hide (DivInv.start (U0 := x * 2 ^ s) (D := y * 2 ^ s) (s := s) (n := n) (m := L) (a := limbs x) (u := us) (limbs_ok x) HUV.out (by rw [lval_limbs]) hs31 (by rw [HM.out]; omega) (by rw [HUL.out]; omega) (by omega) HD2.out)
      have HL := hide hL
      have hLm : L ≤ 100000 := by omega
      have hst : St w w4 gu gv gq (m + 1) L us (List.replicate L 0) ds := ⟨hou4, hoq, hD3, hb5, hne1, hne2, hne3, hwg, hwg2⟩
      clear hou4 hoq hD3 hb5 hne1 hne2 hne3 hwg hwg2
      generalize hMM : m + 1 = M at *
      have HMM := hide hMM
      have hMl : M ≤ 200000 := by omega
      have hmM : m < M := by omega
      have HDB : Hid (2147483648 * 4294967296 ^ (n - 1) ≤ lval ds) := by show _ ≤ _; rw [HDV.out]; exact HD2.out
      have hyp : 0 < y := by have := HY.out; omega
      have HYP := hide hyp
      clear hL hMM hyp HB1 HB HA HA1 HORD HFX
      go_loopw [13] (fun vj wr => ∃ (k : Nat) (us Q : List Nat), k ≤ L ∧ vj = .int .i64 ((k : Int) - 1) ∧ Hid (us.length = M) ∧ Hid (Ok us) ∧ Hid (Q.length = L) ∧ Hid (Ok Q) ∧ Hid (DivInv (x * 2 ^ s) (y * 2 ^ s) us (Q.drop k) k) ∧ St w wr gu gv gq M L us Q ds) (fun vj _ => (intOf vj + 1).toNat)
      case atStart =>
        refine ⟨L, us, List.replicate L 0, Nat.le_refl _, ?_, HUL.out, HUO.out, by show _ = _; simp, Ok.replicate _, ?_, hst⟩
        · have := HL.out
          congr 1; omega
        · show DivInv _ _ _ _ _
          rw [List.drop_eq_nil_of_le (by simp)]; exact HST.out
      case round =>
        clear hst HUL HUO HUV HST
        obtain ⟨k, us, Q, hk, rfl, HUL, HUO, HQL, HQO, HI, hst⟩ := hrel
        rcases Nat.eq_zero_or_pos k with h0 | h0
        · as_aux_lemma =>
            subst h0
            have hfin := HI.out.finish
            rw [List.drop_zero] at hfin
            have hlt : lval us < 4294967296 ^ n := by
              have h1 := HI.out.2
              rw [List.drop_zero] at h1
              exact Nat.lt_trans h1 HD1.out
            have HRV : Hid (lval (us.take n) / 2 ^ s = x % y) := by
              show _ = _
              rw [take_val (by rw [HUL.out]; omega) hlt, hfin.2]
            have HQV := hide hfin.1
            obtain ⟨ho1, ho2, _, hbw, _⟩ := hst
            have hLu := LAt.of_own ho1 HUO.out
            have hLq := LAt.of_own ho2 HQO.out
            have hcq := own_cap ho2
            obtain ⟨hLq3, hle3⟩ := LAt.strip hLq
            rw [HQV.out] at hLq3 hle3
            rw [HQL.out] at hle3
            have hLun := RnW.LAt.take hLu n
            have hunl : (us.take n).length = n := take_len (by rw [HUL.out]; omega)
            have HT : Hid (∀ w', Below wr.heap.size wr w' → Calls Tryz.prog 137 #[.slice (some ⟨gq, 0, none⟩) L L] w' fun e w'' => e = .returned (.slice (some ⟨gq, 0, none⟩) (limbs (x / y)).length L) ∧ w' = w'') := fun w' hb => by
              have h := trim_any Q _ L L w' HQL.out (hLq.next hb) (Nat.le_refl _)
              rw [HQV.out] at h
              exact h
            have HU : Hid (∀ w', Below wr.heap.size wr w' → Calls Tryz.prog 148 #[.slice (some ⟨gu, 0, none⟩) n M, .int .u64 (s : Int)] w' (LPost (limbs (x % y)) w')) := fun w' hb => by
              have h := unshift_any (us.take n) s n (some ⟨gu, 0, none⟩) M w' (hLun.next hb) hunl (by omega) hs31
              rw [HRV.out] at h
              exact h
            have HLQ := hide hLq3
            have HBW := hide hbw
            clear hfin hlt hLu hLq hLq3 ho1 ho2 hLun hunl hbw
            have hnM : n ≤ M := by omega
            go_wp2_with fail
            go_region_with (first
              | (go_at_call 137; refine (HT.out _ ?hh).mono ?_; (case hh => exact ⟨rfl, rfl, rfl, Nat.le_refl _, fun _ _ => rfl⟩); rintro e w5 ⟨rfl, rfl⟩)
              | (go_at_call 148; refine (HU.out _ ?hh).mono ?_; (case hh => exact ⟨rfl, rfl, rfl, Nat.le_refl _, fun _ _ => rfl⟩); rintro e w6 ⟨A6, c6, rfl, h1, h2, h3, h4⟩))
            all_goals
              have hb46 : Below wr.heap.size wr w6 := ⟨h4.os, h4.tape, h4.output, h4.size, h4.block⟩
              have hbf := HBW.out.trans (hb46.mono HBW.out.size)
              have H3 := hide h3
              have HQ6 := hide (HLQ.out.next hb46)
              clear h3 h4 hb46
              go_wp2_with fail
              go_ret2
              exact ⟨_, _, A6, c6, rfl, hle3, hcq.2, h1, h2, HQ6.out, H3.out, hbf⟩
        · obtain ⟨j, rfl⟩ : ∃ j, k = j + 1 := ⟨k - 1, by omega⟩
          have hjm : j + n + 1 ≤ M := by have := HL.out; have := HMM.out; omega
          have e1 : (((j + 1 : Nat) : Int) - 1) = j := by omega
          rw [e1]
          have hwin := window_split us j n
          have hWl : ((us.drop j).take (n + 1)).length = n + 1 := by rw [List.length_take, List.length_drop, HUL.out]; omega
          have hpl : (us.take j).length = j := take_len (by rw [HUL.out]; omega)
          have hdlt : y * 2 ^ s < 4294967296 ^ n := HD1.out
          have hI := HI.out
          rw [hwin] at hI
          have hok2 := HUO.out
          rw [hwin] at hok2
          obtain ⟨hpost, hWlt⟩ := DivInv.window hI hpl hWl hok2 hdlt
          have hWo : Ok ((us.drop j).take (n + 1)) := (HUO.out.drop j).take (n + 1)
          have hPo : Ok (us.take j) := HUO.out.take j
          have hRo : Ok (us.drop (j + n + 1)) := HUO.out.drop _
          obtain ⟨W0, hW0⟩ : ∃ W0, (us.drop j).take (n + 1) = W0 := ⟨_, rfl⟩
          obtain ⟨P0, hP0⟩ : ∃ P0, us.take j = P0 := ⟨_, rfl⟩
          obtain ⟨R0, hR0⟩ : ∃ R0, us.drop (j + n + 1) = R0 := ⟨_, rfl⟩
          rw [hW0, hP0, hR0] at hwin hI
          rw [hW0] at hWl hWlt hWo
          rw [hP0] at hpl hPo
          rw [hR0] at hpost hRo
          rw [hwin] at hst
          rw [← HDV.out] at hWlt
          have hdp : 0 < lval ds := by
            have := HDB.out
            have := RnC.pow_pos (n - 1)
            omega
          have HSTEP := Lib.hid (fun cu => step_any w wr gu gv gq M L j n cu P0 W0 R0 Q ds hst hpl hWl hWo HDL.out hn2 HDO.out hjm hMl HDB.out hWlt)
          have hq : lval W0 / lval ds < 4294967296 := (Nat.div_lt_iff_lt_mul hdp).2 (by rw [Nat.mul_comm]; exact hWlt)
          have HPL := hide hpl
          have HPO := hide hPo
          have HRO := hide hRo
          have HPOST := hide hpost
          have HI2 := hide hI
          have hjL : j < L := by omega
          have hjM : j ≤ M := by omega
          have p1 : IntKind.i64.wrap ((j : Int) + (n : Int)) = (j : Int) + (n : Int) := IntWalk.i64_in _ (by omega)
          have p2 : IntKind.i64.wrap ((j : Int) + (n : Int) + 1) = (j : Int) + (n : Int) + 1 := IntWalk.i64_in _ (by omega)
          clear hwin hWl hpl hdlt hI hok2 hpost hWlt hWo hPo hRo hW0 hP0 hR0 HI HUO HUL e1 h0 hst
          clear us
          go_wp2_with fail
          rw [show j + n + 1 - j = n + 1 by omega]
          refine (HSTEP.out _).mono ?_
          rintro e w5 ⟨rfl, W3, hV3, hL3, hO3, hst⟩
          have HV3 := hide hV3
          have HL3 := hide hL3
          have HO3 := hide hO3
          have hinv := DivInv.step (W' := W3) HI2.out HPL.out HPOST.out (by rw [HV3.out, HDV.out]) (by rw [← HDV.out]; exact hdp)
          rw [← HDV.out] at hinv
          obtain ⟨qd, hqd⟩ : ∃ q, lval W0 / lval ds = q := ⟨_, rfl⟩
          rw [hqd] at hq hinv ⊢
          obtain ⟨z9, hz9⟩ : ∃ z, Q[j]? = some z := ⟨_, List.getElem?_eq_getElem (by rw [HQL.out]; omega)⟩
          have cq := hst.cq hz9
          have fq := hst.fq j
          have hsn := hst.setQ j qd
          have HI3 : Hid (DivInv (x * 2 ^ s) (y * 2 ^ s) (P0 ++ W3 ++ R0) ((Q.set j qd).drop j) j) := by
            show DivInv _ _ _ _ _
            rw [drop_set_self (by rw [HQL.out]; omega), ← HDV.out]; exact hinv
          have HQO2 : Hid (Ok (Q.set j qd)) := HQO.out.set _ hq
          have HQL2 : Hid ((Q.set j qd).length = L) := by show _ = _; rw [List.length_set]; exact HQL.out
          have HUL2 : Hid ((P0 ++ W3 ++ R0).length = M) := hst.len
          have HUO2 : Hid (Ok (P0 ++ W3 ++ R0)) := (HPO.out.append HO3.out).append HRO.out
          clear hz9 hinv hqd hst hV3 hL3 hO3 HSTEP
          go_wp2_with fail
          go_roundw
          case rel => exact ⟨j, P0 ++ W3 ++ R0, Q.set j qd, by omega, rfl, HUL2, HUO2, HQL2, HQO2, HI3, hsn⟩
          case measure => simp [intOf] <;> omega
end Go.Proofs.YthppojbabkljpaaGreatDoor.PnI
