/- TrQ, TrS, TrT, in one text. -/
import Derived.Test.YtpbgmpjnfndfjaaGreatDoorTWQ
import Derived.Test.YtpbgmpjnfndfjaaGreatDoorTRA
import Derived.Test.YtpbgmpjnfndfjaaGreatDoorPgM
import Derived.Test.YtpbgmpjnfndfjaaGreatDoorTRN
import Derived.Test.YtpbgmpjnfndfjaaGreatDoorTRH
import Derived.Test.YtpbgmpjnfndfjaaGreatDoorTPO
namespace Go.Proofs.YtpbgmpjnfndfjaaGreatDoor.TrQ
open Go.RowKit Wd RnA RnB RnW RnQ RnR RnP RoA RoC RoL RtA RtB RtC RpB RpC RpE RpF RpG RpH RnY RpI RpJ RpK RpL PqB PfD PfE TqA TwA TwB TwC TwD TwE TwF TwG TwH TwI TwJ TwK TwL TwP TqB TwQ TwR TwS TwT TwU TpB TpC TpD TpO TpT TpU
def exC : List Cm := [⟨-1, 2, 60⟩, ⟨-1, 2, 40⟩]
theorem lt_nat (n : Nat) (h : n ≤ 1000) : Lt (n : Rat) 8 := by
  have h1 := lt_int (n := (n : Int)) ⟨by omega, by omega⟩
  rw [intQ_eq] at h1
  exact h1
theorem exC_few : FewC exC := by
  refine ⟨by decide, fun c hc => ?_⟩
  have h60 : Lt (60 : Rat) 4000 := (lt_nat 60 (by omega)).mono (by omega)
  have h40 : Lt (40 : Rat) 4000 := (lt_nat 40 (by omega)).mono (by omega)
  rcases List.mem_cons.1 hc with rfl | hc
  · exact ⟨rfl, by decide, by decide, by decide +kernel, h60⟩
  · rcases List.mem_cons.1 hc with rfl | hc
    · exact ⟨rfl, by decide, by decide, by decide +kernel, h40⟩
    · cases hc
theorem exC_gv : gv exC.length (ranksOf (exC.map Cm.d)) 50 = [30, 20] := by decide +kernel
theorem ex_deliver (A : Option Addr) (c : Nat) (w : World) (h : RowAt 5 Cm.vals w A exC) :
    Calls Tryz.prog 10 #[.agg #[.bool false, .string ⟨#[]⟩, .string ⟨#[]⟩, .slice A 2 c, .slice none 0 0], .agg #[.bool (negB 50), .string (bs (nm 50)), .string (dstr 50)]] w (DvP [30, 20] w) := by
  have hm : Lt (50 : Rat) 8 := lt_nat 50 (by omega)
  have h0 : (0 : Rat) ≤ 50 := by decide +kernel
  have hd := @top_deliver exC 50 exC_few.len (fun c hc => by obtain ⟨h1, h2, h3, h4, h5⟩ := exC_few.each c hc; exact ⟨h1, h2, h3, h4, h5.mono (by omega)⟩) exC_few.ly (exC_few.del (hm.mono (by omega)) h0) (hm.mono (by omega)) h0 A c w h
  rw [exC_gv] at hd
  exact hd
set_option maxHeartbeats 8000000 in
set_option maxRecDepth 100000 in
theorem awake_any (w : World) : Calls Tryz.prog 14 #[] w fun e w' => e = .returned (.bool true) ∧ Below w.heap.size w w' := by
  have H60 := Lib.hid (fun w => int_e (m := 60) (r := 60) ⟨by omega, by omega⟩ (by rw [intQ_eq]; rfl) w)
  have H40 := Lib.hid (fun w => int_e (m := 40) (r := 40) ⟨by omega, by omega⟩ (by rw [intQ_eq]; rfl) w)
  have H50 := Lib.hid (fun w => int_e (m := 50) (r := 50) ⟨by omega, by omega⟩ (by rw [intQ_eq]; rfl) w)
  have H30 := Lib.hid (fun W (v : Qin.In (Below W.heap.size W)) => TwC.q_in (int_e (m := 30) (r := 30) ⟨by omega, by omega⟩ (by rw [intQ_eq]; rfl) v.val))
  have H20 := Lib.hid (fun W (v : Qin.In (Below W.heap.size W)) => TwC.q_in (int_e (m := 20) (r := 20) ⟨by omega, by omega⟩ (by rw [intQ_eq]; rfl) v.val))
  have HD := Lib.hid (fun A c w h => ex_deliver A c w h)
  have HRW : Hid (∀ (w : World) (g : Nat), BlkT w g 65 (exC.flatMap Cm.vals) → RowAt 5 Cm.vals w (some ⟨g, 0, none⟩) exC) := hide (fun w g h => ⟨by decide, fun _ => ⟨g, 0, rfl, h.lt, fun k x hk j v hv => h.cell (by
    have hj : j < 5 := (List.getElem?_eq_some_iff.1 hv).1
    rw [Nat.zero_add, flat_get cm_len exC k x hk j hj]
    exact hv)⟩⟩)
  have HXV : Hid (exC.flatMap Cm.vals = [.int .i64 (-1), .int .i64 2, .bool (negB 60), .string (bs (nm 60)), .string (dstr 60), .int .i64 (-1), .int .i64 2, .bool (negB 40), .string (bs (nm 40)), .string (dstr 40)]) := hide rfl
  generalize exC = ex at *
  generalize (60 : Rat) = a at *
  generalize (40 : Rat) = b at *
  generalize (50 : Rat) = m at *
  unfold DvP at HD
  rw [show ([30, 20] : List Rat).flatMap qv3 = [.bool (negB 30), .string (bs (nm 30)), .string (dstr 30), .bool (negB 20), .string (bs (nm 20)), .string (dstr 20)] from rfl] at HD
  generalize (30 : Rat) = p at *
  generalize (20 : Rat) = q at *
  go_enter Tryz.func14, Tryz.ntmps14
  go_wp2_with fail
  refine (H60.out _).mono ?_
  rintro e w1 ⟨rfl, hb1⟩
  go_wp2_with fail
  refine (H40.out _).mono ?_
  rintro e w2 ⟨rfl, hb2⟩
  have HB2 := hide (hb1.trans (hb2.mono hb1.size))
  obtain ⟨V3, hV3, HC3, HB3, hl3⟩ : ∃ V, w2.alloc (.cells #[.int .i64 (-1), .int .i64 2, .bool (negB a), .string (bs (nm a)), .string (dstr a), .int .i64 (-1), .int .i64 2, .bool (negB b), .string (bs (nm b)), .string (dstr b)] 65) = V ∧ Hid (BlkT V w2.heap.size 65 [.int .i64 (-1), .int .i64 2, .bool (negB a), .string (bs (nm a)), .string (dstr a), .int .i64 (-1), .int .i64 2, .bool (negB b), .string (bs (nm b)), .string (dstr b)]) ∧ Hid (Below w2.heap.size w2 V) ∧ w2.heap.size < V.heap.size :=
    ⟨_, rfl, heap_alloc_new w2 _, (Below.refl _ _).alloc (Nat.le_refl _) _, by simp⟩
  obtain ⟨V4, hV4, HE4, HB4, hl4⟩ := es_new V3 (.bool false) (.string ⟨#[]⟩) (.string ⟨#[]⟩) (.slice (some ⟨w2.heap.size, 0, none⟩) 2 2) (.slice none 0 0)
  have HC4 := hide (HC3.out.below HB4.out)
  have HBB := hide (HB2.out.trans ((HB3.out.trans (HB4.out.mono (by omega))).mono HB2.out.size))
  have hws := HB2.out.size
  have HV4 := hide hV4
  clear hb1 hb2 hV4
  go_wp2_with fail
  rw [HV4.out]
  have x0 := blk_kin HE4.out (i := 0) rfl
  have x1 := blk_kin HE4.out (i := 1) rfl
  have x2 := blk_kin HE4.out (i := 2) rfl
  have x3 := blk_kin HE4.out (i := 3) rfl
  have x4 := blk_kin HE4.out (i := 4) rfl
  have HRv := Lib.hid (fun (u : World) (hu : Below V4.heap.size V4 u) => HRW.out u w2.heap.size (by rw [HXV.out]; exact HC4.out.below hu))
  refine Qmt.wp_region (C := Cls (Below V4.heap.size V4)) (by kernel_rfl) (by kernel_rfl) ?_
  simp only [List.length_cons, List.length_nil]
  refine Qmt.takes [0] 10 _ _ _ (cls (Qin.start _ _)) (by kernel_rfl) ?_
  simp only [List.filterMap_cons, List.filterMap_nil, List.getElem?_toArray, List.getElem?_cons_zero]
  change wpQuiet _ _ _ _ [_] _
  repeat (go_big_quiet_step (fail))
  refine wpQuiet_nil ?_
  have hB := Qin.start V4.heap.size V4
  generalize ({ V4 with drawn := V4.drawn + 1 } : World) = v1 at hB ⊢
  clear x0 x1 x2 x3 x4
  have HZN := Lib.hid (fun (w : World) (h : V4.heap.size ≤ w.heap.size) => rz_new w h)
  refine recast (d' := #[true, false, false, false, false, false, false, false, false, false, false]) (by decide) ?_
  apply holes5
    (F0 := fun (G_ : World → Nat → Prop) => ∀ (v1 : World) (KZ : Nat), Below V4.heap.size V4 v1 → Hid (Bx v1 KZ (.bool false) (.string ⟨#[]⟩) (.string ⟨#[]⟩)) → V4.heap.size ≤ KZ → G_ v1 KZ)
    (F1 := fun (G_ : World → Prop) => ∀ (v1 : World), Below V4.heap.size V4 v1 → G_ v1)
    (F2 := fun (G_ : World → Nat → Prop) => ∀ (v1 : World) (KZ : Nat), Below V4.heap.size V4 v1 → Hid (Bx v1 KZ (.bool false) (.string ⟨#[]⟩) (.string ⟨#[]⟩)) → V4.heap.size ≤ KZ → G_ v1 KZ)
    (F3 := fun (G_ : World → Nat → Nat → List Value → Prop) => ∀ (v1 : World) (g : Nat) (gc : Nat) (gp : List Value), Below V4.heap.size V4 v1 → Hid (BlkT v1 g 32 ([.bool (negB p), .string (bs (nm p)), .string (dstr p), .bool (negB q), .string (bs (nm q)), .string (dstr q)] ++ gp)) → G_ v1 g gc gp)
    (F4 := fun (G_ : World → Nat → Nat → Nat → List Value → Prop) => ∀ (v1 : World) (KZ : Nat) (g : Nat) (gc : Nat) (gp : List Value), Below V4.heap.size V4 v1 → Hid (Bx v1 KZ (.bool false) (.string ⟨#[]⟩) (.string ⟨#[]⟩)) → V4.heap.size ≤ KZ → Hid (BlkT v1 g 32 ([.bool (negB p), .string (bs (nm p)), .string (dstr p), .bool (negB q), .string (bs (nm q)), .string (dstr q)] ++ gp)) → g ≠ KZ → G_ v1 KZ g gc gp)
  · intro S1 S2 S3 S4 S5
    refine Qmt.fork [1, 7] (cls hB) (by kernel_rfl) (by simp) ⟨?_, ?_, trivial⟩
    · refine Qmt.by_op rfl (by kernel_rfl) ?_
      go_wp2_with fail
      refine (H50.out _).mono ?_
      rintro e v2 ⟨rfl, hb⟩
      have hB2 := hB.trans (hb.mono hB.size)
      clear hb
      go_wp2_with fail
      refine ⟨rfl, ?_⟩
      refine recast (d' := #[true, true, false, false, false, false, false, false, false, false, false]) (by decide) ?_
      exact S2 v2 hB2
    · refine Qmt.by_op rfl (by kernel_rfl) ?_
      obtain ⟨v2, KZ, hv, hKe, XZ, HNb, GZ⟩ := HZN.out v1 hB.size
      have hB2 := hB.trans (HNb.out.mono hB.size)
      go_wp2_with fail
      refine ⟨rfl, ?_⟩
      clear hv
      try simp only [hKe]
      clear hKe
      refine recast (d' := #[true, false, false, false, false, false, false, true, false, false, false]) (by decide) ?_
      exact S1 v2 KZ hB2 XZ GZ
  · intro S2 S3 S4 S5 v1 KZ hB XZ GZ
    refine Qmt.fork [1] (cls hB) (by kernel_rfl) (by simp) ⟨?_, trivial⟩
    · refine Qmt.by_op rfl (by kernel_rfl) ?_
      go_wp2_with fail
      refine (H50.out _).mono ?_
      rintro e v2 ⟨rfl, hb⟩
      have hB2 := hB.trans (hb.mono hB.size)
      have XZ2 := hide (XZ.out.keep hb XZ.out.lt)
      clear hb
      go_wp2_with fail
      refine ⟨rfl, ?_⟩
      refine recast (d' := #[true, true, false, false, false, false, false, true, false, false, false]) (by decide) ?_
      exact S3 v2 KZ hB2 XZ2 GZ
  · intro S3 S4 S5 v1 hB
    refine Qmt.fork [2, 7] (cls hB) (by kernel_rfl) (by simp) ⟨?_, ?_, trivial⟩
    · refine Qmt.by_op rfl (by kernel_rfl) ?_
      go_wp2_with fail
      refine (HD.out _ 2 _ (HRv.out v1 hB)).mono ?_
      rintro e v2 ⟨g, gc, gp, rfl, hgw, hgb, hb⟩
      have HG2 := hide hgb
      have hB2 := hB.trans (hb.mono hB.size)
      clear hb
      go_wp2_with fail
      refine ⟨rfl, ?_⟩
      refine Qmt.takes [3, 4, 5, 6] 4 _ _ _ (cls hB2) (by kernel_rfl) ?_
      simp only [List.filterMap_cons, List.filterMap_nil, List.getElem?_toArray, List.getElem?_cons_zero, List.getElem?_cons_succ]
      change wpQuiet _ _ _ _ [_, _, _, _] _
      repeat (go_big_quiet_step (fail))
      refine wpQuiet_nil ?_
      refine recast (d' := #[true, true, true, true, true, true, true, false, false, false, false]) (by decide) ?_
      exact S4 v2 g gc gp hB2 HG2
    · refine Qmt.by_op rfl (by kernel_rfl) ?_
      obtain ⟨v2, KZ, hv, hKe, XZ, HNb, GZ⟩ := HZN.out v1 hB.size
      have hB2 := hB.trans (HNb.out.mono hB.size)
      go_wp2_with fail
      refine ⟨rfl, ?_⟩
      clear hv
      try simp only [hKe]
      clear hKe
      refine recast (d' := #[true, true, false, false, false, false, false, true, false, false, false]) (by decide) ?_
      exact S3 v2 KZ hB2 XZ GZ
  · intro S4 S5 v1 KZ hB XZ GZ
    refine Qmt.fork [2] (cls hB) (by kernel_rfl) (by simp) ⟨?_, trivial⟩
    · refine Qmt.by_op rfl (by kernel_rfl) ?_
      go_wp2_with fail
      refine (HD.out _ 2 _ (HRv.out v1 hB)).mono ?_
      rintro e v2 ⟨g, gc, gp, rfl, hgw, hgb, hb⟩
      have HG2 := hide hgb
      have NZ : g ≠ KZ := by have := XZ.out.lt; omega
      have hB2 := hB.trans (hb.mono hB.size)
      have XZ2 := hide (XZ.out.keep hb XZ.out.lt)
      clear hb
      go_wp2_with fail
      refine ⟨rfl, ?_⟩
      refine Qmt.takes [3, 4, 5, 6, 8] 2 _ _ _ (cls hB2) (by kernel_rfl) ?_
      simp only [List.filterMap_cons, List.filterMap_nil, List.getElem?_toArray, List.getElem?_cons_zero, List.getElem?_cons_succ]
      change wpQuiet _ _ _ _ [_, _, _, _, _] _
      repeat (go_big_quiet_step (fail))
      refine wpQuiet_nil ?_
      refine recast (d' := #[true, true, true, true, true, true, true, true, true, false, false]) (by decide) ?_
      exact S5 v2 KZ g gc gp hB2 XZ2 GZ HG2 NZ
  · intro S5 v1 g gc gp hB HGv
    refine Qmt.fork [7] (cls hB) (by kernel_rfl) (by simp) ⟨?_, trivial⟩
    · refine Qmt.by_op rfl (by kernel_rfl) ?_
      obtain ⟨v2, KZ, hv, hKe, XZ, HNb, GZ⟩ := HZN.out v1 hB.size
      have hB2 := hB.trans (HNb.out.mono hB.size)
      have HG2 := hide (HGv.out.below HNb.out)
      have NZ : g ≠ KZ := by have := HGv.out.lt; omega
      go_wp2_with fail
      refine ⟨rfl, ?_⟩
      clear hv
      try simp only [hKe]
      clear hKe
      refine Qmt.takes [8] 2 _ _ _ (cls hB2) (by kernel_rfl) ?_
      simp only [List.filterMap_cons, List.filterMap_nil, List.getElem?_toArray, List.getElem?_cons_zero, List.getElem?_cons_succ]
      change wpQuiet _ _ _ _ [_] _
      repeat (go_big_quiet_step (fail))
      refine wpQuiet_nil ?_
      refine recast (d' := #[true, true, true, true, true, true, true, true, true, false, false]) (by decide) ?_
      exact S5 v2 KZ g gc gp hB2 XZ GZ HG2 NZ
  · intro v1 KZ g gc gp hB XZ GZ HGv NZ
    refine Qmt.fork [9] (cls hB) (by kernel_rfl) (by simp) ⟨?_, trivial⟩
    refine Qmt.by_op rfl (by kernel_rfl) ?_
    have hk := (((Ks.refl (fun k => k = KZ) v1).setCell (p := ⟨KZ, 0, none⟩) (.inl rfl) (.bool false)).setCell (p := ⟨KZ, 1, none⟩) (.inl rfl) (.string ⟨#[]⟩)).setCell (p := ⟨KZ, 2, none⟩) (.inl rfl) (.string ⟨#[]⟩)
    obtain ⟨v2, hv, YZ, hB2⟩ := bx_put hB XZ.out GZ (.bool false) (.string ⟨#[]⟩) (.string ⟨#[]⟩)
    rw [hv] at hk
    obtain ⟨c0, c1, c2, f0, f1, f2⟩ := XZ.out
    go_wp2_with fail
    refine ⟨rfl, ?_⟩
    try rw [hv]
    clear hv c0 c1 c2 f0 f1 f2
    refine Qmt.takes [10] 0 _ _ _ (cls hB2) (by kernel_rfl) ?_
    simp only [List.filterMap_cons, List.filterMap_nil, List.getElem?_toArray, List.getElem?_cons_zero, List.getElem?_cons_succ]
    change wpQuiet _ _ _ _ [_] _
    repeat (go_big_quiet_step (fail))
    refine wpQuiet_nil ?_
    refine Qmt.by_end (cls hB2) (by kernel_rfl) ?_
    have HG4 := hide (hk.blk HGv.out (by exact NZ))
    have HB4 := hide (HBB.out.trans (hB2.mono HBB.out.size))
    clear hk hB hB2 XZ YZ HGv
    go_wp2_with fail
    have e0 := blk_kin HG4.out (i := 0) rfl
    have e1 := blk_kin HG4.out (i := 1) rfl
    have e2 := blk_kin HG4.out (i := 2) rfl
    have e3 := blk_kin HG4.out (i := 3) rfl
    have e4 := blk_kin HG4.out (i := 4) rfl
    have e5 := blk_kin HG4.out (i := 5) rfl
    refine Qin.region (I := Below v2.heap.size v2) (Qin.start _ _) (by kernel_rfl) (by kernel_rfl) ?_
    repeat (go_big_quiet_step (first | (go_at_call 38; with_reducible exact H30.out _ _) | (go_at_call 38; with_reducible exact H20.out _ _)))
    refine wpQuiet_nil ?_
    intro u
    obtain ⟨u, hu⟩ := u
    dsimp only
    go_wp2_with fail
    go_ret
    exact ⟨rfl, HB4.out.trans (hu.mono HB4.out.size)⟩
end Go.Proofs.YtpbgmpjnfndfjaaGreatDoor.TrQ
namespace Go.Proofs.YtpbgmpjnfndfjaaGreatDoor.TrS
open Go.RowKit Wd RnA RnB RnW RnQ RnR RnP RnD RnE RtA RtC RpB RpC RpF RpH RnY RsX RoA RoC RoL PqB PfS PfB PfA PfD PfE PfG PfH PgC PgG PgH PgM TwA TwB TwC TwD TqA TrE TrA TrL TrM TrP TwK TwQ TwR TwU TpB TpC TpD TpF TpO TpT TpU
set_option maxHeartbeats 4000000 in
set_option maxRecDepth 100000 in
theorem amountV (x : Nat) (hx : x < 65536) : ∃ q, Aq q ∧ ∀ w, Calls Tryz.prog 13 #[.int .u16 (x : Int)] w (Ans q w) := by
  by_cases h0 : x % 5 = 0
  · have hm0 : (((x : Int) % 5) == 0) = true := by rw [beq_iff_eq]; omega
    have HF := Lib.hid (fun w => ratio_any (x / 5 % 23) (1 + x / 115 % 6) w (by omega) (by omega) (by omega))
    rw [show ((x / 5 % 23 : Nat) : Int) = (x : Int) / 5 % 23 by omega, show ((1 + x / 115 % 6 : Nat) : Int) = 1 + (x : Int) / 115 % 6 by omega] at HF
    obtain ⟨a, ha⟩ : ∃ a, x / 5 % 23 = a := ⟨_, rfl⟩
    obtain ⟨b, hb⟩ : ∃ b, 1 + x / 115 % 6 = b := ⟨_, rfl⟩
    have ha' : a ≤ 30 := by omega
    have hb' : 1 ≤ b ∧ b ≤ 6 := by omega
    rw [ha, hb] at HF
    obtain ⟨q, hq⟩ : ∃ q, mk false a b = q := ⟨_, rfl⟩
    have HQ := hide hq
    rw [hq] at HF
    unfold RPost at HF
    simp only [enc_open] at HF
    obtain ⟨hb1, hb2⟩ := hb'
    refine ⟨q, ⟨a, b, ha', hb1, hb2, hq.symm⟩, fun w => ?_⟩
    obtain ⟨V0, hV0, HJ, hB0, hl0⟩ := box_new w (.bool false) (.string ⟨#[]⟩) (.string ⟨#[]⟩)
    have HB0 := hide hB0
    clear hB0
    clear hq ha hb h0
    go_enter Tryz.func13, Tryz.ntmps13
    go_wp2_with fail
    refine (HF.out _).mono ?_
    rintro e w1 ⟨rfl, hb1⟩
    have HJ2 := hide (HJ.out.keep hb1 hl0)
    have HBF := hide (HB0.out.trans (hb1.mono (Nat.le_of_lt hl0)))
    obtain ⟨c0, c1, c2, f0, f1, f2⟩ := HJ2.out
    clear hb1
    go_wp2_with fail
    refine bodyPost_ret (results_rat rfl _ rfl (HJ2.out.set3 _ _ _)) rfl ?_
    exact ⟨rfl, below_set3 HBF.out (Nat.le_refl _) _ _ _⟩
  · have hm0 : (((x : Int) % 5) == 0) = false := by rw [beq_eq_false_iff_ne]; omega
    by_cases h1 : x % 5 = 1
    · have hm1 : (((x : Int) % 5) == 1) = true := by rw [beq_iff_eq]; omega
      have HF := Lib.hid (fun w => whole_any (10 * (x / 5 % 4)) (by omega) w)
      rw [show ((10 * (x / 5 % 4) : Nat) : Int) = 10 * ((x : Int) / 5 % 4) by omega] at HF
      obtain ⟨a, ha⟩ : ∃ a, 10 * (x / 5 % 4) = a := ⟨_, rfl⟩
      have ha' : a ≤ 30 := by omega
      rw [ha] at HF
      obtain ⟨q, hq⟩ : ∃ q, mk false a 1 = q := ⟨_, rfl⟩
      have HQ := hide hq
      rw [hq] at HF
      unfold RPost at HF
      simp only [enc_open] at HF
      refine ⟨q, ⟨a, 1, ha', by omega, by omega, hq.symm⟩, fun w => ?_⟩
      obtain ⟨V0, hV0, HJ, hB0, hl0⟩ := box_new w (.bool false) (.string ⟨#[]⟩) (.string ⟨#[]⟩)
      have HB0 := hide hB0
      clear hB0
      clear hq ha h0 h1
      go_enter Tryz.func13, Tryz.ntmps13
      go_wp2_with fail
      refine (HF.out _).mono ?_
      rintro e w1 ⟨rfl, hb1⟩
      have HJ2 := hide (HJ.out.keep hb1 hl0)
      have HBF := hide (HB0.out.trans (hb1.mono (Nat.le_of_lt hl0)))
      obtain ⟨c0, c1, c2, f0, f1, f2⟩ := HJ2.out
      clear hb1
      go_wp2_with fail
      refine bodyPost_ret (results_rat rfl _ rfl (HJ2.out.set3 _ _ _)) rfl ?_
      exact ⟨rfl, below_set3 HBF.out (Nat.le_refl _) _ _ _⟩
    · have hm1 : (((x : Int) % 5) == 1) = false := by rw [beq_eq_false_iff_ne]; omega
      have HF := Lib.hid (fun w => whole_any (x / 5 % 13) (by omega) w)
      rw [show ((x / 5 % 13 : Nat) : Int) = (x : Int) / 5 % 13 by omega] at HF
      obtain ⟨a, ha⟩ : ∃ a, x / 5 % 13 = a := ⟨_, rfl⟩
      have ha' : a ≤ 30 := by omega
      rw [ha] at HF
      obtain ⟨q, hq⟩ : ∃ q, mk false a 1 = q := ⟨_, rfl⟩
      have HQ := hide hq
      rw [hq] at HF
      unfold RPost at HF
      simp only [enc_open] at HF
      refine ⟨q, ⟨a, 1, ha', by omega, by omega, hq.symm⟩, fun w => ?_⟩
      obtain ⟨V0, hV0, HJ, hB0, hl0⟩ := box_new w (.bool false) (.string ⟨#[]⟩) (.string ⟨#[]⟩)
      have HB0 := hide hB0
      clear hB0
      clear hq ha h0 h1
      go_enter Tryz.func13, Tryz.ntmps13
      go_wp2_with fail
      refine (HF.out _).mono ?_
      rintro e w1 ⟨rfl, hb1⟩
      have HJ2 := hide (HJ.out.keep hb1 hl0)
      have HBF := hide (HB0.out.trans (hb1.mono (Nat.le_of_lt hl0)))
      obtain ⟨c0, c1, c2, f0, f1, f2⟩ := HJ2.out
      clear hb1
      go_wp2_with fail
      refine bodyPost_ret (results_rat rfl _ rfl (HJ2.out.set3 _ _ _)) rfl ?_
      exact ⟨rfl, below_set3 HBF.out (Nat.le_refl _) _ _ _⟩
/-- what a document is in an estate: in time, late -/
def cmT (x : Pd) : Cm := ⟨-1, x.rank, valD x⟩
def cmL (x : Pd) : Cm := ⟨-1, max x.rank 4, valD x⟩
theorem nd_t (x : Pd) : ndOf (entOf x 150) = ⟨x.id, x.rank, valD x⟩ := by
  unfold ndOf entOf TrG.En.adm TrH.newEn rankE
  simp [Pd.dc]
theorem nd_l (x : Pd) : ndOf (entOf x 250) = ⟨x.id, max x.rank 4, valD x⟩ := by
  unfold ndOf entOf TrG.En.adm TrH.newEn rankE
  simp [Pd.dc]
theorem sel_none (p : Nat → Bool) (h : ∀ i, p i = false) : ∀ (i : Nat) (l : List Pd), sel p i l = []
  | i, [] => rfl
  | i, x :: l => by unfold sel; rw [h i]; simp [sel_none p h (i + 1) l]
theorem sel_true (p : Nat → Bool) (h : ∀ i, p i = true) : ∀ (i : Nat) (l : List Pd), sel p i l = l
  | i, [] => rfl
  | i, x :: l => by unfold sel; rw [h i]; simp [sel_true p h (i + 1) l]
theorem late0 (i : Nat) : lateB 0 i = false := by unfold lateB; simp
theorem adm0 (l : List Pd) : admL 0 l = l.map (entOf · 150) := by
  unfold admL
  rw [sel_none (lateB 0) late0, sel_true _ (fun i => by rw [late0]; rfl)]
  simp
theorem ndsC (z : Nat) (l : List Pd) : (admL z l).map ndOf = (sel (fun i => !lateB z i) 0 l).map (fun x => (⟨x.id, x.rank, valD x⟩ : Nd)) ++ (sel (lateB z) 0 l).map (fun x => ⟨x.id, max x.rank 4, valD x⟩) := by
  unfold admL
  rw [List.map_append, List.map_map, List.map_map]
  have e1 : (sel (fun i => !lateB z i) 0 l).map (ndOf ∘ (entOf · 150)) = (sel (fun i => !lateB z i) 0 l).map (fun x => (⟨x.id, x.rank, valD x⟩ : Nd)) := List.map_congr_left (fun x _ => nd_t x)
  have e2 : (sel (lateB z) 0 l).map (ndOf ∘ (entOf · 250)) = (sel (lateB z) 0 l).map (fun x => (⟨x.id, max x.rank 4, valD x⟩ : Nd)) := List.map_congr_left (fun x _ => nd_l x)
  rw [e1, e2]
theorem ndsD (l : List Pd) : (admL 0 l).map ndOf = l.map (fun x => (⟨x.id, x.rank, valD x⟩ : Nd)) := by
  rw [adm0, List.map_map]
  exact List.map_congr_left (fun x _ => nd_t x)
theorem cmsC (z : Nat) (l : List Pd) : ((admL z l).map ndOf).map cmOf = (sel (fun i => !lateB z i) 0 l).map cmT ++ (sel (lateB z) 0 l).map cmL := by
  rw [ndsC, List.map_append, List.map_map, List.map_map]
  rfl
theorem cmsD (l : List Pd) : ((admL 0 l).map ndOf).map cmOf = l.map cmT := by
  rw [ndsD, List.map_map]
  rfl
theorem few_of {a b : List Pd} (hl : a.length + b.length ≤ 24) (ha : ∀ x ∈ a, PdOk x) (hb : ∀ x ∈ b, PdOk x) : FewC (a.map cmT ++ b.map cmL) := by
  refine ⟨by rw [List.length_append, List.length_map, List.length_map]; exact hl, fun c hc => ?_⟩
  rcases List.mem_append.1 hc with hc | hc
  · obtain ⟨x, hx, rfl⟩ := List.mem_map.1 hc
    have h := ha x hx
    have h1 := h.k0
    have h2 := h.k1
    exact ⟨rfl, by show 0 ≤ x.rank; omega, by show x.rank ≤ 7; omega, val_nn h, val_lt h⟩
  · obtain ⟨x, hx, rfl⟩ := List.mem_map.1 hc
    have h := hb x hx
    have h1 := h.k0
    have h2 := h.k1
    exact ⟨rfl, by show 0 ≤ max x.rank 4; omega, by show max x.rank 4 ≤ 7; omega, val_nn h, val_lt h⟩
/-- late claims change nothing for those in time -/
theorem late_gv {a b : List Pd} (hl : a.length + b.length ≤ 24) (ha : ∀ x ∈ a, PdOk x) (hb : ∀ x ∈ b, PdOk x) (m : Rat) {k : Nat} (hk : k < a.length) :
    (gv (a.map cmT ++ b.map cmL).length (ranksOf ((a.map cmT ++ b.map cmL).map Cm.d)) m)[k]? = (gv (a.map cmT).length (ranksOf ((a.map cmT).map Cm.d)) m)[k]? := by
  have hA := few_of (b := []) (a := a) (by simp; omega) ha (fun x hx => by cases hx)
  simp only [List.map_nil, List.append_nil] at hA
  rw [gv_eq (few_of hl ha hb), gv_eq hA]
  rw [List.getElem?_map, List.getElem?_map, List.getElem?_range (by rw [List.length_append, List.length_map]; omega), List.getElem?_range (by rw [List.length_map]; omega)]
  simp only [Option.map_some]
  congr 1
  unfold estOf
  rw [List.map_append]
  refine TpS.late_same (fun c hc => ?_) (fun c hc => ?_) 0 (by rw [List.length_map, List.length_map]; exact hk) m
  · obtain ⟨x, hx, rfl⟩ := List.mem_map.1 hc
    obtain ⟨y, hy, rfl⟩ := List.mem_map.1 hx
    have h2 := (ha y hy).k1
    show y.rank.toNat < 4; omega
  · obtain ⟨x, hx, rfl⟩ := List.mem_map.1 hc
    obtain ⟨y, hy, rfl⟩ := List.mem_map.1 hx
    show 4 ≤ (max y.rank 4).toNat; omega
theorem aq_lt {q : Rat} (h : Aq q) : 0 ≤ q ∧ Lt q 10000000 := by
  obtain ⟨h1, h2, h3⟩ := h.small
  refine ⟨Rat.num_nonneg.1 ?_, (TrN.lt2 h2 h3).mono (by omega)⟩
  unfold negB at h1
  simpa using h1
end Go.Proofs.YtpbgmpjnfndfjaaGreatDoor.TrS
namespace Go.Proofs.YtpbgmpjnfndfjaaGreatDoor.TrT
open Go.RowKit Wd RnA RnB RnW RnQ RnR RnP RoA RoC RoL RtA RtB RtC RpB RpC RpE RpF RpG RpH RnY RpI RpJ RpK RpL PqB PfA PfB PfD PfE PfH PfO TqA TwA TwB TwC TwD TwE TwH TwI TwK TwP TqB TwQ TwR TwT TwU TrA TrE TrF TrG TrH TrI TrJ TrK TrL TrM TgN TgX TrN TrO TrP TrQ TrS TpB TpC TpD TpO TpT TpU
theorem dst_of {l : List Pd} (hl : l.length ≤ 8) (h : ∀ k x, l[k]? = some x → x.id = nameK k) : Dst l := by
  intro i j x y hx hy hne
  have hi := (List.getElem?_eq_some_iff.1 hx).1
  have hj := (List.getElem?_eq_some_iff.1 hy).1
  rw [h i x hx, h j y hy]
  exact nameK_ne (by omega) (by omega) hne
theorem sel_sub (p : Nat → Bool) : ∀ (i : Nat) (l : List Pd), ∀ x ∈ sel p i l, x ∈ l
  | i, [], x, h => by simp [sel] at h
  | i, y :: l, x, h => by
    unfold sel at h
    split at h
    · rcases List.mem_cons.1 h with rfl | h
      · exact List.mem_cons_self ..
      · exact List.mem_cons_of_mem _ (sel_sub p (i + 1) l x h)
    · exact List.mem_cons_of_mem _ (sel_sub p (i + 1) l x h)
theorem sel_pair (p : Nat → Bool) : ∀ (i : Nat) (l : List Pd), (∀ (a b : Nat) (x y : Pd), l[a]? = some x → l[b]? = some y → a ≠ b → x.id.toList ≠ y.id.toList) → ∀ (a b : Nat) (x y : Pd), (sel p i l)[a]? = some x → (sel p i l)[b]? = some y → a ≠ b → x.id.toList ≠ y.id.toList
  | i, [], _, a, b, x, y, hx, _, _ => by simp [sel] at hx
  | i, z :: l, h, a, b, x, y, hx, hy, hne => by
    have ht : ∀ (a b : Nat) (x y : Pd), l[a]? = some x → l[b]? = some y → a ≠ b → x.id.toList ≠ y.id.toList := fun a b x y hx hy hne => h (a + 1) (b + 1) x y (by simpa using hx) (by simpa using hy) (by omega)
    have ih := sel_pair p (i + 1) l ht
    unfold sel at hx hy
    split at hx
    · rename_i hp
      rw [if_pos hp] at hy
      cases a with
      | zero =>
        cases b with
        | zero => exact absurd rfl hne
        | succ b =>
          have e : z = x := by simpa using hx
          subst e
          obtain ⟨k, hk⟩ := List.getElem?_of_mem (sel_sub p (i + 1) l y (List.mem_of_getElem? (by simpa using hy)))
          exact h 0 (k + 1) z y rfl (by simpa using hk) (by omega)
      | succ a =>
        cases b with
        | zero =>
          have e : z = y := by simpa using hy
          subst e
          obtain ⟨k, hk⟩ := List.getElem?_of_mem (sel_sub p (i + 1) l x (List.mem_of_getElem? (by simpa using hx)))
          exact h (k + 1) 0 x z (by simpa using hk) rfl (by omega)
        | succ b => exact ih a b x y (by simpa using hx) (by simpa using hy) (by omega)
    · rename_i hp
      rw [if_neg hp] at hy
      exact ih a b x y hx hy hne
theorem sel_lens (p : Nat → Bool) : ∀ (i : Nat) (l : List Pd), (sel (fun i => !p i) i l).length + (sel p i l).length = l.length
  | i, [] => rfl
  | i, x :: l => by
    have ih := sel_lens p (i + 1) l
    unfold sel
    cases p i <;> simp <;> omega
/-- the IDs of the late differ from those in time -/
theorem sel_far {l : List Pd} (h : Dst l) (p : Nat → Bool) {x y : Pd} (hx : x ∈ sel (fun i => !p i) 0 l) (hy : y ∈ sel p 0 l) : x.id.toList ≠ y.id.toList := by
  obtain ⟨i, hi, hpi⟩ := sel_mem 0 l hx
  obtain ⟨j, hj, hpj⟩ := sel_mem 0 l hy
  rw [Nat.zero_add] at hpi hpj
  exact h i j x y hi hj (fun e => by rw [e, hpj] at hpi; cases hpi)
/-- the walk's last test: where the IDs are the same, the amounts are -/
theorem last_test {l : List Pd} (hl : l.length ≤ 8) (hok : ∀ x ∈ l, PdOk x) (hd : Dst l) (z : Nat) (m : Rat) {i k : Nat} {x y : Nd}
    (hx : ((admL 0 (sel (fun i => !lateB z i) 0 l)).map ndOf)[i]? = some x) (hy : ((admL z l).map ndOf)[k]? = some y) (he : x.id.toList = y.id.toList) :
    (gv (((admL z l).map ndOf).map cmOf).length (ranksOf ((((admL z l).map ndOf).map cmOf).map Cm.d)) m)[k]? = (gv (((admL 0 (sel (fun i => !lateB z i) 0 l)).map ndOf).map cmOf).length (ranksOf ((((admL 0 (sel (fun i => !lateB z i) 0 l)).map ndOf).map cmOf).map Cm.d)) m)[i]? := by
  rw [cmsC, cmsD]
  rw [ndsD, List.getElem?_map] at hx
  rw [ndsC] at hy
  obtain ⟨u, hu, rfl⟩ := Option.map_eq_some_iff.1 hx
  have hil := (List.getElem?_eq_some_iff.1 hu).1
  have hlen := sel_lens (lateB z) 0 l
  have hki : k = i := by
    rcases Nat.lt_or_ge k (sel (fun i => !lateB z i) 0 l).length with hlt | hge
    · rw [List.getElem?_append_left (by rw [List.length_map]; exact hlt), List.getElem?_map] at hy
      obtain ⟨v, hv, rfl⟩ := Option.map_eq_some_iff.1 hy
      by_cases hne : i = k
      · exact hne.symm
      · exact absurd he (sel_pair _ 0 l hd i k u v hu hv hne)
    · rw [List.getElem?_append_right (by rw [List.length_map]; exact hge), List.getElem?_map] at hy
      obtain ⟨v, hv, rfl⟩ := Option.map_eq_some_iff.1 hy
      exact absurd he (sel_far hd (lateB z) (List.mem_of_getElem? hu) (List.mem_of_getElem? hv))
  subst hki
  exact late_gv (by omega) (fun x hx => hok x (sel_sub _ 0 l x hx)) (fun x hx => hok x (sel_sub _ 0 l x hx)) m hil
theorem bit_eq0 (z j : Nat) (hz : z < 65536) : (bits BinOp.and IntKind.i64 ((z : Int) / 2 ^ j) 1 == 0) = !lateB z j := by
  have h := bit_eq z j hz
  have e : ((z / 2 ^ j : Nat) : Int) = (z : Int) / 2 ^ j := by push_cast; rfl
  have hd : z / 2 ^ j ≤ z := Nat.div_le_self _ _
  unfold lateB at *
  rw [← e] at h ⊢
  generalize z / 2 ^ j = y at *
  have h2 := bits_mask .i64 16 (by decide) (fun n h0 h1 => by rw [IntKind.wrap_i64]; omega) 1 (by decide) (y : Int) (by omega) (by omega)
  have h' : bits BinOp.and IntKind.i64 (y : Int) 1 = (y : Int) % 2 := h2
  rw [h']
  clear h h' h2 e
  by_cases hy : y % 2 = 1
  · rw [hy]
    have : (y : Int) % 2 = 1 := by omega
    rw [this]; rfl
  · have h0 : y % 2 = 0 := by omega
    rw [h0]
    have : (y : Int) % 2 = 0 := by omega
    rw [this]; rfl
theorem adm_es {z : Nat} {l : List Pd} : ∀ y ∈ admL z l, y.p.est = 0 ∧ y.st = 2 := by
  intro y hy
  unfold admL at hy
  rcases List.mem_append.1 hy with hy | hy
  all_goals
    obtain ⟨x, _, rfl⟩ := List.mem_map.1 hy
    exact ⟨rfl, rfl⟩
theorem adm_len (z : Nat) (l : List Pd) : (admL z l).length = l.length := by
  unfold admL
  rw [List.length_append, List.length_map, List.length_map]
  exact sel_lens (lateB z) 0 l
/-- Deliver at the claims of a register -/
theorem dl_any {z : Nat} {l : List Pd} (hl : l.length ≤ 8) (hok : ∀ x ∈ l, PdOk x) {m : Rat} (hm : Lt m 10000000) (h0 : 0 ≤ m) (A : Option Addr) (c : Nat) (w : World) (h : RowAt 5 Cm.vals w A (((admL z l).map ndOf).map cmOf)) :
    Calls Tryz.prog 10 #[.agg #[.bool false, .string ⟨#[]⟩, .string ⟨#[]⟩, .slice A (((admL z l).map ndOf).map cmOf).length c, .slice none 0 0], .agg #[.bool (negB m), .string (bs (nm m)), .string (dstr m)]] w (DvP (gv (((admL z l).map ndOf).map cmOf).length (ranksOf ((((admL z l).map ndOf).map cmOf).map Cm.d)) m) w) := by
  have hf : FewC (((admL z l).map ndOf).map cmOf) := by
    rw [cmsC]
    have hlen := sel_lens (lateB z) 0 l
    exact few_of (by omega) (fun x hx => hok x (sel_sub _ 0 l x hx)) (fun x hx => hok x (sel_sub _ 0 l x hx))
  exact top_deliver hf.len (fun c hc => by obtain ⟨h1, h2, h3, h4, h5⟩ := hf.each c hc; exact ⟨h1, h2, h3, h4, h5.mono (by omega)⟩) hf.ly (hf.del hm h0) (hm.mono (by omega)) h0 w h
set_option maxHeartbeats 16000000 in
set_option maxRecDepth 100000 in
theorem late_law (A0 : Option Addr) (n0 c0 : Nat) (x1 x2 : Int) (W : World) (F : SixesAt W W.heap.size A0 n0) (h1 : 0 ≤ x1 ∧ x1 < 65536) (h2 : 0 ≤ x2 ∧ x2 < 65536) :
    Calls Tryz.prog 3 #[.slice A0 n0 c0, .int .u16 x1, .int .u16 x2] W fun e w' => e = .returned (.bool true) ∧ Below W.heap.size W w' := by
  obtain ⟨i0, hi, hz0, hz1, hz2⟩ := info_parts pr_binfo
  obtain ⟨z, rfl⟩ := Int.eq_ofNat_of_zero_le h1.1
  obtain ⟨mz, rfl⟩ := Int.eq_ofNat_of_zero_le h2.1
  have hz : z < 65536 := by omega
  have hmz : mz < 65536 := by omega
  obtain ⟨q, hq, hAM⟩ := amountV mz hmz
  obtain ⟨hq0, hql⟩ := aq_lt hq
  have HAM := hide hAM
  have HDOC := Lib.hid (documents_any A0 n0 c0 W F)
  have HAW := Lib.hid (fun w => awake_any w)
  unfold DocP at HDOC
  clear F h1 h2 hq hAM
  go_enter Tryz.func3, Tryz.ntmps3
  go_wp2_with fail
  refine HDOC.out.mono ?_
  rintro e w1 ⟨l, A1, c1, ⟨rfl, hl8, hok, hid⟩, hr1, hb1⟩
  have hds := dst_of hl8 hid
  have HOK := hide hok
  have HDS := hide hds
  have HAD := Lib.hid (fun A c w h => @admitted_any l z hz hl8 hok hds A c w h)
  have HB1 := hide hb1
  have HR1 := hide hr1
  obtain ⟨n, hn⟩ : ∃ n, l.length = n := ⟨_, rfl⟩
  have HNL := hide hn
  have hn8 : n ≤ 8 := by omega
  have HLN : Hid ((admL z l).length = n) := hide (by rw [adm_len, hn])
  rw [hn] at HAD
  rw [hn]
  unfold AdP at HAD
  rw [HLN.out] at HAD
  clear hb1 hr1 hl8 hok hid hds hn HDOC
  go_wp2_with fail
  refine (HAD.out A1 c1 _ HR1.out).mono ?_
  rintro e w2 ⟨A2, c2, d2, ⟨rfl, he2⟩, hb2⟩
  obtain ⟨V3, hV3, HR3, HB3, hl3⟩ := reg_new w2 (.int .i64 100) (.int .i64 200) (.int .i64 d2) (.slice A2 n c2)
  have HEC := hide (he2.below HB3.out)
  have HRW3 := hide ((HR1.out.below hb2).below HB3.out)
  have HBB3 := hide ((HB1.out.trans (hb2.mono HB1.out.size)).trans (HB3.out.mono (Nat.le_trans HB1.out.size hb2.size)))
  have HRB := hide (RowAt.toB HRW3.out)
  clear hb2 he2 HB3
  go_wp2_with fail
  go_loopw [10, 37] (fun vo vj wr => ∃ (j : Nat) (A' : Option Addr) (c' : Nat), j ≤ n ∧ vj = .int .i64 j ∧ vo = .slice A' (sel (fun i => !lateB z i) 0 (l.take j)).length c' ∧ Hid (wr.ownsRow V3.heap.size 34 14 (.slice A' (sel (fun i => !lateB z i) 0 (l.take j)).length c') (sel (fun i => !lateB z i) 0 (l.take j)).length (((sel (fun i => !lateB z i) 0 (l.take j)).map Pd.dc).flatMap Dc.vals)) ∧ Hid (Below V3.heap.size V3 wr)) (fun _ vj _ => n - (intOf vj).toNat)
  case atStart => exact ⟨0, none, 0, by omega, rfl, rfl, hide (World.ownsRow_nil _ _ _ _), hide (Below.refl _ _)⟩
  case round =>
    obtain ⟨j, A', c', hj, rfl, rfl, HO, HB⟩ := hrel
    by_cases hjt : j < n
    · obtain ⟨x, hx⟩ : ∃ x, l[j]? = some x := ⟨_, List.getElem?_eq_getElem (by rw [HNL.out]; exact hjt)⟩
      have HX := hide hx
      have hsl : (sel (fun i => !lateB z i) 0 (l.take j)).length ≤ 8 := Nat.le_trans (sel_len _ 0 _) (by rw [List.length_take]; omega)
      have HSN := hide (@sel_snoc (fun i => !lateB z i) l j x hx)
      generalize hsp : sel (fun i => !lateB z i) 0 (l.take j) = sp at *
      obtain ⟨m, hm⟩ : ∃ m, sp.length = m := ⟨_, rfl⟩
      have HM := hide hm
      rw [hm] at HO hsl ⊢
      obtain ⟨g, off, rfl, hg, hc⟩ := (HRB.out.below HB.out).at_ (k := j) (x := x.dc) (by rw [List.getElem?_map, hx]; rfl)
      have x0 : wr.cell? ⟨g, off + j * 14, none⟩ = _ := hc 0 _ rfl
      have x1 := hc 1 _ rfl
      have x2 := hc 2 _ rfl
      have x3 := hc 3 _ rfl
      have x4 := hc 4 _ rfl
      have x5 := hc 5 _ rfl
      have x6 := hc 6 _ rfl
      have x7 := hc 7 _ rfl
      have x8 := hc 8 _ rfl
      have x9 := hc 9 _ rfl
      have x10 := hc 10 _ rfl
      have x11 := hc 11 _ rfl
      have x12 := hc 12 _ rfl
      have x13 := hc 13 _ rfl
      unfold Pd.dc at x0 x1 x2 x3 x4 x5 x6 x7 x8 x9 x10 x11 x12 x13
      dsimp only at x0 x1 x2 x3 x4 x5 x6 x7 x8 x9 x10 x11 x12 x13
      obtain ⟨V, hV, HC, HBV, hsV⟩ := doc_new wr x.dc
      have hbit := bit_eq0 z j hz
      unfold Pd.dc at hV HC
      dsimp only at hV HC
      have HOV := hide (TqA.own_below HO.out HBV.out)
      have HBW := hide (HB.out.trans (HBV.out.mono HB.out.size))
      clear hx hc hsp hm
      cases hlb : lateB z j
      · rw [hlb] at hbit
        have HLB := hide hlb
        have hone : ∀ u ∈ x.dc.vals, u.oneCell' = true := dc_one x.dc
        have HDV : Hid (x.dc.vals = [.string x.id, .int .i64 0, .int .i64 x.cred, .string ⟨#[69, 85, 82]⟩, .bool (negB x.q), .string (bs (nm x.q)), .string (dstr x.q), .int .i64 x.inc, .int .i64 x.rank, .bool (negB x.r), .string (bs (nm x.r)), .string (dstr x.r), .int .i64 x.rf, .int .i64 x.sec]) := hide rfl
        rw [HDV.out] at hone
        obtain ⟨V6, hV6⟩ : ∃ V6, V.alloc (.cells #[.string x.id, .int .i64 0, .int .i64 x.cred, .string ⟨#[69, 85, 82]⟩, .bool (negB x.q), .string (bs (nm x.q)), .string (dstr x.q), .int .i64 x.inc, .int .i64 x.rank, .bool (negB x.r), .string (bs (nm x.r)), .string (dstr x.r), .int .i64 x.rf, .int .i64 x.sec] 34) = V6 := ⟨_, rfl⟩
        have hB6 : Below V.heap.size V V6 := by rw [← hV6]; exact (Below.refl _ _).alloc (Nat.le_refl _) _
        have hrd : Reads V6 (V.heap.size + 1) 14 (some ⟨V.heap.size, 0, none⟩) 1 [.string x.id, .int .i64 0, .int .i64 x.cred, .string ⟨#[69, 85, 82]⟩, .bool (negB x.q), .string (bs (nm x.q)), .string (dstr x.q), .int .i64 x.inc, .int .i64 x.rank, .bool (negB x.r), .string (bs (nm x.r)), .string (dstr x.r), .int .i64 x.rf, .int .i64 x.sec] := by rw [← hV6]; exact reads_one V [.string x.id, .int .i64 0, .int .i64 x.cred, .string ⟨#[69, 85, 82]⟩, .bool (negB x.q), .string (bs (nm x.q)), .string (dstr x.q), .int .i64 x.inc, .int .i64 x.rank, .bool (negB x.r), .string (bs (nm x.r)), .string (dstr x.r), .int .i64 x.rf, .int .i64 x.sec] 34 rfl
        have hown := TqA.own_below HOV.out hB6
        have HB6 := hide (HBW.out.trans (hB6.mono HBW.out.size))
        have hs6 := HB6.out.size
        have e0 := HC.out.cell (i := 0) rfl
        have e1 := HC.out.cell (i := 1) rfl
        have e2 := HC.out.cell (i := 2) rfl
        have e3 := HC.out.cell (i := 3) rfl
        have e4 := HC.out.cell (i := 4) rfl
        have e5 := HC.out.cell (i := 5) rfl
        have e6 := HC.out.cell (i := 6) rfl
        have e7 := HC.out.cell (i := 7) rfl
        have e8 := HC.out.cell (i := 8) rfl
        have e9 := HC.out.cell (i := 9) rfl
        have e10 := HC.out.cell (i := 10) rfl
        have e11 := HC.out.cell (i := 11) rfl
        have e12 := HC.out.cell (i := 12) rfl
        have e13 := HC.out.cell (i := 13) rfl
        clear hlb hB6
        go_wp2_with (at_builtin
                     refine wpList_append_any _ rfl (.tmp 49) (.tmp 51) 24 rfl V3.heap.size 34 i0 _ 14 160 Tryz.underlying24 hi hz0 hz1 hz2 rfl (by decide) _ _ _ rfl hown (V.heap.size + 1) _ 1 1 _ rfl hrd hone ?c3 ?c4 ?c5 ?_
                     case c3 => unfold maxLen; omega
                     case c4 => omega
                     case c5 => omega
                     intro v7 w7 hown7 hg7 hob7)
        obtain ⟨A7, c7, rfl⟩ := TqA.own_slice hown7
        have hsn : sel (fun i => !lateB z i) 0 (l.take (j + 1)) = sp ++ [x] := by rw [HSN.out, if_pos (by simp [HLB.out])]
        have hln : (sp ++ [x]).length = m + 1 := by rw [List.length_append, HM.out]; rfl
        refine ⟨⟨j + 1, A7, c7, by omega, rfl, by rw [hsn, hln], ?_, hide (HB6.out.grown hg7 HB6.out.size (fun g hg => (hown.lt g hg).1))⟩, by simp only [intOf]; omega⟩
        rw [hsn, hln, List.map_append, List.map_cons, List.map_nil, dcs_snoc, HDV.out]
        exact hide hown7
      · rw [hlb] at hbit
        have HLB := hide hlb
        clear hlb
        go_wp2_with fail
        have hsn : sel (fun i => !lateB z i) 0 (l.take (j + 1)) = sp := by rw [HSN.out, if_neg (by simp [HLB.out]), List.append_nil]
        refine ⟨⟨j + 1, A', c', by omega, rfl, by rw [hsn, HM.out], ?_, HBW⟩, by simp only [intOf]; omega⟩
        rw [hsn, HM.out]
        exact HOV
    · have hjn : j = n := by omega
      subst hjn
      rw [List.take_of_length_le (by rw [HNL.out]; omega)] at HO ⊢
      have HOT := Lib.hid (fun x hx => HOK.out x (sel_sub (fun i => !lateB z i) 0 l x hx))
      have hTl : (sel (fun i => !lateB z i) 0 l).length ≤ 8 := Nat.le_trans (sel_len _ 0 _) (by rw [HNL.out]; omega)
      have hdT : Dst (sel (fun i => !lateB z i) 0 l) := sel_pair _ 0 l HDS.out
      have HLT := Lib.hid (fun i k x y hx hy he => @last_test l (by rw [HNL.out]; omega) HOK.out HDS.out z q i k x y hx hy he)
      have HA2 := Lib.hid (fun A c w h => @admitted_any (sel (fun i => !lateB z i) 0 l) 0 (by omega) hTl HOT.out hdT A c w h)
      rw [show ((0 : Nat) : Int) = (0 : Int) from rfl] at HA2
      have HDLC := Lib.hid (fun A c w h => @dl_any z l (by rw [HNL.out]; omega) HOK.out q hql hq0 A c w h)
      have HDLT := Lib.hid (fun A c w h => @dl_any 0 (sel (fun i => !lateB z i) 0 l) hTl HOT.out q hql hq0 A c w h)
      generalize hT : sel (fun i => !lateB z i) 0 l = T at *
      obtain ⟨tn, htn⟩ : ∃ tn, T.length = tn := ⟨_, rfl⟩
      have HTN := hide htn
      have htn8 : tn ≤ 8 := by omega
      have HLT2 : Hid ((admL 0 T).length = tn) := hide (by rw [adm_len, htn])
      have hnC : ((admL z l).map ndOf).length = j := by rw [List.length_map, HLN.out]
      have hnD : ((admL 0 T).map ndOf).length = tn := by rw [List.length_map, HLT2.out]
      have HNC := Lib.hid (fun d0 A c w h => @named_any d0 (admL z l) (by rw [HLN.out]; omega) adm_es A c w h)
      have HND := Lib.hid (fun d0 A c w h => @named_any d0 (admL 0 T) (by rw [HLT2.out]; omega) adm_es A c w h)
      unfold NdP at HNC HND
      rw [hnC, HLN.out] at HNC
      rw [hnD, HLT2.out] at HND
      unfold AdP at HA2
      rw [HLT2.out, htn] at HA2
      rw [htn] at HO ⊢
      have hrT : RowAt 14 Dc.vals wr A' (T.map Pd.dc) := own_at (fun _ => rfl) (c := c') (by rw [List.length_map, HTN.out]; exact HO.out) (by rw [List.length_map, HTN.out]; unfold maxLen; omega)
      have HEC1 := hide (HEC.out.below HB.out)
      have HR31 := hide (HR3.out.below HB.out)
      have HB31 := hide (HBB3.out.trans (HB.out.mono HBB3.out.size))
      generalize admL z l = EC at *
      generalize admL 0 T = ED at *
      generalize EC.map ndOf = NC at *
      generalize ED.map ndOf = ND at *
      have HPC := Lib.hid (fun A c w h => @program_any NC (by rw [hnC]; omega) A c w h)
      have HPD := Lib.hid (fun A c w h => @program_any ND (by rw [hnD]; omega) A c w h)
      have HSC := Lib.hid (fun A Ar c cr w h hr => @estate_any NC (by rw [hnC]; omega) A Ar c cr w h hr)
      have HSD := Lib.hid (fun A Ar c cr w h hr => @estate_any ND (by rw [hnD]; omega) A Ar c cr w h hr)
      unfold PgP at HPC HPD
      unfold EstP at HSC HSD
      rw [List.length_map, hnC] at HPC
      rw [List.length_map, hnD] at HPD
      rw [List.length_map, hnC] at HSC
      rw [List.length_map, hnD] at HSD
      have hgC : (gv (NC.map cmOf).length (ranksOf ((NC.map cmOf).map Cm.d)) q).length = j := by rw [gv_len, List.length_map, hnC]
      have hgD : (gv (ND.map cmOf).length (ranksOf ((ND.map cmOf).map Cm.d)) q).length = tn := by rw [gv_len, List.length_map, hnD]
      have HGC := hide hgC
      have HGD := hide hgD
      unfold DvP at HDLC HDLT
      rw [hgC] at HDLC
      rw [hgD] at HDLT
      generalize gv (NC.map cmOf).length (ranksOf ((NC.map cmOf).map Cm.d)) q = va at *
      generalize gv (ND.map cmOf).length (ranksOf ((ND.map cmOf).map Cm.d)) q = vb at *
      rw [List.length_map, hnC] at HDLC
      rw [List.length_map, hnD] at HDLT
      have HLC := hide hnC
      have HLD := hide hnD
      clear htn hnC hnD hgC hgD hT hTl hdT HOK HDS HOT HEC HR3 HBB3
      go_wp2_with fail
      refine (HA2.out A' c' _ hrT).mono ?_
      rintro e w4 ⟨A4, c4, d4, ⟨rfl, he4⟩, hb4⟩
      obtain ⟨V5, hV5, HR5, HB5, hl5⟩ := reg_new w4 (.int .i64 100) (.int .i64 200) (.int .i64 d4) (.slice A4 tn c4)
      have hc5 := hb4.trans (HB5.out.mono hb4.size)
      have HEC5 := hide (HEC1.out.below hc5)
      have HET5 := hide (he4.below HB5.out)
      have HR35 := hide (HR31.out.below hc5)
      have HB35 := hide (HB31.out.trans (hc5.mono HB31.out.size))
      have r0 := blk_kin HR35.out (i := 0) rfl
      have r1 := blk_kin HR35.out (i := 1) rfl
      have r2 := blk_kin HR35.out (i := 2) rfl
      have r3 := blk_kin HR35.out (i := 3) rfl
      have t0 := blk_kin HR5.out (i := 0) rfl
      have t1 := blk_kin HR5.out (i := 1) rfl
      have t2 := blk_kin HR5.out (i := 2) rfl
      have t3 := blk_kin HR5.out (i := 3) rfl
      clear he4 hb4 HB5 hc5 hrT HO
      go_wp2_with fail
      refine Qmt.wp_region (C := Cls (Below V5.heap.size V5)) (by kernel_rfl) (by kernel_rfl) ?_
      simp only [List.length_cons, List.length_nil]
      refine Qmt.takes [0, 2] 4 _ _ _ (cls (Qin.start _ _)) (by kernel_rfl) ?_
      simp only [List.filterMap_cons, List.filterMap_nil, List.getElem?_toArray, List.getElem?_cons_zero, List.getElem?_cons_succ]
      change wpQuiet _ _ _ _ [_, _] _
      repeat (go_big_quiet_step (fail))
      refine wpQuiet_nil ?_
      have hB := Qin.start V5.heap.size V5
      generalize ({ V5 with drawn := V5.drawn + 1 } : World) = v6 at hB ⊢
      clear r0 r1 r2 r3 t0 t1 t2 t3
      refine Qmt.fork [1] (cls hB) (by kernel_rfl) (by simp) ⟨?_, trivial⟩
      refine Qmt.by_op rfl (by kernel_rfl) ?_
      go_wp2_with fail
      refine (HNC.out d2 A2 c2 _ (HEC5.out.below hB)).mono ?_
      rintro e v7 ⟨A7, c7, rfl, hr7, hb7⟩
      have hB7 := hB.trans (hb7.mono hB.size)
      have HN7 := hide hr7
      clear hr7 hb7
      go_wp2_with fail
      refine ⟨rfl, ?_⟩
      refine Qmt.fork [3] (cls hB7) (by kernel_rfl) (by simp) ⟨?_, trivial⟩
      refine Qmt.by_op rfl (by kernel_rfl) ?_
      go_wp2_with fail
      refine (HND.out d4 A4 c4 _ (HET5.out.below hB7)).mono ?_
      rintro e v8 ⟨A8, c8, rfl, hr8, hb8⟩
      have hB8 := hB7.trans (hb8.mono hB7.size)
      have HN8 := hide hr8
      have HN78 := hide (HN7.out.below hb8)
      clear hr8 hb8
      go_wp2_with fail
      refine ⟨rfl, ?_⟩
      refine Qmt.takes [4, 5] 0 _ _ _ (cls hB8) (by kernel_rfl) ?_
      simp only [List.filterMap_cons, List.filterMap_nil, List.getElem?_toArray, List.getElem?_cons_zero, List.getElem?_cons_succ]
      change wpQuiet _ _ _ _ [_, _] _
      repeat (go_big_quiet_step (fail))
      refine wpQuiet_nil ?_
      refine Qmt.by_end (cls hB8) (by kernel_rfl) ?_
      have HB8 := hide (HB35.out.trans (hB8.mono HB35.out.size))
      clear hB hB7 hB8
      have HK := hide (Below.refl v8.heap.size v8)
      go_wp2_with fail
      refine (HPC.out A7 c7 _ HN78.out).mono ?_
      rintro e p1 ⟨Ap1, cp1, rfl, hrp, hbp⟩
      have HRP1 := hide hrp
      have HNP1 := hide (HN78.out.below hbp)
      have HB8 := hide (HB8.out.trans (hbp.mono HB8.out.size))
      have HK := hide (HK.out.trans (hbp.mono HK.out.size))
      clear hrp hbp
      go_wp2_with fail
      refine (HSC.out A7 Ap1 c7 cp1 _ HNP1.out HRP1.out).mono ?_
      rintro e s1 ⟨Ac1, cc1, rfl, hrp, hbp⟩
      have HRS1 := hide hrp
      have HB8 := hide (HB8.out.trans (hbp.mono HB8.out.size))
      have HK := hide (HK.out.trans (hbp.mono HK.out.size))
      clear hrp hbp
      go_wp2_with fail
      refine (HAM.out _).mono ?_
      rintro e m1 ⟨rfl, hbp⟩
      have HRM1 := hide (HRS1.out.below hbp)
      have HB8 := hide (HB8.out.trans (hbp.mono HB8.out.size))
      have HK := hide (HK.out.trans (hbp.mono HK.out.size))
      clear hbp
      go_wp2_with fail
      refine (HDLC.out Ac1 cc1 _ HRM1.out).mono ?_
      rintro e d1 ⟨g1, gc1, gp1, rfl, _, hgb, hbp⟩
      obtain ⟨Z1, hZ, HZ, hBZ, hlZ⟩ := box_new d1 (.bool false) (.string ⟨#[]⟩) (.string ⟨#[]⟩)
      have hbz := below_set3 hBZ (Nat.le_refl _) (.bool false) (.string ⟨#[]⟩) (.string ⟨#[]⟩)
      obtain ⟨Y1, hY⟩ : ∃ Y, ((Z1.setCell ⟨d1.heap.size, 0, none⟩ (.bool false)).setCell ⟨d1.heap.size, 1, none⟩ (.string ⟨#[]⟩)).setCell ⟨d1.heap.size, 2, none⟩ (.string ⟨#[]⟩) = Y := ⟨_, rfl⟩
      rw [hY] at hbz
      have HG1 := hide (hgb.below hbz)
      have hbp := hbp.trans (hbz.mono hbp.size)
      have HB8 := hide (HB8.out.trans (hbp.mono HB8.out.size))
      have HK := hide (HK.out.trans (hbp.mono HK.out.size))
      have HY := hide hY
      obtain ⟨c0, c1, c2, f0, f1, f2⟩ := HZ.out
      clear hgb hbp hbz hBZ hY hlZ
      have HN9 := hide (((RowAt.toB HN8.out).below HK.out).toAt HK.out.size)
      have HJ := hide (Below.refl Y1.heap.size Y1)
      go_wp2_with fail
      rw [HY.out]
      clear hZ c0 c1 c2 f0 f1 f2
      refine (HPD.out A8 c8 _ HN9.out).mono ?_
      rintro e p2 ⟨Ap2, cp2, rfl, hrp, hbp⟩
      have HRP2 := hide hrp
      have HNP2 := hide (HN9.out.below hbp)
      have HB8 := hide (HB8.out.trans (hbp.mono HB8.out.size))
      have HK := hide (HK.out.trans (hbp.mono HK.out.size))
      have HJ := hide (HJ.out.trans (hbp.mono HJ.out.size))
      clear hrp hbp
      go_wp2_with fail
      refine (HSD.out A8 Ap2 c8 cp2 _ HNP2.out HRP2.out).mono ?_
      rintro e s2 ⟨Ac2, cc2, rfl, hrp, hbp⟩
      have HRS2 := hide hrp
      have HB8 := hide (HB8.out.trans (hbp.mono HB8.out.size))
      have HK := hide (HK.out.trans (hbp.mono HK.out.size))
      have HJ := hide (HJ.out.trans (hbp.mono HJ.out.size))
      clear hrp hbp
      go_wp2_with fail
      refine (HAM.out _).mono ?_
      rintro e m2 ⟨rfl, hbp⟩
      have HRM2 := hide (HRS2.out.below hbp)
      have HB8 := hide (HB8.out.trans (hbp.mono HB8.out.size))
      have HK := hide (HK.out.trans (hbp.mono HK.out.size))
      have HJ := hide (HJ.out.trans (hbp.mono HJ.out.size))
      clear hbp
      go_wp2_with fail
      refine (HDLT.out Ac2 cc2 _ HRM2.out).mono ?_
      rintro e d2 ⟨g2, gc2, gp2, rfl, _, hgb, hbp⟩
      obtain ⟨Z2, hZ, HZ, hBZ, hlZ⟩ := box_new d2 (.bool false) (.string ⟨#[]⟩) (.string ⟨#[]⟩)
      have hbz := below_set3 hBZ (Nat.le_refl _) (.bool false) (.string ⟨#[]⟩) (.string ⟨#[]⟩)
      obtain ⟨Y2, hY⟩ : ∃ Y, ((Z2.setCell ⟨d2.heap.size, 0, none⟩ (.bool false)).setCell ⟨d2.heap.size, 1, none⟩ (.string ⟨#[]⟩)).setCell ⟨d2.heap.size, 2, none⟩ (.string ⟨#[]⟩) = Y := ⟨_, rfl⟩
      rw [hY] at hbz
      have HG2 := hide (hgb.below hbz)
      have hbp := hbp.trans (hbz.mono hbp.size)
      have HB8 := hide (HB8.out.trans (hbp.mono HB8.out.size))
      have HK := hide (HK.out.trans (hbp.mono HK.out.size))
      have HJ := hide (HJ.out.trans (hbp.mono HJ.out.size))
      have HY := hide hY
      obtain ⟨c0, c1, c2, f0, f1, f2⟩ := HZ.out
      clear hgb hbp hbz hBZ hY hlZ
      have HGA := hide (HG1.out.below HJ.out)
      have HNDb := hide ((RowAt.toB HN8.out).below HK.out)
      have HNCb := hide ((RowAt.toB HN78.out).below HK.out)
      have hv8 := HK.out.size
      clear HK HJ HG1 HN8 HN78 HN9
      go_wp2_with fail
      rw [HY.out]
      clear hZ c0 c1 c2 f0 f1 f2
      go_loopw [113] (fun vi wr => ∃ i : Nat, i ≤ tn ∧ vi = .int .i64 i ∧ Hid (Below Y2.heap.size Y2 wr)) (fun vi _ => tn - (intOf vi).toNat)
      case atStart => exact ⟨0, by omega, rfl, hide (Below.refl _ _)⟩
      case round =>
        obtain ⟨i, hi, rfl, HBi⟩ := hrel
        by_cases hit : i < tn
        · obtain ⟨x, hx⟩ : ∃ x, ND[i]? = some x := ⟨_, List.getElem?_eq_getElem (by rw [HLD.out]; exact hit)⟩
          have HX := hide hx
          obtain ⟨g, off, rfl, hg, hc⟩ := (HNDb.out.below (HBi.out.mono hv8)).at_ hx
          have x0 : wr.cell? ⟨g, off + i * 5, none⟩ = _ := hc 0 _ rfl
          have x1 := hc 1 _ rfl
          have x2 := hc 2 _ rfl
          have x3 := hc 3 _ rfl
          have x4 := hc 4 _ rfl
          obtain ⟨V, hV, HC, HBV, hsV⟩ := nd_new wr (.string x.id) (.int .i64 x.rank) (.bool (negB x.amt)) (.string (bs (nm x.amt))) (.string (dstr x.amt))
          have HBW := hide (HBi.out.trans (HBV.out.mono HBi.out.size))
          have hwi : Y2.heap.size ≤ wr.heap.size := HBi.out.size
          obtain ⟨K, hK⟩ : ∃ K, wr.heap.size = K := ⟨_, rfl⟩
          rw [hK] at HC
          clear hx hc HBV
          go_wp2_with fail
          clear x0 x1 x2 x3 x4
          go_loopw [120] (fun vk wx => ∃ k : Nat, k ≤ j ∧ vk = .int .i64 k ∧ Hid (BlkT wx K 53 [.string x.id, .int .i64 x.rank, .bool (negB x.amt), .string (bs (nm x.amt)), .string (dstr x.amt)]) ∧ Hid (Below Y2.heap.size Y2 wx)) (fun vk _ => j - (intOf vk).toNat)
          case atStart => exact ⟨0, by omega, rfl, HC, HBW⟩
          case round =>
            obtain ⟨k, hk, rfl, HCk, HBk⟩ := hrel
            by_cases hkt : k < j
            · obtain ⟨y, hy⟩ : ∃ y, NC[k]? = some y := ⟨_, List.getElem?_eq_getElem (by rw [HLC.out]; exact hkt)⟩
              obtain ⟨g', off', rfl, hg', hc'⟩ := (HNCb.out.below (HBk.out.mono hv8)).at_ hy
              have y0 : wr.cell? ⟨g', off' + k * 5, none⟩ = _ := hc' 0 _ rfl
              have y1 := hc' 1 _ rfl
              have y2 := hc' 2 _ rfl
              have y3 := hc' 3 _ rfl
              have y4 := hc' 4 _ rfl
              obtain ⟨U, hU, HU, HBU, hsU⟩ := nd_new wr (.string y.id) (.int .i64 y.rank) (.bool (negB y.amt)) (.string (bs (nm y.amt))) (.string (dstr y.amt))
              have HCU := hide (HCk.out.below HBU.out)
              have HBW2 := hide (HBk.out.trans (HBU.out.mono HBk.out.size))
              obtain ⟨qa, hqa⟩ : ∃ qa, va[k]? = some qa := ⟨_, List.getElem?_eq_getElem (by rw [HGC.out]; exact hkt)⟩
              obtain ⟨qb, hqb⟩ : ∃ qb, vb[i]? = some qb := ⟨_, List.getElem?_eq_getElem (by rw [HGD.out]; exact hit)⟩
              have HEQ : Hid (x.id.toList = y.id.toList → qa = qb) := hide (fun e => by
                have := HLT.out i k x y HX.out hy e
                rw [hqa, hqb] at this
                exact Option.some.inj this)
              have HQA := hide hqa
              have HQB := hide hqb
              have hcell : ∀ (v : List Rat) (t : Nat) (r : Rat) (gg : Nat) (pp : List Value) (jj : Nat) (vv : Value), BlkT Y2 gg 32 (v.flatMap qv3 ++ pp) → v[t]? = some r → (qv3 r)[jj]? = some vv → ∀ yy : Qin.In (Below U.heap.size U), yy.val.cell? ⟨gg, t * 3 + jj, none⟩ = some vv := fun v t r gg pp jj vv hb hv hj yy => by
                have h3 : jj < 3 := (List.getElem?_eq_some_iff.1 hj).1
                have ht := (List.getElem?_eq_some_iff.1 hv).1
                exact (hb.below ((HBW2.out.trans (yy.ok.mono HBW2.out.size)))).cell (by rw [List.getElem?_append_left (by rw [flat_len qv3_len]; omega), flat_get qv3_len v t r hv jj h3, hj])
              have a0 := hcell va k qa g1 _ 0 _ HGA.out HQA.out rfl
              have a1 := hcell va k qa g1 _ 1 _ HGA.out HQA.out rfl
              have a2 := hcell va k qa g1 _ 2 _ HGA.out HQA.out rfl
              have b0 := hcell vb i qb g2 _ 0 _ HG2.out HQB.out rfl
              have b1 := hcell vb i qb g2 _ 1 _ HG2.out HQB.out rfl
              have b2 := hcell vb i qb g2 _ 2 _ HG2.out HQB.out rfl
              rw [Nat.add_zero] at a0 b0
              have e0 := blk_kin HCU.out (i := 0) rfl
              have e1 := blk_kin HU.out (i := 0) rfl
              clear hy hc' hqa hqb hcell HBU HCk HBk
              obtain ⟨b, hb⟩ : ∃ b, (x.id.toList == y.id.toList) = b := ⟨_, rfl⟩
              cases b
              · go_wp2_with fail
                refine Qin.region (I := Below U.heap.size U) (Qin.start _ _) (by kernel_rfl) (by kernel_rfl) ?_
                repeat (go_big_quiet_step (fail))
                refine wpQuiet_nil ?_
                intro u
                obtain ⟨u, hu⟩ := u
                dsimp only
                have HCu := hide (HCU.out.below hu)
                have HBu := hide (HBW2.out.trans (hu.mono HBW2.out.size))
                have hsu := hu.size
                clear hu a0 a1 a2 b0 b1 b2 e0 e1
                go_wp2_with fail
                exact ⟨⟨k + 1, by omega, rfl, HCu, HBu⟩, by simp only [intOf]; omega⟩
              · have hqe : qa = qb := HEQ.out (by simpa using hb)
                subst hqe
                go_wp2_with fail
                refine Qin.region (I := Below U.heap.size U) (Qin.start _ _) (by kernel_rfl) (by kernel_rfl) ?_
                repeat (go_big_quiet_step (fail))
                refine wpQuiet_nil ?_
                intro u
                obtain ⟨u, hu⟩ := u
                dsimp only
                have HCu := hide (HCU.out.below hu)
                have HBu := hide (HBW2.out.trans (hu.mono HBW2.out.size))
                have hsu := hu.size
                clear hu a0 a1 a2 b0 b1 b2 e0 e1
                go_wp2_with fail
                exact ⟨⟨k + 1, by omega, rfl, HCu, HBu⟩, by simp only [intOf]; omega⟩
            · have hkj : k = j := by omega
              subst hkj
              go_wp2_with fail
              exact ⟨⟨i + 1, by omega, rfl, HBk⟩, by simp only [intOf]; omega⟩
        · have hin : i = tn := by omega
          subst hin
          go_wp2_with fail
          refine (HAW.out _).mono ?_
          rintro e w9 ⟨rfl, hb9⟩
          have HBF := hide (HB8.out.trans ((HBi.out.trans (hb9.mono HBi.out.size)).mono HB8.out.size))
          go_wp2_with fail
          go_ret
          exact ⟨rfl, HBF.out⟩
end Go.Proofs.YtpbgmpjnfndfjaaGreatDoor.TrT
