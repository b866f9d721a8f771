/- TrH, TrI, TrJ, TrK, TrL, TrM, in one text. -/
import Derived.Test.YtpbgmpjnfndfjaaGreatDoorTRA
import Derived.Test.YtpbgmpjnfndfjaaGreatDoorQmu
import Derived.Test.YtpbgmpjnfndfjaaGreatDoorTWA
import Derived.Test.YtpbgmpjnfndfjaaGreatDoorTWQ
namespace Go.Proofs.YtpbgmpjnfndfjaaGreatDoor.TrH
open Go.RowKit Wd RnA RnB RnW RnQ RnR RnP RoA RoC RoL RtA RtB RtC RpB RpC RpE RpF RpG RpH RnY RpI RpJ RpK RpL PqB PfA PfB PfD PfE PfH PfO TqA TwA TwB TwC TwE TwH TwP TqB TrA TrB TrC TrD TrE TrF TrG
/-- the entry of a document that is filed -/
def newEn (x : Pd) (day : Int) : En := ⟨x.dc, 1, decide (200 < day), valD x, 0, 0, valD x, x.inc, day⟩
theorem ens_snoc (l : List En) (y : En) : (l ++ [y]).flatMap En.vals = l.flatMap En.vals ++ y.vals := by simp
def FileP (B R : Nat) (d0 : Int) (l : List En) (w : World) (e : Ending) (w' : World) : Prop :=
  ∃ A c, e = .returned (.int .i64 0) ∧ BlkT w' R 28 [.int .i64 100, .int .i64 200, .int .i64 d0, .slice A l.length c] ∧ w'.ownsRow B 103 30 (.slice A l.length c) l.length (l.flatMap En.vals) ∧ Ks (fun k => k = R ∨ B ≤ k) w w'
set_option maxHeartbeats 8000000 in
set_option maxRecDepth 100000 in
theorem file_any {B R : Nat} {d0 day : Int} {l : List En} {x : Pd} (hx : PdOk x) (hl : l.length < 64) (hn : l.any (fun y => y.p.id.toList == x.id.toList) = false) {A : Option Addr} {c : Nat} (w : World) (hRB : R < B) (hBw : B ≤ w.heap.size)
    (hR : BlkT w R 28 [.int .i64 100, .int .i64 200, .int .i64 d0, .slice A l.length c]) (hv : w.ownsRow B 103 30 (.slice A l.length c) l.length (l.flatMap En.vals)) :
    Calls Tryz.prog 54 #[.pointer (some ⟨R, 0, none⟩), .agg #[.int .i64 1, .int .i64 day, .string ⟨#[]⟩, .bool false, .string ⟨#[]⟩, .string ⟨#[]⟩, .int .i64 0, .string x.id, .int .i64 0, .int .i64 x.cred, .string ⟨#[69, 85, 82]⟩, .bool (negB x.q), .string (bs (nm x.q)), .string (dstr x.q), .int .i64 x.inc, .int .i64 x.rank, .bool (negB x.r), .string (bs (nm x.r)), .string (dstr x.r), .int .i64 x.rf, .int .i64 x.sec], .slice none 0 0] w (FileP B R d0 (l ++ [newEn x day]) w) := by
  obtain ⟨i0, hi, hz0, hz1, hz2⟩ := info_parts en_binfo
  have hz : [Value.bool (negB 0), .string (bs (nm 0)), .string (dstr 0)] = [.bool false, .string ⟨#[]⟩, .string ⟨#[]⟩] := TwG.qv3_zero
  have HVL := Lib.hid (fun w => value_any x hx w)
  have hens : EnsAt w A l := own_at en_len hv (by unfold maxLen; omega)
  have HFN := Lib.hid (fun w h => find_new 100 200 d0 A c hn w h)
  have HVO : Hid (∀ k, (Value.slice A l.length c).ownBlock = some k → B ≤ k ∧ k < w.heap.size) := hide hv.lt
  have hnv : (newEn x day).vals = [.string x.id, .int .i64 0, .int .i64 x.cred, .string ⟨#[69, 85, 82]⟩, .bool (negB x.q), .string (bs (nm x.q)), .string (dstr x.q), .int .i64 x.inc, .int .i64 x.rank, .bool (negB x.r), .string (bs (nm x.r)), .string (dstr x.r), .int .i64 x.rf, .int .i64 x.sec, .int .i64 1, .bool (decide (200 < day)), .bool (negB (valD x)), .string (bs (nm (valD x))), .string (dstr (valD x)), .bool false, .string ⟨#[]⟩, .string ⟨#[]⟩, .bool false, .string ⟨#[]⟩, .string ⟨#[]⟩, .bool (negB (valD x)), .string (bs (nm (valD x))), .string (dstr (valD x)), .int .i64 x.inc, .int .i64 day] := by
    injection hz with z1 hz
    injection hz with z2 hz
    injection hz with z3 _
    unfold newEn En.vals Pd.dc
    dsimp only
    rw [z1, z2, z3]
  have hv1 : ∀ u ∈ (newEn x day).vals, u.oneCell' = true := en_one _
  have HSN := hide (ens_snoc l (newEn x day))
  have HLN : Hid ((l ++ [newEn x day]).length = l.length + 1) := hide (by simp)
  have hnl : (newEn x day).vals.length = 30 := rfl
  unfold FileP
  rw [hnv] at HSN hv1 hnl
  generalize hlx : l ++ [newEn x day] = lx at *
  clear hnv hlx hx hn hz
  obtain ⟨id, cred, q, inc, rank, r, rf, sec⟩ := x
  unfold Pd.dc Dc.agg at *
  dsimp only at *
  generalize valD _ = vd at *
  obtain ⟨V0, hV0, HE0, HB0, hl0⟩ := ev_new w (.int .i64 1) (.int .i64 day) (.string ⟨#[]⟩) (.bool false) (.string ⟨#[]⟩) (.string ⟨#[]⟩) (.int .i64 0) (.string id) (.int .i64 0) (.int .i64 cred) (.string ⟨#[69,85,82]⟩) (.bool (negB q)) (.string (bs (nm q))) (.string (dstr q)) (.int .i64 inc) (.int .i64 rank) (.bool (negB r)) (.string (bs (nm r))) (.string (dstr r)) (.int .i64 rf) (.int .i64 sec)
  have HR0 := hide (hR.below HB0.out)
  have HO0 := hide (TqA.own_below hv HB0.out)
  have hEn := hide (hens.below HB0.out)
  generalize l.flatMap En.vals = xs at *
  generalize hgn : l.length = n at *
  have HGN := hide hgn
  have hRw : R < w.heap.size := by omega
  have r0 := blk_kin HR0.out (i := 0) rfl
  have e7 := blk_kin HE0.out (i := 7) rfl
  have e8 := blk_kin HE0.out (i := 8) rfl
  have e9 := blk_kin HE0.out (i := 9) rfl
  have e10 := blk_kin HE0.out (i := 10) rfl
  have e11 := blk_kin HE0.out (i := 11) rfl
  have e12 := blk_kin HE0.out (i := 12) rfl
  have e13 := blk_kin HE0.out (i := 13) rfl
  have e14 := blk_kin HE0.out (i := 14) rfl
  have e15 := blk_kin HE0.out (i := 15) rfl
  have e16 := blk_kin HE0.out (i := 16) rfl
  have e17 := blk_kin HE0.out (i := 17) rfl
  have e18 := blk_kin HE0.out (i := 18) rfl
  have e19 := blk_kin HE0.out (i := 19) rfl
  have e20 := blk_kin HE0.out (i := 20) rfl
  clear hR hv hens hgn
  go_enter Tryz.func54, Tryz.ntmps54
  go_wp2_with fail
  refine Qmt.wp_region (C := Cls (Below V0.heap.size V0)) (by kernel_rfl) (by kernel_rfl) ?_
  simp only [List.length_cons, List.length_nil]
  refine Qmt.takes [0, 1, 2, 3, 4, 5, 6] 7 _ _ _ (cls (Qin.start _ _)) (by kernel_rfl) ?_
  simp only [List.filterMap_cons, List.filterMap_nil, List.getElem?_toArray, List.getElem?_cons_zero, List.getElem?_cons_succ]
  change wpQuiet _ _ _ _ [_, _, _, _, _, _, _] _
  repeat (go_big_quiet_step (fail))
  refine wpQuiet_nil ?_
  have hB := Qin.start V0.heap.size V0
  generalize ({ V0 with drawn := V0.drawn + 1 } : World) = v at hB ⊢
  clear hV0 r0 e7 e8 e9 e10 e11 e12 e13 e14 e15 e16 e17 e18 e19 e20
  have HZN := Lib.hid (fun (w : World) (h : V0.heap.size ≤ w.heap.size) => rz_new w h)
  refine recast (d' := #[true, true, true, true, true, true, true, false, false, false, false, false, false, false]) (by decide) ?_
  apply holes4
    (F0 := fun (G_ : World → Prop) => ∀ (v : World), Below V0.heap.size V0 v → G_ v)
    (F1 := fun (G_ : World → Nat → Prop) => ∀ (v : World) (K11 : Nat), Below V0.heap.size V0 v → Hid (Bx v K11 (.bool false) (.string ⟨#[]⟩) (.string ⟨#[]⟩)) → V0.heap.size ≤ K11 → G_ v K11)
    (F2 := fun (G_ : World → Nat → Prop) => ∀ (v : World) (K11 : Nat), Below V0.heap.size V0 v → Hid (Bx v K11 (.bool false) (.string ⟨#[]⟩) (.string ⟨#[]⟩)) → V0.heap.size ≤ K11 → G_ v K11)
    (F3 := fun (G_ : World → Nat → Prop) => ∀ (v : World) (K11 : Nat), Below V0.heap.size V0 v → Hid (Bx v K11 (.bool (negB vd)) (.string (bs (nm vd))) (.string (dstr vd))) → V0.heap.size ≤ K11 → G_ v K11)
  · intro S1 S2 S3 S4
    refine Qmt.fork [7, 11] (cls hB) (by kernel_rfl) (by simp) ⟨?_, ?_, trivial⟩
    · refine Qmt.by_op rfl (by kernel_rfl) ?_
      go_wp2_with fail
      refine (HVL.out _).mono ?_
      rintro e v2 ⟨rfl, hb⟩
      have hB2 := hB.trans (hb.mono hB.size)
      clear hb
      go_wp2_with fail
      refine ⟨rfl, ?_⟩
      refine Qmt.takes [8, 9, 10] 3 _ _ _ (cls hB2) (by kernel_rfl) ?_
      simp only [List.filterMap_cons, List.filterMap_nil, List.getElem?_toArray, List.getElem?_cons_zero, List.getElem?_cons_succ]
      change wpQuiet _ _ _ _ [_, _, _] _
      repeat (go_big_quiet_step (fail))
      refine wpQuiet_nil ?_
      refine recast (d' := #[true, true, true, true, true, true, true, true, true, true, true, false, false, false]) (by decide) ?_
      exact S1 v2 hB2
    · refine Qmt.by_op rfl (by kernel_rfl) ?_
      obtain ⟨v2, K11, hv, hKe, X11, HN, G11⟩ := HZN.out v hB.size
      have hB2 := hB.trans (HN.out.mono hB.size)
      go_wp2_with fail
      refine ⟨rfl, ?_⟩
      clear hv
      try simp only [hKe]
      clear hKe
      refine recast (d' := #[true, true, true, true, true, true, true, false, false, false, false, true, false, false]) (by decide) ?_
      exact S2 v2 K11 hB2 X11 G11
  · intro S2 S3 S4 v hB
    refine Qmt.fork [11] (cls hB) (by kernel_rfl) (by simp) ⟨?_, trivial⟩
    · refine Qmt.by_op rfl (by kernel_rfl) ?_
      obtain ⟨v2, K11, hv, hKe, X11, HN, G11⟩ := HZN.out v hB.size
      have hB2 := hB.trans (HN.out.mono hB.size)
      go_wp2_with fail
      refine ⟨rfl, ?_⟩
      clear hv
      try simp only [hKe]
      clear hKe
      refine recast (d' := #[true, true, true, true, true, true, true, true, true, true, true, true, false, false]) (by decide) ?_
      exact S3 v2 K11 hB2 X11 G11
  · intro S3 S4 v K11 hB X11 G11
    refine Qmt.fork [7] (cls hB) (by kernel_rfl) (by simp) ⟨?_, trivial⟩
    · refine Qmt.by_op rfl (by kernel_rfl) ?_
      go_wp2_with fail
      refine (HVL.out _).mono ?_
      rintro e v2 ⟨rfl, hb⟩
      have hB2 := hB.trans (hb.mono hB.size)
      have Y11 := hide (X11.out.keep hb X11.out.lt)
      clear hb
      go_wp2_with fail
      refine ⟨rfl, ?_⟩
      refine Qmt.takes [8, 9, 10] 2 _ _ _ (cls hB2) (by kernel_rfl) ?_
      simp only [List.filterMap_cons, List.filterMap_nil, List.getElem?_toArray, List.getElem?_cons_zero, List.getElem?_cons_succ]
      change wpQuiet _ _ _ _ [_, _, _] _
      repeat (go_big_quiet_step (fail))
      refine wpQuiet_nil ?_
      refine recast (d' := #[true, true, true, true, true, true, true, true, true, true, true, true, false, false]) (by decide) ?_
      exact S3 v2 K11 hB2 Y11 G11
  · intro S4 v K11 hB X11 G11
    refine Qmt.fork [12] (cls hB) (by kernel_rfl) (by simp) ⟨?_, trivial⟩
    · refine Qmt.by_op rfl (by kernel_rfl) ?_
      obtain ⟨v2, hv, Y11, hB2⟩ := bx_put hB X11.out G11 (.bool (negB vd)) (.string (bs (nm vd))) (.string (dstr vd))
      obtain ⟨c0, c1, c2, f0, f1, f2⟩ := X11.out
      go_wp2_with fail
      refine ⟨rfl, ?_⟩
      try rw [hv]
      clear hv
      refine Qmt.takes [13] 0 _ _ _ (cls hB2) (by kernel_rfl) ?_
      simp only [List.filterMap_cons, List.filterMap_nil, List.getElem?_toArray, List.getElem?_cons_zero, List.getElem?_cons_succ]
      change wpQuiet _ _ _ _ [_] _
      repeat (go_big_quiet_step (fail))
      refine wpQuiet_nil ?_
      refine recast (d' := #[true, true, true, true, true, true, true, true, true, true, true, true, true, true]) (by decide) ?_
      exact S4 v2 K11 hB2 Y11 G11
  · intro v K11 hB X11 G11
    refine Qmt.by_end (cls hB) (by kernel_rfl) ?_
    have HE1 := hide (HE0.out.below hB)
    have HR1 := hide (HR0.out.below hB)
    have HO1 := hide (TqA.own_below HO0.out hB)
    have HEn := hide (hEn.out.below hB)
    have HB1 := hide (HB0.out.trans (hB.mono HB0.out.size))
    have hsv : V0.heap.size ≤ v.heap.size := hB.size
    have HX1 := X11
    clear hB
    go_wp2_with fail
    have s0 := blk_kin HR1.out (i := 0) rfl
    have s1 := blk_kin HR1.out (i := 1) rfl
    have s2 := blk_kin HR1.out (i := 2) rfl
    have s3 := blk_kin HR1.out (i := 3) rfl
    have g7 := blk_kin HE1.out (i := 7) rfl
    have HFD := Lib.hid (fun (y : Qin.In (Below v.heap.size v)) => (Qin.call (I := Below v.heap.size v) (v := .tuple #[.int .i64 0, .bool false]) ((HFN.out y.val (HEn.out.below y.ok)).mono fun _ _ ⟨h1, h2⟩ => ⟨h1, y.ok.trans (h2.mono y.ok.size)⟩)))
    refine Qin.region (I := Below v.heap.size v) (Qin.start _ _) (by kernel_rfl) (by kernel_rfl) ?_
    repeat (go_big_quiet_step ((go_at_call 55; with_reducible exact HFD.out _)))
    refine wpQuiet_nil ?_
    intro u
    obtain ⟨u, hu⟩ := u
    dsimp only
    clear s0 s1 s2 s3 g7 HFD
    have HE2 := hide (HE1.out.below hu)
    have HR2 := hide (HR1.out.below hu)
    have HO2 := hide (TqA.own_below HO1.out hu)
    have HX2 := hide (HX1.out.keep hu HX1.out.lt)
    have HB2 := hide (HB1.out.trans (hu.mono HB1.out.size))
    have hsu : v.heap.size ≤ u.heap.size := hu.size
    clear hu
    have s3 := HR2.out.cell (i := 3) rfl
    go_wp2_with fail
    clear s3
    have hneR : ¬ (fun k => some k = (Value.slice A n c).ownBlock) R := fun e => by have := (HVO.out _ e.symm).1; omega
    have hneE : ¬ (fun k => some k = (Value.slice A n c).ownBlock) w.heap.size := fun e => by have := (HVO.out _ e.symm).2; omega
    have hneX : ¬ (fun k => some k = (Value.slice A n c).ownBlock) K11 := fun e => by have := (HVO.out _ e.symm).2; omega
    have s1 := fun y => ks_kin (S := (fun k => some k = (Value.slice A n c).ownBlock)) (W := u) HR2.out hneR (i := 1) rfl y
    have s3 := fun y => ks_kin (S := (fun k => some k = (Value.slice A n c).ownBlock)) (W := u) HR2.out hneR (i := 3) rfl y
    have g1 := fun y => ks_kin (S := (fun k => some k = (Value.slice A n c).ownBlock)) (W := u) HE2.out hneE (i := 1) rfl y
    have g7 := fun y => ks_kin (S := (fun k => some k = (Value.slice A n c).ownBlock)) (W := u) HE2.out hneE (i := 7) rfl y
    have g8 := fun y => ks_kin (S := (fun k => some k = (Value.slice A n c).ownBlock)) (W := u) HE2.out hneE (i := 8) rfl y
    have g9 := fun y => ks_kin (S := (fun k => some k = (Value.slice A n c).ownBlock)) (W := u) HE2.out hneE (i := 9) rfl y
    have g10 := fun y => ks_kin (S := (fun k => some k = (Value.slice A n c).ownBlock)) (W := u) HE2.out hneE (i := 10) rfl y
    have g11 := fun y => ks_kin (S := (fun k => some k = (Value.slice A n c).ownBlock)) (W := u) HE2.out hneE (i := 11) rfl y
    have g12 := fun y => ks_kin (S := (fun k => some k = (Value.slice A n c).ownBlock)) (W := u) HE2.out hneE (i := 12) rfl y
    have g13 := fun y => ks_kin (S := (fun k => some k = (Value.slice A n c).ownBlock)) (W := u) HE2.out hneE (i := 13) rfl y
    have g14 := fun y => ks_kin (S := (fun k => some k = (Value.slice A n c).ownBlock)) (W := u) HE2.out hneE (i := 14) rfl y
    have g15 := fun y => ks_kin (S := (fun k => some k = (Value.slice A n c).ownBlock)) (W := u) HE2.out hneE (i := 15) rfl y
    have g16 := fun y => ks_kin (S := (fun k => some k = (Value.slice A n c).ownBlock)) (W := u) HE2.out hneE (i := 16) rfl y
    have g17 := fun y => ks_kin (S := (fun k => some k = (Value.slice A n c).ownBlock)) (W := u) HE2.out hneE (i := 17) rfl y
    have g18 := fun y => ks_kin (S := (fun k => some k = (Value.slice A n c).ownBlock)) (W := u) HE2.out hneE (i := 18) rfl y
    have g19 := fun y => ks_kin (S := (fun k => some k = (Value.slice A n c).ownBlock)) (W := u) HE2.out hneE (i := 19) rfl y
    have g20 := fun y => ks_kin (S := (fun k => some k = (Value.slice A n c).ownBlock)) (W := u) HE2.out hneE (i := 20) rfl y
    have x0 : ∀ y : Qin.In (Ks (fun k => some k = (Value.slice A n c).ownBlock) u), y.val.cell? ⟨K11, 0, none⟩ = some _ := fun y => (Ks.bx y.ok HX2.out HX2.out.lt hneX).1
    have x1 : ∀ y : Qin.In (Ks (fun k => some k = (Value.slice A n c).ownBlock) u), y.val.cell? ⟨K11, 1, none⟩ = some _ := fun y => (Ks.bx y.ok HX2.out HX2.out.lt hneX).2.1
    have x2 : ∀ y : Qin.In (Ks (fun k => some k = (Value.slice A n c).ownBlock) u), y.val.cell? ⟨K11, 2, none⟩ = some _ := fun y => (Ks.bx y.ok HX2.out HX2.out.lt hneX).2.2.1
    have hI := ks_drawn (fun k => some k = (Value.slice A n c).ownBlock) u
    refine Qmu.wp_region (C := Cls (Ks (fun k => some k = (Value.slice A n c).ownBlock) u)) 26 (by kernel_rfl) (by kernel_rfl) (by kernel_rfl) ?_
    simp only [List.length_cons, List.length_nil]
    refine Qmu.takes (s := 26) (cls hI) [0, 1, 2, 3, 4, 5, 6, 7, 8, 9, 10, 11, 12, 13, 14, 15, 16, 17, 18, 19, 20, 21] 5 _ _ _ (fun _ => cls hI) (by decide) (by kernel_rfl) ?_
    simp only [List.filterMap_cons, List.filterMap_nil, List.getElem?_toArray, List.getElem?_cons_zero, List.getElem?_cons_succ]
    change wpQuiet _ _ _ _ [_, _, _, _, _, _, _, _, _, _, _, _, _, _, _, _, _, _, _, _, _, _] _
    repeat (go_big_quiet_step (fail))
    refine wpQuiet_nil ?_
    refine Qmu.fork [22] (fun _ => cls hI) (by kernel_rfl) (by simp) ⟨?_, trivial⟩
    refine Qmu.by_op rfl (by kernel_rfl) ?_
    clear hI s1 s3 g1 x0 x1 x2 g7 g8 g9 g10 g11 g12 g13 g14 g15 g16 g17 g18 g19 g20
    obtain ⟨V5, hV5⟩ : ∃ V5, (u.alloc (.cells #[.string id, .int .i64 0, .int .i64 cred, .string ⟨#[69, 85, 82]⟩, .bool (negB q), .string (bs (nm q)), .string (dstr q), .int .i64 inc, .int .i64 rank, .bool (negB r), .string (bs (nm r)), .string (dstr r), .int .i64 rf, .int .i64 sec, .int .i64 1, .bool (decide (200 < day)), .bool (negB vd), .string (bs (nm vd)), .string (dstr vd), .bool false, .string ⟨#[]⟩, .string ⟨#[]⟩, .bool false, .string ⟨#[]⟩, .string ⟨#[]⟩, .bool (negB vd), .string (bs (nm vd)), .string (dstr vd), .int .i64 inc, .int .i64 day] 103)).drew = V5 := ⟨_, rfl⟩
    have hB5 : Below u.heap.size u V5 := by rw [← hV5]; exact ((Below.refl _ _).alloc (Nat.le_refl _) _).drew
    have hrd : Reads V5 (u.heap.size + 1) 30 (some ⟨u.heap.size, 0, none⟩) 1 [.string id, .int .i64 0, .int .i64 cred, .string ⟨#[69, 85, 82]⟩, .bool (negB q), .string (bs (nm q)), .string (dstr q), .int .i64 inc, .int .i64 rank, .bool (negB r), .string (bs (nm r)), .string (dstr r), .int .i64 rf, .int .i64 sec, .int .i64 1, .bool (decide (200 < day)), .bool (negB vd), .string (bs (nm vd)), .string (dstr vd), .bool false, .string ⟨#[]⟩, .string ⟨#[]⟩, .bool false, .string ⟨#[]⟩, .string ⟨#[]⟩, .bool (negB vd), .string (bs (nm vd)), .string (dstr vd), .int .i64 inc, .int .i64 day] := by rw [← hV5]; exact reads_one u [.string id, .int .i64 0, .int .i64 cred, .string ⟨#[69, 85, 82]⟩, .bool (negB q), .string (bs (nm q)), .string (dstr q), .int .i64 inc, .int .i64 rank, .bool (negB r), .string (bs (nm r)), .string (dstr r), .int .i64 rf, .int .i64 sec, .int .i64 1, .bool (decide (200 < day)), .bool (negB vd), .string (bs (nm vd)), .string (dstr vd), .bool false, .string ⟨#[]⟩, .string ⟨#[]⟩, .bool false, .string ⟨#[]⟩, .string ⟨#[]⟩, .bool (negB vd), .string (bs (nm vd)), .string (dstr vd), .int .i64 inc, .int .i64 day] 103 rfl
    have HO5 := hide (TqA.own_below HO2.out hB5)
    have HR5 := hide (HR2.out.below hB5)
    have hI5 : Ks (fun k => some k = (Value.slice A n c).ownBlock) u V5 := Ks.of_below hB5
    have hs6 : u.heap.size < V5.heap.size := by rw [← hV5]; show u.heap.size < (u.alloc _).heap.size; simp
    go_wp2_with fail
    refine ⟨rfl, ?_⟩
    refine Qmu.fork [23] (fun _ => cls hI5) (by kernel_rfl) (by simp) ⟨?_, trivial⟩
    refine Qmu.by_op rfl (by kernel_rfl) ?_
    refine wpList_append_any _ rfl (.tmp 46) (.tmp 64) 26 rfl B 103 i0 _ 30 352 Tryz.underlying26 hi hz0 hz1 hz2 rfl (by decide) _ _ _ rfl HO5.out (u.heap.size + 1) _ 1 1 _ rfl hrd hv1 ?c3 ?c4 ?c5 ?_
    case c3 => unfold maxLen; omega
    case c4 => omega
    case c5 => omega
    intro v6 w6 hown6 hg6 hob6
    obtain ⟨A6, c6, rfl⟩ := TqA.own_slice hown6
    have HK6g := Ks.of_grown hg6
    have HR6 := hide (HK6g.blk HR5.out hneR)
    have hI6 : Ks (fun k => some k = (Value.slice A n c).ownBlock) u w6 := hI5.trans HK6g
    have HI6 := hide hI6
    have HO6 := hide hown6
    have hne6 : (Value.slice A6 (n + 1) c6).ownBlock ≠ some R := fun e => by have := (hown6.lt _ e).1; omega
    have HNE6 := hide hne6
    have f3 := HR6.out.frozen 3
    have g3 := HR6.out.cell (i := 3) rfl
    clear hown6 hg6 hob6 hV5 hB5 hrd HO5 HR5 HK6g hI5 hne6 hv1
    go_wp2_with fail
    refine ⟨rfl, ?_⟩
    simp only [Act.put, List.getElem_toArray, List.getElem_cons_succ, List.getElem_cons_zero, List.setIfInBounds_toArray, List.set_cons_succ, List.set_cons_zero]
    have hI6 := HI6.out
    refine Qmu.takes (s := 26) (cls hI6) [24, 25] 1 _ _ _ (fun _ => cls hI6) (by decide) (by kernel_rfl) ?_
    simp only [List.filterMap_cons, List.filterMap_nil, List.getElem?_toArray, List.getElem?_cons_zero, List.getElem?_cons_succ]
    change wpQuiet _ _ _ _ [_, _] _
    repeat (go_big_quiet_step (fail))
    refine wpQuiet_nil ?_
    refine Qmu.fork [26] (fun _ => cls hI6) (by kernel_rfl) (by simp) ⟨?_, trivial⟩
    refine Qmu.by_op rfl (by kernel_rfl) ?_
    go_wp2_with fail
    refine ⟨rfl, ?_⟩
    refine Qmu.by_end (Qmu.past (by kernel_rfl)) (by kernel_rfl) ?_
    have HR7 := hide (HR6.out.set 3 (.slice A6 (n + 1) c6))
    have HO7 := hide (own_set HO6.out HNE6.out 3 (.slice A6 (n + 1) c6))
    have hk7 : Ks (fun k => k = R ∨ B ≤ k) w w6 := (Ks.of_below HB2.out).trans (HI6.out.mono (fun k _ e => .inr (HVO.out _ e.symm).1))
    have HK7 := hide (hk7.setCell (p := ⟨R, 3, none⟩) (.inl (.inl rfl)) (.slice A6 (n + 1) c6))
    clear hk7 hI6 f3 g3
    go_wp2_with fail
    go_ret
    rw [HLN.out, HSN.out]
    exact ⟨A6, c6, rfl, HR7.out, HO7.out, HK7.out⟩
end Go.Proofs.YtpbgmpjnfndfjaaGreatDoor.TrH
namespace Go.Proofs.YtpbgmpjnfndfjaaGreatDoor.TrI
open Go.RowKit Wd RnA RnB RnW RnQ RnR RnP RoA RoC RoL RtA RtB RtC RpB RpC RpE RpF RpG RpH RnY RpI RpJ RpK RpL PqB PfA PfB PfD PfE PfH PfO TqA TwA TwB TwC TwE TwH TwP TqB TrA TrB TrC TrD TrE TrF TrG TrH
theorem reg_new (w : World) (a b c d : Value) : ∃ V, w.alloc (.cells #[a, b, c, d] 28) = V ∧ Hid (BlkT V w.heap.size 28 [a, b, c, d]) ∧ Hid (Below w.heap.size w V) ∧ w.heap.size < V.heap.size :=
  ⟨_, rfl, heap_alloc_new w _, (Below.refl _ _).alloc (Nat.le_refl _) _, by simp⟩
theorem loadR {w : World} {k : Nat} {T : TypeId} {a b c d : Value} (h : BlkT w k T [a, b, c, d]) : (loadVar 28 ⟨k, 0, none⟩).run Tryz.prog w = .ok (.agg #[a, b, c, d]) w := by
  have a0 := h.cell (i := 0) rfl
  have a1 := h.cell (i := 1) rfl
  have a2 := h.cell (i := 2) rfl
  have a3 := h.cell (i := 3) rfl
  simp [loadVar, go_sem, a0, a1, a2, a3]
theorem results_reg {fn : Func} {p u : Tmp} (h : fn.results = #[.cell p 28, .tmp u]) (tmps : Array Value) {w : World} {k : Nat} {T : TypeId} {a b c d : Value} (hp : tmps.getD p undef = .pointer (some ⟨k, 0, none⟩)) (hb : BlkT w k T [a, b, c, d]) :
    (results fn tmps).run Tryz.prog w = .ok (.tuple #[.agg #[a, b, c, d], tmps.getD u undef]) w := by
  have hp' : tmps[p]?.getD undef = .pointer (some ⟨k, 0, none⟩) := by simpa using hp
  simp only [results, h]
  simp [hp', asAddr, loadR hb]
theorem set4 {w : World} {K : Nat} {T : TypeId} {a0 b0 c0 d0 : Value} (H : BlkT w K T [a0, b0, c0, d0]) (a b c d : Value) : BlkT ((((w.setCell ⟨K, 0, none⟩ a).setCell ⟨K, 1, none⟩ b).setCell ⟨K, 2, none⟩ c).setCell ⟨K, 3, none⟩ d) K T [a, b, c, d] := (((H.set 0 a).set 1 b).set 2 c).set 3 d
theorem day_ok (d : Int) (w : World) (h0 : 0 ≤ d) (h1 : d ≤ 1000) : Calls Tryz.prog 52 #[.int .i64 d] w fun e w' => e = .returned (.bool true) ∧ w = w' :=
  (isday_any d w).mono fun e w' ⟨h2, h3⟩ => ⟨by rw [h2, decide_eq_true h0, decide_eq_true (show d ≤ 1048576 by omega)]; rfl, h3⟩
theorem ev_size : (Tryz.prog.info? 100).map (·.size) = some 21 := by kernel_rfl
def AppP (day : Int) (l : List En) (w : World) (e : Ending) (w' : World) : Prop :=
  ∃ A c, e = .returned (.tuple #[.agg #[.int .i64 100, .int .i64 200, .int .i64 day, .slice A l.length c], .int .i64 0]) ∧ EnsAt w' A l ∧ (A = none → c = 0) ∧ (∀ b off, A = some ⟨b, off, none⟩ → w.heap.size ≤ b) ∧ Below w.heap.size w w'
theorem own_nil_cap {w : World} {base n sz c : Nat} {A : Option Addr} {e : TypeId} {xs : List Value} (h : w.ownsRow base e sz (.slice A n c) n xs) : A = none → c = 0 := by
  rintro rfl
  rcases h.2 with ⟨h2, _⟩ | ⟨g, cap, cur, h2, _⟩
  · injection h2
  · injection h2 with h3 _; cases h3
set_option maxHeartbeats 8000000 in
set_option maxRecDepth 100000 in
theorem apply_file {d0 day : Int} {l : List En} {x : Pd} (hx : PdOk x) (hl : l.length < 64) (hn : l.any (fun y => y.p.id.toList == x.id.toList) = false) (k0 : d0 ≤ day) (k1 : 0 ≤ day) (k2 : day ≤ 1000) {A : Option Addr} {c : Nat} (hA : A = none → c = 0) (w : World) (h : EnsAt w A l) :
    Calls Tryz.prog 29 #[.agg #[.int .i64 100, .int .i64 200, .int .i64 d0, .slice A l.length c], .agg #[.int .i64 1, .int .i64 day, .string ⟨#[]⟩, .bool false, .string ⟨#[]⟩, .string ⟨#[]⟩, .int .i64 0, .string x.id, .int .i64 0, .int .i64 x.cred, .string ⟨#[69, 85, 82]⟩, .bool (negB x.q), .string (bs (nm x.q)), .string (dstr x.q), .int .i64 x.inc, .int .i64 x.rank, .bool (negB x.r), .string (bs (nm x.r)), .string (dstr x.r), .int .i64 x.rf, .int .i64 x.sec], .slice none 0 0] w (AppP day (l ++ [newEn x day]) w) := by
  have HCL := Lib.hid (fun w h => @eclone_any l A c (by omega) hA w h)
  have HFL := Lib.hid (fun B R A c w hRB hBw hR hv => @file_any B R d0 day l x hx hl hn A c w hRB hBw hR hv)
  have HDY := Lib.hid (fun w => day_ok day w k1 k2)
  have hdd : decide (day < d0) = false := decide_eq_false (by omega)
  have hlx : (l ++ [newEn x day]).length ≤ maxLen := by unfold maxLen; simp; omega
  unfold AppP
  unfold CloneEP at HCL
  unfold FileP at HFL
  have HLX := hide hlx
  generalize l ++ [newEn x day] = lx at *
  clear hlx hx hn hl
  obtain ⟨id, cred, q, inc, rank, r, rf, sec⟩ := x
  dsimp only at *
  obtain ⟨ex, HXS⟩ : ∃ ex : List Value, Hid ([.int .i64 1, .int .i64 day, .string ⟨#[]⟩, .bool false, .string ⟨#[]⟩, .string ⟨#[]⟩, .int .i64 0, .string id, .int .i64 0, .int .i64 cred, .string ⟨#[69, 85, 82]⟩, .bool (negB q), .string (bs (nm q)), .string (dstr q), .int .i64 inc, .int .i64 rank, .bool (negB r), .string (bs (nm r)), .string (dstr r), .int .i64 rf, .int .i64 sec] = ex) := ⟨_, hide rfl⟩
  rw [show (#[.int .i64 1, .int .i64 day, .string ⟨#[]⟩, .bool false, .string ⟨#[]⟩, .string ⟨#[]⟩, .int .i64 0, .string id, .int .i64 0, .int .i64 cred, .string ⟨#[69, 85, 82]⟩, .bool (negB q), .string (bs (nm q)), .string (dstr q), .int .i64 inc, .int .i64 rank, .bool (negB r), .string (bs (nm r)), .string (dstr r), .int .i64 rf, .int .i64 sec] : Array Value) = ex.toArray by rw [← HXS.out]] at HFL
  obtain ⟨V0, hV0, HR0, HB0, hl0⟩ := reg_new w (.int .i64 100) (.int .i64 200) (.int .i64 d0) (.slice A l.length c)
  obtain ⟨V1, hV1, HE1, HB1, hl1⟩ := ev_new V0 (.int .i64 1) (.int .i64 day) (.string ⟨#[]⟩) (.bool false) (.string ⟨#[]⟩) (.string ⟨#[]⟩) (.int .i64 0) (.string id) (.int .i64 0) (.int .i64 cred) (.string ⟨#[69,85,82]⟩) (.bool (negB q)) (.string (bs (nm q))) (.string (dstr q)) (.int .i64 inc) (.int .i64 rank) (.bool (negB r)) (.string (bs (nm r))) (.string (dstr r)) (.int .i64 rf) (.int .i64 sec)
  obtain ⟨V2, hV2, HT2, HB2, hl2⟩ := reg_new V1 (.int .i64 0) (.int .i64 0) (.int .i64 0) (.slice none 0 0)
  have HR := hide ((HR0.out.below HB1.out).below HB2.out)
  have HE := hide (HE1.out.below HB2.out)
  have HB := hide ((HB0.out.trans (HB1.out.mono (by omega))).trans (HB2.out.mono (by omega)))
  have HEn := hide (h.below HB.out)
  generalize hgn : l.length = n at *
  have HGN := hide hgn
  have e0 := HE.out.cell (i := 0) rfl
  have e1 := HE.out.cell (i := 1) rfl
  have e2 := HE.out.cell (i := 2) rfl
  have e3 := HE.out.cell (i := 3) rfl
  have e4 := HE.out.cell (i := 4) rfl
  have e5 := HE.out.cell (i := 5) rfl
  have e6 := HE.out.cell (i := 6) rfl
  have e7 := HE.out.cell (i := 7) rfl
  have e8 := HE.out.cell (i := 8) rfl
  have e9 := HE.out.cell (i := 9) rfl
  have e10 := HE.out.cell (i := 10) rfl
  have e11 := HE.out.cell (i := 11) rfl
  have e12 := HE.out.cell (i := 12) rfl
  have e13 := HE.out.cell (i := 13) rfl
  have e14 := HE.out.cell (i := 14) rfl
  have e15 := HE.out.cell (i := 15) rfl
  have e16 := HE.out.cell (i := 16) rfl
  have e17 := HE.out.cell (i := 17) rfl
  have e18 := HE.out.cell (i := 18) rfl
  have e19 := HE.out.cell (i := 19) rfl
  have e20 := HE.out.cell (i := 20) rfl
  have r2 := HR.out.cell (i := 2) rfl
  have r3 := HR.out.cell (i := 3) rfl
  have f3 := HR.out.frozen 3
  clear h hgn HR0 HB0 HE1 HB1 HB2
  go_enter Tryz.func29, Tryz.ntmps29
  go_wp2_with fail
  refine (HDY.out _).mono ?_
  rintro e w2 ⟨rfl, rfl⟩
  go_wp2_with fail
  refine (HCL.out _ HEn.out).mono ?_
  rintro e w3 ⟨A3, c3, rfl, ho3, hb3⟩
  have HR3 := hide (HR.out.below hb3)
  have HE3 := hide (HE.out.below hb3)
  have HT3 := hide (HT2.out.below hb3)
  have HB3 := hide (HB.out.trans (hb3.mono HB.out.size))
  have HO3 := hide ho3
  have hs3 := hb3.size
  clear hb3 ho3 r2 r3 f3 e0 e1 e2 e3 e4 e5 e6 e7 e8 e9 e10 e11 e12 e13 e14 e15 e16 e17 e18 e19 e20
  have r3 := HR3.out.cell (i := 3) rfl
  have f3 := HR3.out.frozen 3
  have HR4 := hide (HR3.out.set 3 (.slice A3 n c3))
  have hne3 : (Value.slice A3 n c3).ownBlock ≠ some w.heap.size := fun e => by have := (HO3.out.lt _ e).1; omega
  have HO4 := hide (own_set HO3.out hne3 3 (.slice A3 n c3))
  have HK4 := hide ((Ks.refl (fun k => k = w.heap.size) w3).setCell (p := ⟨w.heap.size, 3, none⟩) (.inl rfl) (.slice A3 n c3))
  have HE4 := hide (HK4.out.blk HE3.out (by show ¬ V0.heap.size = w.heap.size; omega))
  have HT4 := hide (HK4.out.blk HT3.out (by show ¬ V1.heap.size = w.heap.size; omega))
  have HB4 := hide (HB3.out.setCell (p := ⟨w.heap.size, 3, none⟩) (by show _ ≤ w.heap.size; omega) (.slice A3 n c3))
  have hs4 : (w3.setCell ⟨w.heap.size, 3, none⟩ (.slice A3 n c3)).heap.size = w3.heap.size := by simp [World.setCell]
  generalize hw4 : w3.setCell ⟨w.heap.size, 3, none⟩ (.slice A3 n c3) = w4 at *
  have HW4 := hide hw4
  clear hw4
  have HE := HE3
  have e0 := HE.out.cell (i := 0) rfl
  have e1 := HE.out.cell (i := 1) rfl
  have e2 := HE.out.cell (i := 2) rfl
  have e3 := HE.out.cell (i := 3) rfl
  have e4 := HE.out.cell (i := 4) rfl
  have e5 := HE.out.cell (i := 5) rfl
  have e6 := HE.out.cell (i := 6) rfl
  have e7 := HE.out.cell (i := 7) rfl
  have e8 := HE.out.cell (i := 8) rfl
  have e9 := HE.out.cell (i := 9) rfl
  have e10 := HE.out.cell (i := 10) rfl
  have e11 := HE.out.cell (i := 11) rfl
  have e12 := HE.out.cell (i := 12) rfl
  have e13 := HE.out.cell (i := 13) rfl
  have e14 := HE.out.cell (i := 14) rfl
  have e15 := HE.out.cell (i := 15) rfl
  have e16 := HE.out.cell (i := 16) rfl
  have e17 := HE.out.cell (i := 17) rfl
  have e18 := HE.out.cell (i := 18) rfl
  have e19 := HE.out.cell (i := 19) rfl
  have e20 := HE.out.cell (i := 20) rfl
  clear hne3
  clear e1 e2 e3 e4 e5 e6 e7 e8 e9 e10 e11 e12 e13 e14 e15 e16 e17 e18 e19 e20
  have HRG : Hid ((w3.setCell ⟨w.heap.size, 3, none⟩ (.slice A3 n c3)).rangeAt V0.heap.size 0 ex) := hide (by
    rw [HW4.out, ← HXS.out]
    intro j v hv
    rw [Nat.zero_add]
    exact HE4.out.cell hv)
  have HSZ : Hid ((Tryz.prog.info? 100).map (·.size) = some ex.length) := hide (by rw [← HXS.out]; exact ev_size)
  go_wp2_with (refine wpList_load_mid (op := ⟨some 39, _, _, _, _, _⟩) rfl 100 _ rfl V0.heap.size 0 rfl ex _ HRG.out Tryz.underlying100 rfl HSZ.out ?_)
  rw [HW4.out]
  refine (HFL.out V2.heap.size w.heap.size A3 c3 _ (by omega) (by omega) HR4.out HO4.out).mono ?_
  rintro e w5 ⟨A5, c5, rfl, hr5, ho5, hk5⟩
  have HR5 := hide hr5
  have HO5 := hide ho5
  have HE5 := hide (hk5.blk HE4.out (by show ¬ (V0.heap.size = w.heap.size ∨ V2.heap.size ≤ V0.heap.size); omega))
  have HT5 := hide (hk5.blk HT4.out (by show ¬ (V1.heap.size = w.heap.size ∨ V2.heap.size ≤ V1.heap.size); omega))
  have HB5 := hide (HB4.out.trans (hk5.below HB4.out.size (by rintro k (rfl | hk) <;> omega)))
  have hs5 := hk5.size
  have hob5 : ∀ T, T < V2.heap.size → (Value.slice A5 lx.length c5).ownBlock ≠ some T := fun T hT e => by have := (HO5.out.lt _ e).1; omega
  have HOB5 := hide hob5
  clear hr5 ho5 hk5 hob5 r3 f3 e0
  have s0 := HR5.out.cell (i := 0) rfl
  have s1 := HR5.out.cell (i := 1) rfl
  have s2 := HR5.out.cell (i := 2) rfl
  have s3 := HR5.out.cell (i := 3) rfl
  have g2 := HR5.out.frozen 2
  have e1 := HE5.out.cell (i := 1) rfl
  have t0 := HT5.out.cell (i := 0) rfl
  have t1 := HT5.out.cell (i := 1) rfl
  have t2 := HT5.out.cell (i := 2) rfl
  have t3 := HT5.out.cell (i := 3) rfl
  have y0 := HT5.out.frozen 0
  have y1 := HT5.out.frozen 1
  have y2 := HT5.out.frozen 2
  have y3 := HT5.out.frozen 3
  go_wp2_with fail
  have HK6 := (Ks.refl (fun k => k = w.heap.size) w5).setCell (p := ⟨w.heap.size, 2, none⟩) (.inl rfl) (.int .i64 day)
  have HT6 := HK6.blk HT5.out (by show ¬ V1.heap.size = w.heap.size; omega)
  have HB6 := HB5.out.setCell (p := ⟨w.heap.size, 2, none⟩) (by show _ ≤ w.heap.size; omega) (.int .i64 day)
  have HO6 := own_set HO5.out (HOB5.out w.heap.size (by omega)) 2 (.int .i64 day)
  refine bodyPost_ret (results_reg rfl _ rfl (set4 HT6 _ _ _ _)) rfl ?_
  have hV1 : w.heap.size ≤ V1.heap.size := by omega
  have HO7 := own_set (own_set (own_set (own_set HO6 (HOB5.out V1.heap.size (by omega)) 0 (.int .i64 100)) (HOB5.out V1.heap.size (by omega)) 1 (.int .i64 200)) (HOB5.out V1.heap.size (by omega)) 2 (.int .i64 day)) (HOB5.out V1.heap.size (by omega)) 3 (.slice A5 lx.length c5)
  refine ⟨A5, c5, rfl, own_at en_len HO7 HLX.out, own_nil_cap HO7, fun b off e => by (subst e; have := (HO7.lt b rfl).1; omega), ?_⟩
  exact (((HB6.setCell (p := ⟨V1.heap.size, 0, none⟩) hV1 _).setCell (p := ⟨V1.heap.size, 1, none⟩) hV1 _).setCell (p := ⟨V1.heap.size, 2, none⟩) hV1 _).setCell (p := ⟨V1.heap.size, 3, none⟩) hV1 _
end Go.Proofs.YtpbgmpjnfndfjaaGreatDoor.TrI
namespace Go.Proofs.YtpbgmpjnfndfjaaGreatDoor.TrJ
open Go.RowKit Wd RnA RnB RnW RnQ RnR RnP RoA RoC RoL RtA RtB RtC RpB RpC RpE RpF RpG RpH RnY RpI RpJ RpK RpL PqB PfA PfB PfD PfE PfH PfO TqA TwA TwB TwC TwE TwH TwP TqB TrA TrB TrC TrD TrE TrF TrG TrH TrI
/-- a load of a structure in a drawn region -/
theorem quiet_load {P : Program} {ops : Array Oper} {C : World → Prop} {K : Act → Prop} {o : Oper} {rest : List Oper} {a : Act} (hgd : o.guard = none) (ty : TypeId) (x : Operand) (ho : o.op = .load ty x)
    (b off : Nat) (hx : a.eval x = .pointer (some ⟨b, off, none⟩)) (cs : List Value) (d : TypeDesc) (hc : ∀ w, C w → w.rangeAt b off cs)
    (hu : P.underlying ty = some d) (hd : d.isRow = true) (hi : (P.info? ty).map (·.size) = some cs.length) (h : wpQuiet P ops C K rest (a.put o.dst (.agg cs.toArray))) : wpQuiet P ops C K (o :: rest) a := by
  have hw : Region.wanted o (yielded ops a.tmps) = true := by simp [Region.wanted, hgd]
  unfold wpQuiet
  rw [if_pos hw]
  refine ⟨.agg cs.toArray, fun w' hw' => ?_, h⟩
  unfold Oper.quietAt execOp
  simp only [ho, hx, Instr.loadAt, Instr.sureAddr, Sem.run_bind, Sem.run_pure, Result.andThen_ok, run_loadVar_mid w' b off ty cs d (hc w' hw') hu hd hi]
  exact ⟨rfl, rfl⟩
set_option maxHeartbeats 8000000 in
set_option maxRecDepth 100000 in
theorem apply_adm {d0 day : Int} {l : List En} {y : En} (hst : y.st = 1) (hce : Lt y.ce 5000) (hl : l.length < 64) (hn : l.any (fun z => z.p.id.toList == y.p.id.toList) = false) (k0 : d0 ≤ day) (k1 : 0 ≤ day) (k2 : day ≤ 1000) {A : Option Addr} {c : Nat} (hA : A = none → c = 0) (w : World) (h : EnsAt w A (l ++ [y])) :
    Calls Tryz.prog 29 #[.agg #[.int .i64 100, .int .i64 200, .int .i64 d0, .slice A (l ++ [y]).length c], .agg #[.int .i64 2, .int .i64 day, .string y.p.id, .bool false, .string ⟨#[]⟩, .string ⟨#[]⟩, .int .i64 0, .string ⟨#[]⟩, .int .i64 0, .int .i64 0, .string ⟨#[]⟩, .bool false, .string ⟨#[]⟩, .string ⟨#[]⟩, .int .i64 0, .int .i64 0, .bool false, .string ⟨#[]⟩, .string ⟨#[]⟩, .int .i64 0, .int .i64 0], .slice none 0 0] w (AppP day (l ++ [En.adm y day]) w) := by
  have HCL := Lib.hid (fun w h => @eclone_any (l ++ [y]) A c (by simp; omega) hA w h)
  have hyy : (y.p.id.toList == y.p.id.toList) = true := by simp
  have HFD := Lib.hid (fun w A c h => @find_last 100 200 d0 l y A c y.p.id hn hyy w h)
  have HCH := Lib.hid (fun g post w h => @change_any g (l.flatMap En.vals) post y day y.p.id hst hce w h)
  have HDY := Lib.hid (fun w => day_ok day w k1 k2)
  have hdd : decide (day < d0) = false := decide_eq_false (by omega)
  have hln : (l ++ [y]).length = l.length + 1 := by simp
  have hln2 : (l ++ [En.adm y day]).length = l.length + 1 := by simp
  have HPL := hide (flat_len en_len l)
  have HS1 := hide (ens_snoc l y)
  have HS2 := hide (ens_snoc l (En.adm y day))
  have HYL : Hid ((En.adm y day).vals.length = 30) := hide rfl
  have HYL0 : Hid (y.vals.length = 30) := hide rfl
  have HLN2 := hide hln2
  have HL1 := hide hln
  unfold AppP
  unfold CloneEP at HCL
  unfold ChP at HCH
  rw [HPL.out] at HCH
  have HDD := hide hdd
  generalize l ++ [En.adm y day] = lx at *
  generalize (En.adm y day).vals = yv at *
  generalize hl1 : l ++ [y] = l1 at *
  rw [hln] at HCL HFD ⊢
  generalize hid_ : y.p.id = id at *
  generalize hyv : y.vals = yv0 at *
  clear hl1 hln hln2 hn hst hce hyy hid_ hyv
  obtain ⟨ex, HXS⟩ : ∃ ex : List Value, Hid ([.int .i64 2, .int .i64 day, .string id, .bool false, .string ⟨#[]⟩, .string ⟨#[]⟩, .int .i64 0, .string ⟨#[]⟩, .int .i64 0, .int .i64 0, .string ⟨#[]⟩, .bool false, .string ⟨#[]⟩, .string ⟨#[]⟩, .int .i64 0, .int .i64 0, .bool false, .string ⟨#[]⟩, .string ⟨#[]⟩, .int .i64 0, .int .i64 0] = ex) := ⟨_, hide rfl⟩
  rw [show (#[.int .i64 2, .int .i64 day, .string id, .bool false, .string ⟨#[]⟩, .string ⟨#[]⟩, .int .i64 0, .string ⟨#[]⟩, .int .i64 0, .int .i64 0, .string ⟨#[]⟩, .bool false, .string ⟨#[]⟩, .string ⟨#[]⟩, .int .i64 0, .int .i64 0, .bool false, .string ⟨#[]⟩, .string ⟨#[]⟩, .int .i64 0, .int .i64 0] : Array Value) = ex.toArray by rw [← HXS.out]] at HCH
  obtain ⟨V0, hV0, HR0, HB0, hl0⟩ := reg_new w (.int .i64 100) (.int .i64 200) (.int .i64 d0) (.slice A (l.length + 1) c)
  obtain ⟨V1, hV1, HE1, HB1, hl1⟩ := ev_new V0 (.int .i64 2) (.int .i64 day) (.string id) (.bool false) (.string ⟨#[]⟩) (.string ⟨#[]⟩) (.int .i64 0) (.string ⟨#[]⟩) (.int .i64 0) (.int .i64 0) (.string ⟨#[]⟩) (.bool false) (.string ⟨#[]⟩) (.string ⟨#[]⟩) (.int .i64 0) (.int .i64 0) (.bool false) (.string ⟨#[]⟩) (.string ⟨#[]⟩) (.int .i64 0) (.int .i64 0)
  obtain ⟨V2, hV2, HT2, HB2, hl2⟩ := reg_new V1 (.int .i64 0) (.int .i64 0) (.int .i64 0) (.slice none 0 0)
  have HR := hide ((HR0.out.below HB1.out).below HB2.out)
  have HE := hide (HE1.out.below HB2.out)
  have HB := hide ((HB0.out.trans (HB1.out.mono (by omega))).trans (HB2.out.mono (by omega)))
  have HEn := hide (h.below HB.out)
  generalize hgn : l.length = n at *
  generalize hgm : n + 1 = m at *
  have hnm : n < m := by omega
  have hmm : m ≤ 64 := by omega
  have HGM := hide hgm
  have e0 := HE.out.cell (i := 0) rfl
  have e1 := HE.out.cell (i := 1) rfl
  have r2 := HR.out.cell (i := 2) rfl
  have r3 := HR.out.cell (i := 3) rfl
  have f3 := HR.out.frozen 3
  clear h hgn hgm HR0 HB0 HE1 HB1 HB2
  go_enter Tryz.func29, Tryz.ntmps29
  go_wp2_with fail
  refine (HDY.out _).mono ?_
  rintro e w2 ⟨rfl, rfl⟩
  go_wp2_with fail
  refine (HCL.out _ HEn.out).mono ?_
  rintro e w3 ⟨A3, c3, rfl, ho3, hb3⟩
  have HR3 := hide (HR.out.below hb3)
  have HE3 := hide (HE.out.below hb3)
  have HT3 := hide (HT2.out.below hb3)
  have HB3 := hide (HB.out.trans (hb3.mono HB.out.size))
  have HO3 := hide ho3
  have hs3 := hb3.size
  clear hb3 ho3 r2 r3 f3 e0 e1
  have hne3 : (Value.slice A3 m c3).ownBlock ≠ some w.heap.size := fun e => by have := (HO3.out.lt _ e).1; omega
  have HO4 := hide (own_set HO3.out hne3 3 (.slice A3 m c3))
  have HK4 := hide ((Ks.refl (fun k => k = w.heap.size) w3).setCell (p := ⟨w.heap.size, 3, none⟩) (.inl rfl) (.slice A3 m c3))
  have HE4 := hide (HK4.out.blk HE3.out (by show ¬ V0.heap.size = w.heap.size; omega))
  have HT4 := hide (HK4.out.blk HT3.out (by show ¬ V1.heap.size = w.heap.size; omega))
  have HR4 := hide (HR3.out.set 3 (.slice A3 m c3))
  have HB4 := hide (HB3.out.setCell (p := ⟨w.heap.size, 3, none⟩) (by show _ ≤ w.heap.size; omega) (.slice A3 m c3))
  have r0 := HR3.out.cell (i := 0) rfl
  have r1 := HR3.out.cell (i := 1) rfl
  have r2 := HR3.out.cell (i := 2) rfl
  have r3 := HR3.out.cell (i := 3) rfl
  have f3 := HR3.out.frozen 3
  have e0 := HE3.out.cell (i := 0) rfl
  have e2 := HE3.out.cell (i := 2) rfl
  have hs4 : (w3.setCell ⟨w.heap.size, 3, none⟩ (.slice A3 m c3)).heap.size = w3.heap.size := by simp [World.setCell]
  generalize hw4 : w3.setCell ⟨w.heap.size, 3, none⟩ (.slice A3 m c3) = w4 at *
  have HW4 := hide hw4
  clear hw4 hne3
  go_wp2_with fail
  rw [HW4.out]
  have hens4 : EnsAt w4 A3 l1 := own_at en_len (by rw [HL1.out]; exact HO4.out) (by rw [HL1.out]; unfold maxLen; omega)
  refine (HFD.out _ A3 c3 hens4).mono ?_
  rintro e w5 ⟨rfl, hb5⟩
  have HE5 := hide (HE4.out.below hb5)
  have HR5 := hide (HR4.out.below hb5)
  have HT5 := hide (HT4.out.below hb5)
  have HB5 := hide (HB4.out.trans (hb5.mono HB4.out.size))
  have HO5 := hide (TqA.own_below HO4.out hb5)
  have hs5 := hb5.size
  clear hb5 hens4 r0 r1 r2 r3 f3 e0 e2 HR HE HT2 HB HR3 HE3 HT3 HB3 HO3 HR4 HE4 HT4 HB4 HO4 HK4
  obtain ⟨g, pad, hA3, hgB, hblk, hpl, hmc, hcm⟩ := own_blk HO5.out (by omega)
  subst hA3
  rw [HS1.out, List.append_assoc] at hblk
  have HG5 := hide hblk
  have HPD := hide hpl
  have hgR : ¬ (fun k => k = g) w.heap.size := by show ¬ w.heap.size = g; omega
  have hgE : ¬ (fun k => k = g) V0.heap.size := by show ¬ V0.heap.size = g; omega
  have hgT : ¬ (fun k => k = g) V1.heap.size := by show ¬ V1.heap.size = g; omega
  have hgw : g < w5.heap.size := HG5.out.lt
  clear hblk hpl
  have s3 := fun v => ks_kin (S := fun k => k = g) (W := w5) HR5.out hgR (i := 3) rfl v
  have hI := ks_drawn (fun k => k = g) w5
  have HSZ : Hid ((Tryz.prog.info? 100).map (·.size) = some ex.length) := hide (by rw [← HXS.out]; exact ev_size)
  have HRG : Hid (∀ v : World, Cls (Ks (fun k => k = g) w5) v → v.rangeAt V0.heap.size 0 ex) := hide (by
    rintro v ⟨y, rfl⟩
    rw [← HXS.out]
    intro j u hu
    rw [Nat.zero_add]
    exact ks_kin (S := fun k => k = g) HE5.out hgE hu y)
  go_wp2_with fail
  refine Qmt.wp_region (C := Cls (Ks (fun k => k = g) w5)) (by kernel_rfl) (by kernel_rfl) ?_
  simp only [List.length_cons, List.length_nil]
  refine Qmt.takes [0, 1, 2, 3, 4] 2 _ _ _ (cls hI) (by kernel_rfl) ?_
  simp only [List.filterMap_cons, List.filterMap_nil, List.getElem?_toArray, List.getElem?_cons_zero, List.getElem?_cons_succ]
  change wpQuiet _ _ _ _ [_, _, _, _, _] _
  repeat (go_big_quiet_step (fail))
  refine quiet_load rfl 100 _ rfl V0.heap.size 0 rfl ex _ HRG.out Tryz.underlying100 rfl HSZ.out ?_
  refine wpQuiet_nil ?_
  clear s3
  have HI6 := hide hI
  have HG6 : Hid (BlkT { w5 with drawn := w5.drawn + 1 } g 103 _) := HG5
  generalize ({ w5 with drawn := w5.drawn + 1 } : World) = w6 at HG6 HI6 ⊢
  clear hI
  refine Qmt.fork [5] (cls HI6.out) (by kernel_rfl) (by simp) ⟨?_, trivial⟩
  refine Qmt.by_op rfl (by kernel_rfl) ?_
  go_wp2_with fail
  refine (HCH.out g _ _ HG6.out).mono ?_
  rintro e w7 ⟨rfl, hg7, hk7⟩
  have HI7 := hide (HI6.out.trans hk7)
  have HG7 := hide hg7
  clear hg7 hk7
  go_wp2_with fail
  refine ⟨rfl, ?_⟩
  refine Qmt.takes [6] 0 _ _ _ (cls HI7.out) (by kernel_rfl) ?_
  simp only [List.filterMap_cons, List.filterMap_nil, List.getElem?_toArray, List.getElem?_cons_zero, List.getElem?_cons_succ]
  change wpQuiet _ _ _ _ [_] _
  repeat (go_big_quiet_step (fail))
  refine wpQuiet_nil ?_
  refine Qmt.by_end (cls HI7.out) (by kernel_rfl) ?_
  have HR7 := hide (HI7.out.blk HR5.out hgR)
  have HE7 := hide (HI7.out.blk HE5.out hgE)
  have HT7 := hide (HI7.out.blk HT5.out hgT)
  have hs7 := HI7.out.size
  have HB7 := hide (HB5.out.trans (HI7.out.below HB5.out.size (by rintro k rfl; omega)))
  have HO7 : Hid (w7.ownsRow V2.heap.size 103 30 (.slice (some ⟨g, 0, none⟩) m c3) m (lx.flatMap En.vals)) := hide (by
    refine own_mk hgB (pad := pad) ?_ ?_ ?_ hmc hcm
    · rw [HS2.out, List.append_assoc]; exact HG7.out
    · have h1 := HPD.out
      rw [HS1.out, List.length_append, List.length_append, HYL0.out] at h1
      rw [HS2.out, List.length_append, List.length_append, HYL.out]
      exact h1
    · rw [flat_len en_len, HLN2.out])
  have hob7 : ∀ T, T < V2.heap.size → (Value.slice (some ⟨g, 0, none⟩) m c3).ownBlock ≠ some T := fun T hT e => by have := (HO7.out.lt _ e).1; omega
  have HOB7 := hide hob7
  clear hob7
  have s0 := HR7.out.cell (i := 0) rfl
  have s1 := HR7.out.cell (i := 1) rfl
  have s2 := HR7.out.cell (i := 2) rfl
  have s3 := HR7.out.cell (i := 3) rfl
  have g2 := HR7.out.frozen 2
  have e1 := HE7.out.cell (i := 1) rfl
  have t0 := HT7.out.cell (i := 0) rfl
  have y0 := HT7.out.frozen 0
  have t1 := HT7.out.cell (i := 1) rfl
  have y1 := HT7.out.frozen 1
  have t2 := HT7.out.cell (i := 2) rfl
  have y2 := HT7.out.frozen 2
  have t3 := HT7.out.cell (i := 3) rfl
  have y3 := HT7.out.frozen 3
  go_wp2_with fail
  have HK8 := (Ks.refl (fun k => k = w.heap.size) w7).setCell (p := ⟨w.heap.size, 2, none⟩) (.inl rfl) (.int .i64 day)
  have HT8 := HK8.blk HT7.out (by show ¬ V1.heap.size = w.heap.size; omega)
  have HB8 := HB7.out.setCell (p := ⟨w.heap.size, 2, none⟩) (by show _ ≤ w.heap.size; omega) (.int .i64 day)
  have HO8 := own_set HO7.out (HOB7.out w.heap.size (by omega)) 2 (.int .i64 day)
  refine bodyPost_ret (results_reg rfl _ rfl (set4 HT8 _ _ _ _)) rfl ?_
  have hV1 : w.heap.size ≤ V1.heap.size := by omega
  have HO9 := own_set (own_set (own_set (own_set HO8 (HOB7.out V1.heap.size (by omega)) 0 (.int .i64 100)) (HOB7.out V1.heap.size (by omega)) 1 (.int .i64 200)) (HOB7.out V1.heap.size (by omega)) 2 (.int .i64 day)) (HOB7.out V1.heap.size (by omega)) 3 (.slice (some ⟨g, 0, none⟩) m c3)
  have hlm : lx.length = m := HLN2.out
  refine ⟨some ⟨g, 0, none⟩, c3, by rw [hlm]; rfl, own_at en_len (c := c3) (by rw [hlm]; exact HO9) (by rw [hlm]; unfold maxLen; omega), own_nil_cap HO9, fun b off e => by (injection e with e; injection e with e1 _; have := (HO9.lt g rfl).1; omega), ?_⟩
  exact (((HB8.setCell (p := ⟨V1.heap.size, 0, none⟩) hV1 _).setCell (p := ⟨V1.heap.size, 1, none⟩) hV1 _).setCell (p := ⟨V1.heap.size, 2, none⟩) hV1 _).setCell (p := ⟨V1.heap.size, 3, none⟩) hV1 _
end Go.Proofs.YtpbgmpjnfndfjaaGreatDoor.TrJ
namespace Go.Proofs.YtpbgmpjnfndfjaaGreatDoor.TrK
open Go.RowKit Wd RnA RnB RnW RnQ RnR RnP RoA RoC RoL RtA RtB RtC RpB RpC RpE RpF RpG RpH RnY RpI RpJ RpK RpL PqB PfA PfB PfD PfE PfH PfO TqA TwA TwB TwC TwE TwH TwI TwP TqB TrA TrB TrC TrD TrE TrF TrG TrH TrI TrJ
theorem ks_setCells (g : Nat) : ∀ (vs : List Value) (o : Nat) (w : World), Ks (fun k => k = g) w (w.setCells g o vs)
  | [], _, w => Ks.refl _ w
  | v :: r, o, w => ((Ks.refl (fun k => k = g) w).setCell (p := ⟨g, o, none⟩) (.inl rfl) v).trans (ks_setCells g r (o + 1) _)
theorem blk_setCells {g : Nat} {T : TypeId} : ∀ (vs : List Value) (o : Nat) (w : World) (L : List Value), BlkT w g T L → o + vs.length ≤ L.length → BlkT (w.setCells g o vs) g T (L.take o ++ vs ++ L.drop (o + vs.length))
  | [], o, w, L, h, _ => by
    rw [List.append_nil, List.length_nil, Nat.add_zero, List.take_append_drop]
    exact h
  | v :: r, o, w, L, h, hl => by
    rw [List.length_cons] at hl
    have ih := blk_setCells r (o + 1) _ _ (h.set o v) (by rw [List.length_set]; omega)
    have e : (L.set o v).take (o + 1) = L.take o ++ [v] := by
      rw [List.take_add_one, List.take_set_of_le (by omega), List.getElem?_set_self (by omega)]
      rfl
    rw [e, List.drop_set_of_lt (by omega)] at ih
    rw [List.length_cons, show o + (r.length + 1) = o + 1 + r.length by omega, show L.take o ++ v :: r = L.take o ++ [v] ++ r by simp]
    exact ih
/-- a structure is stored into its own block -/
theorem wpList_store_blk {P : Program} {ops : Array Oper} {rest : List Oper} {op : Oper} {a : Act} {w : World} {Q : Exit → Act → World → Prop} (hgd : op.guard = none) (ty : TypeId) (x y : Operand) (ho : op.op = .store ty x y)
    (g : Nat) (cs : List Value) (hx : a.eval x = .pointer (some ⟨g, 0, none⟩)) (hy : a.eval y = .agg cs.toArray) {T : TypeId} {L : List Value} (hb : BlkT w g T L) (hl : L.length = cs.length)
    (hi : (P.info? ty).map (·.size) = some cs.length) (h1 : ∀ u ∈ cs, u.oneCell' = true)
    (h : ∀ V, BlkT V g T cs → Ks (fun k => k = g) w V → wpList P ops Q rest (a.put op.dst undef) V) : wpList P ops Q (op :: rest) a w := by
  have hc := blk_setCells cs 0 w L hb (by omega)
  rw [List.take_zero, List.nil_append, Nat.zero_add, ← hl, List.drop_length, List.append_nil] at hc
  refine wpList_store_mid hgd ty x y ho g 0 cs.toArray hx hy (fun j hj => ?_) (by simpa using hi) (all_oneCell_toArray h1) ?_
  · rw [Nat.zero_add]
    have hj' : j < L.length := by simpa [hl] using hj
    exact ⟨by rw [hb.cell (List.getElem?_eq_getElem hj')]; rfl, hb.frozen j⟩
  · have := h _ hc (ks_setCells g cs 0 w)
    simpa using this
theorem int_binfo : (Tryz.prog.info? 3).map (fun i => (i.zero, i.size, i.bytes)) = some (some (.int .i64 0), 1, 8) := by kernel_rfl
theorem range_snoc (k : Nat) : (List.range (k + 1)).flatMap iv = (List.range k).flatMap iv ++ [.int .i64 k] := by rw [List.range_succ, List.flatMap_append]; rfl
theorem ez30 (w : World) : BlkT (w.alloc (.cells #[.string ⟨#[]⟩, .int .i64 0, .int .i64 0, .string ⟨#[]⟩, .bool false, .string ⟨#[]⟩, .string ⟨#[]⟩, .int .i64 0, .int .i64 0, .bool false, .string ⟨#[]⟩, .string ⟨#[]⟩, .int .i64 0, .int .i64 0, .int .i64 0, .bool false, .bool false, .string ⟨#[]⟩, .string ⟨#[]⟩, .bool false, .string ⟨#[]⟩, .string ⟨#[]⟩, .bool false, .string ⟨#[]⟩, .string ⟨#[]⟩, .bool false, .string ⟨#[]⟩, .string ⟨#[]⟩, .int .i64 0, .int .i64 0] 103)) w.heap.size 103 [.string ⟨#[]⟩, .int .i64 0, .int .i64 0, .string ⟨#[]⟩, .bool false, .string ⟨#[]⟩, .string ⟨#[]⟩, .int .i64 0, .int .i64 0, .bool false, .string ⟨#[]⟩, .string ⟨#[]⟩, .int .i64 0, .int .i64 0, .int .i64 0, .bool false, .bool false, .string ⟨#[]⟩, .string ⟨#[]⟩, .bool false, .string ⟨#[]⟩, .string ⟨#[]⟩, .bool false, .string ⟨#[]⟩, .string ⟨#[]⟩, .bool false, .string ⟨#[]⟩, .string ⟨#[]⟩, .int .i64 0, .int .i64 0] := heap_alloc_new w _
/-- what Against leaves -/
def AgP (n : Nat) (w : World) (e : Ending) (w' : World) : Prop := ∃ A c, e = .returned (.slice A n c) ∧ RowAt 1 iv w' A (List.range n) ∧ Below w.heap.size w w'
theorem iv_len (i : Nat) : (iv i).length = 1 := rfl
set_option maxHeartbeats 8000000 in
set_option maxRecDepth 100000 in
theorem against_any {d0 : Int} {l : List En} (hl : l.length ≤ 64) (hes : ∀ x ∈ l, x.p.est = 0 ∧ x.st = 2) {A : Option Addr} {c : Nat} (w : World) (h : EnsAt w A l) :
    Calls Tryz.prog 30 #[.agg #[.int .i64 100, .int .i64 200, .int .i64 d0, .slice A l.length c], .int .i64 0] w (AgP l.length w) := by
  obtain ⟨i0, hi, hz0, hz1, hz2⟩ := info_parts int_binfo
  obtain ⟨V0, hV0, HR0, HB0, hl0⟩ := reg_new w (.int .i64 100) (.int .i64 200) (.int .i64 d0) (.slice A l.length c)
  have HEn := hide (h.below HB0.out)
  have HES := hide hes
  have r3 := HR0.out.cell (i := 3) rfl
  generalize hgn : l.length = n at *
  have HGN := hide hgn
  unfold AgP
  clear h hes hgn
  go_enter Tryz.func30, Tryz.ntmps30
  go_wp2_with fail
  clear r3
  go_loopw [5, 11] (fun vs vi wr => ∃ k : Nat, k ≤ n ∧ vi = .int .i64 k ∧ ∃ Ao co, vs = .slice Ao k co ∧ Hid (wr.ownsRow V0.heap.size 3 1 (.slice Ao k co) k ((List.range k).flatMap iv)) ∧ Hid (Below V0.heap.size V0 wr)) (fun _ vi _ => n - (intOf vi).toNat)
  case atStart => exact ⟨0, by omega, rfl, none, 0, rfl, hide (World.ownsRow_nil _ _ _ _), hide (Below.refl _ _)⟩
  case round =>
    obtain ⟨k, hk, rfl, Ao, co, rfl, HO, HB⟩ := hrel
    by_cases hlt : k < n
    · obtain ⟨x, hx⟩ : ∃ x, l[k]? = some x := ⟨_, List.getElem?_eq_getElem (by rw [HGN.out]; exact hlt)⟩
      obtain ⟨g, off, rfl, hg, hrg⟩ := en_range (HEn.out.below HB.out) hx
      have HRG := hide hrg
      have HSZ := hide (en_sz x)
      obtain ⟨hx0, hx1⟩ := HES.out x (List.mem_of_getElem? hx)
      have H1 : Hid (x.vals[1]? = some (.int .i64 0)) := hide (by rw [← hx0]; rfl)
      have H14 : Hid (x.vals[14]? = some (.int .i64 2)) := hide (by rw [← hx1]; rfl)
      have HON := hide (en_one x)
      have HLE : Hid (30 = x.vals.length) := hide (en_len x).symm
      generalize x.vals = xs at *
      clear hx hrg hx0 hx1
      have hsw : V0.heap.size ≤ wr.heap.size := HB.out.size
      go_upto_region 6 with (first
        | (refine wpList_load_mid (op := ⟨some 15, _, _, _, _, _⟩) rfl 103 _ rfl g (off + k * 30) rfl xs _ HRG.out Tryz.underlying103 rfl HSZ.out ?_)
        | (refine wpList_store_blk (op := ⟨none, _, _, _, _, _⟩) rfl 103 _ _ rfl wr.heap.size xs rfl rfl (ez30 wr) HLE.out HSZ.out HON.out ?_
           intro V hV hK
           have d1 := hV.cell H1.out
           have d14 := hV.cell H14.out))
      have hal : Below wr.heap.size wr (wr.alloc (.cells #[.string ⟨#[]⟩, .int .i64 0, .int .i64 0, .string ⟨#[]⟩, .bool false, .string ⟨#[]⟩, .string ⟨#[]⟩, .int .i64 0, .int .i64 0, .bool false, .string ⟨#[]⟩, .string ⟨#[]⟩, .int .i64 0, .int .i64 0, .int .i64 0, .bool false, .bool false, .string ⟨#[]⟩, .string ⟨#[]⟩, .bool false, .string ⟨#[]⟩, .string ⟨#[]⟩, .bool false, .string ⟨#[]⟩, .string ⟨#[]⟩, .bool false, .string ⟨#[]⟩, .string ⟨#[]⟩, .int .i64 0, .int .i64 0] 103)) := (Below.refl _ _).alloc (Nat.le_refl _) _
      have hVB : Below wr.heap.size wr V := hal.trans (hK.below hal.size (by rintro k rfl; exact Nat.le_refl _))
      have hV2 : Below V.heap.size V (V.alloc (.cells #[.int .i64 k] 3)) := (Below.refl _ _).alloc (Nat.le_refl _) _
      have hown := TqA.own_below (TqA.own_below HO.out hVB) hV2
      have hrd : Reads (V.alloc (.cells #[.int .i64 k] 3)) (V.heap.size + 1) 1 (some ⟨V.heap.size, 0, none⟩) 1 [.int .i64 k] := reads_one V [.int .i64 k] 3 rfl
      have hone : ∀ u ∈ [Value.int .i64 k], u.oneCell' = true := by simp [Value.oneCell']
      have HBW := hide (HB.out.trans ((hVB.trans (hV2.mono hVB.size)).mono hsw))
      have hVs := hVB.size
      clear d1 d14 hal hVB hV2 hK hV HO HB HRG
      go_wp2_with (at_builtin
                   refine wpList_append_any _ rfl (.tmp 26) (.tmp 28) 47 rfl V0.heap.size 3 i0 _ 1 8 Tryz.underlying47 hi hz0 hz1 hz2 rfl (by decide) _ _ _ rfl hown (V.heap.size + 1) _ 1 1 _ rfl hrd hone ?c3 ?c4 ?c5 ?_
                   case c3 => unfold maxLen; omega
                   case c4 => omega
                   case c5 => simp; omega
                   intro v1 w1 hown1 hg1 hob1)
      obtain ⟨A1, c1, rfl⟩ := TqA.own_slice hown1
      refine ⟨⟨k + 1, by omega, rfl, A1, c1, rfl, ?_, hide (HBW.out.grown hg1 HBW.out.size (fun g hg => (hown.lt g hg).1))⟩, by simp only [intOf]; omega⟩
      rw [range_snoc]
      exact hide hown1
    · have hkn : k = n := by omega
      subst hkn
      go_wp2_with fail
      go_ret
      refine ⟨Ao, co, rfl, ?_, HB0.out.trans (HB.out.mono (by omega))⟩
      exact own_at iv_len (c := co) (by rw [List.length_range]; exact HO.out) (by rw [List.length_range]; unfold maxLen; omega)
end Go.Proofs.YtpbgmpjnfndfjaaGreatDoor.TrK
namespace Go.Proofs.YtpbgmpjnfndfjaaGreatDoor.TrL
open Go.RowKit Wd RnA RnB RnW RnQ RnR RnP RoA RoC RoL RtA RtB RtC RpB RpC RpE RpF RpG RpH RnY RpI RpJ RpK RpL PqB PfA PfB PfD PfE PfH PfO TqA TwA TwB TwC TwE TwH TwI TwP TqB TrA TrB TrC TrD TrE TrF TrG TrH TrI TrJ TrK
/-- a claim of a register as clauses refer to it -/
structure Nd where
  id : ByteArray
  rank : Int
  amt : Rat
def Nd.vals (x : Nd) : List Value := [.string x.id, .int .i64 x.rank, .bool (negB x.amt), .string (bs (nm x.amt)), .string (dstr x.amt)]
theorem nd_len (x : Nd) : x.vals.length = 5 := rfl
theorem nd_one (x : Nd) : ∀ u ∈ x.vals, u.oneCell' = true := by
  intro u hu
  simp only [Nd.vals, List.mem_cons, List.mem_nil_iff, or_false] at hu
  rcases hu with rfl | rfl | rfl | rfl | rfl <;> rfl
def rankE (x : En) : Int := if x.late then max x.p.rank 4 else x.p.rank
def ndOf (x : En) : Nd := ⟨x.p.id, rankE x, x.ad⟩
theorem nd_binfo : (Tryz.prog.info? 53).map (fun i => (i.zero, i.size, i.bytes)) = some (some (.agg #[.string ByteArray.empty, .int .i64 0, .bool false, .string ByteArray.empty, .string ByteArray.empty]), 5, 64) := by kernel_rfl
def NdP (l : List Nd) (w : World) (e : Ending) (w' : World) : Prop := ∃ A c, e = .returned (.slice A l.length c) ∧ RowAt 5 Nd.vals w' A l ∧ Below w.heap.size w w'
theorem nds_snoc (l : List Nd) (y : Nd) : (l ++ [y]).flatMap Nd.vals = l.flatMap Nd.vals ++ y.vals := by simp
set_option maxHeartbeats 8000000 in
set_option maxRecDepth 100000 in
theorem named_any {d0 : Int} {l : List En} (hl : l.length ≤ 64) (hes : ∀ x ∈ l, x.p.est = 0 ∧ x.st = 2) {A : Option Addr} {c : Nat} (w : World) (h : EnsAt w A l) :
    Calls Tryz.prog 9 #[.agg #[.int .i64 100, .int .i64 200, .int .i64 d0, .slice A l.length c]] w (NdP (l.map ndOf) w) := by
  obtain ⟨i0, hi, hz0, hz1, hz2⟩ := info_parts nd_binfo
  have HAG := Lib.hid (fun w h => @against_any d0 l hl hes A c w h)
  obtain ⟨V0, hV0, HR0, HB0, hl0⟩ := reg_new w (.int .i64 100) (.int .i64 200) (.int .i64 d0) (.slice A l.length c)
  have HEn := hide (h.below HB0.out)
  have r0 := HR0.out.cell (i := 0) rfl
  have r1 := HR0.out.cell (i := 1) rfl
  have r2 := HR0.out.cell (i := 2) rfl
  have r3 := HR0.out.cell (i := 3) rfl
  unfold AgP at HAG
  unfold NdP
  rw [List.length_map]
  generalize hgn : l.length = n at *
  have HGN := hide hgn
  clear h hes hgn
  go_enter Tryz.func9, Tryz.ntmps9
  go_wp2_with fail
  refine (HAG.out _ HEn.out).mono ?_
  rintro e w2 ⟨Ai, ci, rfl, hri, hb2⟩
  have HRI := hide hri
  have HR2 := hide (HR0.out.below hb2)
  have HE2 := hide (HEn.out.below hb2)
  have HB2 := hide (HB0.out.trans (hb2.mono HB0.out.size))
  have hs2 := hb2.size
  clear hb2 hri r0 r1 r2 r3 HEn
  go_wp2_with fail
  go_loopw [3, 10] (fun vs vi wr => ∃ k : Nat, k ≤ n ∧ vi = .int .i64 k ∧ ∃ Ao co, vs = .slice Ao k co ∧ Hid (wr.ownsRow w2.heap.size 53 5 (.slice Ao k co) k (((l.take k).map ndOf).flatMap Nd.vals)) ∧ Hid (Below w2.heap.size w2 wr)) (fun _ vi _ => n - (intOf vi).toNat)
  case atStart => exact ⟨0, by omega, rfl, none, 0, rfl, hide (World.ownsRow_nil _ _ _ _), hide (Below.refl _ _)⟩
  case round =>
    obtain ⟨k, hk, rfl, Ao, co, rfl, HO, HB⟩ := hrel
    by_cases hlt : k < n
    · obtain ⟨x, hx⟩ : ∃ x, l[k]? = some x := ⟨_, List.getElem?_eq_getElem (by rw [HGN.out]; exact hlt)⟩
      obtain ⟨gi, oi, rfl, hgi, hci⟩ := (HRI.out.below HB.out).at_ (k := k) (x := k) (by rw [List.getElem?_range hlt])
      have x0 : wr.cell? ⟨gi, oi + k, none⟩ = some (.int .i64 k) := by have := hci 0 _ rfl; rw [Nat.mul_one] at this; exact this
      obtain ⟨g, off, rfl, hg, hrg⟩ := en_range (HE2.out.below HB.out) hx
      have r3 := (HR2.out.below HB.out).cell (i := 3) rfl
      have HRG := hide hrg
      have HSZ := hide (en_sz x)
      have HRK : Hid (∀ w, Calls Tryz.prog 31 #[.agg x.vals.toArray] w fun e w' => e = .returned (.int .i64 (rankE x)) ∧ Below w.heap.size w w') := hide (fun w => rank_any x w)
      have HN0 : Hid (x.vals[0]? = some (.string (ndOf x).id)) := hide rfl
      have HN22 : Hid (x.vals[22]? = some (.bool (negB (ndOf x).amt))) := hide rfl
      have HN23 : Hid (x.vals[23]? = some (.string (bs (nm (ndOf x).amt)))) := hide rfl
      have HN24 : Hid (x.vals[24]? = some (.string (dstr (ndOf x).amt))) := hide rfl
      have HSN : Hid (((l.take (k + 1)).map ndOf).flatMap Nd.vals = ((l.take k).map ndOf).flatMap Nd.vals ++ (ndOf x).vals) := hide (by rw [TwE.take_snoc hx, List.map_append]; exact nds_snoc _ _)
      have HONE := hide (nd_one (ndOf x))
      have HON := hide (en_one x)
      have HLE : Hid (30 = x.vals.length) := hide (en_len x).symm
      have HND : Hid ((ndOf x).vals = [.string (ndOf x).id, .int .i64 (rankE x), .bool (negB (ndOf x).amt), .string (bs (nm (ndOf x).amt)), .string (dstr (ndOf x).amt)]) := hide rfl
      generalize x.vals = xs at *
      generalize rankE x = rk at *
      rw [HND.out] at HSN HONE
      generalize (ndOf x).id = id at *
      generalize (ndOf x).amt = ad at *
      clear hx hrg hci HND
      have hsw : w2.heap.size ≤ wr.heap.size := HB.out.size
      go_upto_region 6 with (first
        | (refine wpList_load_mid (op := ⟨some 18, _, _, _, _, _⟩) rfl 103 _ rfl g (off + k * 30) rfl xs _ HRG.out Tryz.underlying103 rfl HSZ.out ?_)
        | (refine wpList_store_blk (op := ⟨none, _, _, _, _, _⟩) rfl 103 _ _ rfl wr.heap.size xs rfl rfl (ez30 wr) HLE.out HSZ.out HON.out ?_
           intro V hV hK))
      have hal : Below wr.heap.size wr (wr.alloc (.cells #[.string ⟨#[]⟩, .int .i64 0, .int .i64 0, .string ⟨#[]⟩, .bool false, .string ⟨#[]⟩, .string ⟨#[]⟩, .int .i64 0, .int .i64 0, .bool false, .string ⟨#[]⟩, .string ⟨#[]⟩, .int .i64 0, .int .i64 0, .int .i64 0, .bool false, .bool false, .string ⟨#[]⟩, .string ⟨#[]⟩, .bool false, .string ⟨#[]⟩, .string ⟨#[]⟩, .bool false, .string ⟨#[]⟩, .string ⟨#[]⟩, .bool false, .string ⟨#[]⟩, .string ⟨#[]⟩, .int .i64 0, .int .i64 0] 103)) := (Below.refl _ _).alloc (Nat.le_refl _) _
      have hVB : Below wr.heap.size wr V := hal.trans (hK.below hal.size (by rintro k rfl; exact Nat.le_refl _))
      have HVB := hide hVB
      have HVE := hide hV
      have hVs : wr.heap.size < V.heap.size := hV.lt
      have HOV := hide (TqA.own_below HO.out hVB)
      have HVO : Hid (∀ j, (Value.slice Ao k co).ownBlock = some j → w2.heap.size ≤ j ∧ j < wr.heap.size) := hide HO.out.lt
      have hneE : ¬ (fun j => some j = (Value.slice Ao k co).ownBlock) wr.heap.size := fun e => by have := (HVO.out _ e.symm).2; omega
      have d0 := fun y => ks_kin (S := fun j => some j = (Value.slice Ao k co).ownBlock) HVE.out hneE HN0.out y
      have d22 := fun y => ks_kin (S := fun j => some j = (Value.slice Ao k co).ownBlock) HVE.out hneE HN22.out y
      have d23 := fun y => ks_kin (S := fun j => some j = (Value.slice Ao k co).ownBlock) HVE.out hneE HN23.out y
      have d24 := fun y => ks_kin (S := fun j => some j = (Value.slice Ao k co).ownBlock) HVE.out hneE HN24.out y
      have HRGV : Hid (∀ v : World, Cls (Ks (fun j => some j = (Value.slice Ao k co).ownBlock) V) v → v.rangeAt wr.heap.size 0 xs) := hide (by
        rintro v ⟨y, rfl⟩
        intro j u hu
        rw [Nat.zero_add]
        exact ks_kin (S := fun j => some j = (Value.slice Ao k co).ownBlock) HVE.out hneE hu y)
      have hI := ks_drawn (fun j => some j = (Value.slice Ao k co).ownBlock) V
      clear hal hVB hV hK HO HRG x0 r3 hneE
      refine Qmt.wp_region (C := Cls (Ks (fun j => some j = (Value.slice Ao k co).ownBlock) V)) (by kernel_rfl) (by kernel_rfl) ?_
      simp only [List.length_cons, List.length_nil]
      refine Qmt.takes [4, 0, 1, 2, 3, 6, 7] 5 _ _ _ (cls hI) (by kernel_rfl) ?_
      simp only [List.filterMap_cons, List.filterMap_nil, List.getElem?_toArray, List.getElem?_cons_zero, List.getElem?_cons_succ]
      change wpQuiet _ _ _ _ [_, _, _, _, _, _, _] _
      refine quiet_load rfl 103 _ rfl wr.heap.size 0 rfl xs _ HRGV.out Tryz.underlying103 rfl HSZ.out ?_
      simp only [Act.put, List.setIfInBounds_toArray, List.set_cons_succ, List.set_cons_zero]
      repeat (go_big_quiet_step (fail))
      refine wpQuiet_nil ?_
      clear d0 d22 d23 d24
      have HI6 := hide hI
      have HO6 : Hid (({ V with drawn := V.drawn + 1 } : World).ownsRow w2.heap.size 53 5 (.slice Ao k co) k (((l.take k).map ndOf).flatMap Nd.vals)) := HOV
      clear hI
      generalize ({ V with drawn := V.drawn + 1 } : World) = v6 at HI6 HO6 ⊢
      refine Qmt.fork [5] (cls HI6.out) (by kernel_rfl) (by simp) ⟨?_, trivial⟩
      refine Qmt.by_op rfl (by kernel_rfl) ?_
      go_wp2_with fail
      refine (HRK.out _).mono ?_
      rintro e v7 ⟨rfl, hb7⟩
      have HI7 := hide (HI6.out.trans (Ks.of_below hb7))
      have HO7 := hide (TqA.own_below HO6.out hb7)
      clear hb7
      go_wp2_with fail
      refine ⟨rfl, ?_⟩
      refine Qmt.takes [8] 3 _ _ _ (cls HI7.out) (by kernel_rfl) ?_
      simp only [List.filterMap_cons, List.filterMap_nil, List.getElem?_toArray, List.getElem?_cons_zero, List.getElem?_cons_succ]
      change wpQuiet _ _ _ _ [_] _
      repeat (go_big_quiet_step (fail))
      refine wpQuiet_nil ?_
      refine Qmt.fork [9] (cls HI7.out) (by kernel_rfl) (by simp) ⟨?_, trivial⟩
      refine Qmt.by_op rfl (by kernel_rfl) ?_
      obtain ⟨v8, hv8⟩ : ∃ v8, v7.alloc (.cells #[.string id, .int .i64 rk, .bool (negB ad), .string (bs (nm ad)), .string (dstr ad)] 53) = v8 := ⟨_, rfl⟩
      have hB8 : Below v7.heap.size v7 v8 := by rw [← hv8]; exact (Below.refl _ _).alloc (Nat.le_refl _) _
      have hrd : Reads v8 (v7.heap.size + 1) 5 (some ⟨v7.heap.size, 0, none⟩) 1 [.string id, .int .i64 rk, .bool (negB ad), .string (bs (nm ad)), .string (dstr ad)] := by rw [← hv8]; exact reads_one v7 [.string id, .int .i64 rk, .bool (negB ad), .string (bs (nm ad)), .string (dstr ad)] 53 rfl
      have HO8 := hide (TqA.own_below HO7.out hB8)
      have HI8 := hide (HI7.out.trans (Ks.of_below hB8))
      have hs8 : v7.heap.size < v8.heap.size := by rw [← hv8]; show v7.heap.size < (v7.alloc _).heap.size; simp
      have hs7 := HI7.out.size
      go_wp2_with fail
      refine ⟨rfl, ?_⟩
      clear hv8
      refine Qmt.fork [10] (cls HI8.out) (by kernel_rfl) (by simp) ⟨?_, trivial⟩
      refine Qmt.by_op rfl (by kernel_rfl) ?_
      refine wpList_append_any _ rfl (.tmp 19) (.tmp 28) 36 rfl w2.heap.size 53 i0 _ 5 64 Tryz.underlying36 hi hz0 hz1 hz2 rfl (by decide) _ _ _ rfl HO8.out (v7.heap.size + 1) _ 1 1 _ rfl hrd HONE.out ?c3 ?c4 ?c5 ?_
      case c3 => unfold maxLen; omega
      case c4 => omega
      case c5 => omega
      intro v9 w9 hown9 hg9 hob9
      obtain ⟨A6, c6, rfl⟩ := TqA.own_slice hown9
      have HI9 := hide (HI8.out.trans (Ks.of_grown hg9))
      have HO6 := hide hown9
      clear hown9 hg9 hob9 hrd
      go_wp2_with fail
      refine ⟨rfl, ?_⟩
      simp only [Act.put, List.getElem_toArray, List.getElem_cons_succ, List.getElem_cons_zero, List.setIfInBounds_toArray, List.set_cons_succ, List.set_cons_zero]
      refine Qmt.takes [11] 0 _ _ _ (cls HI9.out) (by kernel_rfl) ?_
      simp only [List.filterMap_cons, List.filterMap_nil, List.getElem?_toArray, List.getElem?_cons_zero, List.getElem?_cons_succ]
      change wpQuiet _ _ _ _ [_] _
      repeat (go_big_quiet_step (fail))
      refine wpQuiet_nil ?_
      refine Qmt.by_end (cls HI9.out) (by kernel_rfl) ?_
      have HB6 : Hid (Below w2.heap.size w2 w9) := hide ((HB.out.trans (HVB.out.mono hsw)).trans (HI9.out.below (by omega) (fun j hj => (HVO.out _ hj.symm).1)))
      go_wp2_with fail
      refine ⟨⟨k + 1, by omega, rfl, A6, c6, rfl, ?_, HB6⟩, by simp only [intOf]; omega⟩
      rw [HSN.out]
      exact HO6
    · have hkn : k = n := by omega
      subst hkn
      go_wp2_with fail
      go_ret
      refine ⟨Ao, co, rfl, ?_, HB2.out.trans (HB.out.mono HB2.out.size)⟩
      have h1 := HO.out
      rw [List.take_of_length_le (by rw [HGN.out]; omega)] at h1
      exact own_at nd_len (c := co) (by rw [List.length_map, HGN.out]; exact h1) (by rw [List.length_map, HGN.out]; unfold maxLen; omega)
end Go.Proofs.YtpbgmpjnfndfjaaGreatDoor.TrL
namespace Go.Proofs.YtpbgmpjnfndfjaaGreatDoor.TrM
open Go.RowKit Wd RnA RnB RnW RnQ RnR RnP RoA RoC RoL RtA RtB RtC RpB RpC RpE RpF RpG RpH RnY RpI RpJ RpK RpL PqB PfA PfB PfD PfE PfH PfO TqA TwA TwB TwC TwD TwE TwH TwI TwP TqB TwQ TrA TrB TrC TrD TrE TrF TrG TrH TrI TrJ TrK TrL
def zv (i : Int) : List Value := [.int .i64 i]
theorem zv_len (i : Int) : (zv i).length = 1 := rfl
theorem zs_snoc (l : List Int) (y : Int) : (l ++ [y]).flatMap zv = l.flatMap zv ++ [.int .i64 y] := by simp [zv]
theorem cm_one (x : Cm) : ∀ u ∈ x.vals, u.oneCell' = true := by
  intro u hu
  simp only [Cm.vals, List.mem_cons, List.mem_nil_iff, or_false] at hu
  rcases hu with rfl | rfl | rfl | rfl | rfl <;> rfl
theorem cms_snoc (l : List Cm) (y : Cm) : (l ++ [y]).flatMap Cm.vals = l.flatMap Cm.vals ++ y.vals := by simp
theorem cm_binfo : (Tryz.prog.info? 65).map (fun i => (i.zero, i.size, i.bytes)) = some (some (.agg #[.int .i64 0, .int .i64 0, .bool false, .string ByteArray.empty, .string ByteArray.empty]), 5, 56) := by kernel_rfl
def cmOf (x : Nd) : Cm := ⟨-1, x.rank, x.amt⟩
theorem prog_new (w : World) (a b : Value) : ∃ V, w.alloc (.cells #[a, b] 49) = V ∧ Hid (BlkT V w.heap.size 49 [a, b]) ∧ Hid (Below w.heap.size w V) ∧ w.heap.size < V.heap.size :=
  ⟨_, rfl, heap_alloc_new w _, (Below.refl _ _).alloc (Nat.le_refl _) _, by simp⟩
theorem nd_new (w : World) (a b c d e : Value) : ∃ V, w.alloc (.cells #[a, b, c, d, e] 53) = V ∧ Hid (BlkT V w.heap.size 53 [a, b, c, d, e]) ∧ Hid (Below w.heap.size w V) ∧ w.heap.size < V.heap.size :=
  ⟨_, rfl, heap_alloc_new w _, (Below.refl _ _).alloc (Nat.le_refl _) _, by simp⟩
theorem load2P {w : World} {k : Nat} {T : TypeId} {a b : Value} (h : BlkT w k T [a, b]) : (loadVar 49 ⟨k, 0, none⟩).run Tryz.prog w = .ok (.agg #[a, b]) w := by
  have a0 := h.cell (i := 0) rfl
  have a1 := h.cell (i := 1) rfl
  simp [loadVar, go_sem, a0, a1]
theorem results_prog {fn : Func} {p : Tmp} (h : fn.results = #[.cell p 49]) (tmps : Array Value) {w : World} {k : Nat} {T : TypeId} {a b : Value} (hp : tmps.getD p undef = .pointer (some ⟨k, 0, none⟩)) (hb : BlkT w k T [a, b]) :
    (results fn tmps).run Tryz.prog w = .ok (.agg #[a, b]) w := by
  have hp' : tmps[p]?.getD undef = .pointer (some ⟨k, 0, none⟩) := by simpa using hp
  simp [results, h, hp', asAddr, load2P hb]
def PgP (l : List Int) (w : World) (e : Ending) (w' : World) : Prop := ∃ A c, e = .returned (.agg #[.slice A l.length c, .slice none 0 0]) ∧ RowAt 1 zv w' A l ∧ Below w.heap.size w w'
set_option maxHeartbeats 8000000 in
set_option maxRecDepth 100000 in
theorem program_any {l : List Nd} (hl : l.length ≤ 64) {A : Option Addr} {c : Nat} (w : World) (h : RowAt 5 Nd.vals w A l) :
    Calls Tryz.prog 12 #[.slice A l.length c] w (PgP (l.map (·.rank)) w) := by
  obtain ⟨i0, hi, hz0, hz1, hz2⟩ := info_parts int_binfo
  obtain ⟨V0, hV0, HR0, HB0, hl0⟩ := prog_new w (.slice none 0 0) (.slice none 0 0)
  obtain ⟨V1, hV1, HP1, HB1, hl1⟩ := prog_new V0 (.slice none 0 0) (.slice none 0 0)
  have HR1 := hide (HR0.out.below HB1.out)
  have HBB := hide (HB0.out.trans (HB1.out.mono (by omega)))
  have HN := hide (RowAt.toB h)
  unfold PgP
  rw [List.length_map]
  generalize hgn : l.length = n at *
  have HGN := hide hgn
  have q0 := HP1.out.cell (i := 0) rfl
  have q1 := HP1.out.cell (i := 1) rfl
  have y0 := HP1.out.frozen 0
  have y1 := HP1.out.frozen 1
  clear h hgn HB1
  go_enter Tryz.func12, Tryz.ntmps12
  go_wp2_with fail
  clear q0 q1 y0 y1
  go_loopw [9] (fun vi wr => ∃ k : Nat, k ≤ n ∧ vi = .int .i64 k ∧ ∃ Ao co, Hid (BlkT wr V0.heap.size 49 [.slice Ao k co, .slice none 0 0]) ∧ Hid (BlkT wr w.heap.size 49 [.slice none 0 0, .slice none 0 0]) ∧ Hid (wr.ownsRow V1.heap.size 3 1 (.slice Ao k co) k (((l.take k).map (·.rank)).flatMap zv)) ∧ Hid (Below w.heap.size w wr) ∧ V1.heap.size ≤ wr.heap.size) (fun vi _ => n - (intOf vi).toNat)
  case atStart =>
    have hk := ((Ks.refl (fun k => k = V0.heap.size) V1).setCell (p := ⟨V0.heap.size, 0, none⟩) (.inl rfl) (.slice none 0 0)).setCell (p := ⟨V0.heap.size, 1, none⟩) (.inl rfl) (.slice none 0 0)
    exact ⟨0, by omega, rfl, none, 0, hide ((HP1.out.set 0 _).set 1 _), hide (hk.blk HR1.out (by show ¬ w.heap.size = V0.heap.size; omega)), hide (World.ownsRow_nil _ _ _ _), hide (HBB.out.trans (hk.below HBB.out.size (by rintro k rfl; omega))), hk.size⟩
  case round =>
    obtain ⟨k, hk, rfl, Ao, co, HP, HR, HO, HB, hs⟩ := hrel
    have p0 := HP.out.cell (i := 0) rfl
    have p1 := HP.out.cell (i := 1) rfl
    by_cases hlt : k < n
    · obtain ⟨x, hx⟩ : ∃ x, l[k]? = some x := ⟨_, List.getElem?_eq_getElem (by rw [HGN.out]; exact hlt)⟩
      obtain ⟨g, off, rfl, hg, hc⟩ := (HN.out.below HB.out).at_ hx
      have x0 : wr.cell? ⟨g, off + k * 5, none⟩ = _ := hc 0 _ rfl
      have x1 := hc 1 _ rfl
      have x2 := hc 2 _ rfl
      have x3 := hc 3 _ rfl
      have x4 := hc 4 _ rfl
      have HSN : Hid (((l.take (k + 1)).map (·.rank)).flatMap zv = ((l.take k).map (·.rank)).flatMap zv ++ [.int .i64 x.rank]) := hide (by rw [TwE.take_snoc hx, List.map_append]; exact zs_snoc _ _)
      obtain ⟨V, hV, HX, HBV, hsV⟩ := nd_new wr (.string x.id) (.int .i64 x.rank) (.bool (negB x.amt)) (.string (bs (nm x.amt))) (.string (dstr x.amt))
      obtain ⟨id, rk, am⟩ := x
      dsimp only at *
      have HPV := hide (HP.out.below HBV.out)
      have HRV := hide (HR.out.below HBV.out)
      have HOV := hide (TqA.own_below HO.out HBV.out)
      have HBW := hide (HB.out.trans (HBV.out.mono HB.out.size))
      have d1 := HX.out.cell (i := 1) rfl
      have q0 := HPV.out.cell (i := 0) rfl
      have hB2 : Below V.heap.size V (V.alloc (.cells #[.int .i64 rk] 3)) := (Below.refl _ _).alloc (Nat.le_refl _) _
      have hown := TqA.own_below HOV.out hB2
      have hrd : Reads (V.alloc (.cells #[.int .i64 rk] 3)) (V.heap.size + 1) 1 (some ⟨V.heap.size, 0, none⟩) 1 [.int .i64 rk] := reads_one V [.int .i64 rk] 3 rfl
      have hone : ∀ u ∈ [Value.int .i64 rk], u.oneCell' = true := by simp [Value.oneCell']
      have HP2 := hide (HPV.out.below hB2)
      have HR2 := hide (HRV.out.below hB2)
      have HBX := hide (HBW.out.trans (hB2.mono HBW.out.size))
      clear hx hc HB HO HP HR HOV HPV HRV HBV hB2
      go_wp2_with (at_builtin
                   refine wpList_append_any _ rfl (.tmp 14) (.tmp 17) 47 rfl V1.heap.size 3 i0 _ 1 8 Tryz.underlying47 hi hz0 hz1 hz2 rfl (by decide) _ _ _ rfl hown (V.heap.size + 1) _ 1 1 _ rfl hrd hone ?c3 ?c4 ?c5 ?_
                   case c3 => unfold maxLen; omega
                   case c4 => omega
                   case c5 => simp; omega
                   intro v1 w1 hown1 hg1 hob1
                   obtain ⟨A1, c1, rfl⟩ := TqA.own_slice hown1
                   have HK1 := hide (Ks.of_grown hg1)
                   have HP3 := hide (HK1.out.blk HP2.out (fun e => by have := (hown.lt _ e.symm).1; omega))
                   have HR3 := hide (HK1.out.blk HR2.out (fun e => by have := (hown.lt _ e.symm).1; omega))
                   have g0 := HP3.out.cell (i := 0) rfl
                   have f0 := HP3.out.frozen 0)
      have hk4 := (Ks.refl (fun k => k = V0.heap.size) w1).setCell (p := ⟨V0.heap.size, 0, none⟩) (.inl rfl) (.slice A1 (k + 1) c1)
      have hb3 : Below w.heap.size w w1 := HBX.out.trans (HK1.out.below HBX.out.size (fun j hj => by have := (hown.lt _ hj.symm).1; omega))
      have hs1 := HK1.out.size
      have hs2 : (V.alloc (.cells #[.int .i64 rk] 3)).heap.size = V.heap.size + 1 := by simp
      refine ⟨⟨k + 1, by omega, rfl, A1, c1, hide (HP3.out.set 0 _), hide (hk4.blk HR3.out (by show ¬ w.heap.size = V0.heap.size; omega)), ?_, hide (hb3.setCell (p := ⟨V0.heap.size, 0, none⟩) (by show _ ≤ V0.heap.size; omega) _), by have := hk4.size; omega⟩, by simp only [intOf]; omega⟩
      rw [HSN.out]
      exact hide (own_set hown1 (fun e => by have := (hown1.lt _ e).1; omega) 0 _)
    · have hkn : k = n := by omega
      subst hkn
      have r0 := HR.out.cell (i := 0) rfl
      have r1 := HR.out.cell (i := 1) rfl
      have y0 := HR.out.frozen 0
      have y1 := HR.out.frozen 1
      have HO5 := hide (own_set (own_set HO.out (T := w.heap.size) (fun e => by have := (HO.out.lt _ e).1; omega) 0 (.slice Ao k co)) (T := w.heap.size) (fun e => by have := (HO.out.lt _ e).1; omega) 1 (.slice none 0 0))
      go_wp2_with fail
      refine bodyPost_ret (results_prog rfl _ rfl ((HR.out.set 0 _).set 1 _)) rfl ?_
      refine ⟨Ao, co, rfl, ?_, (HB.out.setCell (p := ⟨w.heap.size, 0, none⟩) (Nat.le_refl _) _).setCell (p := ⟨w.heap.size, 1, none⟩) (Nat.le_refl _) _⟩
      have h1 := HO5.out
      rw [List.take_of_length_le (by rw [HGN.out]; omega)] at h1
      exact own_at zv_len (c := co) (by rw [List.length_map, HGN.out]; exact h1) (by rw [List.length_map, HGN.out]; unfold maxLen; omega)
theorem est_new (w : World) (a b c d e : Value) : ∃ V, w.alloc (.cells #[a, b, c, d, e] 45) = V ∧ Hid (BlkT V w.heap.size 45 [a, b, c, d, e]) ∧ Hid (Below w.heap.size w V) ∧ w.heap.size < V.heap.size :=
  ⟨_, rfl, heap_alloc_new w _, (Below.refl _ _).alloc (Nat.le_refl _) _, by simp⟩
theorem loadEs {w : World} {k : Nat} {T : TypeId} {a b c d e : Value} (h : BlkT w k T [a, b, c, d, e]) : (loadVar 45 ⟨k, 0, none⟩).run Tryz.prog w = .ok (.agg #[a, b, c, d, e]) w := by
  have a0 := h.cell (i := 0) rfl
  have a1 := h.cell (i := 1) rfl
  have a2 := h.cell (i := 2) rfl
  have a3 := h.cell (i := 3) rfl
  have a4 := h.cell (i := 4) rfl
  simp [loadVar, go_sem, a0, a1, a2, a3, a4]
theorem results_est {fn : Func} {p : Tmp} (h : fn.results = #[.cell p 45]) (tmps : Array Value) {w : World} {k : Nat} {T : TypeId} {a b c d e : Value} (hp : tmps.getD p undef = .pointer (some ⟨k, 0, none⟩)) (hb : BlkT w k T [a, b, c, d, e]) :
    (results fn tmps).run Tryz.prog w = .ok (.agg #[a, b, c, d, e]) w := by
  have hp' : tmps[p]?.getD undef = .pointer (some ⟨k, 0, none⟩) := by simpa using hp
  simp [results, h, hp', asAddr, loadEs hb]
def EstP (l : List Cm) (w : World) (e : Ending) (w' : World) : Prop := ∃ A c, e = .returned (.agg #[.bool false, .string ⟨#[]⟩, .string ⟨#[]⟩, .slice A l.length c, .slice none 0 0]) ∧ RowAt 5 Cm.vals w' A l ∧ Below w.heap.size w w'
set_option maxHeartbeats 8000000 in
set_option maxRecDepth 100000 in
theorem estate_any {l : List Nd} (hl : l.length ≤ 64) {A Ar : Option Addr} {c cr : Nat} (w : World) (h : RowAt 5 Nd.vals w A l) (hr : RowAt 1 zv w Ar (l.map (·.rank))) :
    Calls Tryz.prog 11 #[.slice A l.length c, .agg #[.slice Ar l.length cr, .slice none 0 0]] w (EstP (l.map cmOf) w) := by
  obtain ⟨i0, hi, hz0, hz1, hz2⟩ := info_parts cm_binfo
  obtain ⟨V0, hV0, HG0, HB0, hl0⟩ := prog_new w (.slice Ar l.length cr) (.slice none 0 0)
  obtain ⟨V1, hV1, HR1, HB1, hl1⟩ := est_new V0 (.bool false) (.string ⟨#[]⟩) (.string ⟨#[]⟩) (.slice none 0 0) (.slice none 0 0)
  obtain ⟨V2, hV2, HE2, HB2, hl2⟩ := est_new V1 (.bool false) (.string ⟨#[]⟩) (.string ⟨#[]⟩) (.slice none 0 0) (.slice none 0 0)
  have HR2 := hide (HR1.out.below HB2.out)
  have HG2 := hide ((HG0.out.below HB1.out).below HB2.out)
  have HBB := hide ((HB0.out.trans (HB1.out.mono (by omega))).trans (HB2.out.mono (by omega)))
  have HN := hide (RowAt.toB h)
  have HK := hide (RowAt.toB hr)
  unfold EstP
  rw [List.length_map]
  generalize hgn : l.length = n at *
  have HGN := hide hgn
  have q0 := HG2.out.cell (i := 1) rfl
  have q0' := (HG0.out.below HB1.out).cell (i := 1) rfl
  have HV2 := hide hV2
  have hl01 : w.heap.size < V1.heap.size := by omega
  clear h hr hgn HB1 HB2 hV2
  go_enter Tryz.func11, Tryz.ntmps11
  go_wp2_with fail
  rw [HV2.out]
  clear q0 q0'
  go_loopw [13] (fun vi wr => ∃ k : Nat, k ≤ n ∧ vi = .int .i64 k ∧ ∃ Ao co, Hid (BlkT wr V1.heap.size 45 [.bool false, .string ⟨#[]⟩, .string ⟨#[]⟩, .slice Ao k co, .slice none 0 0]) ∧ Hid (BlkT wr V0.heap.size 45 [.bool false, .string ⟨#[]⟩, .string ⟨#[]⟩, .slice none 0 0, .slice none 0 0]) ∧ Hid (BlkT wr w.heap.size 49 [.slice Ar n cr, .slice none 0 0]) ∧ Hid (wr.ownsRow V2.heap.size 65 5 (.slice Ao k co) k (((l.take k).map cmOf).flatMap Cm.vals)) ∧ Hid (Below w.heap.size w wr) ∧ V2.heap.size ≤ wr.heap.size) (fun vi _ => n - (intOf vi).toNat)
  case atStart =>
    exact ⟨0, by omega, rfl, none, 0, HE2, HR2, HG2, hide (World.ownsRow_nil _ _ _ _), HBB, Nat.le_refl _⟩
  case round =>
    obtain ⟨k, hk, rfl, Ao, co, HE, HR, HG, HO, HB, hs⟩ := hrel
    by_cases hlt : k < n
    · obtain ⟨x, hx⟩ : ∃ x, l[k]? = some x := ⟨_, List.getElem?_eq_getElem (by rw [HGN.out]; exact hlt)⟩
      obtain ⟨g, off, rfl, hg, hc⟩ := (HN.out.below HB.out).at_ hx
      obtain ⟨gr, ofr, rfl, hgr, hcr2⟩ := HK.out.at_ (k := k) (x := x.rank) (by rw [List.getElem?_map, hx]; rfl)
      have x0 : wr.cell? ⟨g, off + k * 5, none⟩ = _ := hc 0 _ rfl
      have x1 := hc 1 _ rfl
      have x2 := hc 2 _ rfl
      have x3 := hc 3 _ rfl
      have x4 := hc 4 _ rfl
      have HZ : Hid (w.cell? ⟨gr, ofr + k, none⟩ = some (.int .i64 x.rank)) := hide (by have := hcr2 0 _ rfl; rw [Nat.mul_one] at this; exact this)
      have HSN : Hid (((l.take (k + 1)).map cmOf).flatMap Cm.vals = ((l.take k).map cmOf).flatMap Cm.vals ++ (cmOf x).vals) := hide (by rw [TwE.take_snoc hx, List.map_append]; exact cms_snoc _ _)
      have HONE := hide (cm_one (cmOf x))
      obtain ⟨V, hV, HX, HBV, hsV⟩ := nd_new wr (.string x.id) (.int .i64 x.rank) (.bool (negB x.amt)) (.string (bs (nm x.amt))) (.string (dstr x.amt))
      obtain ⟨id, rk, am⟩ := x
      unfold cmOf Cm.vals at HONE
      dsimp only at *
      have HEV := hide (HE.out.below HBV.out)
      have HRV := hide (HR.out.below HBV.out)
      have HGV := hide (HG.out.below HBV.out)
      have HOV := hide (TqA.own_below HO.out HBV.out)
      have HBW := hide (HB.out.trans (HBV.out.mono HB.out.size))
      have HVO : Hid (∀ j, (Value.slice Ao k co).ownBlock = some j → V2.heap.size ≤ j ∧ j < wr.heap.size) := hide HO.out.lt
      have p0 := HGV.out.cell (i := 0) rfl
      have hneE : ¬ (fun j => some j = (Value.slice Ao k co).ownBlock) V1.heap.size := fun e => by have := (HVO.out _ e.symm).1; omega
      have hneG : ¬ (fun j => some j = (Value.slice Ao k co).ownBlock) w.heap.size := fun e => by have := (HVO.out _ e.symm).1; omega
      have hneN : ¬ (fun j => some j = (Value.slice Ao k co).ownBlock) wr.heap.size := fun e => by have := (HVO.out _ e.symm).2; omega
      have s3 := fun y => ks_kin (S := (fun j => some j = (Value.slice Ao k co).ownBlock)) (W := V) HEV.out hneE (i := 3) rfl y
      have g0 := fun y => ks_kin (S := (fun j => some j = (Value.slice Ao k co).ownBlock)) (W := V) HGV.out hneG (i := 0) rfl y
      have m2 := fun y => ks_kin (S := (fun j => some j = (Value.slice Ao k co).ownBlock)) (W := V) HX.out hneN (i := 2) rfl y
      have m3 := fun y => ks_kin (S := (fun j => some j = (Value.slice Ao k co).ownBlock)) (W := V) HX.out hneN (i := 3) rfl y
      have m4 := fun y => ks_kin (S := (fun j => some j = (Value.slice Ao k co).ownBlock)) (W := V) HX.out hneN (i := 4) rfl y
      have z0 : ∀ y : Qin.In (Ks (fun j => some j = (Value.slice Ao k co).ownBlock) V), y.val.cell? ⟨gr, ofr + k, none⟩ = some (.int .i64 rk) := fun y => ((HBW.out.trans (y.ok.below HBW.out.size (fun j hj => by have := (HVO.out _ hj.symm).1; omega))).cell (p := ⟨gr, ofr + k, none⟩) hgr).trans HZ.out
      have hI := ks_drawn (fun j => some j = (Value.slice Ao k co).ownBlock) V
      clear hx hc hcr2 HE HR HG HO HBV
      go_wp2_with fail
      refine Qmu.wp_region (C := Cls (Ks (fun j => some j = (Value.slice Ao k co).ownBlock) V)) 13 (by kernel_rfl) (by kernel_rfl) (by kernel_rfl) ?_
      simp only [List.length_cons, List.length_nil]
      refine Qmu.takes (s := 13) (cls hI) [0, 1, 2, 3, 4, 5, 6, 7, 8, 9] 4 _ _ _ (fun _ => cls hI) (by decide) (by kernel_rfl) ?_
      simp only [List.filterMap_cons, List.filterMap_nil, List.getElem?_toArray, List.getElem?_cons_zero, List.getElem?_cons_succ]
      change wpQuiet _ _ _ _ [_, _, _, _, _, _, _, _, _, _] _
      repeat (go_big_quiet_step (fail))
      refine wpQuiet_nil ?_
      clear s3 g0 m2 m3 m4 z0
      have HI6 := hide hI
      have HO6 : Hid (({ V with drawn := V.drawn + 1 } : World).ownsRow V2.heap.size 65 5 (.slice Ao k co) k (((l.take k).map cmOf).flatMap Cm.vals)) := HOV
      clear hI
      generalize ({ V with drawn := V.drawn + 1 } : World) = v6 at HI6 HO6 ⊢
      refine Qmu.fork [10] (fun _ => cls HI6.out) (by kernel_rfl) (by simp) ⟨?_, trivial⟩
      refine Qmu.by_op rfl (by kernel_rfl) ?_
      obtain ⟨v8, hv8⟩ : ∃ v8, v6.alloc (.cells #[.int .i64 (-1), .int .i64 rk, .bool (negB am), .string (bs (nm am)), .string (dstr am)] 65) = v8 := ⟨_, rfl⟩
      have hB8 : Below v6.heap.size v6 v8 := by rw [← hv8]; exact (Below.refl _ _).alloc (Nat.le_refl _) _
      have hrd : Reads v8 (v6.heap.size + 1) 5 (some ⟨v6.heap.size, 0, none⟩) 1 [.int .i64 (-1), .int .i64 rk, .bool (negB am), .string (bs (nm am)), .string (dstr am)] := by rw [← hv8]; exact reads_one v6 [.int .i64 (-1), .int .i64 rk, .bool (negB am), .string (bs (nm am)), .string (dstr am)] 65 rfl
      have HO8 := hide (TqA.own_below HO6.out hB8)
      have HI8 := hide (HI6.out.trans (Ks.of_below hB8))
      have hs8 : v6.heap.size < v8.heap.size := by rw [← hv8]; show v6.heap.size < (v6.alloc _).heap.size; simp
      have hs7 := HI6.out.size
      go_wp2_with fail
      refine ⟨rfl, ?_⟩
      clear hv8
      refine Qmu.fork [11] (fun _ => cls HI8.out) (by kernel_rfl) (by simp) ⟨?_, trivial⟩
      refine Qmu.by_op rfl (by kernel_rfl) ?_
      refine wpList_append_any _ rfl (.tmp 24) (.tmp 33) 42 rfl V2.heap.size 65 i0 _ 5 56 Tryz.underlying42 hi hz0 hz1 hz2 rfl (by decide) _ _ _ rfl HO8.out (v6.heap.size + 1) _ 1 1 _ rfl hrd HONE.out ?c3 ?c4 ?c5 ?_
      case c3 => unfold maxLen; omega
      case c4 => omega
      case c5 => omega
      intro v9 w9 hown9 hg9 hob9
      obtain ⟨A6, c6, rfl⟩ := TqA.own_slice hown9
      have HI9 := hide (HI8.out.trans (Ks.of_grown hg9))
      have HO9 := hide hown9
      clear hown9 hg9 hob9 hrd
      have HE9 := hide (HI9.out.blk HEV.out hneE)
      have HG9 := hide (HI9.out.blk HGV.out hneG)
      have HR9 := hide (HI9.out.blk HRV.out (fun e => by have := (HVO.out _ e.symm).1; omega))
      have HB9 : Hid (Below w.heap.size w w9) := hide (HBW.out.trans (HI9.out.below HBW.out.size (fun j hj => by have := (HVO.out _ hj.symm).1; omega)))
      have hs9 := HI9.out.size
      have f3 := HE9.out.frozen 3
      have c3 := HE9.out.cell (i := 3) rfl
      go_wp2_with fail
      refine ⟨rfl, ?_⟩
      simp only [Act.put, List.getElem_toArray, List.getElem_cons_succ, List.getElem_cons_zero, List.setIfInBounds_toArray, List.set_cons_succ, List.set_cons_zero]
      have hI9 := HI9.out
      refine Qmu.takes (s := 13) (cls hI9) [12] 1 _ _ _ (fun _ => cls hI9) (by decide) (by kernel_rfl) ?_
      simp only [List.filterMap_cons, List.filterMap_nil, List.getElem?_toArray, List.getElem?_cons_zero, List.getElem?_cons_succ]
      change wpQuiet _ _ _ _ [_] _
      repeat (go_big_quiet_step (fail))
      refine wpQuiet_nil ?_
      refine Qmu.fork [13] (fun _ => cls hI9) (by kernel_rfl) (by simp) ⟨?_, trivial⟩
      refine Qmu.by_op rfl (by kernel_rfl) ?_
      go_wp2_with fail
      refine ⟨rfl, ?_⟩
      refine Qmu.by_end (Qmu.past (by kernel_rfl)) (by kernel_rfl) ?_
      clear hI9
      go_wp2_with fail
      have hk7 := (Ks.refl (fun j => j = V1.heap.size) w9).setCell (p := ⟨V1.heap.size, 3, none⟩) (.inl rfl) (.slice A6 (k + 1) c6)
      refine ⟨⟨k + 1, by omega, rfl, A6, c6, hide (HE9.out.set 3 _), hide (hk7.blk HR9.out (by show ¬ V0.heap.size = V1.heap.size; omega)), hide (hk7.blk HG9.out (by show ¬ w.heap.size = V1.heap.size; omega)), ?_, hide (HB9.out.setCell (p := ⟨V1.heap.size, 3, none⟩) (by show _ ≤ V1.heap.size; omega) _), by have := hk7.size; omega⟩, by simp only [intOf]; omega⟩
      rw [HSN.out]
      exact hide (own_set HO9.out (fun e => by have := (HO9.out.lt _ e).1; omega) 3 _)
    · have hkn : k = n := by omega
      subst hkn
      have r0 := HR.out.cell (i := 0) rfl
      have r1 := HR.out.cell (i := 1) rfl
      have r2 := HR.out.cell (i := 2) rfl
      have r3 := HR.out.cell (i := 3) rfl
      have r4 := HR.out.cell (i := 4) rfl
      have y0 := HR.out.frozen 0
      have y1 := HR.out.frozen 1
      have y2 := HR.out.frozen 2
      have y3 := HR.out.frozen 3
      have y4 := HR.out.frozen 4
      have p0 := HE.out.cell (i := 0) rfl
      have p1 := HE.out.cell (i := 1) rfl
      have p2 := HE.out.cell (i := 2) rfl
      have p3 := HE.out.cell (i := 3) rfl
      have p4 := HE.out.cell (i := 4) rfl
      have hne0 : (Value.slice Ao k co).ownBlock ≠ some V0.heap.size := fun e => by have := (HO.out.lt _ e).1; omega
      have HO5 := hide (own_set (own_set (own_set (own_set (own_set HO.out hne0 0 (.bool false)) hne0 1 (.string ⟨#[]⟩)) hne0 2 (.string ⟨#[]⟩)) hne0 3 (.slice Ao k co)) hne0 4 (.slice none 0 0))
      have hw0 : w.heap.size ≤ V0.heap.size := by omega
      clear hne0
      go_wp2_with fail
      refine bodyPost_ret (results_est rfl _ rfl (((((HR.out.set 0 _).set 1 _).set 2 _).set 3 _).set 4 _)) rfl ?_
      refine ⟨Ao, co, rfl, ?_, ((((HB.out.setCell (p := ⟨V0.heap.size, 0, none⟩) hw0 _).setCell (p := ⟨V0.heap.size, 1, none⟩) hw0 _).setCell (p := ⟨V0.heap.size, 2, none⟩) hw0 _).setCell (p := ⟨V0.heap.size, 3, none⟩) hw0 _).setCell (p := ⟨V0.heap.size, 4, none⟩) hw0 _⟩
      have h1 := HO5.out
      rw [List.take_of_length_le (by rw [HGN.out]; omega)] at h1
      exact own_at cm_len (c := co) (by rw [List.length_map, HGN.out]; exact h1) (by rw [List.length_map, HGN.out]; unfold maxLen; omega)
end Go.Proofs.YtpbgmpjnfndfjaaGreatDoor.TrM
