/- 'few' of documents; the walks of the laws ProofCheck and ProofFormat. -/
import Derived.Test.YtghbhchkdomfhaaGreatDoorPgK
import Derived.Test.YtghbhchkdomfhaaGreatDoorPgO
namespace Go.Proofs.YtghbhchkdomfhaaGreatDoor.PgL
open Go.RowKit Wd RoL RnQ RnR RnP RpE RnW RtA RpF RpH PqB PfS PfB PfA PfD PfE PfH PfI PfN PfO PfQ PfU PgC PgG PgH PgJ PgK PgO
theorem ret_bool {a b : Bool} (h : a = b) : Ending.returned (.bool a) = Ending.returned (.bool b) := by rw [h]
/-- short enough for a law -/
def fewB (a d : ByteArray) : Bool := decide (a.size ≤ 24) && decide (d.size ≤ 24)
set_option maxHeartbeats 2000000 in
set_option maxRecDepth 100000 in
theorem few0_any (n : Bool) (a d : ByteArray) (w : World) (h1 : a.size ≤ maxLen) (h2 : d.size ≤ maxLen) :
    Calls Tryz.prog 30 #[.agg #[.bool n, .string a, .string d]] w fun e w' => e = .returned (.bool (fewB a d)) ∧ Below w.heap.size w w' := by
  unfold maxLen at h1 h2
  obtain ⟨V0, hV0, HX0, hc0, hl0⟩ := box_new w (.bool n) (.string a) (.string d)
  obtain ⟨c0, c1, c2, f0, f1, f2⟩ := HX0.out
  have hr : Hid (fewB a d = (decide (a.size ≤ 24) && decide (d.size ≤ 24))) := rfl
  by_cases ha : a.size ≤ 24
  · have hr2 : Hid (fewB a d = decide (d.size ≤ 24)) := by show _ = _; rw [hr.out, decide_eq_true ha]; rfl
    go_enter Tryz.func30, Tryz.ntmps30
    go_wp2_with fail
    go_ret
    exact ⟨ret_bool (by first | (rw [hr2.out]; exact decide_eq_decide.2 (by omega)) | rw [hr2.out]), hc0⟩
  · have hr2 : Hid (fewB a d = false) := by show _ = _; rw [hr.out, decide_eq_false ha]; rfl
    go_enter Tryz.func30, Tryz.ntmps30
    go_wp2_with fail
    go_ret
    exact ⟨ret_bool (by first | (rw [hr2.out]; exact decide_eq_decide.2 (by omega)) | rw [hr2.out]), hc0⟩
/-- a document that is short enough for a law -/
structure Fw (x : Dc) : Prop where
  num : x.num.size ≤ 24
  den : x.den.size ≤ 24
  rnum : x.rnum.size ≤ 24
  rden : x.rden.size ≤ 24
  id : x.id.size ≤ 60
  code : x.code.size ≤ 20
theorem Fw.wr {x : Dc} (h : Fw x) (k : DocIn x) : Wr x :=
  ⟨by have := h.id; omega, by have := h.code; omega, by have := h.num; omega, by have := h.den; omega, by have := h.rnum; omega, by have := h.rden; omega, k.est.1, k.est.2, k.cred.1, k.cred.2, k.inc.1, k.inc.2, k.rank.1, k.rank.2, k.rfrom.1, k.rfrom.2, k.sec.1, k.sec.2⟩
theorem few_iff {a d : ByteArray} (h : fewB a d = true) : a.size ≤ 24 ∧ d.size ≤ 24 := by simpa [fewB] using h
/-- what few leaves -/
def FewP (l : List Dc) (w : World) (e : Ending) (w' : World) : Prop := ∃ b, e = .returned (.bool b) ∧ (b = true → l.length ≤ 6 ∧ ∀ x ∈ l, Fw x) ∧ Below w.heap.size w w'
theorem few_no {l : List Dc} {w w' : World} (hb : Below w.heap.size w w') : FewP l w (.returned (.bool false)) w' := ⟨false, rfl, fun h => Bool.noConfusion h, hb⟩
set_option maxHeartbeats 8000000 in
set_option maxRecDepth 100000 in
theorem few_any (l : List Dc) (A : Option Addr) (c : Nat) (w : World) (h : DocsAt w A l) (hi : ∀ x ∈ l, DocIn x) :
    Calls Tryz.prog 14 #[.slice A l.length c] w (FewP l w) := by
  have hlen := h.1
  unfold maxLen at hlen
  have H := hide h
  have HI := Lib.hid hi
  clear h hi
  by_cases h6 : 6 < l.length
  · go_enter Tryz.func14, Tryz.ntmps14
    go_wp2_with fail
    go_ret
    exact few_no (Below.refl _ _)
  · go_enter Tryz.func14, Tryz.ntmps14
    go_wp2_with fail
    go_loopw [10, 4] (fun vi _ wr => ∃ (k : Nat), k ≤ l.length ∧ vi = .int .i64 k ∧ Hid (∀ x ∈ l.take k, Fw x) ∧ Hid (Below w.heap.size w wr)) (fun vi _ _ => l.length - (intOf vi).toNat)
    case atStart => exact ⟨0, by omega, rfl, fun x hx => by simp at hx, Below.refl _ _⟩
    case round =>
      obtain ⟨k, hk, rfl, HA, HBR⟩ := hrel
      by_cases hlt : k < l.length
      · obtain ⟨x, hx⟩ : ∃ r, l[k]? = some r := ⟨_, List.getElem?_eq_getElem hlt⟩
        have hin := HI.out x (List.mem_of_getElem? hx)
        obtain ⟨b1, o1, rfl, hb1, p0, p1, p2, p3, p4, p5, p6, p7, p8, p9, p10, p11, p12, p13⟩ := (H.out.below HBR.out).full hx
        obtain ⟨V, hV, HX, HBV, hsV⟩ := doc_new wr x
        have F1 := Lib.hid (fun w => few0_any x.neg x.num x.den w hin.num hin.den)
        have F2 := Lib.hid (fun w => few0_any x.rneg x.rnum x.rden w hin.rnum hin.rden)
        have i1 := hin.id
        have i2 := hin.code
        unfold maxLen at i1 i2
        have HXX := hide hx
        have HBT := hide (HBR.out.trans (HBV.out.mono HBR.out.size))
        obtain ⟨a0, a1, a2, a3, a4, a5, a6, a7, a8, a9, a10, a11, a12, a13⟩ := doc_at HX.out
        clear hx hin
        obtain ⟨q1, hq1⟩ : ∃ q, fewB x.num x.den = q := ⟨_, rfl⟩
        obtain ⟨q2, hq2⟩ : ∃ q, fewB x.rnum x.rden = q := ⟨_, rfl⟩
        rw [hq1] at F1
        rw [hq2] at F2
        have HQ1 := hide hq1
        have HQ2 := hide hq2
        clear hq1 hq2
        cases q1
        · go_wp2_with fail
          refine (F1.out _).mono ?_
          rintro e w3 ⟨rfl, hb3⟩
          have HB3 := hide (HBT.out.trans (hb3.mono HBT.out.size))
          clear hb3
          go_wp2_with fail
          go_ret
          exact few_no HB3.out
        · go_wp2_with fail
          refine (F1.out _).mono ?_
          rintro e w3 ⟨rfl, hb3⟩
          have HB3 := hide (HBT.out.trans (hb3.mono HBT.out.size))
          have HX3 := hide (HX.out.below hb3)
          clear hb3 a0 a1 a2 a3 a4 a5 a6 a7 a8 a9 a10 a11 a12 a13
          obtain ⟨a0, a1, a2, a3, a4, a5, a6, a7, a8, a9, a10, a11, a12, a13⟩ := doc_at HX3.out
          cases q2
          · go_wp2_with fail
            refine (F2.out _).mono ?_
            rintro e w4 ⟨rfl, hb4⟩
            have HB4 := hide (HB3.out.trans (hb4.mono HB3.out.size))
            clear hb4
            go_wp2_with fail
            go_ret
            exact few_no HB4.out
          · go_wp2_with fail
            refine (F2.out _).mono ?_
            rintro e w4 ⟨rfl, hb4⟩
            have HB4 := hide (HB3.out.trans (hb4.mono HB3.out.size))
            have HX4 := hide (HX3.out.below hb4)
            clear hb4 a0 a1 a2 a3 a4 a5 a6 a7 a8 a9 a10 a11 a12 a13
            obtain ⟨a0, a1, a2, a3, a4, a5, a6, a7, a8, a9, a10, a11, a12, a13⟩ := doc_at HX4.out
            by_cases z1 : 60 < x.id.size
            · go_wp2_with fail
              go_ret
              exact few_no HB4.out
            · by_cases z2 : 20 < x.code.size
              · go_wp2_with fail
                go_ret
                exact few_no HB4.out
              · have HN : Hid (∀ y ∈ l.take (k + 1), Fw y) := fun y hy => by
                  rw [take_snoc HXX.out] at hy
                  rcases List.mem_append.1 hy with hy | hy
                  · exact HA.out y hy
                  · rw [List.mem_singleton.1 hy]
                    exact ⟨(few_iff HQ1.out).1, (few_iff HQ1.out).2, (few_iff HQ2.out).1, (few_iff HQ2.out).2, by omega, by omega⟩
                go_wp2_with fail
                go_roundw
                case rel => exact ⟨k + 1, by omega, by go_num, HN, HB4⟩
                case measure => simp [intOf]; omega
      · obtain rfl : k = l.length := by omega
        have hal := HA.out
        rw [List.take_length] at hal
        have HAL := Lib.hid hal
        clear hal HA
        go_wp2_with fail
        go_ret
        exact ⟨true, rfl, fun _ => ⟨by omega, HAL.out⟩, HBR.out⟩
set_option maxHeartbeats 8000000 in
set_option maxRecDepth 100000 in
theorem format_law (l : List Dc) (A : Option Addr) (c : Nat) (w : World) (h : DocsAt w A l ∧ l.length ≤ c) (hi : ∀ x ∈ l, DocIn x) (he : EnvT w) :
    Calls Tryz.prog 6 #[.slice A l.length c] w fun e w' => e = .returned (.bool true) ∧ Below w.heap.size w w' := by
  have HAW := Lib.hid (fun w (h : EnvT w) => awake_docs w h)
  have HFW := Lib.hid (few_any l A c w h.1 hi)
  have HH := hide h.1
  have HCP := hide h.2
  have HI := Lib.hid hi
  have HE := hide he
  clear h hi he
  go_enter Tryz.func6, Tryz.ntmps6
  go_wp2_with fail
  refine HFW.out.mono ?_
  rintro e w1 ⟨b, rfl, hb, hb1⟩
  have HB1 := hide hb1
  have HE1 := hide (HE.out.below hb1)
  have HH1 := hide (HH.out.below hb1)
  have HBT := Lib.hid hb
  clear hb hb1
  cases b
  · go_wp2_with fail
    refine (HAW.out _ HE1.out).mono ?_
    rintro e w3 ⟨rfl, hb3⟩
    have HB3 := hide (HB1.out.trans (hb3.mono HB1.out.size))
    go_wp2_with fail
    go_ret
    exact ⟨rfl, HB3.out⟩
  · obtain ⟨_, hfw⟩ := HBT.out rfl
    have hwr : ∀ x ∈ l, Wr x := fun x hx => (hfw x hx).wr (HI.out x hx)
    have P1 := hide (format_docs l A c w1 HH1.out hwr HE1.out)
    have R1 := Lib.hid (fun w' (h : DocsAt w' A l) => rformat_docs l A c w' h HCP.out hwr)
    generalize fmtD l = p at *
    obtain ⟨S, er⟩ := p
    unfold FmtP at P1 R1
    dsimp only at P1 R1
    generalize st S = T at *
    have hT : (T.toList == T.toList) = true := by simp
    clear hfw hwr
    go_wp2_with fail
    refine P1.out.mono ?_
    rintro e w5 ⟨rfl, hb5⟩
    have HE5 := hide (HE1.out.below hb5)
    have HH5 := hide (HH1.out.below hb5)
    have HB5 := hide (HB1.out.trans (hb5.mono HB1.out.size))
    clear hb5 P1
    go_wp2_with fail
    refine (R1.out _ HH5.out).mono ?_
    rintro e w6 ⟨rfl, hb6⟩
    have HE6 := hide (HE5.out.below hb6)
    have HB6 := hide (HB5.out.trans (hb6.mono HB5.out.size))
    clear hb6 R1
    go_wp2_with fail
    refine (HAW.out _ HE6.out).mono ?_
    rintro e w7 ⟨rfl, hb7⟩
    have HB7 := hide (HB6.out.trans (hb7.mono HB6.out.size))
    clear hb7
    go_wp2_with fail
    go_ret
    exact ⟨rfl, HB7.out⟩
set_option maxHeartbeats 8000000 in
set_option maxRecDepth 100000 in
theorem check_law (x : Dc) (w : World) (hi : DocIn x) (he : EnvT w) :
    Calls Tryz.prog 4 #[x.agg] w fun e w' => e = .returned (.bool true) ∧ Below w.heap.size w w' := by
  have HAW := Lib.hid (fun w (h : EnvT w) => awake_docs w h)
  obtain ⟨V, hV, HX, HBV, hsV⟩ := doc_new w x
  obtain ⟨U, hU, HU, HBU, hsU⟩ := doc_new V x
  obtain ⟨a0, a1, a2, a3, a4, a5, a6, a7, a8, a9, a10, a11, a12, a13⟩ := doc_at HX.out
  have hVs : V.heap.size = w.heap.size + 1 := by rw [← hV]; simp
  have HDU : Hid (DocsAt U (some ⟨V.heap.size, 0, none⟩) [x]) := ⟨by show 1 ≤ maxLen; unfold maxLen; omega, fun _ => ⟨V.heap.size, 0, rfl, hsU, fun k y hk j v hv => by
    have hk0 : k = 0 := by have := (List.getElem?_eq_some_iff.1 hk).1; simp at this; omega
    subst hk0
    simp only [List.getElem?_cons_zero, Option.some.injEq] at hk
    subst hk
    have := HU.out.cell hv
    simpa using this⟩⟩
  have HFW := Lib.hid (few_any [x] (some ⟨V.heap.size, 0, none⟩) 1 U HDU.out (fun y hy => by rw [List.mem_singleton.1 hy]; exact hi))
  change Hid (Calls _ _ #[.slice (some ⟨V.heap.size, 0, none⟩) 1 1] U _) at HFW
  rw [hVs] at HFW
  have HBU2 := hide (HBV.out.trans (HBU.out.mono HBV.out.size))
  have HEU := hide (he.below HBU2.out)
  have HXU := hide (HX.out.below HBU.out)
  have HI := hide hi
  clear hi he hsV hsU
  unfold PfA.Dc.agg
  go_enter Tryz.func4, Tryz.ntmps4
  go_wp2_with fail
  refine HFW.out.mono ?_
  rintro e w1 ⟨b, rfl, hb, hb1⟩
  have HB1 := hide (HBU2.out.trans (hb1.mono HBU2.out.size))
  have HE1 := hide (HEU.out.below hb1)
  have HX1 := hide (HXU.out.below hb1)
  have HBT := Lib.hid hb
  clear hb hb1 a0 a1 a2 a3 a4 a5 a6 a7 a8 a9 a10 a11 a12 a13
  cases b
  · go_wp2_with fail
    refine (HAW.out _ HE1.out).mono ?_
    rintro e w3 ⟨rfl, hb3⟩
    have HB3 := hide (HB1.out.trans (hb3.mono HB1.out.size))
    go_wp2_with fail
    go_ret
    exact ⟨rfl, HB3.out⟩
  · have hwr : Wr x := (((HBT.out rfl).2) x (by simp)).wr HI.out
    have hl1 := HX1.out.lt
    obtain ⟨a0, a1, a2, a3, a4, a5, a6, a7, a8, a9, a10, a11, a12, a13⟩ := doc_at HX1.out
    have m0 := at_in (p := ⟨w.heap.size, 0, none⟩) hl1 a0
    have m1 := at_in (p := ⟨w.heap.size, 0 + 1, none⟩) hl1 a1
    have m2 := at_in (p := ⟨w.heap.size, 0 + 2, none⟩) hl1 a2
    have m3 := at_in (p := ⟨w.heap.size, 0 + 3, none⟩) hl1 a3
    have m4 := at_in (p := ⟨w.heap.size, 0 + 4, none⟩) hl1 a4
    have m5 := at_in (p := ⟨w.heap.size, 0 + 5, none⟩) hl1 a5
    have m6 := at_in (p := ⟨w.heap.size, 0 + 6, none⟩) hl1 a6
    have m7 := at_in (p := ⟨w.heap.size, 0 + 7, none⟩) hl1 a7
    have m8 := at_in (p := ⟨w.heap.size, 0 + 8, none⟩) hl1 a8
    have m9 := at_in (p := ⟨w.heap.size, 0 + 9, none⟩) hl1 a9
    have m10 := at_in (p := ⟨w.heap.size, 0 + 10, none⟩) hl1 a10
    have m11 := at_in (p := ⟨w.heap.size, 0 + 11, none⟩) hl1 a11
    have m12 := at_in (p := ⟨w.heap.size, 0 + 12, none⟩) hl1 a12
    have m13 := at_in (p := ⟨w.heap.size, 0 + 13, none⟩) hl1 a13
    obtain ⟨cd, hcd⟩ : ∃ cd, checkD x = cd := ⟨_, rfl⟩
    have G1 := Lib.hid (fun v : Qin.In (Below w1.heap.size w1) => Qin.call ((HAW.out v.val (HE1.out.below v.ok)).mono fun e w' ⟨h1, h2⟩ => ⟨h1, v.ok.trans (h2.mono v.ok.size)⟩))
    have G2 := Lib.hid (fun v : Qin.In (Below w1.heap.size w1) => Qin.call ((check_any x v.val (Wr.ok hwr)).mono fun e w' ⟨h1, h2⟩ => ⟨h1, v.ok.trans (h2.mono v.ok.size)⟩))
    have G3 := Lib.hid (fun v : Qin.In (Below w1.heap.size w1) => Qin.call ((rcheck_any x v.val (Wr.ok hwr)).mono fun e w' ⟨h1, h2⟩ => ⟨h1, v.ok.trans (h2.mono v.ok.size)⟩))
    rw [hcd] at G2 G3
    unfold PfA.Dc.agg at G2 G3
    have hcc : ((cd : Int) == cd) = true := by simp
    clear a0 a1 a2 a3 a4 a5 a6 a7 a8 a9 a10 a11 a12 a13 hwr hcd
    go_wp2_with fail
    refine Qin.region (I := Below w1.heap.size w1) (Qin.start _ w1) (by kernel_rfl) (by kernel_rfl) ?_
    repeat (go_big_quiet_step (first | (go_at_call 11; with_reducible exact G1.out _) | (go_at_call 15; with_reducible exact G2.out _) | (go_at_call 16; with_reducible exact G3.out _)))
    refine wpQuiet_nil ?_
    intro v
    go_wp2_with fail
    go_ret
    exact ⟨rfl, HB1.out.trans (v.ok.mono HB1.out.size)⟩
end Go.Proofs.YtghbhchkdomfhaaGreatDoor.PgL
