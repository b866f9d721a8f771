/- The walk of the law ParserFormat. -/
import Derived.Test.YtnbdckfnohagbaaGreatDoorPqU
import Derived.Test.YtnbdckfnohagbaaGreatDoorPqR
namespace Go.Proofs.YtnbdckfnohagbaaGreatDoor.PqV
open Go.RowKit Lx LxD Wd RnW PqA PqB PqC PqD PqG PqM PqN PqR PqS PqT PqU NmA RtA RpF RpH RoL
/-- short enough for a law -/
def fewB (a d : ByteArray) : Bool := decide (a.size ≤ 24) && decide (d.size ≤ 24)
set_option maxHeartbeats 2000000 in
set_option maxRecDepth 100000 in
theorem few0_any (n : Bool) (a d : ByteArray) (w : World) (h1 : a.size ≤ maxLen) (h2 : d.size ≤ maxLen) :
    Calls Tryz.prog 28 #[.agg #[.bool n, .string a, .string d]] w fun e w' => e = .returned (.bool (fewB a d)) ∧ Below w.heap.size w w' := by
  unfold maxLen at h1 h2
  obtain ⟨V0, hV0, HX0, hc0, hl0⟩ := box_new w (.bool n) (.string a) (.string d)
  obtain ⟨c0, c1, c2, f0, f1, f2⟩ := HX0.out
  have hr : Hid (fewB a d = (decide (a.size ≤ 24) && decide (d.size ≤ 24))) := rfl
  by_cases ha : a.size ≤ 24
  · have hr2 : Hid (fewB a d = decide (d.size ≤ 24)) := by show _ = _; rw [hr.out, decide_eq_true ha]; rfl
    go_enter Tryz.func28, Tryz.ntmps28
    go_wp2_with fail
    go_ret
    exact ⟨ret_bool (by first | (rw [hr2.out]; exact decide_eq_decide.2 (by omega)) | rw [hr2.out]), hc0⟩
  · have hr2 : Hid (fewB a d = false) := by show _ = _; rw [hr.out, decide_eq_false ha]; rfl
    go_enter Tryz.func28, Tryz.ntmps28
    go_wp2_with fail
    go_ret
    exact ⟨ret_bool (by first | (rw [hr2.out]; exact decide_eq_decide.2 (by omega)) | rw [hr2.out]), hc0⟩
def fewC (x : Cl) : Bool := decide (x.list.length ≤ 40) && (decide (x.name.size ≤ 50) && (decide (x.other.size ≤ 50) && fewB x.num x.den))
def fewL (l : List Cl) : Bool := decide (l.length ≤ 8) && l.all fewC
theorem fewC_parts {x : Cl} (h : fewC x = true) : x.name.size ≤ 50 ∧ x.other.size ≤ 50 ∧ x.num.size ≤ 24 ∧ x.den.size ≤ 24 := by
  unfold fewC fewB at h
  simp only [Bool.and_eq_true, decide_eq_true_eq] at h
  exact ⟨h.2.1, h.2.2.1, h.2.2.2.1, h.2.2.2.2⟩
theorem fewL_no {l : List Cl} {k : Nat} {x : Cl} (h : l[k]? = some x) (hx : fewC x = false) : fewL l = false := by
  unfold fewL
  rw [show l.all fewC = false from List.all_eq_false.2 ⟨x, List.mem_of_getElem? h, by rw [hx]; exact Bool.false_ne_true⟩, Bool.and_false]
theorem few_snoc {l : List Cl} {k : Nat} {x : Cl} (h : l[k]? = some x) (ha : (l.take k).all fewC = true) (hx : fewC x = true) : (l.take (k + 1)).all fewC = true := by
  rw [take_snoc h, List.all_append, ha]; simp [hx]
set_option maxHeartbeats 4000000 in
set_option maxRecDepth 100000 in
theorem few_any (l : List Cl) (A : Option Addr) (c : Nat) (w : World) (h : ClsAt w A l) (hin : ∀ x ∈ l, ClIn x) :
    Calls Tryz.prog 14 #[.slice A l.length c] w fun e w' => e = .returned (.bool (fewL l)) ∧ Below w.heap.size w w' := by
  have hlen := h.1
  unfold maxLen at hlen
  have H := hide h
  have HI := Lib.hid hin
  clear h hin
  by_cases hbig : 8 < l.length
  · have hout := hide (show fewL l = false by unfold fewL; rw [decide_eq_false (by omega)]; rfl)
    go_enter Tryz.func14, Tryz.ntmps14
    go_wp2_with fail
    go_ret
    exact ⟨ret_bool hout.out.symm, Below.refl _ _⟩
  · have hb' : l.length ≤ 8 := by omega
    have HFE := Lib.hid (show l.all fewC = true → fewL l = true from fun h => by unfold fewL; rw [h, decide_eq_true hb']; rfl)
    clear hbig
    go_enter Tryz.func14, Tryz.ntmps14
    go_wp2_with fail
    go_loopw [10] (fun vi wr => ∃ k : Nat, k ≤ l.length ∧ vi = .int .i64 k ∧ Hid ((l.take k).all fewC = true) ∧ Hid (Below w.heap.size w wr)) (fun vi _ => l.length - (intOf vi).toNat)
    case atStart => exact ⟨0, by omega, rfl, rfl, Below.refl _ _⟩
    case round =>
      obtain ⟨k, hk, rfl, HAL, HBR⟩ := hrel
      by_cases hlt : k < l.length
      · obtain ⟨x, hx⟩ : ∃ r, l[k]? = some r := ⟨_, List.getElem?_eq_getElem hlt⟩
        have hix := HI.out x (List.mem_of_getElem? hx)
        obtain ⟨b1, o1, A1, c1, rfl, hb1, p0, p1, p2, p3, p4, p5, p6, p7, hS1⟩ := ClsAt.at (H.out.below HBR.out) hx
        obtain ⟨V, hV, HX, HBV, hlV⟩ := new8 wr (.int .i64 x.kind) (.string x.name) (.string x.other) (.slice A1 x.list.length c1) (.bool x.neg) (.string x.num) (.string x.den) (.int .i64 x.off) 45
        have HBW := hide (HBR.out.trans (HBV.out.mono HBR.out.size))
        obtain ⟨d0, d1, d2, d3, d4, d5, d6, d7⟩ := cells8 HX.out
        have HFW := Lib.hid (fun w' => few0_any x.neg x.num x.den w' hix.num hix.den)
        have HNO := Lib.hid (fun (h0 : fewC x = false) => fewL_no hx h0)
        have HYS := Lib.hid (fun (h0 : fewC x = true) => few_snoc hx HAL.out h0)
        have hl1 := hix.len
        have hl2 := hix.name
        have hl3 := hix.other
        unfold maxLen at hl1 hl2 hl3
        clear hx hS1 hix hlV
        by_cases q1 : x.list.length ≤ 40
        · by_cases q2 : x.name.size ≤ 50
          · by_cases q3 : x.other.size ≤ 50
            · have hfc : fewC x = fewB x.num x.den := by unfold fewC; rw [decide_eq_true q1, decide_eq_true q2, decide_eq_true q3]; rfl
              rw [hfc] at HNO HYS
              clear hfc
              cases hfb : fewB x.num x.den
              · rw [hfb] at HNO HFW
                have HN := hide (HNO.out rfl)
                clear HNO HYS hfb
                go_wp2_with fail
                refine (HFW.out _).mono ?_
                rintro e w3 ⟨rfl, hb3⟩
                go_wp2_with fail
                go_ret
                exact ⟨ret_bool HN.out.symm, HBW.out.trans (hb3.mono HBW.out.size)⟩
              · rw [hfb] at HYS HFW
                have HY := hide (HYS.out rfl)
                clear HNO HYS hfb
                go_wp2_with fail
                refine (HFW.out _).mono ?_
                rintro e w3 ⟨rfl, hb3⟩
                go_wp2_with fail
                go_roundw
                case rel => exact ⟨k + 1, by omega, by go_num, HY.out, HBW.out.trans (hb3.mono HBW.out.size)⟩
                case measure => simp [intOf]; omega
            · have HN := hide (HNO.out (by unfold fewC; rw [decide_eq_false q3]; simp))
              clear HNO HYS HFW
              go_wp2_with fail
              go_ret
              exact ⟨ret_bool HN.out.symm, HBW.out⟩
          · have HN := hide (HNO.out (by unfold fewC; rw [decide_eq_false q2]; simp))
            clear HNO HYS HFW
            go_wp2_with fail
            go_ret
            exact ⟨ret_bool HN.out.symm, HBW.out⟩
        · have HN := hide (HNO.out (by unfold fewC; rw [decide_eq_false q1]; simp))
          clear HNO HYS HFW
          go_wp2_with fail
          go_ret
          exact ⟨ret_bool HN.out.symm, HBW.out⟩
      · have hkl : l.take k = l := List.take_of_length_le (by omega)
        have hA := HAL.out
        rw [hkl] at hA
        have HR := hide (HFE.out hA)
        clear hA hkl HFE
        go_wp2_with fail
        go_ret
        exact ⟨ret_bool HR.out.symm, HBR.out⟩
theorem few_fit {l : List Cl} (h : fewL l = true) (hin : ∀ x ∈ l, ClIn x) : ∀ x ∈ l, Fit x := fun x hx => by
  unfold fewL at h
  rw [Bool.and_eq_true] at h
  obtain ⟨_, _, h3, h4⟩ := fewC_parts (List.all_eq_true.1 h.2 x hx)
  have hi := hin x hx
  exact ⟨hi.name, hi.other, hi.list, by omega, by omega⟩
set_option maxHeartbeats 8000000 in
set_option maxRecDepth 100000 in
theorem format_law (l : List Cl) (A : Option Addr) (c : Nat) (w : World) (h : ClsAt w A l) (hin : ∀ x ∈ l, ClIn x) (he : Env w) :
    Calls Tryz.prog 5 #[.slice A l.length c] w fun e w' => e = .returned (.bool true) ∧ Below w.heap.size w w' := by
  have HAW := Lib.hid (fun w (h : Env w) => awake_cl w h)
  have HFW := Lib.hid (few_any l A c w h hin)
  have HE := hide he
  cases hfl : fewL l
  · rw [hfl] at HFW
    clear hfl h hin he
    go_enter Tryz.func5, Tryz.ntmps5
    go_wp2_with fail
    refine HFW.out.mono ?_
    rintro e w1 ⟨rfl, hb1⟩
    have HE1 := hide (HE.out.below hb1)
    have HB1 := hide hb1
    clear hb1
    go_wp2_with fail
    refine (HAW.out _ HE1.out).mono ?_
    rintro e w2 ⟨rfl, hb2⟩
    go_wp2_with fail
    go_ret
    exact ⟨rfl, HB1.out.trans (hb2.mono HB1.out.size)⟩
  · rw [hfl] at HFW
    have HF := Lib.hid (few_fit hfl hin)
    have H := hide h
    clear hfl h hin he
    have HP := Lib.hid (fun w' (hb : Below w.heap.size w w') => format_cl l A c w' (H.out.below hb) HF.out)
    have HR := Lib.hid (fun w' (hb : Below w.heap.size w w') => rformat_cl l A c w' (H.out.below hb) HF.out)
    generalize fmtOf l = p at *
    obtain ⟨s, er⟩ := p
    unfold FmtP at HP HR
    dsimp only at HP HR
    generalize st s = S at *
    go_enter Tryz.func5, Tryz.ntmps5
    go_wp2_with fail
    refine HFW.out.mono ?_
    rintro e w1 ⟨rfl, hb1⟩
    have HB1 := hide hb1
    clear hb1
    go_wp2_with fail
    refine (HP.out _ HB1.out).mono ?_
    rintro e w2 ⟨rfl, hb2⟩
    have HB2 := hide (HB1.out.trans (hb2.mono HB1.out.size))
    clear hb2
    go_wp2_with fail
    refine (HR.out _ HB2.out).mono ?_
    rintro e w3 ⟨rfl, hb3⟩
    have HB3 := hide (HB2.out.trans (hb3.mono HB2.out.size))
    have HE3 := hide (HE.out.below HB3.out)
    clear hb3
    go_wp2_with fail
    refine (HAW.out _ HE3.out).mono ?_
    rintro e w4 ⟨rfl, hb4⟩
    have HB4 := hide (HB3.out.trans (hb4.mono HB3.out.size))
    clear hb4
    go_wp2_with fail
    go_ret
    exact ⟨rfl, HB4.out⟩
end Go.Proofs.YtnbdckfnohagbaaGreatDoor.PqV
