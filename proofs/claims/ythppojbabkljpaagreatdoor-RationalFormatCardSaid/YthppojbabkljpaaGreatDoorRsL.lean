/- RtD, RsY, RsW, in one text. -/
import Derived.Test.YthppojbabkljpaaGreatDoorRsK
namespace Go.Proofs.YthppojbabkljpaaGreatDoor.RtD
open Go.RowKit RnA RnB RnS RnC RnK RnM RnL RnN RnD RnE RnQ RnR RnP RnW RnX RoA RoB RoC RoD RoE RoF RoG RoH RoI RoJ RoK RoL RoM RoN PnA PnB PnC PnD PnE PnF PnG PnH PnI PnJ PnK PnL RtA RtB RtC RpA RpB RpC RpD RpE RpF RpG RpH
set_option maxHeartbeats 2000000 in
set_option maxRecDepth 100000 in
theorem rformat_any (n : Bool) (a d : ByteArray) (w : World) (ha : a.size ≤ 50000) (hd : d.size ≤ 50000) :
    Calls Tryz.prog 21 #[.agg #[.bool n, .string a, .string d]] w (SPost (st (formatQ (fixQ n a.data.toList d.data.toList))) w) := by
  have HC := Lib.hid (fun w => rfix_any n a d w (by omega) (by omega))
  obtain ⟨hs1, hs2⟩ := fix_size (n := n) (a := a) (d := d)
  generalize fixQ n a.data.toList d.data.toList = q at *
  rw [enc_open] at HC
  have HF1 := Lib.hid (fun w => rnatformat_any (bs (nm q)) w (by omega))
  rw [nv_bs] at HF1
  have hr := hide (fmt_eq q)
  have hT1 := dec_size (nm q)
  by_cases hd1 : q.den = 1
  · rw [if_pos hd1] at hr
    have hds := dstr_one hd1
    rw [st_nil_right] at hr
    have hT : (st (decOf (nm q))).size ≤ 150001 := by omega
    generalize st (formatQ q) = R at *
    generalize st (decOf (nm q)) = T1 at *
    generalize dstr q = D at *
    generalize bs (nm q) = A at *
    subst hds
    clear hd1 hs1 hs2 hT1
    cases hn : negB q
    all_goals
      rw [hn] at HC hr
      go_enter Tryz.func21, Tryz.ntmps21
      go_wp2_with fail
      refine (HC.out _).mono ?_
      rintro e w1 ⟨rfl, hb1⟩
      obtain ⟨hbx, hbw, hbl⟩ := boxed hb1
      have HBX1 := hide hbx
      obtain ⟨c0, c1, c2, f0, f1, f2⟩ := hbx
      go_wp2_with fail
      refine (HF1.out _).mono ?_
      rintro e w2 ⟨rfl, hb2⟩
      have HBX2 := hide ((HBX1.out.set3 _ _ _).keep hb2 (by rw [set3_size]; exact hbl))
      obtain ⟨d0, d1, d2, _⟩ := HBX2.out
      have hbf := (below_set3 hbw (Nat.le_refl _) _ _ _).trans (hb2.mono (by rw [set3_size]; exact Nat.le_of_lt hbl))
      clear c0 c1 c2 f0 f1 f2 hb1 hb2
      go_wp2_with fail
      go_ret
      refine ⟨?_, hbf⟩
      rw [hr.out]
      first | (rw [if_pos (by trivial)]; rfl) | (rw [if_neg (by simp), st_nil_left]; rfl)
  · rw [if_neg hd1] at hr
    have hds := dstr_big hd1
    have hsd := den_size q
    have HF2 := Lib.hid (fun w => rnatformat_any (bs q.den) w (by omega))
    rw [nv_bs] at HF2
    have hdp := bytes_ne_nil q.den_nz
    rw [hds] at HC
    have hT2 := dec_size q.den
    have hT : (st (decOf (nm q))).size ≤ 150001 := by omega
    have hT' : (st (decOf q.den)).size ≤ 200001 := by omega
    generalize st (formatQ q) = R at *
    generalize st (decOf (nm q)) = T1 at *
    generalize st (decOf q.den) = T2 at *
    generalize bs q.den = D at *
    generalize bs (nm q) = A at *
    obtain ⟨e1, e2⟩ := str_ne hdp
    clear hd1 hs1 hs2 hds hsd hT1 hT2
    cases hn : negB q
    all_goals
      rw [hn] at HC hr
      go_enter Tryz.func21, Tryz.ntmps21
      go_wp2_with fail
      refine (HC.out _).mono ?_
      rintro e w1 ⟨rfl, hb1⟩
      obtain ⟨hbx, hbw, hbl⟩ := boxed hb1
      have HBX1 := hide hbx
      obtain ⟨c0, c1, c2, f0, f1, f2⟩ := hbx
      go_wp2_with fail
      refine (HF1.out _).mono ?_
      rintro e w2 ⟨rfl, hb2⟩
      have HBX2 := hide ((HBX1.out.set3 _ _ _).keep hb2 (by rw [set3_size]; exact hbl))
      obtain ⟨d0, d1, d2, _⟩ := HBX2.out
      have hbf := (below_set3 hbw (Nat.le_refl _) _ _ _).trans (hb2.mono (by rw [set3_size]; exact Nat.le_of_lt hbl))
      clear c0 c1 c2 f0 f1 f2 hb1 hb2
      go_wp2_with fail
      refine (HF2.out _).mono ?_
      rintro e w3 ⟨rfl, hb3⟩
      have hbf2 := hbf.trans (hb3.mono hbf.size)
      clear d0 d1 d2
      go_wp2_with fail
      go_ret
      refine ⟨?_, hbf2⟩
      rw [hr.out]
      first | (rw [if_pos (by trivial)]; exact ret_str ((bapp_assoc (st [45] ++ T1) (st [47]) T2).trans (bapp_assoc (st [45]) T1 (st [47] ++ T2)))) | (rw [if_neg (by simp), st_nil_left]; exact ret_str (bapp_assoc T1 (st [47]) T2))
end Go.Proofs.YthppojbabkljpaaGreatDoor.RtD
namespace Go.Proofs.YthppojbabkljpaaGreatDoor.RsY
open Go.RowKit Go.ChangeShapes Go.WideShapes Go.ChangeAt Go.Deep RnW RtA RpF RpH RsX
section
variable {H : Type} {enc : TypeId × Value → H} {W : World} {base : Nat}
set_option maxRecDepth 100000 in
theorem rat_one : oneCellFields Tryz.prog (Tryz.prog.fieldsOf 24) = true := by kernel_rfl
theorem rat_size : (Tryz.prog.fieldsOf 24).size = 3 := by kernel_rfl
theorem rat_cells : Tryz.prog.cellsOf 24 = 3 := by kernel_rfl
set_option maxRecDepth 100000 in
theorem rat_f0 : ∃ f, (Tryz.prog.fieldsOf 24)[0]? = some f ∧ f.type = 4 := Option.map_eq_some_iff.1 (show ((Tryz.prog.fieldsOf 24)[0]?).map (·.type) = some 4 by kernel_rfl)
set_option maxRecDepth 100000 in
theorem rat_f1 : ∃ f, (Tryz.prog.fieldsOf 24)[1]? = some f ∧ f.type = 9 := Option.map_eq_some_iff.1 (show ((Tryz.prog.fieldsOf 24)[1]?).map (·.type) = some 9 by kernel_rfl)
set_option maxRecDepth 100000 in
theorem rat_f2 : ∃ f, (Tryz.prog.fieldsOf 24)[2]? = some f ∧ f.type = 9 := Option.map_eq_some_iff.1 (show ((Tryz.prog.fieldsOf 24)[2]?).map (·.type) = some 9 by kernel_rfl)
set_option maxRecDepth 100000 in
theorem und_str : Tryz.prog.underlying 9 = some .string := by kernel_rfl
set_option maxRecDepth 100000 in
theorem und_bool : Tryz.prog.underlying 4 = some .bool := by kernel_rfl
set_option maxRecDepth 100000 in
theorem open_rat {v : Value} {d : DataW H} {p : List MemPlace} (hv : Value.okWide Tryz.prog W .any base 24 v) (h : DataW.Trod enc Tryz.prog W 0 (fun _ => true) true 24 v d p) :
    ∃ (n : Bool) (a e : ByteArray), v = .agg #[.bool n, .string a, .string e] ∧ a.size ≤ maxLen ∧ e.size ≤ maxLen := by
  obtain ⟨cs, rfl, hsz⟩ := okWide_struct rat_und hv
  obtain ⟨l⟩ := cs
  match l, hsz.trans rat_cells with
  | [v0, v1, v2], _ =>
    obtain ⟨fuel, hf⟩ := h
    obtain ⟨xs, n, _, _, _, hlen, hg⟩ := DataW.trod_struct rat_und hf
    rw [rat_size] at hlen
    have cell : ∀ (j : Nat) (f : Field) (u : Value), (Tryz.prog.fieldsOf 24)[j]? = some f → [v0, v1, v2][j]? = some u → ∃ m x, DataW.trod enc Tryz.prog W 0 (fun _ => true) true m f.type [u] = some x := by
      intro j f u hj hju
      obtain ⟨o, k⟩ := hone_of rat_one j f hj
      have h1 := hg j f hj
      rw [o, k] at h1
      have hjl : j < 3 := by
        have := (List.getElem?_eq_some_iff.1 hju).1
        simpa using this
      have hone : ((Value.agg #[v0, v1, v2]).cells.toList.drop j).take 1 = [u] := by
        rcases (by omega : j = 0 ∨ j = 1 ∨ j = 2) with rfl | rfl | rfl <;> (simp at hju; subst hju; simp [Value.cells])
      rw [hone, List.getElem?_eq_getElem (by omega)] at h1
      exact ⟨_, _, h1⟩
    obtain ⟨f0, a0, b0⟩ := rat_f0
    obtain ⟨f1, a1, b1⟩ := rat_f1
    obtain ⟨f2, a2, b2⟩ := rat_f2
    obtain ⟨m0, x0, e0⟩ := cell 0 f0 v0 a0 rfl
    obtain ⟨m1, x1, e1⟩ := cell 1 f1 v1 a1 rfl
    obtain ⟨m2, x2, e2⟩ := cell 2 f2 v2 a2 rfl
    rw [b0] at e0
    rw [b1] at e1
    rw [b2] at e2
    obtain ⟨b, hb, _⟩ := DataW.trod_bool und_bool e0
    obtain ⟨s, hs, _, hs2⟩ := DataW.trod_string und_str e1
    obtain ⟨t, ht, _, ht2⟩ := DataW.trod_string und_str e2
    have hb' : v0 = .bool b := by simpa using hb
    have hs' : v1 = .string s := by simpa using hs
    have ht' : v2 = .string t := by simpa using ht
    subst hb' hs' ht'
    exact ⟨b, s, t, rfl, hs2, ht2⟩
end
/-- short enough for a law -/
def fewB (a d : ByteArray) : Bool := decide (a.size ≤ 24) && decide (d.size ≤ 24)
set_option maxHeartbeats 2000000 in
set_option maxRecDepth 100000 in
theorem few0_any (n : Bool) (a d : ByteArray) (w : World) (h1 : a.size ≤ maxLen) (h2 : d.size ≤ maxLen) :
    Calls Tryz.prog 90 #[.agg #[.bool n, .string a, .string d]] w fun e w' => e = .returned (.bool (fewB a d)) ∧ Below w.heap.size w w' := by
  unfold maxLen at h1 h2
  obtain ⟨V0, hV0, HX0, hc0, hl0⟩ := box_new w (.bool n) (.string a) (.string d)
  obtain ⟨c0, c1, c2, f0, f1, f2⟩ := HX0.out
  have hr : Hid (fewB a d = (decide (a.size ≤ 24) && decide (d.size ≤ 24))) := rfl
  by_cases ha : a.size ≤ 24
  · have hr2 : Hid (fewB a d = decide (d.size ≤ 24)) := by show _ = _; rw [hr.out, decide_eq_true ha]; rfl
    go_enter Tryz.func90, Tryz.ntmps90
    go_wp2_with fail
    go_ret
    exact ⟨ret_bool (by first | (rw [hr2.out]; exact decide_eq_decide.2 (by omega)) | rw [hr2.out]), hc0⟩
  · have hr2 : Hid (fewB a d = false) := by show _ = _; rw [hr.out, decide_eq_false ha]; rfl
    go_enter Tryz.func90, Tryz.ntmps90
    go_wp2_with fail
    go_ret
    exact ⟨ret_bool (by first | (rw [hr2.out]; exact decide_eq_decide.2 (by omega)) | rw [hr2.out]), hc0⟩
end Go.Proofs.YthppojbabkljpaaGreatDoor.RsY
namespace Go.Proofs.YthppojbabkljpaaGreatDoor.RsW
open Go.RowKit RnA RnW RtA RtB RpF RpH RsX RsY
/-- a number as it came: sign, numerator, denominator -/
abbrev Raw := Bool × ByteArray × ByteArray
/-- a list of numbers in memory -/
def RatsAt (w : World) (B : Nat) (A : Option Addr) (l : List Raw) : Prop :=
  l.length ≤ maxLen ∧ (0 < l.length → ∃ b off, A = some ⟨b, off, none⟩ ∧ b < B ∧ ∀ (k : Nat) (n : Bool) (a d : ByteArray), l[k]? = some (n, a, d) →
    a.size ≤ maxLen ∧ d.size ≤ maxLen ∧ w.cell? ⟨b, off + k * 3, none⟩ = some (.bool n) ∧ w.cell? ⟨b, off + k * 3 + 1, none⟩ = some (.string a) ∧ w.cell? ⟨b, off + k * 3 + 2, none⟩ = some (.string d))
theorem RatsAt.below {w w' : World} {B : Nat} {A : Option Addr} {l : List Raw} (h : RatsAt w B A l) (hb : Below B w w') : RatsAt w' B A l :=
  ⟨h.1, fun hp => by
    obtain ⟨b, off, e, hlt, hc⟩ := h.2 hp
    refine ⟨b, off, e, hlt, fun k n a d hk => ?_⟩
    obtain ⟨q1, q2, q3, q4, q5⟩ := hc k n a d hk
    exact ⟨q1, q2, (hb.cell (p := ⟨b, off + k * 3, none⟩) hlt).trans q3, (hb.cell (p := ⟨b, off + k * 3 + 1, none⟩) hlt).trans q4, (hb.cell (p := ⟨b, off + k * 3 + 2, none⟩) hlt).trans q5⟩⟩
/-- all are short enough -/
def fewL (l : List Raw) : Bool := l.all fun r => fewB r.2.1 r.2.2
theorem fewL_cons (r : Raw) (l : List Raw) : fewL (r :: l) = (fewB r.2.1 r.2.2 && fewL l) := by simp [fewL]
theorem drop_at {α : Type} {l : List α} {k : Nat} {x : α} (h : l[k]? = some x) : l.drop k = x :: l.drop (k + 1) := by
  obtain ⟨h1, h2⟩ := List.getElem?_eq_some_iff.1 h
  rw [List.drop_eq_getElem_cons h1, h2]
set_option maxHeartbeats 2000000 in
set_option maxRecDepth 100000 in
theorem fewrats_any (l : List Raw) (m : Nat) (A : Option Addr) (c : Nat) (w : World) (h : RatsAt w w.heap.size A l) (hm : m ≤ 100) :
    Calls Tryz.prog 33 #[.slice A l.length c, .int .i64 (m : Int)] w fun e w' => e = .returned (.bool (decide (l.length ≤ m) && fewL l)) ∧ Below w.heap.size w w' := by
  have hlen := h.1
  unfold maxLen at hlen
  have H := hide h
  clear h
  by_cases hgt : m < l.length
  · have hr : Hid ((decide (l.length ≤ m) && fewL l) = false) := by show _ = _; rw [decide_eq_false (by omega)]; rfl
    go_enter Tryz.func33, Tryz.ntmps33
    go_wp2_with fail
    go_ret
    exact ⟨by rw [hr.out]; rfl, Below.refl _ _⟩
  · have hr : Hid ((decide (l.length ≤ m) && fewL l) = fewL l) := by show _ = _; rw [decide_eq_true (by omega)]; rfl
    go_enter Tryz.func33, Tryz.ntmps33
    go_wp2_with fail
    go_loopw [13] (fun vi wr => ∃ (k : Nat), k ≤ l.length ∧ vi = .int .i64 k ∧ Hid (fewL l = fewL (l.drop k)) ∧ Below w.heap.size w wr) (fun vi _ => l.length - (intOf vi).toNat)
    case atStart => exact ⟨0, by omega, rfl, rfl, Below.refl _ _⟩
    case round =>
      obtain ⟨k, hk, rfl, HB, hbr⟩ := hrel
      by_cases hlt : k < l.length
      · obtain ⟨⟨n, a, d⟩, hx⟩ : ∃ r, l[k]? = some r := ⟨_, List.getElem?_eq_getElem hlt⟩
        obtain ⟨b, off, rfl, hbw, hc⟩ := (H.out.below hbr).2 (by omega)
        obtain ⟨q1, q2, c0, c1, c2⟩ := hc k n a d hx
        have hd := hide (drop_at hx)
        have HF := Lib.hid (fun w => few0_any n a d w q1 q2)
        obtain ⟨V, hV, HX, hcv, hlv⟩ := box_new wr (.bool n) (.string a) (.string d)
        have HV := hide hV
        obtain ⟨d0, d1, d2, _⟩ := HX.out
        have hbv := hbr.trans (hcv.mono hbr.size)
        clear hx hc q1 q2
        cases hf : fewB a d
        · rw [hf] at HF
          go_wp2_with fail
          refine (HF.out _).mono ?_
          rintro e w2 ⟨rfl, hb2⟩
          go_wp2_with fail
          go_ret
          exact ⟨ret_bool (by rw [hr.out, HB.out, hd.out, fewL_cons, hf]; rfl), hbv.trans (hb2.mono hbv.size)⟩
        · rw [hf] at HF
          go_wp2_with fail
          refine (HF.out _).mono ?_
          rintro e w2 ⟨rfl, hb2⟩
          have hbf := hbv.trans (hb2.mono hbv.size)
          go_wp2_with fail
          go_roundw
          case rel => exact ⟨k + 1, by omega, by go_num, by show _ = _; rw [HB.out, hd.out, fewL_cons, hf]; rfl, hbf⟩
          case measure => simp [intOf]; omega
      · go_wp2_with fail
        go_ret
        exact ⟨ret_bool (by rw [hr.out, HB.out, List.drop_eq_nil_of_le (by omega)]; rfl), hbr⟩
set_option maxHeartbeats 2000000 in
set_option maxRecDepth 100000 in
theorem few_any (l : List Raw) (A : Option Addr) (c : Nat) (w : World) (h : RatsAt w w.heap.size A l) :
    Calls Tryz.prog 19 #[.slice A l.length c] w fun e w' => e = .returned (.bool (decide (l.length ≤ 8) && fewL l)) ∧ Below w.heap.size w w' := by
  have HF := hide (fewrats_any l 8 A c w h (by decide))
  have hlen := h.1
  unfold maxLen at hlen
  generalize (decide (l.length ≤ 8) && fewL l) = b at *
  clear h
  generalize l.length = n at *
  go_enter Tryz.func19, Tryz.ntmps19
  go_wp2_with fail
  refine HF.out.mono ?_
  rintro e w2 ⟨rfl, hb2⟩
  go_wp2_with fail
  go_ret
  exact ⟨rfl, hb2⟩
end Go.Proofs.YthppojbabkljpaaGreatDoor.RsW
