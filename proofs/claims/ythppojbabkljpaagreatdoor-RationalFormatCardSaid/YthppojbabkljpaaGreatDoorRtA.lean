/- Rational numbers as values; the walks of the reference's Valid and Fix. -/
import Derived.Test.YthppojbabkljpaaGreatDoorPnJ
import Derived.Laws.ResultCell
namespace Go.Proofs.YthppojbabkljpaaGreatDoor.RtA
open Go.RowKit RnA RnB RnS RnC RnK RnM RnL RnN RnD RnE RnQ RnR RnP RnW RnX RoA RoB RoC RoD RoE RoF RoG RoH RoI RoJ RoK RoL RoM RoN PnA PnB PnC PnD PnE PnG PnH PnI PnJ
/-- the string of the denominator -/
def dstr (q : Rat) : ByteArray := st (encD q)
/-- the value of a rational number -/
def enc (q : Rat) : Value := .agg #[.bool (negB q), .string (bs (nm q)), .string (dstr q)]
theorem bs_inj {s : ByteArray} {n : Nat} : s = bs n ↔ s.data.toList = bytesOf n := ⟨fun h => by rw [h]; rfl, fun h => ext_bytes h⟩
theorem quiet_rnorm (s t : ByteArray) (W : World) (q : Nat) (hs : s.size ≤ 9223372036854775807) (ht : bs (nv s) = t) :
    Calls Tryz.prog 118 #[.string s] (W.drewN q) fun e w'' => e = .returned (.string t) ∧ ∃ n, w'' = W.drewN n :=
  (normalize_any s _ hs).mono fun _ _ ⟨h1, h2⟩ => ⟨by rw [h1, ht], q, h2.symm⟩
theorem tl (s : ByteArray) : s.toList = s.data.toList := Lib.toList_data s
theorem eqb_true {s t : ByteArray} (h : (s.toList == t.toList) = true) : s = t := by
  rw [tl, tl] at h
  exact ext_bytes (by simpa using h)
theorem eqb_false {s t : ByteArray} (h : (s.toList == t.toList) = false) : s.data.toList ≠ t.data.toList := by
  rw [tl, tl] at h
  simpa using h
theorem vb1 {n : Bool} {a d : List UInt8} (h : a ≠ bytesOf (bval a)) : validB n a d = false := by unfold validB; simp [h]
theorem vb2 {n : Bool} {a d : List UInt8} (h : d ≠ bytesOf (bval d)) : validB n a d = false := by unfold validB; simp [h]
theorem vb3 {n : Bool} {a d : List UInt8} (h : d = [1]) : validB n a d = false := by
  unfold validB
  subst h
  by_cases ha : a = []
  · simp [ha]
  · simp [ha]
theorem vb4 {n : Bool} {a d : List UInt8} (h1 : a = bytesOf (bval a)) (h2 : d = bytesOf (bval d)) (h3 : a = []) : validB n a d = (!n && decide (d = [])) := by
  unfold validB
  rw [decide_eq_true h1, decide_eq_true h2, if_pos h3]; simp
theorem vb5 {n : Bool} {a d : List UInt8} (h1 : a = bytesOf (bval a)) (h2 : d = bytesOf (bval d)) (h3 : a ≠ []) (h4 : d ≠ [1]) : validB n a d = (decide (d = []) || decide ((bval a).gcd (bval d) = 1)) := by
  unfold validB
  rw [decide_eq_true h1, decide_eq_true h2, if_neg h3]
  simp [h4]
set_option maxHeartbeats 1000000 in
set_option maxRecDepth 100000 in
theorem rvalid_any (n : Bool) (a d : ByteArray) (w : World) (ha : a.size ≤ 100000) (hd : d.size ≤ 100000) :
    Calls Tryz.prog 75 #[.agg #[.bool n, .string a, .string d]] w fun e w' => e = .returned (.bool (validB n a.data.toList d.data.toList)) ∧ Below w.heap.size w w' := by
  obtain ⟨ta, hta⟩ : ∃ t, bs (nv a) = t := ⟨_, rfl⟩
  obtain ⟨td, htd⟩ : ∃ t, bs (nv d) = t := ⟨_, rfl⟩
  have HTA := Lib.hid hta
  have HTD := Lib.hid htd
  have HQA := Lib.hid (fun W q => quiet_rnorm a ta W q (by omega) hta)
  have HQD := Lib.hid (fun W q => quiet_rnorm d td W q (by omega) htd)
  clear hta htd
  cases hb1 : (ta.toList == a.toList)
  · have hr : Hid (validB n a.data.toList d.data.toList = false) := vb1 (fun e => eqb_false hb1 (by rw [← HTA.out, e]; simp [bs, nv]))
    go_enter Tryz.func75, Tryz.ntmps75
    go_wp2_with fail
    go_quiet ((go_at_call 118; with_reducible exact HQA.out _ _))
    go_wp2_with fail
    go_ret
    exact ⟨ret_bool hr.out.symm, below_drewN ((Below.refl _ _).alloc (Nat.le_refl _) _) _⟩
  · obtain rfl := eqb_true hb1
    cases hb2 : (td.toList == d.toList)
    · have hr : Hid (validB n ta.data.toList d.data.toList = false) := vb2 (fun e => eqb_false hb2 (by rw [← HTD.out, e]; simp [bs, nv]))
      go_enter Tryz.func75, Tryz.ntmps75
      go_wp2_with fail
      go_quiet ((go_at_call 118; first | (with_reducible exact HQA.out _ _) | (with_reducible exact HQD.out _ _)))
      go_wp2_with fail
      go_ret
      exact ⟨ret_bool hr.out.symm, below_drewN ((Below.refl _ _).alloc (Nat.le_refl _) _) _⟩
    · obtain rfl := eqb_true hb2
      cases hb3 : (td.toList == [1])
      · have hd1 : td.data.toList ≠ [1] := by rw [tl] at hb3; simpa using hb3
        have hA : ta.data.toList = bytesOf (bval ta.data.toList) := by
          have := congrArg (fun s : ByteArray => s.data.toList) HTA.out
          exact this.symm
        have hD : td.data.toList = bytesOf (bval td.data.toList) := by
          have := congrArg (fun s : ByteArray => s.data.toList) HTD.out
          exact this.symm
        by_cases h0 : 0 < ta.size
        · obtain ⟨e1, e2⟩ := str_ne h0
          have hane : ta.data.toList ≠ [] := by rw [tl] at e1; exact fun h => by rw [e1] at h; exact h
          have hv5 := vb5 (n := n) hA hD hane hd1
          by_cases h1 : 0 < td.size
          · obtain ⟨e3, e4⟩ := str_ne h1
            have hdne : td.data.toList ≠ [] := by rw [tl] at e3; exact fun h => by rw [e3] at h; exact h
            have hr : Hid (validB n ta.data.toList td.data.toList = ((bs ((nv ta).gcd (nv td))).toList == [1])) := by
              show _ = _
              rw [hv5, decide_eq_false hdne, Bool.false_or, tl]
              show decide ((nv ta).gcd (nv td) = 1) = (bytesOf ((nv ta).gcd (nv td)) == [1])
              rw [← bytesOf_one]
              by_cases h : (nv ta).gcd (nv td) = 1
              · rw [decide_eq_true h, h]; simp
              · have : bytesOf ((nv ta).gcd (nv td)) ≠ bytesOf 1 := fun e => h (bytesOf_inj e)
                simp [h, this]
            have HG := Lib.hid (fun w => rgcd_any ta td w ha hd)
            generalize (nv ta).gcd (nv td) = g at *
            clear hA hD hane hv5 hdne hd1
            go_enter Tryz.func75, Tryz.ntmps75
            go_wp2_with fail
            go_quiet ((go_at_call 118; first | (with_reducible exact HQA.out _ _) | (with_reducible exact HQD.out _ _)))
            go_wp2_with fail
            refine (HG.out _).mono ?_
            rintro e w5 ⟨rfl, hb5⟩
            go_wp2_with fail
            go_ret
            exact ⟨ret_bool hr.out.symm, (below_drewN ((Below.refl _ _).alloc (Nat.le_refl _) _) _).trans (hb5.mono (by simp))⟩
          · obtain ⟨e3, e4⟩ := str_em (s := td) (by omega)
            have hde : td.data.toList = [] := by rw [← tl]; exact e3
            have hr : Hid (validB n ta.data.toList td.data.toList = true) := by
              show _ = _
              rw [hv5, decide_eq_true hde]; rfl
            clear hA hD hane hv5 hde hd1
            go_enter Tryz.func75, Tryz.ntmps75
            go_wp2_with fail
            go_quiet ((go_at_call 118; first | (with_reducible exact HQA.out _ _) | (with_reducible exact HQD.out _ _)))
            go_wp2_with fail
            go_ret
            exact ⟨ret_bool hr.out.symm, below_drewN ((Below.refl _ _).alloc (Nat.le_refl _) _) _⟩
        · obtain ⟨e1, e2⟩ := str_em (s := ta) (by omega)
          have hae : ta.data.toList = [] := by rw [← tl]; exact e1
          have hr : Hid (validB n ta.data.toList td.data.toList = (!n && td.toList.isEmpty)) := by
            show _ = _
            rw [vb4 hA hD hae, tl]
            congr 1
            rcases td.data.toList with _ | ⟨c, l⟩ <;> rfl
          clear hA hD hae hd1
          cases n
          all_goals
            go_enter Tryz.func75, Tryz.ntmps75
            go_wp2_with fail
            go_quiet ((go_at_call 118; first | (with_reducible exact HQA.out _ _) | (with_reducible exact HQD.out _ _)))
            go_wp2_with fail
            go_ret
            exact ⟨ret_bool hr.out.symm, below_drewN ((Below.refl _ _).alloc (Nat.le_refl _) _) _⟩
      · have hr : Hid (validB n ta.data.toList td.data.toList = false) := vb3 (by rw [tl] at hb3; simpa using hb3)
        go_enter Tryz.func75, Tryz.ntmps75
        go_wp2_with fail
        go_quiet ((go_at_call 118; first | (with_reducible exact HQA.out _ _) | (with_reducible exact HQD.out _ _)))
        go_wp2_with fail
        go_ret
        exact ⟨ret_bool hr.out.symm, below_drewN ((Below.refl _ _).alloc (Nat.le_refl _) _) _⟩
/-- a struct of three fields in a block of its own -/
def Bx (w : World) (k : Nat) (x y z : Value) : Prop :=
  w.cell? ⟨k, 0, none⟩ = some x ∧ w.cell? ⟨k, 1, none⟩ = some y ∧ w.cell? ⟨k, 2, none⟩ = some z ∧ w.frozen? ⟨k, 0, none⟩ = false ∧ w.frozen? ⟨k, 1, none⟩ = false ∧ w.frozen? ⟨k, 2, none⟩ = false
theorem Bx.new (w : World) (x y z : Value) (t : TypeId) : Bx (w.alloc (.cells #[x, y, z] t)) w.heap.size x y z := by
  refine ⟨?_, ?_, ?_, ?_, ?_, ?_⟩ <;> simp
theorem Bx.keep {W w1 : World} {B k : Nat} {x y z : Value} (h0 : Bx W k x y z) (h : Below B W w1) (hk : k < B) : Bx w1 k x y z :=
  ⟨(h.cell (p := ⟨k, 0, none⟩) hk).trans h0.1, (h.cell (p := ⟨k, 1, none⟩) hk).trans h0.2.1, (h.cell (p := ⟨k, 2, none⟩) hk).trans h0.2.2.1,
   (h.frozen (p := ⟨k, 0, none⟩) hk).trans h0.2.2.2.1, (h.frozen (p := ⟨k, 1, none⟩) hk).trans h0.2.2.2.2.1, (h.frozen (p := ⟨k, 2, none⟩) hk).trans h0.2.2.2.2.2⟩
theorem Bx.alloc {w : World} {k : Nat} {x y z : Value} (h : Bx w k x y z) (o : Obj) (hk : k < w.heap.size) : Bx (w.alloc o) k x y z :=
  h.keep ((Below.refl w.heap.size w).alloc (Nat.le_refl _) o) hk
theorem below_set3 {B k : Nat} {a w : World} (h : Below B a w) (hk : B ≤ k) (x y z : Value) : Below B a (((w.setCell ⟨k, 0, none⟩ x).setCell ⟨k, 1, none⟩ y).setCell ⟨k, 2, none⟩ z) :=
  ((h.setCell (p := ⟨k, 0, none⟩) hk x).setCell (p := ⟨k, 1, none⟩) hk y).setCell (p := ⟨k, 2, none⟩) hk z
theorem fr_set {w : World} {a b : Addr} {v : Value} (h : w.frozen? b = false) : (w.setCell a v).frozen? b = false := by
  simpa using h
theorem Bx.set3 {w : World} {k : Nat} {x y z : Value} (h : Bx w k x y z) (x' y' z' : Value) : Bx (((w.setCell ⟨k, 0, none⟩ x').setCell ⟨k, 1, none⟩ y').setCell ⟨k, 2, none⟩ z') k x' y' z' := by
  obtain ⟨c0, c1, c2, f0, f1, f2⟩ := h
  have n01 : (⟨k, 0, none⟩ : Addr) ≠ ⟨k, 1, none⟩ := by simp
  have n02 : (⟨k, 0, none⟩ : Addr) ≠ ⟨k, 2, none⟩ := by simp
  have n12 : (⟨k, 1, none⟩ : Addr) ≠ ⟨k, 2, none⟩ := by simp
  refine ⟨?_, ?_, ?_, fr_set (fr_set (fr_set f0)), fr_set (fr_set (fr_set f1)), fr_set (fr_set (fr_set f2))⟩
  · rw [World.cell?_setCell_other _ _ _ _ (fun e => n02 e.symm), World.cell?_setCell_other _ _ _ _ (fun e => n01 e.symm)]
    exact World.cell?_setCell_same _ _ _ c0
  · rw [World.cell?_setCell_other _ _ _ _ (fun e => n12 e.symm)]
    refine World.cell?_setCell_same _ _ _ (u := y) ?_
    rw [World.cell?_setCell_other _ _ _ _ n01]; exact c1
  · refine World.cell?_setCell_same _ _ _ (u := z) ?_
    rw [World.cell?_setCell_other _ _ _ _ n12, World.cell?_setCell_other _ _ _ _ n02]; exact c2
theorem ratInfo : (Tryz.prog.info? 24).map (fun i => (i.zero, i.size)) = some (some (.agg #[.bool false, .string ByteArray.empty, .string ByteArray.empty]), 3) := by kernel_rfl
theorem load3 {w : World} {k : Nat} {x y z : Value} (h : Bx w k x y z) : (loadVar 24 ⟨k, 0, none⟩).run Tryz.prog w = .ok (.agg #[x, y, z]) w := by
  obtain ⟨c0, c1, c2, _⟩ := h
  simp [loadVar, go_sem, c0, c1, c2]
theorem results_rat {fn : Func} {p : Tmp} (h : fn.results = #[.cell p 24]) (tmps : Array Value) {w : World} {k : Nat} {x y z : Value} (hp : tmps.getD p undef = .pointer (some ⟨k, 0, none⟩)) (hb : Bx w k x y z) :
    (results fn tmps).run Tryz.prog w = .ok (.agg #[x, y, z]) w := by
  have hp' : tmps[p]?.getD undef = .pointer (some ⟨k, 0, none⟩) := by simpa using hp
  simp [results, h, hp', asAddr, load3 hb]
theorem results_rat2 {fn : Func} {p u : Tmp} (h : fn.results = #[.cell p 24, .tmp u]) (tmps : Array Value) {w : World} {k : Nat} {x y z : Value} (hp : tmps.getD p undef = .pointer (some ⟨k, 0, none⟩)) (hb : Bx w k x y z) :
    (results fn tmps).run Tryz.prog w = .ok (.tuple #[.agg #[x, y, z], tmps.getD u undef]) w := by
  have hp' : tmps[p]?.getD undef = .pointer (some ⟨k, 0, none⟩) := by simpa using hp
  rw [results_cell_tmp h]
  simp [hp', asAddr, load3 hb]
theorem bs0 : bs 0 = ⟨#[]⟩ := by unfold bs; rw [bytesOf_zero]
theorem enc_zero_val : enc 0 = .agg #[.bool false, .string ⟨#[]⟩, .string ⟨#[]⟩] := by
  unfold enc dstr
  rw [enc_zero.1, enc_zero.2.2, show nm 0 = 0 from rfl, bs0]
  rfl
theorem enc_fix_val {n : Bool} {a d : ByteArray} (h : validB n a.data.toList d.data.toList = true) : enc (fixQ n a.data.toList d.data.toList) = .agg #[.bool n, .string a, .string d] := by
  obtain ⟨h1, h2, h3⟩ := enc_fix h
  unfold enc dstr
  rw [h1, h3, st_self]
  have e : bs (nm (fixQ n a.data.toList d.data.toList)) = a := ext_bytes h2
  rw [e]
theorem fix_bad {n : Bool} {a d : List UInt8} (h : validB n a d = false) : fixQ n a d = 0 := by unfold fixQ; rw [h]; rfl
set_option maxHeartbeats 1000000 in
set_option maxRecDepth 100000 in
theorem rfix_any (n : Bool) (a d : ByteArray) (w : World) (ha : a.size ≤ 100000) (hd : d.size ≤ 100000) :
    Calls Tryz.prog 22 #[.agg #[.bool n, .string a, .string d]] w fun e w' => e = .returned (enc (fixQ n a.data.toList d.data.toList)) ∧ Below w.heap.size w w' := by
  have HV := Lib.hid (fun w => rvalid_any n a d w ha hd)
  have hB := (Below.refl w.heap.size w).alloc (Nat.le_refl _) (.cells #[.bool n, .string a, .string d] 24)
  have hB2 := hB.alloc (by simp) (.cells #[.bool false, .string ⟨#[]⟩, .string ⟨#[]⟩] 24)
  have hx := (Bx.new w (.bool n) (.string a) (.string d) 24).alloc (.cells #[.bool false, .string ⟨#[]⟩, .string ⟨#[]⟩] 24) (by simp)
  have hy := Bx.new (w.alloc (.cells #[.bool n, .string a, .string d] 24)) (.bool false) (.string ⟨#[]⟩) (.string ⟨#[]⟩) 24
  rw [show (w.alloc (.cells #[.bool n, .string a, .string d] 24)).heap.size = w.heap.size + 1 by simp] at hy
  have HX := hide hx
  have HY := hide hy
  have HB2 := hide hB2
  clear hx hy hB hB2
  cases hv : validB n a.data.toList d.data.toList
  · rw [hv] at HV
    have hr := hide (fix_bad hv)
    go_enter Tryz.func22, Tryz.ntmps22
    go_wp2_with fail
    refine (HV.out _).mono ?_
    rintro e w1 ⟨rfl, hb1⟩
    have hY := HY.out.keep hb1 (by simp)
    have HY1 := hide hY
    obtain ⟨c0, c1, c2, f0, f1, f2⟩ := hY
    have hbf := HB2.out.trans (hb1.mono (by simp; omega))
    go_wp2_with fail
    refine bodyPost_ret (results_rat rfl _ rfl (HY1.out.set3 _ _ _)) rfl ?_
    refine ⟨?_, below_set3 hbf (by omega) _ _ _⟩
    rw [hr.out, enc_zero_val]
  · rw [hv] at HV
    have hr := hide (enc_fix_val hv)
    go_enter Tryz.func22, Tryz.ntmps22
    go_wp2_with fail
    refine (HV.out _).mono ?_
    rintro e w1 ⟨rfl, hb1⟩
    have hY := HY.out.keep hb1 (by simp)
    have HY1 := hide hY
    obtain ⟨c0, c1, c2, f0, f1, f2⟩ := hY
    obtain ⟨d0, d1, d2, _⟩ := HX.out.keep hb1 (by simp; omega)
    have hbf := HB2.out.trans (hb1.mono (by simp; omega))
    go_wp2_with fail
    refine bodyPost_ret (results_rat rfl _ rfl (HY1.out.set3 _ _ _)) rfl ?_
    refine ⟨?_, below_set3 hbf (by omega) _ _ _⟩
    rw [hr.out]
end Go.Proofs.YthppojbabkljpaaGreatDoor.RtA
