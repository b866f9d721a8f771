/- RtA, RpA, RpB, RpC, RpD, RpE, RpF, RpG, RpH, RtB, RtC, in one text. -/
import Derived.Test.YtpbgmpjnfndfjaaGreatDoorPO
import Derived.Laws.ResultCell
import Derived.Test.YtpbgmpjnfndfjaaGreatDoorPN
import Derived.Test.YtpbgmpjnfndfjaaGreatDoorQin
import Derived.Lib.IndexBytes
namespace Go.Proofs.YtpbgmpjnfndfjaaGreatDoor.RtA
theorem here : True := trivial
open Go.RowKit RnA RnB RnS RnC RnK RnM RnL RnN RnD RnE RnQ RnR RnP RnW RnX RoA RoB RoC RoD RoE RoF RoG RoH RoI RoJ RoK RoL RoM RoN PnA PnB PnC PnD PnE PnG PnH PnI PnJ
/-- the string of the denominator -/
def dstr (q : Rat) : ByteArray := st (encD q)
/-- the value of a rational number -/
def enc (q : Rat) : Value := .agg #[.bool (negB q), .string (bs (nm q)), .string (dstr q)]
theorem bs_inj {s : ByteArray} {n : Nat} : s = bs n ↔ s.data.toList = bytesOf n := ⟨fun h => by rw [h]; rfl, fun h => ext_bytes h⟩
theorem quiet_rnorm (s t : ByteArray) (W : World) (q : Nat) (hs : s.size ≤ 9223372036854775807) (ht : bs (nv s) = t) :
    Calls Tryz.prog 197 #[.string s] (W.drewN q) fun e w'' => e = .returned (.string t) ∧ ∃ n, w'' = W.drewN n :=
  (normalize_any s _ hs).mono fun _ _ ⟨h1, h2⟩ => ⟨by rw [h1, ht], q, h2.symm⟩
theorem tl (s : ByteArray) : s.toList = s.data.toList := Lib.toList_data s
theorem eqb_true {s t : ByteArray} (h : (s.toList == t.toList) = true) : s = t := by
  rw [tl, tl] at h
  exact ext_bytes (by simpa using h)
theorem eqb_false {s t : ByteArray} (h : (s.toList == t.toList) = false) : s.data.toList ≠ t.data.toList := by
  rw [tl, tl] at h
  simpa using h
theorem vb1 {n : Bool} {a d : List UInt8} (h : a ≠ bytesOf (bval a)) : validB n a d = false := by unfold validB; simp [h]
theorem vb2 {n : Bool} {a d : List UInt8} (h : d ≠ bytesOf (bval d)) : validB n a d = false := by unfold validB; simp [h]
theorem vb3 {n : Bool} {a d : List UInt8} (h : d = [1]) : validB n a d = false := by
  unfold validB
  subst h
  by_cases ha : a = []
  · simp [ha]
  · simp [ha]
theorem vb4 {n : Bool} {a d : List UInt8} (h1 : a = bytesOf (bval a)) (h2 : d = bytesOf (bval d)) (h3 : a = []) : validB n a d = (!n && decide (d = [])) := by
  unfold validB
  rw [decide_eq_true h1, decide_eq_true h2, if_pos h3]; simp
theorem vb5 {n : Bool} {a d : List UInt8} (h1 : a = bytesOf (bval a)) (h2 : d = bytesOf (bval d)) (h3 : a ≠ []) (h4 : d ≠ [1]) : validB n a d = (decide (d = []) || decide ((bval a).gcd (bval d) = 1)) := by
  unfold validB
  rw [decide_eq_true h1, decide_eq_true h2, if_neg h3]
  simp [h4]
set_option maxHeartbeats 1000000000000 in
set_option maxRecDepth 100000000000 in
theorem rvalid_any (n : Bool) (a d : ByteArray) (w : World) (ha : a.size ≤ 100000000000) (hd : d.size ≤ 100000000000) :
    Calls Tryz.prog 218 #[.agg #[.bool n, .string a, .string d]] w fun e w' => e = .returned (.bool (validB n a.data.toList d.data.toList)) ∧ Below w.heap.size w w' := by
  obtain ⟨ta, hta⟩ : ∃ t, bs (nv a) = t := ⟨_, rfl⟩
  obtain ⟨td, htd⟩ : ∃ t, bs (nv d) = t := ⟨_, rfl⟩
  have HTA := Lib.hid hta
  have HTD := Lib.hid htd
  have HQA := Lib.hid (fun W q => quiet_rnorm a ta W q (by omega) hta)
  have HQD := Lib.hid (fun W q => quiet_rnorm d td W q (by omega) htd)
  clear hta htd
  cases hb1 : (ta.toList == a.toList)
  · have hr : Hid (validB n a.data.toList d.data.toList = false) := vb1 (fun e => eqb_false hb1 (by rw [← HTA.out, e]; simp [bs, nv]))
    go_enter Tryz.func218, Tryz.ntmps218
    go_wp2_with fail
    go_quiet ((go_at_call 197; with_reducible exact HQA.out _ _))
    go_wp2_with fail
    go_ret
    exact ⟨ret_bool hr.out.symm, below_drewN ((Below.refl _ _).alloc (Nat.le_refl _) _) _⟩
  · obtain rfl := eqb_true hb1
    cases hb2 : (td.toList == d.toList)
    · have hr : Hid (validB n ta.data.toList d.data.toList = false) := vb2 (fun e => eqb_false hb2 (by rw [← HTD.out, e]; simp [bs, nv]))
      go_enter Tryz.func218, Tryz.ntmps218
      go_wp2_with fail
      go_quiet ((go_at_call 197; first | (with_reducible exact HQA.out _ _) | (with_reducible exact HQD.out _ _)))
      go_wp2_with fail
      go_ret
      exact ⟨ret_bool hr.out.symm, below_drewN ((Below.refl _ _).alloc (Nat.le_refl _) _) _⟩
    · obtain rfl := eqb_true hb2
      cases hb3 : (td.toList == [1])
      · have hd1 : td.data.toList ≠ [1] := by rw [tl] at hb3; simpa using hb3
        have hA : ta.data.toList = bytesOf (bval ta.data.toList) := by
          have := congrArg (fun s : ByteArray => s.data.toList) HTA.out
          exact this.symm
        have hD : td.data.toList = bytesOf (bval td.data.toList) := by
          have := congrArg (fun s : ByteArray => s.data.toList) HTD.out
          exact this.symm
        by_cases h0 : 0 < ta.size
        · obtain ⟨e1, e2⟩ := str_ne h0
          have hane : ta.data.toList ≠ [] := by rw [tl] at e1; exact fun h => by rw [e1] at h; exact h
          have hv5 := vb5 (n := n) hA hD hane hd1
          by_cases h1 : 0 < td.size
          · obtain ⟨e3, e4⟩ := str_ne h1
            have hdne : td.data.toList ≠ [] := by rw [tl] at e3; exact fun h => by rw [e3] at h; exact h
            have hr : Hid (validB n ta.data.toList td.data.toList = ((bs ((nv ta).gcd (nv td))).toList == [1])) := by
              show _ = _
              rw [hv5, decide_eq_false hdne, Bool.false_or, tl]
              show decide ((nv ta).gcd (nv td) = 1) = (bytesOf ((nv ta).gcd (nv td)) == [1])
              rw [← bytesOf_one]
              by_cases h : (nv ta).gcd (nv td) = 1
              · rw [decide_eq_true h, h]; simp
              · have : bytesOf ((nv ta).gcd (nv td)) ≠ bytesOf 1 := fun e => h (bytesOf_inj e)
                simp [h, this]
            have HG := Lib.hid (fun w => rgcd_any ta td w ha hd)
            generalize (nv ta).gcd (nv td) = g at *
            clear hA hD hane hv5 hdne hd1
            go_enter Tryz.func218, Tryz.ntmps218
            go_wp2_with fail
            go_quiet ((go_at_call 197; first | (with_reducible exact HQA.out _ _) | (with_reducible exact HQD.out _ _)))
            go_wp2_with fail
            refine (HG.out _).mono ?_
            rintro e w5 ⟨rfl, hb5⟩
            go_wp2_with fail
            go_ret
            exact ⟨ret_bool hr.out.symm, (below_drewN ((Below.refl _ _).alloc (Nat.le_refl _) _) _).trans (hb5.mono (by simp))⟩
          · obtain ⟨e3, e4⟩ := str_em (s := td) (by omega)
            have hde : td.data.toList = [] := by rw [← tl]; exact e3
            have hr : Hid (validB n ta.data.toList td.data.toList = true) := by
              show _ = _
              rw [hv5, decide_eq_true hde]; rfl
            clear hA hD hane hv5 hde hd1
            go_enter Tryz.func218, Tryz.ntmps218
            go_wp2_with fail
            go_quiet ((go_at_call 197; first | (with_reducible exact HQA.out _ _) | (with_reducible exact HQD.out _ _)))
            go_wp2_with fail
            go_ret
            exact ⟨ret_bool hr.out.symm, below_drewN ((Below.refl _ _).alloc (Nat.le_refl _) _) _⟩
        · obtain ⟨e1, e2⟩ := str_em (s := ta) (by omega)
          have hae : ta.data.toList = [] := by rw [← tl]; exact e1
          have hr : Hid (validB n ta.data.toList td.data.toList = (!n && td.toList.isEmpty)) := by
            show _ = _
            rw [vb4 hA hD hae, tl]
            congr 1
            rcases td.data.toList with _ | ⟨c, l⟩ <;> rfl
          clear hA hD hae hd1
          cases n
          all_goals
            go_enter Tryz.func218, Tryz.ntmps218
            go_wp2_with fail
            go_quiet ((go_at_call 197; first | (with_reducible exact HQA.out _ _) | (with_reducible exact HQD.out _ _)))
            go_wp2_with fail
            go_ret
            exact ⟨ret_bool hr.out.symm, below_drewN ((Below.refl _ _).alloc (Nat.le_refl _) _) _⟩
      · have hr : Hid (validB n ta.data.toList td.data.toList = false) := vb3 (by rw [tl] at hb3; simpa using hb3)
        go_enter Tryz.func218, Tryz.ntmps218
        go_wp2_with fail
        go_quiet ((go_at_call 197; first | (with_reducible exact HQA.out _ _) | (with_reducible exact HQD.out _ _)))
        go_wp2_with fail
        go_ret
        exact ⟨ret_bool hr.out.symm, below_drewN ((Below.refl _ _).alloc (Nat.le_refl _) _) _⟩
/-- a struct of three fields in a block of its own -/
def Bx (w : World) (k : Nat) (x y z : Value) : Prop :=
  w.cell? ⟨k, 0, none⟩ = some x ∧ w.cell? ⟨k, 1, none⟩ = some y ∧ w.cell? ⟨k, 2, none⟩ = some z ∧ w.frozen? ⟨k, 0, none⟩ = false ∧ w.frozen? ⟨k, 1, none⟩ = false ∧ w.frozen? ⟨k, 2, none⟩ = false
theorem Bx.new (w : World) (x y z : Value) (t : TypeId) : Bx (w.alloc (.cells #[x, y, z] t)) w.heap.size x y z := by
  refine ⟨?_, ?_, ?_, ?_, ?_, ?_⟩ <;> simp
theorem Bx.keep {W w1 : World} {B k : Nat} {x y z : Value} (h0 : Bx W k x y z) (h : Below B W w1) (hk : k < B) : Bx w1 k x y z :=
  ⟨(h.cell (p := ⟨k, 0, none⟩) hk).trans h0.1, (h.cell (p := ⟨k, 1, none⟩) hk).trans h0.2.1, (h.cell (p := ⟨k, 2, none⟩) hk).trans h0.2.2.1,
   (h.frozen (p := ⟨k, 0, none⟩) hk).trans h0.2.2.2.1, (h.frozen (p := ⟨k, 1, none⟩) hk).trans h0.2.2.2.2.1, (h.frozen (p := ⟨k, 2, none⟩) hk).trans h0.2.2.2.2.2⟩
theorem Bx.alloc {w : World} {k : Nat} {x y z : Value} (h : Bx w k x y z) (o : Obj) (hk : k < w.heap.size) : Bx (w.alloc o) k x y z :=
  h.keep ((Below.refl w.heap.size w).alloc (Nat.le_refl _) o) hk
theorem below_set3 {B k : Nat} {a w : World} (h : Below B a w) (hk : B ≤ k) (x y z : Value) : Below B a (((w.setCell ⟨k, 0, none⟩ x).setCell ⟨k, 1, none⟩ y).setCell ⟨k, 2, none⟩ z) :=
  ((h.setCell (p := ⟨k, 0, none⟩) hk x).setCell (p := ⟨k, 1, none⟩) hk y).setCell (p := ⟨k, 2, none⟩) hk z
theorem fr_set {w : World} {a b : Addr} {v : Value} (h : w.frozen? b = false) : (w.setCell a v).frozen? b = false := by
  simpa using h
theorem Bx.set3 {w : World} {k : Nat} {x y z : Value} (h : Bx w k x y z) (x' y' z' : Value) : Bx (((w.setCell ⟨k, 0, none⟩ x').setCell ⟨k, 1, none⟩ y').setCell ⟨k, 2, none⟩ z') k x' y' z' := by
  obtain ⟨c0, c1, c2, f0, f1, f2⟩ := h
  have n01 : (⟨k, 0, none⟩ : Addr) ≠ ⟨k, 1, none⟩ := by simp
  have n02 : (⟨k, 0, none⟩ : Addr) ≠ ⟨k, 2, none⟩ := by simp
  have n12 : (⟨k, 1, none⟩ : Addr) ≠ ⟨k, 2, none⟩ := by simp
  refine ⟨?_, ?_, ?_, fr_set (fr_set (fr_set f0)), fr_set (fr_set (fr_set f1)), fr_set (fr_set (fr_set f2))⟩
  · rw [World.cell?_setCell_other _ _ _ _ (fun e => n02 e.symm), World.cell?_setCell_other _ _ _ _ (fun e => n01 e.symm)]
    exact World.cell?_setCell_same _ _ _ c0
  · rw [World.cell?_setCell_other _ _ _ _ (fun e => n12 e.symm)]
    refine World.cell?_setCell_same _ _ _ (u := y) ?_
    rw [World.cell?_setCell_other _ _ _ _ n01]; exact c1
  · refine World.cell?_setCell_same _ _ _ (u := z) ?_
    rw [World.cell?_setCell_other _ _ _ _ n12, World.cell?_setCell_other _ _ _ _ n02]; exact c2
theorem ratInfo : (Tryz.prog.info? 32).map (fun i => (i.zero, i.size)) = some (some (.agg #[.bool false, .string ByteArray.empty, .string ByteArray.empty]), 3) := by kernel_rfl
theorem load3 {w : World} {k : Nat} {x y z : Value} (h : Bx w k x y z) : (loadVar 32 ⟨k, 0, none⟩).run Tryz.prog w = .ok (.agg #[x, y, z]) w := by
  obtain ⟨c0, c1, c2, _⟩ := h
  simp [loadVar, go_sem, c0, c1, c2]
theorem results_rat {fn : Func} {p : Tmp} (h : fn.results = #[.cell p 32]) (tmps : Array Value) {w : World} {k : Nat} {x y z : Value} (hp : tmps.getD p undef = .pointer (some ⟨k, 0, none⟩)) (hb : Bx w k x y z) :
    (results fn tmps).run Tryz.prog w = .ok (.agg #[x, y, z]) w := by
  have hp' : tmps[p]?.getD undef = .pointer (some ⟨k, 0, none⟩) := by simpa using hp
  simp [results, h, hp', asAddr, load3 hb]
theorem results_rat2 {fn : Func} {p u : Tmp} (h : fn.results = #[.cell p 32, .tmp u]) (tmps : Array Value) {w : World} {k : Nat} {x y z : Value} (hp : tmps.getD p undef = .pointer (some ⟨k, 0, none⟩)) (hb : Bx w k x y z) :
    (results fn tmps).run Tryz.prog w = .ok (.tuple #[.agg #[x, y, z], tmps.getD u undef]) w := by
  have hp' : tmps[p]?.getD undef = .pointer (some ⟨k, 0, none⟩) := by simpa using hp
  rw [results_cell_tmp h]
  simp [hp', asAddr, load3 hb]
theorem bs0 : bs 0 = ⟨#[]⟩ := by unfold bs; rw [bytesOf_zero]
theorem enc_zero_val : enc 0 = .agg #[.bool false, .string ⟨#[]⟩, .string ⟨#[]⟩] := by
  unfold enc dstr
  rw [enc_zero.1, enc_zero.2.2, show nm 0 = 0 from rfl, bs0]
  rfl
theorem enc_fix_val {n : Bool} {a d : ByteArray} (h : validB n a.data.toList d.data.toList = true) : enc (fixQ n a.data.toList d.data.toList) = .agg #[.bool n, .string a, .string d] := by
  obtain ⟨h1, h2, h3⟩ := enc_fix h
  unfold enc dstr
  rw [h1, h3, st_self]
  have e : bs (nm (fixQ n a.data.toList d.data.toList)) = a := ext_bytes h2
  rw [e]
theorem fix_bad {n : Bool} {a d : List UInt8} (h : validB n a d = false) : fixQ n a d = 0 := by unfold fixQ; rw [h]; rfl
set_option maxHeartbeats 1000000000000 in
set_option maxRecDepth 100000000000 in
theorem rfix_any (n : Bool) (a d : ByteArray) (w : World) (ha : a.size ≤ 100000000000) (hd : d.size ≤ 100000000000) :
    Calls Tryz.prog 177 #[.agg #[.bool n, .string a, .string d]] w fun e w' => e = .returned (enc (fixQ n a.data.toList d.data.toList)) ∧ Below w.heap.size w w' := by
  have HV := Lib.hid (fun w => rvalid_any n a d w ha hd)
  have hB := (Below.refl w.heap.size w).alloc (Nat.le_refl _) (.cells #[.bool n, .string a, .string d] 32)
  have hB2 := hB.alloc (by simp) (.cells #[.bool false, .string ⟨#[]⟩, .string ⟨#[]⟩] 32)
  have hx := (Bx.new w (.bool n) (.string a) (.string d) 32).alloc (.cells #[.bool false, .string ⟨#[]⟩, .string ⟨#[]⟩] 32) (by simp)
  have hy := Bx.new (w.alloc (.cells #[.bool n, .string a, .string d] 32)) (.bool false) (.string ⟨#[]⟩) (.string ⟨#[]⟩) 32
  rw [show (w.alloc (.cells #[.bool n, .string a, .string d] 32)).heap.size = w.heap.size + 1 by simp] at hy
  have HX := hide hx
  have HY := hide hy
  have HB2 := hide hB2
  clear hx hy hB hB2
  cases hv : validB n a.data.toList d.data.toList
  · rw [hv] at HV
    have hr := hide (fix_bad hv)
    go_enter Tryz.func177, Tryz.ntmps177
    go_wp2_with fail
    refine (HV.out _).mono ?_
    rintro e w1 ⟨rfl, hb1⟩
    have hY := HY.out.keep hb1 (by simp)
    have HY1 := hide hY
    obtain ⟨c0, c1, c2, f0, f1, f2⟩ := hY
    have hbf := HB2.out.trans (hb1.mono (by simp; omega))
    go_wp2_with fail
    refine bodyPost_ret (results_rat rfl _ rfl (HY1.out.set3 _ _ _)) rfl ?_
    refine ⟨?_, below_set3 hbf (by omega) _ _ _⟩
    rw [hr.out, enc_zero_val]
  · rw [hv] at HV
    have hr := hide (enc_fix_val hv)
    go_enter Tryz.func177, Tryz.ntmps177
    go_wp2_with fail
    refine (HV.out _).mono ?_
    rintro e w1 ⟨rfl, hb1⟩
    have hY := HY.out.keep hb1 (by simp)
    have HY1 := hide hY
    obtain ⟨c0, c1, c2, f0, f1, f2⟩ := hY
    obtain ⟨d0, d1, d2, _⟩ := HX.out.keep hb1 (by simp; omega)
    have hbf := HB2.out.trans (hb1.mono (by simp; omega))
    go_wp2_with fail
    refine bodyPost_ret (results_rat rfl _ rfl (HY1.out.set3 _ _ _)) rfl ?_
    refine ⟨?_, below_set3 hbf (by omega) _ _ _⟩
    rw [hr.out]
end Go.Proofs.YtpbgmpjnfndfjaaGreatDoor.RtA
namespace Go.Proofs.YtpbgmpjnfndfjaaGreatDoor.RpA
theorem here : True := trivial
open Go.RowKit RnA RnB RnS RnC RnK RnM RnL RnN RnD RnE RnQ RnR RnP RnW RnX RoA RoB RoC RoD RoE RoF RoG RoH RoI RoJ RoK RoL RoM RoN PnA PnB PnC PnD PnE PnG PnH PnI PnJ RtA
theorem quiet_norm (s t : ByteArray) (W : World) (q : Nat) (hs : s.size ≤ 9223372036854775807) (ht : bs (nv s) = t) :
    Calls Tryz.prog 114 #[.string s] (W.drewN q) fun e w'' => e = .returned (.string t) ∧ ∃ n, w'' = W.drewN n :=
  (norm_any s _ hs).mono fun _ _ ⟨h1, h2⟩ => ⟨by rw [h1, ht], q, h2.symm⟩
set_option maxHeartbeats 1000000000000 in
set_option maxRecDepth 100000000000 in
theorem valid_any (n : Bool) (a d : ByteArray) (w : World) (ha : a.size ≤ 100000000000) (hd : d.size ≤ 100000000000) :
    Calls Tryz.prog 77 #[.agg #[.bool n, .string a, .string d]] w fun e w' => e = .returned (.bool (validB n a.data.toList d.data.toList)) ∧ Below w.heap.size w w' := by
  obtain ⟨ta, hta⟩ : ∃ t, bs (nv a) = t := ⟨_, rfl⟩
  obtain ⟨td, htd⟩ : ∃ t, bs (nv d) = t := ⟨_, rfl⟩
  have HTA := Lib.hid hta
  have HTD := Lib.hid htd
  have HQA := Lib.hid (fun W q => quiet_norm a ta W q (by omega) hta)
  have HQD := Lib.hid (fun W q => quiet_norm d td W q (by omega) htd)
  clear hta htd
  cases hb1 : (ta.toList == a.toList)
  · have hr : Hid (validB n a.data.toList d.data.toList = false) := vb1 (fun e => eqb_false hb1 (by rw [← HTA.out, e]; simp [bs, nv]))
    go_enter Tryz.func77, Tryz.ntmps77
    go_wp2_with fail
    go_quiet ((go_at_call 114; with_reducible exact HQA.out _ _))
    go_wp2_with fail
    go_ret
    exact ⟨ret_bool hr.out.symm, below_drewN ((Below.refl _ _).alloc (Nat.le_refl _) _) _⟩
  · obtain rfl := eqb_true hb1
    cases hb2 : (td.toList == d.toList)
    · have hr : Hid (validB n ta.data.toList d.data.toList = false) := vb2 (fun e => eqb_false hb2 (by rw [← HTD.out, e]; simp [bs, nv]))
      go_enter Tryz.func77, Tryz.ntmps77
      go_wp2_with fail
      go_quiet ((go_at_call 114; first | (with_reducible exact HQA.out _ _) | (with_reducible exact HQD.out _ _)))
      go_wp2_with fail
      go_ret
      exact ⟨ret_bool hr.out.symm, below_drewN ((Below.refl _ _).alloc (Nat.le_refl _) _) _⟩
    · obtain rfl := eqb_true hb2
      have hA : ta.data.toList = bytesOf (bval ta.data.toList) := by
        have := congrArg (fun s : ByteArray => s.data.toList) HTA.out
        exact this.symm
      have hD : td.data.toList = bytesOf (bval td.data.toList) := by
        have := congrArg (fun s : ByteArray => s.data.toList) HTD.out
        exact this.symm
      by_cases h0 : 0 < ta.size
      · obtain ⟨e1, e2⟩ := str_ne h0
        have hane : ta.data.toList ≠ [] := by rw [tl] at e1; exact fun h => by rw [e1] at h; exact h
        by_cases h1 : 0 < td.size
        · obtain ⟨e3, e4⟩ := str_ne h1
          have hdne : td.data.toList ≠ [] := by rw [tl] at e3; exact fun h => by rw [e3] at h; exact h
          cases hb3 : (td.toList == [1])
          · have hd1 : td.data.toList ≠ [1] := by rw [tl] at hb3; simpa using hb3
            have hv5 := vb5 (n := n) hA hD hane hd1
            have hr : Hid (validB n ta.data.toList td.data.toList = ((bs ((nv ta).gcd (nv td))).toList == [1])) := by
              show _ = _
              rw [hv5, decide_eq_false hdne, Bool.false_or, tl]
              show decide ((nv ta).gcd (nv td) = 1) = (bytesOf ((nv ta).gcd (nv td)) == [1])
              rw [← bytesOf_one]
              by_cases h : (nv ta).gcd (nv td) = 1
              · rw [decide_eq_true h, h]; simp
              · have : bytesOf ((nv ta).gcd (nv td)) ≠ bytesOf 1 := fun e => h (bytesOf_inj e)
                simp [h, this]
            have HG := Lib.hid (fun w => gcd_any ta td w ha hd)
            generalize (nv ta).gcd (nv td) = g at *
            clear hA hD hane hv5 hdne hd1
            go_enter Tryz.func77, Tryz.ntmps77
            go_wp2_with fail
            go_quiet ((go_at_call 114; first | (with_reducible exact HQA.out _ _) | (with_reducible exact HQD.out _ _)))
            go_wp2_with fail
            refine (HG.out _).mono ?_
            rintro e w5 ⟨rfl, hb5⟩
            go_wp2_with fail
            go_ret
            exact ⟨ret_bool hr.out.symm, (below_drewN ((Below.refl _ _).alloc (Nat.le_refl _) _) _).trans (hb5.mono (by simp))⟩
          · have hr : Hid (validB n ta.data.toList td.data.toList = false) := vb3 (by rw [tl] at hb3; simpa using hb3)
            clear hA hD hane hdne
            go_enter Tryz.func77, Tryz.ntmps77
            go_wp2_with fail
            go_quiet ((go_at_call 114; first | (with_reducible exact HQA.out _ _) | (with_reducible exact HQD.out _ _)))
            go_wp2_with fail
            go_ret
            exact ⟨ret_bool hr.out.symm, below_drewN ((Below.refl _ _).alloc (Nat.le_refl _) _) _⟩
        · obtain ⟨e3, e4⟩ := str_em (s := td) (by omega)
          have hde : td.data.toList = [] := by rw [← tl]; exact e3
          have hr : Hid (validB n ta.data.toList td.data.toList = true) := by
            show _ = _
            rw [vb5 hA hD hane (by rw [hde]; simp), decide_eq_true hde]; rfl
          clear hA hD hane hde
          go_enter Tryz.func77, Tryz.ntmps77
          go_wp2_with fail
          go_quiet ((go_at_call 114; first | (with_reducible exact HQA.out _ _) | (with_reducible exact HQD.out _ _)))
          go_wp2_with fail
          go_ret
          exact ⟨ret_bool hr.out.symm, below_drewN ((Below.refl _ _).alloc (Nat.le_refl _) _) _⟩
      · obtain ⟨e1, e2⟩ := str_em (s := ta) (by omega)
        have hae : ta.data.toList = [] := by rw [← tl]; exact e1
        have hr : Hid (validB n ta.data.toList td.data.toList = (!n && td.toList.isEmpty)) := by
          show _ = _
          rw [vb4 hA hD hae, tl]
          congr 1
          rcases td.data.toList with _ | ⟨c, l⟩ <;> rfl
        clear hA hD hae
        cases n
        all_goals
          go_enter Tryz.func77, Tryz.ntmps77
          go_wp2_with fail
          go_quiet ((go_at_call 114; first | (with_reducible exact HQA.out _ _) | (with_reducible exact HQD.out _ _)))
          go_wp2_with fail
          go_ret
          exact ⟨ret_bool hr.out.symm, below_drewN ((Below.refl _ _).alloc (Nat.le_refl _) _) _⟩
set_option maxHeartbeats 1000000000000 in
set_option maxRecDepth 100000000000 in
theorem clean_any (n : Bool) (a d : ByteArray) (w : World) (ha : a.size ≤ 100000000000) (hd : d.size ≤ 100000000000) :
    Calls Tryz.prog 42 #[.agg #[.bool n, .string a, .string d]] w fun e w' => e = .returned (enc (fixQ n a.data.toList d.data.toList)) ∧ Below w.heap.size w w' := by
  have HV := Lib.hid (fun w => valid_any n a d w ha hd)
  have hB := (Below.refl w.heap.size w).alloc (Nat.le_refl _) (.cells #[.bool n, .string a, .string d] 32)
  have hB2 := hB.alloc (by simp) (.cells #[.bool false, .string ⟨#[]⟩, .string ⟨#[]⟩] 32)
  have hx := (Bx.new w (.bool n) (.string a) (.string d) 32).alloc (.cells #[.bool false, .string ⟨#[]⟩, .string ⟨#[]⟩] 32) (by simp)
  have hy := Bx.new (w.alloc (.cells #[.bool n, .string a, .string d] 32)) (.bool false) (.string ⟨#[]⟩) (.string ⟨#[]⟩) 32
  rw [show (w.alloc (.cells #[.bool n, .string a, .string d] 32)).heap.size = w.heap.size + 1 by simp] at hy
  have HX := hide hx
  have HY := hide hy
  have HB2 := hide hB2
  clear hx hy hB hB2
  cases hv : validB n a.data.toList d.data.toList
  · rw [hv] at HV
    have hr := hide (fix_bad hv)
    go_enter Tryz.func42, Tryz.ntmps42
    go_wp2_with fail
    refine (HV.out _).mono ?_
    rintro e w1 ⟨rfl, hb1⟩
    have hY := HY.out.keep hb1 (by simp)
    have HY1 := hide hY
    obtain ⟨c0, c1, c2, f0, f1, f2⟩ := hY
    have hbf := HB2.out.trans (hb1.mono (by simp; omega))
    go_wp2_with fail
    refine bodyPost_ret (results_rat rfl _ rfl (HY1.out.set3 _ _ _)) rfl ?_
    refine ⟨?_, below_set3 hbf (by omega) _ _ _⟩
    rw [hr.out, enc_zero_val]
  · rw [hv] at HV
    have hr := hide (enc_fix_val hv)
    go_enter Tryz.func42, Tryz.ntmps42
    go_wp2_with fail
    refine (HV.out _).mono ?_
    rintro e w1 ⟨rfl, hb1⟩
    have hY := HY.out.keep hb1 (by simp)
    have HY1 := hide hY
    obtain ⟨c0, c1, c2, f0, f1, f2⟩ := hY
    obtain ⟨d0, d1, d2, _⟩ := HX.out.keep hb1 (by simp; omega)
    have hbf := HB2.out.trans (hb1.mono (by simp; omega))
    go_wp2_with fail
    refine bodyPost_ret (results_rat rfl _ rfl (HY1.out.set3 _ _ _)) rfl ?_
    refine ⟨?_, below_set3 hbf (by omega) _ _ _⟩
    rw [hr.out]
theorem bytes_ne_nil {m : Nat} (h : m ≠ 0) : 0 < (bs m).size := by
  rw [bs_size]
  rcases Nat.eq_zero_or_pos (bytesOf m).length with h1 | h1
  · exact absurd (bytesOf_nil.1 (List.eq_nil_of_length_eq_zero h1)) h
  · exact h1
/-- a denominator that is laid open: 1 is written as nothing -/
theorem dstr_one {q : Rat} (h : q.den = 1) : dstr q = ⟨#[]⟩ := by unfold dstr encD; rw [if_pos h]; rfl
theorem dstr_big {q : Rat} (h : q.den ≠ 1) : dstr q = bs q.den := by unfold dstr encD; rw [if_neg h]; rfl
theorem bs1 : bs 1 = ⟨#[1]⟩ := by unfold bs; rw [bytesOf_one]
set_option maxHeartbeats 1000000000000 in
set_option maxRecDepth 100000000000 in
theorem den_any (q : Rat) (w : World) :
    Calls Tryz.prog 74 #[enc q] w fun e w' => e = .returned (.string (bs q.den)) ∧ Below w.heap.size w w' := by
  unfold enc
  by_cases h : q.den = 1
  · rw [dstr_one h, h, bs1]
    go_enter Tryz.func74, Tryz.ntmps74
    go_wp2_with fail
    go_ret
    exact ⟨rfl, (Below.refl _ _).alloc (Nat.le_refl _) _⟩
  · rw [dstr_big h]
    have h1 := bytes_ne_nil q.den_nz
    generalize bs q.den = s at *
    obtain ⟨e1, e2⟩ := str_ne h1
    go_enter Tryz.func74, Tryz.ntmps74
    go_wp2_with fail
    go_ret
    exact ⟨rfl, (Below.refl _ _).alloc (Nat.le_refl _) _⟩
end Go.Proofs.YtpbgmpjnfndfjaaGreatDoor.RpA
namespace Go.Proofs.YtpbgmpjnfndfjaaGreatDoor.RpB
theorem here : True := trivial
open Go.RowKit RnA RnB RnS RnC RnK RnM RnL RnN RnD RnE RnQ RnR RnP RnW RnX RoA RoB RoC RoD RoE RoF RoG RoH RoI RoJ RoK RoL RoM RoN PnA PnB PnC PnD PnE PnG PnH PnI PnJ RtA RpA
theorem bytes_mono {m n : Nat} (h : m ≤ n) : (bytesOf m).length ≤ (bytesOf n).length := by
  refine bytesOf_len_le (Nat.lt_of_le_of_lt h ?_)
  have := bval_lt (bytesOf n)
  rwa [bval_bytesOf] at this
theorem bs_mono {m n : Nat} (h : m ≤ n) : (bs m).size ≤ (bs n).size := by rw [bs_size, bs_size]; exact bytes_mono h
theorem nv_size (s : ByteArray) : (bs (nv s)).size ≤ s.size := by
  rw [bs_size]
  have h := bytesOf_len_le (bval_lt s.data.toList)
  have h3 : s.data.toList.length = s.size := by simp
  unfold nv; omega
theorem eq_one (y : Nat) : ((bs y).toList == [1]) = decide (y = 1) := by
  rw [tl]
  show (bytesOf y == [1]) = _
  rw [← bytesOf_one]
  by_cases h : y = 1
  · rw [decide_eq_true h, h]; simp
  · have : bytesOf y ≠ bytesOf 1 := fun e => h (bytesOf_inj e)
    simp [h, this]
theorem enc_mk (s : Bool) {n d : Nat} (hn : n ≠ 0) (hd : d ≠ 0) : enc (mk s n d) = .agg #[.bool s, .string (bs (n / n.gcd d)), .string (if d / n.gcd d = 1 then ⟨#[]⟩ else bs (d / n.gcd d))] := by
  unfold enc
  rw [neg_mk s n d hd, nm_mk s n d hd, decide_eq_true hn, Bool.and_true]
  by_cases h : d / n.gcd d = 1
  · rw [if_pos h, dstr_one (by rw [den_mk s n d hd]; exact h)]
  · rw [if_neg h, dstr_big (by rw [den_mk s n d hd]; exact h), den_mk s n d hd]
/-- the block of a struct result, and what the first allocation leaves -/
theorem res_start (w : World) : Bx (w.alloc (.cells #[.bool false, .string ⟨#[]⟩, .string ⟨#[]⟩] 32)) w.heap.size (.bool false) (.string ⟨#[]⟩) (.string ⟨#[]⟩) ∧
    Below w.heap.size w (w.alloc (.cells #[.bool false, .string ⟨#[]⟩, .string ⟨#[]⟩] 32)) ∧ w.heap.size < (w.alloc (.cells #[.bool false, .string ⟨#[]⟩, .string ⟨#[]⟩] 32)).heap.size :=
  ⟨Bx.new _ _ _ _ _, (Below.refl _ _).alloc (Nat.le_refl _) _, by simp⟩
/-- a function that answers a rational number -/
def RPost (q : Rat) (w : World) (e : Ending) (w' : World) : Prop := e = .returned (enc q) ∧ Below w.heap.size w w'
set_option maxHeartbeats 2000000000000 in
set_option maxRecDepth 100000000000 in
theorem reduced_any (s : Bool) (num den : ByteArray) (w : World) (h1 : num.size ≤ 100000000000) (h2 : den.size ≤ 100000000000) (h0 : nv den ≠ 0) :
    Calls Tryz.prog 69 #[.bool s, .string num, .string den] w (RPost (mk s (nv num) (nv den)) w) := by
  have N1 := Lib.hid (fun w => norm_any num w (by omega))
  have N2 := Lib.hid (fun w => norm_any den w (by omega))
  have S1 := nv_size num
  have S2 := nv_size den
  generalize nv num = x at *
  generalize nv den = y at *
  have hx : (bs x).size ≤ 100000000000 := by omega
  have hy : (bs y).size ≤ 100000000000 := by omega
  clear S1 S2 h1 h2
  obtain ⟨hbx, hb0, hbl⟩ := res_start w
  have HBX := hide hbx
  have HB0 := hide hb0
  clear hbx hb0
  generalize hW : w.alloc (.cells #[.bool false, .string ⟨#[]⟩, .string ⟨#[]⟩] 32) = W at HBX HB0 hbl
  by_cases hx0 : x = 0
  · subst hx0
    have hr : Hid (enc (mk s 0 y) = enc 0) := by show _ = _; rw [mk_zero]
    rw [bs0] at N1
    obtain ⟨c0, c1, c2, f0, f1, f2⟩ := HBX.out
    go_enter Tryz.func69, Tryz.ntmps69
    go_wp2_with fail
    refine (N1.out _).mono ?_
    rintro e w1 ⟨rfl, rfl⟩
    go_wp2_with fail
    refine (N2.out _).mono ?_
    rintro e w1 ⟨rfl, rfl⟩
    go_wp2_with fail
    refine bodyPost_ret (results_rat rfl _ rfl (HBX.out.set3 _ _ _)) rfl ?_
    refine ⟨?_, below_set3 HB0.out (Nat.le_refl _) _ _ _⟩
    rw [hr.out, enc_zero_val]
  · have hxs := bytes_ne_nil hx0
    have hval := enc_mk s hx0 h0
    by_cases hy1 : y = 1
    · have hr : Hid (enc (mk s x y) = .agg #[.bool s, .string (bs x), .string ⟨#[]⟩]) := by
        show _ = _
        rw [hval, hy1, Nat.gcd_one_right, Nat.div_one, if_pos rfl]
      rw [hy1, bs1] at N2
      obtain ⟨e1, e2⟩ := str_ne hxs
      generalize bs x = t at *
      obtain ⟨c0, c1, c2, f0, f1, f2⟩ := HBX.out
      clear hval
      go_enter Tryz.func69, Tryz.ntmps69
      go_wp2_with fail
      refine (N1.out _).mono ?_
      rintro e w1 ⟨rfl, rfl⟩
      go_wp2_with fail
      refine (N2.out _).mono ?_
      rintro e w1 ⟨rfl, rfl⟩
      go_wp2_with fail
      refine bodyPost_ret (results_rat rfl _ rfl (HBX.out.set3 _ _ _)) rfl ?_
      refine ⟨?_, below_set3 HB0.out (Nat.le_refl _) _ _ _⟩
      rw [hr.out]
    · have hg := Lib.hid (fun w => gcd_any (bs x) (bs y) w hx hy)
      rw [nv_bs, nv_bs] at hg
      have hgp : 0 < x.gcd y := Nat.gcd_pos_of_pos_left _ (by omega)
      have hgx : x.gcd y ≤ x := Nat.gcd_le_left _ (by omega)
      have hgs : (bs (x.gcd y)).size ≤ 100000000000 := Nat.le_trans (bs_mono hgx) hx
      have hD1 := Lib.hid (fun w => div_any (bs x) (bs (x.gcd y)) w hx hgs (by rw [nv_bs]; omega))
      have hD2 := Lib.hid (fun w => div_any (bs y) (bs (x.gcd y)) w hy hgs (by rw [nv_bs]; omega))
      rw [nv_bs, nv_bs] at hD1 hD2
      have hey : ((bs y).toList == [1]) = false := by rw [eq_one]; exact decide_eq_false hy1
      have hg1 := eq_one (x.gcd y)
      have hd1 := eq_one (y / x.gcd y)
      obtain ⟨e1, e2⟩ := str_ne hxs
      by_cases hgo : x.gcd y = 1
      · have hr : Hid (enc (mk s x y) = .agg #[.bool s, .string (bs x), .string (bs y)]) := by
          show _ = _
          rw [hval, hgo, Nat.div_one, Nat.div_one, if_neg hy1]
        rw [decide_eq_true hgo] at hg1
        clear hval hD1 hD2 hd1
        generalize bs (x.gcd y) = gs at *
        generalize bs x = t at *
        generalize bs y = u at *
        go_enter Tryz.func69, Tryz.ntmps69
        go_wp2_with fail
        refine (N1.out _).mono ?_
        rintro e w1 ⟨rfl, rfl⟩
        go_wp2_with fail
        refine (N2.out _).mono ?_
        rintro e w1 ⟨rfl, rfl⟩
        go_wp2_with fail
        refine (hg.out _).mono ?_
        rintro e w1 ⟨rfl, hb1⟩
        have HB1 := hide (HBX.out.keep hb1 hbl)
        obtain ⟨c0, c1, c2, f0, f1, f2⟩ := HB1.out
        have hbf := HB0.out.trans (hb1.mono (Nat.le_of_lt hbl))
        go_wp2_with fail
        refine bodyPost_ret (results_rat rfl _ rfl (HB1.out.set3 _ _ _)) rfl ?_
        refine ⟨?_, below_set3 hbf (Nat.le_refl _) _ _ _⟩
        rw [hr.out]
      · rw [decide_eq_false hgo] at hg1
        have hr : Hid (enc (mk s x y) = .agg #[.bool s, .string (bs (x / x.gcd y)), .string (if y / x.gcd y = 1 then ⟨#[]⟩ else bs (y / x.gcd y))]) := hval
        by_cases hq : y / x.gcd y = 1
        all_goals
          first
            | (rw [if_pos hq] at hr; rw [decide_eq_true hq] at hd1)
            | (rw [if_neg hq] at hr; rw [decide_eq_false hq] at hd1)
          clear hval
          generalize bs (y / x.gcd y) = u' at *
          generalize bs (x / x.gcd y) = t' at *
          generalize bs (y % x.gcd y) = v1 at *
          generalize bs (x % x.gcd y) = v2 at *
          generalize bs (x.gcd y) = gs at *
          generalize bs x = t at *
          generalize bs y = u at *
          go_enter Tryz.func69, Tryz.ntmps69
          go_wp2_with fail
          refine (N1.out _).mono ?_
          rintro e w1 ⟨rfl, rfl⟩
          go_wp2_with fail
          refine (N2.out _).mono ?_
          rintro e w1 ⟨rfl, rfl⟩
          go_wp2_with fail
          refine (hg.out _).mono ?_
          rintro e w1 ⟨rfl, hb1⟩
          go_wp2_with fail
          refine (hD1.out _).mono ?_
          rintro e w2 ⟨rfl, hb2⟩
          go_wp2_with fail
          refine (hD2.out _).mono ?_
          rintro e w3 ⟨rfl, hb3⟩
          have hb4 := below_next hb1 (below_next hb2 hb3)
          have HB1 := hide (HBX.out.keep hb4 hbl)
          obtain ⟨c0, c1, c2, f0, f1, f2⟩ := HB1.out
          have hbf := HB0.out.trans (hb4.mono (Nat.le_of_lt hbl))
          go_wp2_with fail
          refine bodyPost_ret (results_rat rfl _ rfl (HB1.out.set3 _ _ _)) rfl ?_
          refine ⟨?_, below_set3 hbf (Nat.le_refl _) _ _ _⟩
          rw [hr.out]
end Go.Proofs.YtpbgmpjnfndfjaaGreatDoor.RpB
namespace Go.Proofs.YtpbgmpjnfndfjaaGreatDoor.RpC
theorem here : True := trivial
open Go.RowKit RnA RnB RnS RnC RnK RnM RnL RnN RnD RnE RnQ RnR RnP RnW RnX RoA RoB RoC RoD RoE RoF RoG RoH RoI RoJ RoK RoL RoM RoN PnA PnB PnC PnD PnE PnG PnH PnI PnJ RtA RpA RpB
def makeQ (s : Bool) (x y : Nat) : Rat × Bool := if y = 0 then (0, false) else (mk s x y, true)
/-- a function that answers a rational number and whether there is one -/
def RBPost (p : Rat × Bool) (w : World) (e : Ending) (w' : World) : Prop := e = .returned (.tuple #[enc p.1, .bool p.2]) ∧ Below w.heap.size w w'
theorem enc_open (q : Rat) : enc q = .agg #[.bool (negB q), .string (bs (nm q)), .string (dstr q)] := rfl
set_option maxHeartbeats 2000000000000 in
set_option maxRecDepth 100000000000 in
theorem make_any (s : Bool) (num den : ByteArray) (w : World) (h1 : num.size ≤ 100000000000) (h2 : den.size ≤ 100000000000) :
    Calls Tryz.prog 173 #[.bool s, .string num, .string den] w (RBPost (makeQ s (nv num) (nv den)) w) := by
  have N2 := Lib.hid (fun w => norm_any den w (by omega))
  have HR : Hid (nv den ≠ 0 → ∀ w, Calls Tryz.prog 69 #[.bool s, .string num, .string den] w (RPost (mk s (nv num) (nv den)) w)) := fun h w => reduced_any s num den w h1 h2 h
  generalize nv num = x at *
  generalize nv den = y at *
  obtain ⟨hbx, hb0, hbl⟩ := res_start w
  have HBX := hide hbx
  have HB0 := hide hb0
  clear hbx hb0 h1 h2
  generalize hW : w.alloc (.cells #[.bool false, .string ⟨#[]⟩, .string ⟨#[]⟩] 32) = W at HBX HB0 hbl
  by_cases hy : y = 0
  · have hr : Hid (makeQ s x y = (0, false)) := by show _ = _; unfold makeQ; rw [if_pos hy]
    rw [hy, bs0] at N2
    obtain ⟨c0, c1, c2, f0, f1, f2⟩ := HBX.out
    go_enter Tryz.func173, Tryz.ntmps173
    go_wp2_with fail
    refine (N2.out _).mono ?_
    rintro e w1 ⟨rfl, rfl⟩
    go_wp2_with fail
    refine bodyPost_ret (results_rat2 rfl _ rfl (HBX.out.set3 _ _ _)) rfl ?_
    refine ⟨?_, below_set3 HB0.out (Nat.le_refl _) _ _ _⟩
    rw [hr.out, enc_zero_val]; rfl
  · have hr : Hid (makeQ s x y = (mk s x y, true)) := by show _ = _; unfold makeQ; rw [if_neg hy]
    obtain ⟨e1, e2⟩ := str_ne (bytes_ne_nil hy)
    have HR2 := Lib.hid (HR.out hy)
    unfold RPost at HR2
    rw [enc_open] at HR2
    generalize bs y = u at *
    clear hy
    go_enter Tryz.func173, Tryz.ntmps173
    go_wp2_with fail
    refine (N2.out _).mono ?_
    rintro e w1 ⟨rfl, rfl⟩
    go_wp2_with fail
    refine (HR2.out _).mono ?_
    rintro e w1 ⟨rfl, hb1⟩
    have HB1 := hide (HBX.out.keep hb1 hbl)
    obtain ⟨c0, c1, c2, f0, f1, f2⟩ := HB1.out
    have hbf := HB0.out.trans (hb1.mono (Nat.le_of_lt hbl))
    go_wp2_with fail
    refine bodyPost_ret (results_rat2 rfl _ rfl (HB1.out.set3 _ _ _)) rfl ?_
    refine ⟨?_, below_set3 hbf (Nat.le_refl _) _ _ _⟩
    rw [hr.out]; rfl
def In64 (n : Int) : Prop := -9223372036854775808 ≤ n ∧ n ≤ 9223372036854775807
set_option maxHeartbeats 2000000000000 in
set_option maxRecDepth 100000000000 in
theorem mag_any (n : Int) (w : World) (hn : In64 n) :
    Calls Tryz.prog 70 #[.int .i64 n] w (SPost (bs n.natAbs) w) := by
  obtain ⟨h1, h2⟩ := hn
  have HF := Lib.hid (fun w => from_any n.natAbs w (by omega))
  by_cases hneg : n < 0
  · have e : ((n.natAbs : Nat) : Int) = -n := by omega
    rw [e] at HF
    generalize bs n.natAbs = t at *
    have p1 : IntKind.u64.wrap (-IntKind.u64.wrap n) = -n := by rw [IntKind.wrap_u64, IntKind.wrap_u64]; omega
    clear e
    go_enter Tryz.func70, Tryz.ntmps70
    go_wp2_with fail
    refine (HF.out _).mono ?_
    rintro e w1 ⟨rfl, hb1⟩
    go_wp2_with fail
    go_ret
    exact ⟨rfl, hb1⟩
  · have e : ((n.natAbs : Nat) : Int) = n := by omega
    rw [e] at HF
    generalize bs n.natAbs = t at *
    clear e
    go_enter Tryz.func70, Tryz.ntmps70
    go_wp2_with fail
    refine (HF.out _).mono ?_
    rintro e w1 ⟨rfl, hb1⟩
    go_wp2_with fail
    go_ret
    exact ⟨rfl, hb1⟩
theorem abs_size {n : Int} (h : In64 n) : (bs n.natAbs).size ≤ 8 := by
  rw [bs_size]
  refine bytesOf_len_le (Nat.lt_of_lt_of_le (m := 18446744073709551616) ?_ (by decide))
  obtain ⟨h1, h2⟩ := h
  omega
/-- an integer as a rational number -/
def intQ (n : Int) : Rat := mk (decide (n < 0)) n.natAbs 1
set_option maxHeartbeats 2000000000000 in
set_option maxRecDepth 100000000000 in
theorem int_any (n : Int) (w : World) (hn : In64 n) :
    Calls Tryz.prog 38 #[.int .i64 n] w (RPost (intQ n) w) := by
  have HM := Lib.hid (fun w => mag_any n w hn)
  have hs := abs_size hn
  have HR := Lib.hid (fun w => reduced_any (decide (n < 0)) (bs n.natAbs) ⟨#[1]⟩ w (by omega) (by decide) (by decide))
  rw [nv_bs, show nv ⟨#[1]⟩ = 1 from rfl] at HR
  unfold RPost at HR
  have hr : Hid (enc (intQ n) = enc (mk (decide (n < 0)) n.natAbs 1)) := rfl
  rw [enc_open (mk (decide (n < 0)) n.natAbs 1)] at HR hr
  obtain ⟨h1, h2⟩ := hn
  obtain ⟨hbx, hb0, hbl⟩ := res_start w
  have HBX := hide hbx
  have HB0 := hide hb0
  generalize hq : mk (decide (n < 0)) n.natAbs 1 = q at *
  generalize bs n.natAbs = t at *
  generalize intQ n = q0 at *
  clear hbx hb0 hs hq
  generalize hW : w.alloc (.cells #[.bool false, .string ⟨#[]⟩, .string ⟨#[]⟩] 32) = W at HBX HB0 hbl
  go_enter Tryz.func38, Tryz.ntmps38
  go_wp2_with fail
  refine (HM.out _).mono ?_
  rintro e w1 ⟨rfl, hb1⟩
  go_wp2_with fail
  refine (HR.out _).mono ?_
  rintro e w2 ⟨rfl, hb2⟩
  have hb4 := below_next hb1 hb2
  have HB1 := hide (HBX.out.keep hb4 hbl)
  obtain ⟨c0, c1, c2, f0, f1, f2⟩ := HB1.out
  have hbf := HB0.out.trans (hb4.mono (Nat.le_of_lt hbl))
  go_wp2_with fail
  refine bodyPost_ret (results_rat rfl _ rfl (HB1.out.set3 _ _ _)) rfl ?_
  refine ⟨?_, below_set3 hbf (Nat.le_refl _) _ _ _⟩
  rw [hr.out]
end Go.Proofs.YtpbgmpjnfndfjaaGreatDoor.RpC
namespace Go.Proofs.YtpbgmpjnfndfjaaGreatDoor.RpD
theorem here : True := trivial
open Go.RowKit RnA RnB RnS RnC RnK RnM RnL RnN RnD RnE RnQ RnR RnP RnW RnX RoA RoB RoC RoD RoE RoF RoG RoH RoI RoJ RoK RoL RoM RoN PnA PnB PnC PnD PnE PnF PnG PnH PnI PnJ PnK RtA RpA RpB RpC
theorem some_pos {s : ByteArray} (h : someB s.data.toList = true) : 0 < s.size ∧ digs s.data.toList = true := by
  unfold someB at h
  rw [Bool.and_eq_true, decide_eq_true_eq] at h
  refine ⟨?_, h.1⟩
  rcases Nat.eq_zero_or_pos s.size with h0 | h0
  · exact absurd (len0 h0) h.2
  · exact h0
theorem isInt_some {s : ByteArray} (h : someB s.data.toList = true) (h0 : 0 < s.size) : isInt s.data.toList = ((s.toList == [48]) || ((s[0].toNat : Int) != 48)) := by
  have hd := (some_pos h).2
  have hb := byte0 h0
  unfold isInt
  rw [hd, tl, hb]
  generalize s[0] = c at *
  generalize s.data.toList.drop 1 = l
  by_cases hc : c = 48
  · subst hc
    by_cases hl : l = []
    · subst hl; rfl
    · simp [hl]
  · have hc2 : ¬ ((c.toNat : Int) = 48) := fun e => hc (UInt8.toNat_inj.1 (by show c.toNat = 48; omega))
    simp [hc]
    intro e
    exact hc (UInt8.toNat_inj.1 (by show c.toNat = 48; omega))
theorem drop_len (c : UInt8) (l : List UInt8) : (dropC c l).length ≤ l.length := by
  unfold dropC
  exact (List.dropWhile_sublist _).length_le
theorem ten_size (n : Nat) : (bs (10 ^ n)).size ≤ n + 1 := by
  rw [bs_size]
  refine bytesOf_len_le ?_
  rw [Nat.pow_succ]
  have h1 : 10 ^ n ≤ 256 ^ n := Nat.pow_le_pow_left (by omega) n
  have h2 : 0 < 256 ^ n := Nat.pow_pos (by omega)
  omega
end Go.Proofs.YtpbgmpjnfndfjaaGreatDoor.RpD
namespace Go.Proofs.YtpbgmpjnfndfjaaGreatDoor.RpE
theorem here : True := trivial
open Go.RowKit RnA RnB RnS RnC RnK RnM RnL RnN RnD RnE RnQ RnR RnP RnW RnX RoA RoB RoC RoD RoE RoF RoG RoH RoI RoJ RoK RoL RoM RoN PnA PnB PnC PnD PnE PnF PnG PnH PnI PnJ PnK PnL RtA RpA RpB RpC RpD
theorem st_app (a b : List UInt8) : st a ++ st b = st (a ++ b) := by
  refine ext_bytes ?_
  simp [st]
/-- what is valid is no longer than what was given -/
theorem fix_size {n : Bool} {a d : ByteArray} : (bs (nm (fixQ n a.data.toList d.data.toList))).size ≤ a.size ∧ (dstr (fixQ n a.data.toList d.data.toList)).size ≤ d.size := by
  cases hv : validB n a.data.toList d.data.toList
  · rw [fix_bad hv]
    have h1 : bs (nm 0) = ⟨#[]⟩ := by rw [show nm 0 = 0 from rfl, bs0]
    have h2 : dstr 0 = ⟨#[]⟩ := rfl
    rw [h1, h2]
    exact ⟨Nat.zero_le _, Nat.zero_le _⟩
  · have h := enc_fix_val hv
    rw [enc_open] at h
    injection h with h
    have h1 := congrArg (fun l => l[1]?) h
    have h2 := congrArg (fun l => l[2]?) h
    simp at h1 h2
    rw [h1, h2]
    exact ⟨Nat.le_refl _, Nat.le_refl _⟩
theorem den_size (q : Rat) : (bs q.den).size ≤ (dstr q).size + 1 := by
  by_cases h : q.den = 1
  · rw [h, bs1]; exact Nat.le_add_left _ _
  · rw [dstr_big h]; exact Nat.le_add_right _ _
/-- behind a box that was given a valid number -/
theorem boxed {w w1 : World} {n : Bool} {a d : ByteArray} (h : Below (w.alloc (.cells #[.bool n, .string a, .string d] 32)).heap.size (w.alloc (.cells #[.bool n, .string a, .string d] 32)) w1) :
    Bx w1 w.heap.size (.bool n) (.string a) (.string d) ∧ Below w.heap.size w w1 ∧ w.heap.size < w1.heap.size :=
  ⟨(Bx.new w _ _ _ _).keep h (by simp), ((Below.refl _ _).alloc (Nat.le_refl _) _).trans (h.mono (by simp)), by have := h.size; simp at this; omega⟩
theorem set3_size (w : World) (k : Nat) (x y z : Value) : (((w.setCell ⟨k, 0, none⟩ x).setCell ⟨k, 1, none⟩ y).setCell ⟨k, 2, none⟩ z).heap.size = w.heap.size := by simp
theorem dec_size (m : Nat) : (st (decOf m)).size ≤ 3 * (bs m).size + 1 := by
  rw [st_size, bs_size]
  refine decOf_len_le ?_
  have h1 : m < 256 ^ (bytesOf m).length := by
    have := bval_lt (bytesOf m)
    rwa [bval_bytesOf] at this
  have h2 : 256 ^ (bytesOf m).length ≤ 1000 ^ (bytesOf m).length := Nat.pow_le_pow_left (by omega) _
  have h3 : (1000 : Nat) ^ (bytesOf m).length = 10 ^ (3 * (bytesOf m).length) := by rw [Nat.pow_mul]
  rw [Nat.pow_succ]
  have h4 : 0 < 10 ^ (3 * (bytesOf m).length) := Nat.pow_pos (by omega)
  omega
theorem fmt_eq (q : Rat) : st (formatQ q) = (if negB q then st [45] else st []) ++ (st (decOf (nm q)) ++ (if q.den = 1 then st [] else (st [47] ++ st (decOf q.den)))) := by
  unfold formatQ
  rw [← st_app, ← st_app]
  congr 1
  · cases negB q <;> rfl
  · congr 1
    by_cases h : q.den = 1
    · rw [if_pos h, if_pos h]
    · rw [if_neg h, if_neg h, st_app]; rfl
theorem st_nil_left (s : ByteArray) : st [] ++ s = s := by rw [← st_self s, st_app]; rfl
theorem st_nil_right (s : ByteArray) : s ++ st [] = s := by rw [← st_self s, st_app, List.append_nil]
theorem bapp_assoc (a b c : ByteArray) : a ++ b ++ c = a ++ (b ++ c) := by rw [← st_self a, ← st_self b, ← st_self c, st_app, st_app, st_app, st_app, List.append_assoc]
theorem den_in (q : Rat) (W : World) (x : Qin.In (Below W.heap.size W)) : Calls Tryz.prog 74 #[.agg #[.bool (negB q), .string (bs (nm q)), .string (dstr q)]] x.val fun e w' => e = .returned (.string (bs q.den)) ∧ ∃ y : Qin.In (Below W.heap.size W), w' = y.val :=
  Qin.call ((den_any q x.val).mono fun _ _ ⟨h1, h2⟩ => ⟨h1, x.ok.trans (h2.mono x.ok.size)⟩)
theorem div_in (s t : ByteArray) (W : World) (x : Qin.In (Below W.heap.size W)) (hs : s.size ≤ 100000000000) (ht : t.size ≤ 100000000000) (h0 : nv t ≠ 0) : Calls Tryz.prog 116 #[.string s, .string t] x.val fun e w' => e = .returned (.tuple #[.string (bs (nv s / nv t)), .string (bs (nv s % nv t)), .bool true]) ∧ ∃ y : Qin.In (Below W.heap.size W), w' = y.val :=
  Qin.call ((div_any s t x.val hs ht h0).mono fun _ _ ⟨h1, h2⟩ => ⟨h1, x.ok.trans (h2.mono x.ok.size)⟩)
theorem _root_.Go.Proofs.YtpbgmpjnfndfjaaGreatDoor.RtA.Bx.lt {w : World} {k : Nat} {x y z : Value} (h : Bx w k x y z) : k < w.heap.size := World.block_lt_of_cell? w ⟨k, 0, none⟩ h.1
/-- a box for an argument and one for a result -/
theorem start2 (w : World) (x y z : Value) : ∃ W0 W1, w.alloc (.cells #[x, y, z] 32) = W0 ∧ W0.alloc (.cells #[.bool false, .string ⟨#[]⟩, .string ⟨#[]⟩] 32) = W1 ∧ W0.heap.size = w.heap.size + 1 ∧
    Hid (Bx W1 w.heap.size x y z) ∧ Hid (Bx W1 (w.heap.size + 1) (.bool false) (.string ⟨#[]⟩) (.string ⟨#[]⟩)) ∧ Hid (Below w.heap.size w W1) ∧ w.heap.size + 1 < W1.heap.size := by
  have hB0 := (Below.refl w.heap.size w).alloc (Nat.le_refl _) (.cells #[x, y, z] 32)
  have hX0 := Bx.new w x y z 32
  have hs : (w.alloc (.cells #[x, y, z] 32)).heap.size = w.heap.size + 1 := by simp
  generalize w.alloc (.cells #[x, y, z] 32) = W0 at *
  obtain ⟨hrx, hrb, hrl⟩ := res_start W0
  rw [hs] at hrx
  exact ⟨W0, _, rfl, rfl, hs, hX0.keep hrb (by omega), hrx, hB0.trans (hrb.mono (by omega)), by omega⟩
/-- the greatest integer that is not greater, by its sign and absolute value -/
def floorN (q : Rat) : Nat := nm q / q.den + (if negB q = true ∧ nm q % q.den ≠ 0 then 1 else 0)
end Go.Proofs.YtpbgmpjnfndfjaaGreatDoor.RpE
namespace Go.Proofs.YtpbgmpjnfndfjaaGreatDoor.RpF
theorem here : True := trivial
open Go.RowKit RnA RnB RnS RnC RnK RnM RnL RnN RnD RnE RnQ RnR RnP RnW RnX RoA RoB RoC RoD RoE RoF RoG RoH RoI RoJ RoK RoL RoM RoN PnA PnB PnC PnD PnE PnF PnG PnH PnI PnJ PnK PnL RtA RpA RpB RpC RpD RpE
/-- what the library's functions read of package-level variables -/
def Env (w : World) : Prop := 3 ≤ w.heap.size ∧ ∃ m, w.cell? ⟨0, 0, none⟩ = some (.int .i64 m)
theorem Env.below {w w' : World} (h : Env w) (hb : Below w.heap.size w w') : Env w' := by
  obtain ⟨h1, m, h2⟩ := h
  exact ⟨Nat.le_trans h1 hb.size, m, (hb.cell (p := ⟨0, 0, none⟩) (by show 0 < w.heap.size; omega)).trans h2⟩
theorem index_up (c : UInt8) : ∀ l : List UInt8, Lib.indexByte l c = if c ∈ l then ((upTo c l).length : Int) else -1
  | [] => by simp [Lib.indexByte]
  | b :: l => by
    have ih := index_up c l
    unfold Lib.indexByte
    unfold upTo at ih ⊢
    by_cases h : b = c
    · subst h; simp
    · have h' : ¬ c = b := fun e => h e.symm
      by_cases hm : c ∈ l
      · rw [if_pos hm] at ih
        simp [h, h', hm, ih]
      · rw [if_neg hm] at ih
        simp [h, h', hm, ih]
theorem up_split {c : UInt8} : ∀ {l : List UInt8}, c ∈ l → l.take (upTo c l).length = upTo c l ∧ l.drop ((upTo c l).length + 1) = behind c l
  | [], h => by simp at h
  | b :: l, h => by
    unfold upTo behind
    by_cases hb : b = c
    · subst hb; simp
    · have hm : c ∈ l := by
        rcases List.mem_cons.1 h with e | e
        · exact absurd e.symm hb
        · exact e
      obtain ⟨h1, h2⟩ := up_split hm
      unfold upTo at h1
      unfold upTo behind at h2
      simp [hb]
      exact ⟨by simpa using h1, by simpa using h2⟩
theorem cut_eq (c : UInt8) (l : List UInt8) : Lib.cut l [c] = cutL c l := by
  unfold Lib.cut cutL
  rw [Lib.index_one, index_up]
  by_cases h : c ∈ l
  · rw [if_pos h, if_pos (by omega), if_pos h]
    obtain ⟨h1, h2⟩ := up_split h
    simp [h1, h2]
  · rw [if_neg h, if_neg (by omega), if_neg h]
/-- what a body without its sign reads as, by its cuts -/
def readC (neg : Bool) (l w1 f1 : List UInt8) (pt : Bool) (p2 q2 : List UInt8) (sl : Bool) : Rat × Int :=
  if pt = true then
    (if isInt w1 = true ∧ someB f1 = true then
      (if 2000 < w1.length ∨ 2000 < f1.length then (0, 2)
      else (mk neg (dec w1 * 10 ^ f1.length + dec f1) (10 ^ f1.length), 0))
    else (0, 3))
  else if sl = true then
    (if isInt p2 = true ∧ isInt q2 = true then
      (if 2000 < p2.length ∨ 2000 < q2.length then (0, 2)
      else if q2 = [48] then (0, 1)
      else (mk neg (dec p2) (dec q2), 0))
    else (0, 3))
  else if isInt l = true then (if 2000 < l.length then (0, 2) else (mk neg (dec l) 1, 0))
  else (0, 3)
theorem readQ_cut (neg : Bool) (l : List UInt8) : readQ neg l = readC neg l (cutL 46 l).1 (cutL 46 l).2.1 (cutL 46 l).2.2 (cutL 47 l).1 (cutL 47 l).2.1 (cutL 47 l).2.2 := by
  unfold readQ readC cutL someB
  by_cases h1 : 46 ∈ l
  · simp [h1]
  · by_cases h2 : 47 ∈ l
    · simp [h1, h2]
    · simp [h1, h2]
theorem cut_len (c : UInt8) (l : List UInt8) : (cutL c l).1.length ≤ l.length ∧ (cutL c l).2.1.length ≤ l.length := by
  unfold cutL
  split
  · constructor
    · unfold upTo; exact (List.takeWhile_sublist _).length_le
    · unfold behind
      rw [List.length_drop]
      have := (List.dropWhile_sublist (fun x => x != c) (l := l)).length_le
      show (List.dropWhile (fun x => x != c) l).length - 1 ≤ l.length
      omega
  · simp
theorem parseQ_open (l : List UInt8) : parseQ l = readQ (Lib.hasPrefix l [45]) (Lib.trimPrefix l [45]) := by
  unfold parseQ Lib.trimPrefix Lib.hasPrefix
  rcases l with _ | ⟨c, l⟩
  · rfl
  · by_cases h : c = 45
    · subst h; simp
    · have h' : ((45 : UInt8) == c) = false := by simpa using fun e : (45 : UInt8) = c => h e.symm
      simp [h, List.isPrefixOf, h']
theorem bs_pow {m k : Nat} (h : m < 10 ^ k) : (bs m).size ≤ k := by
  rw [bs_size]
  refine bytesOf_len_le (Nat.lt_of_lt_of_le h (Nat.pow_le_pow_left (by omega) k))
theorem dec_bs {s : ByteArray} (h : digs s.data.toList = true) : (bs (dec s.data.toList)).size ≤ s.size := by
  have := dec_lt h
  rw [show s.data.toList.length = s.size by simp] at this
  exact bs_pow this
theorem isInt_digs {l : List UInt8} (h : isInt l = true) : digs l = true := by
  unfold isInt at h
  simp only [Bool.and_eq_true] at h
  exact h.1.1
/-- a function that answers a rational number and a code -/
def RCPost (p : Rat × Int) (w : World) (e : Ending) (w' : World) : Prop := e = .returned (.tuple #[enc p.1, .int .i64 p.2]) ∧ Below w.heap.size w w'
theorem enc_zero_ret : enc 0 = .agg #[.bool false, .string ⟨#[]⟩, .string ⟨#[]⟩] := enc_zero_val
end Go.Proofs.YtpbgmpjnfndfjaaGreatDoor.RpF
namespace Go.Proofs.YtpbgmpjnfndfjaaGreatDoor.RpG
theorem here : True := trivial
open Go.RowKit RnA RnB RnS RnC RnK RnM RnL RnN RnD RnE RnQ RnR RnP RnW RnX RoA RoB RoC RoD RoE RoF RoG RoH RoI RoJ RoK RoL RoM RoN PnA PnB PnC PnD PnE PnF PnG PnH PnI PnJ PnK PnL RtA RpA RpB RpC RpD RpE
def zeros (c : Nat) : ByteArray := st (List.replicate c 48)
theorem z0 (h : 0 < (⟨#[48]⟩ : ByteArray).size) : (((⟨#[48]⟩ : ByteArray)[0]'h).toNat : Int) = 48 := rfl
def z64 : ByteArray := ⟨#[48, 48, 48, 48, 48, 48, 48, 48, 48, 48, 48, 48, 48, 48, 48, 48, 48, 48, 48, 48, 48, 48, 48, 48, 48, 48, 48, 48, 48, 48, 48, 48, 48, 48, 48, 48, 48, 48, 48, 48, 48, 48, 48, 48, 48, 48, 48, 48, 48, 48, 48, 48, 48, 48, 48, 48, 48, 48, 48, 48, 48, 48, 48, 48]⟩
theorem z64_data : z64.data.toList = List.replicate 64 48 := rfl
theorem z64_take (c : Nat) (h : c ≤ 64) : z64.extract 0 c = zeros c := by
  refine ext_bytes ?_
  have e : (z64.extract 0 c).data.toList = z64.data.toList.take c := by simp [ByteArray.data_extract]
  rw [e, z64_data, List.take_replicate, Nat.min_eq_left h]
  rfl
def clampN (n : Int) : Nat := (min (max n 0) 20).toNat
theorem clampN_le (n : Int) : clampN n ≤ 20 := by unfold clampN; omega
theorem mul_in (s t : ByteArray) (W : World) (x : Qin.In (Below W.heap.size W)) (hs : s.size ≤ 100000000000) (ht : t.size ≤ 100000000000) : Calls Tryz.prog 73 #[.string s, .string t] x.val fun e w' => e = .returned (.string (bs (nv s * nv t))) ∧ ∃ y : Qin.In (Below W.heap.size W), w' = y.val :=
  Qin.call ((mul_any s t x.val hs ht).mono fun _ _ ⟨h1, h2⟩ => ⟨h1, x.ok.trans (h2.mono x.ok.size)⟩)
theorem shown_eq (t p : Nat) : st (shown t p) = if (st (decOf t)).size ≤ p then zeros (p + 1 - (st (decOf t)).size) ++ st (decOf t) else st (decOf t) := by
  unfold shown zeros
  rw [st_size]
  by_cases h : (decOf t).length ≤ p
  · rw [if_pos h, st_app]
  · rw [if_neg h, show p + 1 - (decOf t).length = 0 by omega]; rfl
theorem ext_take (s : ByteArray) (k : Nat) : s.extract 0 k = st (s.data.toList.take k) := by
  refine ext_bytes ?_
  rw [st_data]
  simp [ByteArray.data_extract]
theorem ext_drop (s : ByteArray) (k : Nat) : s.extract k s.size = st (s.data.toList.drop k) := by
  refine ext_bytes ?_
  rw [st_data, drop_bytes]
theorem pointed_eq (S : ByteArray) (p : Nat) : st (pointed S.data.toList p) = if 0 < p then S.extract 0 (S.size - p) ++ ⟨#[46]⟩ ++ S.extract (S.size - p) S.size else S := by
  unfold pointed
  have hz : S.data.toList.length = S.size := by simp
  by_cases h : 0 < p
  · rw [if_pos h, if_pos h, hz, ext_take, ext_drop, show (⟨#[46]⟩ : ByteArray) = st [46] from rfl, st_app, st_app]
    simp
  · rw [if_neg h, if_neg h, st_self]
end Go.Proofs.YtpbgmpjnfndfjaaGreatDoor.RpG
namespace Go.Proofs.YtpbgmpjnfndfjaaGreatDoor.RpH
theorem here : True := trivial
open Go.RowKit RnA RnB RnS RnC RnK RnM RnL RnN RnD RnE RnQ RnR RnP RnW RnX RoA RoB RoC RoD RoE RoF RoG RoH RoI RoJ RoK RoL RoM RoN PnA PnB PnC PnD PnE PnF PnG PnH PnI PnJ PnK PnL RtA RpA RpB RpC RpD RpE RpF RpG
theorem ex1 : formatQ (mk true 6 4) = [45, 51, 47, 50] := by decide +kernel
theorem ex2 : formatQ (mk (negB (mk true 6 4)) (floorN (mk true 6 4)) 1) = [45, 50] := by decide +kernel
theorem ex3 : parseQ [51, 46, 50, 53, 48] = (mk false 3250 1000, 0) := by decide +kernel
theorem ex4 : formatQ (mk false 3250 1000) = [49, 51, 47, 52] := by decide +kernel
theorem ex5 : decimalQ (mk true 2 3) 2 = [45, 48, 46, 54, 54] := by decide +kernel
theorem bq (q : Rat) (h : nm q < 256) : (bs (nm q)).size ≤ 1 := by
  rw [bs_size]; exact bytesOf_len_le (by omega)
theorem dq (q : Rat) (h : q.den < 256) : (dstr q).size ≤ 1 := by
  unfold dstr encD
  rw [st_size]
  split
  · exact Nat.zero_le _
  · exact bytesOf_len_le (by omega)
theorem dstr_list (q : Rat) : (dstr q).data.toList = encD q := rfl
theorem bs_list (n : Nat) : (bs n).data.toList = bytesOf n := rfl
theorem fix_self (q : Rat) : fixQ (negB q) (bs (nm q)).data.toList (dstr q).data.toList = q := fix_enc q
theorem ex6 : nm (mk true 6 4) < 256 ∧ (mk true 6 4).den < 256 ∧ nm (mk (negB (mk true 6 4)) (floorN (mk true 6 4)) 1) < 256 ∧ (mk (negB (mk true 6 4)) (floorN (mk true 6 4)) 1).den < 256 ∧ nm (mk false 3250 1000) < 256 ∧ (mk false 3250 1000).den < 256 ∧ nm (mk true 2 3) < 256 ∧ (mk true 2 3).den < 256 := by decide +kernel
theorem box_new (w : World) (x y z : Value) : ∃ V, w.alloc (.cells #[x, y, z] 32) = V ∧ Hid (Bx V w.heap.size x y z) ∧ Below w.heap.size w V ∧ w.heap.size < V.heap.size :=
  ⟨_, rfl, Bx.new _ _ _ _ _, (Below.refl _ _).alloc (Nat.le_refl _) _, by simp⟩
end Go.Proofs.YtpbgmpjnfndfjaaGreatDoor.RpH
namespace Go.Proofs.YtpbgmpjnfndfjaaGreatDoor.RtB
theorem here : True := trivial
open Go.RowKit RnA RnB RnS RnC RnK RnM RnL RnN RnD RnE RnQ RnR RnP RnW RnX RoA RoB RoC RoD RoE RoF RoG RoH RoI RoJ RoK RoL RoM RoN PnA PnB PnC PnD PnE PnF PnG PnH PnI PnJ PnK PnL RtA RpA RpB RpC RpD RpE RpF RpG RpH
theorem _root_.Go.Proofs.YtpbgmpjnfndfjaaGreatDoor.RtA.Bx.other {w : World} {k j : Nat} {x y z : Value} (h : Bx w k x y z) (hj : k ≠ j) (o : Nat) (v : Value) : Bx (w.setCell ⟨j, o, none⟩ v) k x y z := by
  obtain ⟨e0, e1, e2, e3, e4, e5⟩ := h
  refine ⟨?_, ?_, ?_, fr_set e3, fr_set e4, fr_set e5⟩
  all_goals
    rw [World.cell?_setCell_other _ _ _ _ (by intro e; injection e with e; omega)]
    assumption
theorem _root_.Go.Proofs.YtpbgmpjnfndfjaaGreatDoor.RtA.Bx.put2 {w : World} {k : Nat} {x y z : Value} (h : Bx w k x y z) (z' : Value) : Bx (w.setCell ⟨k, 2, none⟩ z') k x y z' := by
  obtain ⟨e0, e1, e2, e3, e4, e5⟩ := h
  refine ⟨?_, ?_, ?_, fr_set e3, fr_set e4, fr_set e5⟩
  · rw [World.cell?_setCell_other _ _ _ _ (by intro e; injection e with e1 e2; omega)]; assumption
  · rw [World.cell?_setCell_other _ _ _ _ (by intro e; injection e with e1 e2; omega)]; assumption
  · exact World.cell?_setCell_same _ _ _ e2
/-- how the test of a single limb goes -/
theorem one_limb {g k : Nat} (h0 : g ≠ 0) (hk : (limbs g).length = k) : (g = 1 ∧ k = 1) ∨ (1 < k ∧ g ≠ 1) ∨ (k = 1 ∧ 1 < g ∧ g < 4294967296) := by
  by_cases h1 : g = 1
  · subst h1
    rw [limbs_one (by omega) (by omega)] at hk
    exact .inl ⟨rfl, hk.symm⟩
  · by_cases h2 : 1 < k
    · exact .inr (.inl ⟨h2, h1⟩)
    · have h3 := sz_pos h0
      unfold sz at h3
      have h4 : (limbs g).length = 1 := by omega
      obtain ⟨_, _, h5⟩ := limbs_single h4
      exact .inr (.inr ⟨by omega, by omega, h5⟩)
theorem first_limb {w : World} {A : Option Addr} {c g : Nat} (h : NAt w A c g) (h1 : (limbs g).length = 1) : ∃ b off, A = some ⟨b, off, none⟩ ∧ w.cell? ⟨b, off, none⟩ = some (.int .u32 (g : Int)) := by
  obtain ⟨b, off, e, _, hc⟩ := h.1.2.2 (by omega)
  exact ⟨b, off, e, hc 0 g (by rw [(limbs_single h1).1]; rfl)⟩
set_option maxHeartbeats 4000000000000 in
set_option maxRecDepth 100000000000 in
theorem rreduced_any (s : Bool) (x y : Nat) (A B : Option Addr) (c c' : Nat) (w : World) (ha : NAt w A c x) (hb : NAt w B c' y) (hx : sz x ≤ 100000000000) (hy : sz y ≤ 100000000000) (h0 : y ≠ 0) :
    Calls Tryz.prog 156 #[.bool s, .slice A (limbs x).length c, .slice B (limbs y).length c'] w (RPost (mk s x y) w) := by
  obtain ⟨V0, hV0, HX0, hc0, hl0⟩ := box_new w (.bool false) (.string ⟨#[]⟩) (.string ⟨#[]⟩)
  have HA := hide (ha.next hc0)
  have HB := hide (hb.next hc0)
  have HC0 := hide hc0
  clear ha hb hc0
  have hlx := HA.out.1.len
  have hly := HB.out.1.len
  by_cases hx0 : x = 0
  · have hr : Hid (enc (mk s x y) = enc 0) := by show _ = _; rw [hx0, mk_zero]
    have hm : (limbs x).length = 0 := limbs_nil.2 hx0
    rw [hm] at hlx ⊢
    generalize (limbs y).length = n at *
    clear HA HB
    obtain ⟨c0, c1, c2, f0, f1, f2⟩ := HX0.out
    go_enter Tryz.func156, Tryz.ntmps156
    go_wp2_with fail
    refine bodyPost_ret (results_rat rfl _ rfl (HX0.out.set3 _ _ _)) rfl ?_
    refine ⟨?_, below_set3 HC0.out (Nat.le_refl _) _ _ _⟩
    rw [hr.out, enc_zero_val]
  · have hr := hide (enc_mk s hx0 h0)
    have hm : 0 < (limbs x).length := sz_pos hx0
    have hg0 : x.gcd y ≠ 0 := Nat.gcd_ne_zero_left hx0
    have hsg : sz (x.gcd y) ≤ 100000000000 := Nat.le_trans (sz_gcd (by omega)) hy
    have hdx := Nat.gcd_dvd_left x y
    have hdy := Nat.gcd_dvd_right x y
    have hdy0 : y / x.gcd y ≠ 0 := fun e => h0 (by rw [← Nat.div_mul_cancel hdy, e, Nat.zero_mul])
    have hsx : sz (x / x.gcd y) ≤ 100000000000 := Nat.le_trans (sz_div _ _) hx
    have hsy : sz (y / x.gcd y) ≤ 100000000000 := Nat.le_trans (sz_div _ _) hy
    have HG := hide (rcommon_any x y A B c c' V0 HA.out HB.out hx hy)
    have HX := hide hx
    have HY := hide hy
    have HG0 := hide hg0
    have HDY0 := hide hdy0
    have HSX := hide hsx
    have HSY := hide hsy
    have HD1 : Hid (x.gcd y = 1 → x / x.gcd y = x ∧ y / x.gcd y = y) := fun e => by rw [e, Nat.div_one, Nat.div_one]; exact ⟨rfl, rfl⟩
    clear hdx hdy hx0 h0 hx hy hg0 hdy0 hsx hsy
    generalize x.gcd y = g at *
    generalize hmm : (limbs x).length = m at *
    generalize hnn : (limbs y).length = n at *
    have HM := hide hmm
    have HN := hide hnn
    clear hmm hnn
    go_enter Tryz.func156, Tryz.ntmps156
    go_wp2_with fail
    refine HG.out.mono ?_
    rintro e w1 ⟨G, c3, rfl, hG1, hG2, hG3, hb1⟩
    have HG1 : Hid (NAt w1 G c3 g) := ⟨hG3, hG1, hG2⟩
    have hlg := hG3.len
    have HA1 : Hid (NAt w1 A c x) := HA.out.next hb1
    have HB1 : Hid (NAt w1 B c' y) := HB.out.next hb1
    have HX1 := hide (HX0.out.keep hb1 (by omega))
    have HC1 := hide (HC0.out.trans (hb1.mono (by omega)))
    have hs1 := hb1.size
    obtain ⟨k, hk⟩ : ∃ k, (limbs g).length = k := ⟨_, rfl⟩
    have hcase := one_limb HG0.out hk
    have HK := hide hk
    have HCA := hide hcase
    rw [hk] at hlg ⊢
    clear hG1 hG2 hG3 hb1 hk hcase HA HB HX0 HC0 HG
    go_upto_region 4 with fail
    go_cut [24] (fun v wx => v = .bool (decide (g ≠ 1)) ∧ w1 = wx)
    case first =>
      rcases HCA.out with ⟨hg1, hk1⟩ | ⟨h, hg1⟩ | ⟨hk1, hg1, hg2⟩
      · obtain ⟨b, off, rfl, hc⟩ := first_limb HG1.out (HK.out.trans hk1)
        rw [hg1] at hc
        have hd : Hid (decide (g ≠ 1) = false) := decide_eq_false (by omega)
        subst hk1
        clear hg1
        go_wp2_with fail
        go_meet
        case rel => exact ⟨by rw [hd.out], rfl⟩
      · have hd : Hid (decide (g ≠ 1) = true) := decide_eq_true hg1
        go_wp2_with fail
        go_meet
        case rel => exact ⟨by rw [hd.out], rfl⟩
      · obtain ⟨b, off, rfl, hc⟩ := first_limb HG1.out (HK.out.trans hk1)
        have hd : Hid (decide (g ≠ 1) = true) := decide_eq_true (by omega)
        have hdd : decide (1 < (g : Int)) = true := decide_eq_true (by omega)
        subst hk1
        go_wp2_with fail
        go_meet
        case rel => exact ⟨by rw [hd.out], rfl⟩
    case rest =>
    obtain ⟨rfl, rfl⟩ := hcut
    go_upto_if 24 with fail
    go_cut [1, 2] (fun va vb wx => ∃ (A2 B2 : Option Addr) (c2 c4 : Nat), va = .slice A2 (limbs (x / g)).length c2 ∧ vb = .slice B2 (limbs (y / g)).length c4 ∧ Hid (NAt wx A2 c2 (x / g)) ∧ Hid (NAt wx B2 c4 (y / g)) ∧ Below w1.heap.size w1 wx)
    case first =>
      by_cases hg1 : g = 1
      · obtain ⟨e1, e2⟩ := HD1.out hg1
        have hd : decide (g ≠ 1) = false := decide_eq_false (by omega)
        rw [hd]
        have hq1 : Hid ((limbs (x / g)).length = m) := by show _ = _; rw [e1]; exact HM.out
        have hq2 : Hid ((limbs (y / g)).length = n) := by show _ = _; rw [e2]; exact HN.out
        have HA2 : Hid (NAt w1 A c (x / g)) := by show NAt _ _ _ _; rw [e1]; exact HA1.out
        have HB2 : Hid (NAt w1 B c' (y / g)) := by show NAt _ _ _ _; rw [e2]; exact HB1.out
        clear e1 e2 hg1 hd
        go_wp2_with fail
        go_meet
        case rel => exact ⟨A, B, c, c', by rw [hq1.out], by rw [hq2.out], HA2, HB2, Below.refl _ _⟩
      · have HD2 := hide (rdivide_any x g m k A G c c3 w1 HA1.out.1 HG1.out.1 HM.out HK.out (by rw [← HM.out]; exact HA1.out.2.1) HA1.out.2.2 HX.out HG0.out)
        have HGG : Hid (∀ w2, NAt w2 G c3 g → NAt w2 B c' y → Calls Tryz.prog 199 #[.slice B n c', .slice G k c3] w2 (QPost (y / g) (y % g) w2)) := fun w2 q1 q2 => rdivide_any y g n k B G c' c3 w2 q2.1 q1.1 HN.out HK.out (by rw [← HN.out]; exact q2.2.1) q2.2.2 HY.out HG0.out
        have hd : decide (g ≠ 1) = true := decide_eq_true hg1
        rw [hd]
        clear hd hg1
        go_wp2_with fail
        refine HD2.out.mono ?_
        rintro e w2 ⟨A2, c2, A3, c5, rfl, q1, q2, q3, q4, q5, q6, q7⟩
        have HA2 : Hid (NAt w2 A2 c2 (x / g)) := ⟨q5, q1, q2⟩
        have HG2 := HG1.out.next q7
        have HB2 := HB1.out.next q7
        have hq5 := q5.len
        have hq6 := q6.len
        have Q7 := hide q7
        have HE2 := hide (HGG.out w2 HG2 HB2)
        clear q1 q2 q3 q4 q5 q6 q7 HG2 HB2 HD2
        go_wp2_with fail
        refine HE2.out.mono ?_
        rintro e w3 ⟨B2, c4, A4, c6, rfl, q1, q2, q3, q4, q5, q6, q7⟩
        have HB2 : Hid (NAt w3 B2 c4 (y / g)) := ⟨q5, q1, q2⟩
        have HA4 : Hid (NAt w3 A2 c2 (x / g)) := HA2.out.next q7
        have hbf := below_next Q7.out q7
        clear q1 q2 q3 q4 q5 q6 q7
        go_wp2_with fail
        go_meet
        case rel => exact ⟨A2, B2, c2, c4, rfl, rfl, HA4, HB2, hbf⟩
    case rest =>
      obtain ⟨A2, B2, c2, c4, rfl, rfl, HA2, HB2, hbc⟩ := hcut
      have HX2 := hide (HX1.out.keep hbc (by omega))
      have HC2 := hide (HC1.out.trans (hbc.mono (by omega)))
      have hs2 := hbc.size
      clear hbc HA1 HB1 HG1 HX1 HC1 HCA HK HM HN HD1
      generalize x / g = x2 at *
      generalize y / g = y2 at *
      obtain ⟨m2, hm2⟩ : ∃ m2, (limbs x2).length = m2 := ⟨_, rfl⟩
      obtain ⟨n2, hn2⟩ : ∃ n2, (limbs y2).length = n2 := ⟨_, rfl⟩
      have HT1 : Hid (∀ w, NAt w A2 c2 x2 → Calls Tryz.prog 157 #[.slice A2 m2 c2] w (SPost (bs x2) w)) := fun w h => by
        have := rtext_any (limbs x2) A2 c2 w h.1 h.2.1 (by have := HSX.out; unfold sz at this; omega)
        rw [lval_limbs, hm2] at this
        exact this
      have HT2 : Hid (∀ w, NAt w B2 c4 y2 → Calls Tryz.prog 157 #[.slice B2 n2 c4] w (SPost (bs y2) w)) := fun w h => by
        have := rtext_any (limbs y2) B2 c4 w h.1 h.2.1 (by have := HSY.out; unfold sz at this; omega)
        rw [lval_limbs, hn2] at this
        exact this
      have hl1 := HA2.out.1.len
      have hl2 := HB2.out.1.len
      rw [hm2] at hl1
      rw [hn2] at hl2
      rw [hm2, hn2]
      have HCA := hide (one_limb HDY0.out hn2)
      have HN2 := hide hn2
      clear hm2 hn2 HSX HSY HX HY
      have HT1' := hide (HT1.out _ HA2.out)
      go_wp2_with fail
      refine HT1'.out.mono ?_
      rintro e w3 ⟨rfl, hb3⟩
      obtain ⟨V4, hV4, HY4, hc4, hl4⟩ := box_new w3 (.bool s) (.string (bs x2)) (.string ⟨#[]⟩)
      have hs3 := hb3.size
      have HX4 := hide (HX2.out.keep (hb3.trans (hc4.mono hs3)) (by omega))
      have HB4 : Hid (NAt V4 B2 c4 y2) := (HB2.out.next hb3).next hc4
      have HC4 := hide (HC2.out.trans ((hb3.trans (hc4.mono hs3)).mono (by omega)))
      clear hb3 hc4 HX2 HB2 HA2 HT1' HC2 HT1
      have HV4 := hide hV4
      clear hV4
      go_upto_region 8 with fail
      rw [HV4.out]
      go_cut [49] (fun v wx => v = .bool (decide (y2 ≠ 1)) ∧ V4 = wx)
      case first =>
        rcases HCA.out with ⟨hg1, hk1⟩ | ⟨h, hg1⟩ | ⟨hk1, hg1, hg2⟩
        · obtain ⟨b, off, rfl, hc⟩ := first_limb HB4.out (HN2.out.trans hk1)
          rw [hg1] at hc
          have hd : Hid (decide (y2 ≠ 1) = false) := decide_eq_false (by omega)
          subst hk1
          clear hg1
          go_wp2_with fail
          go_meet
          case rel => exact ⟨by rw [hd.out], rfl⟩
        · have hd : Hid (decide (y2 ≠ 1) = true) := decide_eq_true hg1
          go_wp2_with fail
          go_meet
          case rel => exact ⟨by rw [hd.out], rfl⟩
        · obtain ⟨b, off, rfl, hc⟩ := first_limb HB4.out (HN2.out.trans hk1)
          have hd : Hid (decide (y2 ≠ 1) = true) := decide_eq_true (by omega)
          have hdd : decide (1 < (y2 : Int)) = true := decide_eq_true (by omega)
          subst hk1
          go_wp2_with fail
          go_meet
          case rel => exact ⟨by rw [hd.out], rfl⟩
      case rest =>
        obtain ⟨rfl, rfl⟩ := hcut
        have hr2 := hr.out
        clear hr HCA HN2
        by_cases hy1 : y2 = 1
        · rw [if_pos hy1] at hr2
          have HR := hide hr2
          have hd : decide (y2 ≠ 1) = false := decide_eq_false (by omega)
          rw [hd]
          clear hr2 hd hy1
          obtain ⟨c0, c1, c2, f0, f1, f2⟩ := HX4.out
          obtain ⟨d0, d1, d2, g0, g1, g2⟩ := HY4.out
          go_wp2_with fail
          refine bodyPost_ret (results_rat rfl _ rfl (HX4.out.set3 _ _ _)) rfl ?_
          refine ⟨?_, below_set3 HC4.out (Nat.le_refl _) _ _ _⟩
          rw [HR.out]
        · rw [if_neg hy1] at hr2
          have HR := hide hr2
          have hd : decide (y2 ≠ 1) = true := decide_eq_true hy1
          rw [hd]
          clear hr2 hd hy1
          have HT2' := hide (HT2.out _ HB4.out)
          go_wp2_with fail
          refine HT2'.out.mono ?_
          rintro e w5 ⟨rfl, hb5⟩
          have HX5 := HX4.out.keep hb5 (by omega)
          have HY5 := HY4.out.keep hb5 (by omega)
          have HC5 := HC4.out.trans (hb5.mono (by omega))
          obtain ⟨g0, g1, g2, p0, p1, p2⟩ := HY5
          obtain ⟨W6, hW6⟩ : ∃ W6, w5.setCell ⟨w3.heap.size, 2, none⟩ (.string (bs y2)) = W6 := ⟨_, rfl⟩
          have HX6 := HX5.other (j := w3.heap.size) (by omega) 2 (.string (bs y2))
          have HY6 := (show Bx w5 w3.heap.size _ _ _ from ⟨g0, g1, g2, p0, p1, p2⟩).put2 (.string (bs y2))
          have HC6 : Below w.heap.size w W6 := by rw [← hW6]; exact HC5.setCell (by show w.heap.size ≤ w3.heap.size; omega) _
          rw [hW6] at HX6 HY6
          have HX6' := hide HX6
          have HC6' := hide HC6
          clear HT2' HT2 HX5 HC5 HX4 HY4 HC4 HB4 HC6
          obtain ⟨c0, c1, c2, f0, f1, f2⟩ := HX6
          obtain ⟨d0, d1, d2, _⟩ := HY6
          go_wp2_with fail
          refine bodyPost_ret (results_rat rfl _ rfl (HX6'.out.set3 _ _ _)) rfl ?_
          refine ⟨?_, below_set3 HC6'.out (Nat.le_refl _) _ _ _⟩
          rw [HR.out]
end Go.Proofs.YtpbgmpjnfndfjaaGreatDoor.RtB
namespace Go.Proofs.YtpbgmpjnfndfjaaGreatDoor.RtC
theorem here : True := trivial
open Go.RowKit RnA RnB RnS RnC RnK RnM RnL RnN RnD RnE RnQ RnR RnP RnW RnX RoA RoB RoC RoD RoE RoF RoG RoH RoI RoJ RoK RoL RoM RoN PnA PnB PnC PnD PnE PnF PnG PnH PnI PnJ PnK PnL RtA RpA RpB RpC RpD RpE RpF RpG RpH RtB
set_option maxHeartbeats 2000000000000 in
set_option maxRecDepth 100000000000 in
theorem rmake_any (s : Bool) (num den : ByteArray) (w : World) (h1 : num.size ≤ 100000000000) (h2 : den.size ≤ 100000000000) :
    Calls Tryz.prog 111 #[.bool s, .string num, .string den] w (RBPost (makeQ s (nv num) (nv den)) w) := by
  have hx := nv_le (s := num) (k := 25000000000) (by omega)
  have hy := nv_le (s := den) (k := 25000000000) (by omega)
  have P1 := Lib.hid (fun w => rlimbs_any den w (by omega))
  have P2 := Lib.hid (fun w => rlimbs_any num w (by omega))
  generalize nv num = x at *
  generalize nv den = y at *
  obtain ⟨V0, hV0, HX0, hc0, hl0⟩ := box_new w (.bool false) (.string ⟨#[]⟩) (.string ⟨#[]⟩)
  have HC0 := hide hc0
  clear hc0 h1 h2
  have HSX := hide hx
  have HSY := hide hy
  clear hx hy
  go_enter Tryz.func111, Tryz.ntmps111
  go_wp2_with fail
  refine (P1.out _).mono ?_
  rintro e w1 ⟨A, c, rfl, hA1, hA2, hA3, hb1⟩
  have HA : Hid (NAt w1 A c y) := ⟨hA3, hA1, hA2⟩
  have hl := hA3.len
  have HX1 := hide (HX0.out.keep hb1 (by omega))
  have HC1 := hide (HC0.out.trans (hb1.mono (by omega)))
  have hs1 := hb1.size
  clear hA1 hA2 hA3 HX0 HC0 hb1
  obtain ⟨m, hm⟩ : ∃ m, (limbs y).length = m := ⟨_, rfl⟩
  have HM := hide hm
  rw [hm] at hl ⊢
  clear hm
  by_cases hy0 : y = 0
  · have hr : Hid (makeQ s x y = (0, false)) := by show _ = _; unfold makeQ; rw [if_pos hy0]
    have hm0 : m = 0 := by rw [← HM.out]; exact limbs_nil.2 hy0
    subst hm0
    obtain ⟨c0, c1, c2, f0, f1, f2⟩ := HX1.out
    clear hy0
    go_wp2_with fail
    refine bodyPost_ret (results_rat2 rfl _ rfl (HX1.out.set3 _ _ _)) rfl ?_
    refine ⟨?_, below_set3 HC1.out (Nat.le_refl _) _ _ _⟩
    rw [hr.out, enc_zero_val]; rfl
  · have hr : Hid (makeQ s x y = (mk s x y, true)) := by show _ = _; unfold makeQ; rw [if_neg hy0]
    have hm0 : 0 < m := by rw [← HM.out]; exact sz_pos hy0
    have HY0 := hide hy0
    clear hy0
    go_wp2_with fail
    refine (P2.out _).mono ?_
    rintro e w2 ⟨B, c', rfl, hB1, hB2, hB3, hb2⟩
    have HB : Hid (NAt w2 B c' x) := ⟨hB3, hB1, hB2⟩
    have HA2 : Hid (NAt w2 A c y) := HA.out.next hb2
    have HX2 := hide (HX1.out.keep hb2 (by omega))
    have HC2 := hide (HC1.out.trans (hb2.mono (by omega)))
    have hs2 := hb2.size
    have hl2 := hB3.len
    have hred := rreduced_any s x y B A c' c w2 HB.out HA2.out (by have := HSX.out; omega) (by have := HSY.out; omega) HY0.out
    rw [HM.out] at hred
    unfold RPost at hred
    rw [enc_open] at hred
    have HRED := hide hred
    clear hB1 hB2 hB3 hb2 hred HX1 HC1
    go_wp2_with fail
    refine HRED.out.mono ?_
    rintro e w3 ⟨rfl, hb3⟩
    have HB1 := hide (HX2.out.keep hb3 (by omega))
    obtain ⟨c0, c1, c2, f0, f1, f2⟩ := HB1.out
    have hbf := HC2.out.trans (hb3.mono (by omega))
    go_wp2_with fail
    refine bodyPost_ret (results_rat2 rfl _ rfl (HB1.out.set3 _ _ _)) rfl ?_
    refine ⟨?_, below_set3 hbf (Nat.le_refl _) _ _ _⟩
    rw [hr.out]; rfl
set_option maxHeartbeats 2000000000000 in
set_option maxRecDepth 100000000000 in
theorem rsize_any (n : Int) (w : World) (hn : In64 n) :
    Calls Tryz.prog 113 #[.int .i64 n] w fun e w' => e = .returned (.int .u64 (n.natAbs : Int)) ∧ w = w' := by
  obtain ⟨h1, h2⟩ := hn
  by_cases hneg : n < 0
  · have e : Hid (((n.natAbs : Nat) : Int) = -(n + 1) + 1) := by show _ = _; omega
    go_enter Tryz.func113, Tryz.ntmps113
    go_wp2_with fail
    go_ret
    exact ⟨by rw [e.out]; rfl, rfl⟩
  · have e : Hid (((n.natAbs : Nat) : Int) = n) := by show _ = _; omega
    go_enter Tryz.func113, Tryz.ntmps113
    go_wp2_with fail
    go_ret
    exact ⟨by rw [e.out]; rfl, rfl⟩
theorem enc_int (n : Int) : enc (intQ n) = .agg #[.bool (decide (n < 0)), .string (bs n.natAbs), .string ⟨#[]⟩] := by
  unfold intQ
  by_cases h : n.natAbs = 0
  · have h1 : decide (n < 0) = false := decide_eq_false (by omega)
    rw [h, mk_zero, enc_zero_val, h1, bs0]
  · rw [enc_mk _ h (by decide), Nat.gcd_one_right, Nat.div_one, if_pos (by decide)]
set_option maxHeartbeats 2000000000000 in
set_option maxRecDepth 100000000000 in
theorem rint_any (n : Int) (w : World) (hn : In64 n) :
    Calls Tryz.prog 68 #[.int .i64 n] w (RPost (intQ n) w) := by
  have HS := Lib.hid (fun w => rsize_any n w hn)
  have HF := Lib.hid (fun w => rfrom_any n.natAbs w (by obtain ⟨h1, h2⟩ := hn; omega))
  have hr := hide (enc_int n)
  obtain ⟨V0, hV0, HX0, hc0, hl0⟩ := box_new w (.bool false) (.string ⟨#[]⟩) (.string ⟨#[]⟩)
  have HC0 := hide hc0
  clear hc0
  generalize intQ n = q at *
  generalize bs n.natAbs = t at *
  generalize n.natAbs = a at *
  go_enter Tryz.func68, Tryz.ntmps68
  go_wp2_with fail
  refine (HS.out _).mono ?_
  rintro e w1 ⟨rfl, rfl⟩
  go_wp2_with fail
  refine (HF.out _).mono ?_
  rintro e w1 ⟨rfl, hb1⟩
  have HB1 := hide (HX0.out.keep hb1 (by omega))
  obtain ⟨c0, c1, c2, f0, f1, f2⟩ := HB1.out
  have hbf := HC0.out.trans (hb1.mono (by omega))
  go_wp2_with fail
  refine bodyPost_ret (results_rat rfl _ rfl (HB1.out.set3 _ _ _)) rfl ?_
  refine ⟨?_, below_set3 hbf (Nat.le_refl _) _ _ _⟩
  rw [hr.out]
set_option maxHeartbeats 2000000000000 in
set_option maxRecDepth 100000000000 in
theorem rfraction_any (a b : Int) (w : World) (ha : In64 a) (hb : In64 b) :
    Calls Tryz.prog 67 #[.int .i64 a, .int .i64 b] w (RBPost (makeQ (decide (a < 0) != decide (b < 0)) a.natAbs b.natAbs) w) := by
  have HM := Lib.hid (fun w => rsize_any a w ha)
  have HN := Lib.hid (fun w => rsize_any b w hb)
  have HF := Lib.hid (fun w => rfrom_any a.natAbs w (by obtain ⟨h1, h2⟩ := ha; omega))
  have HG := Lib.hid (fun w => rfrom_any b.natAbs w (by obtain ⟨h1, h2⟩ := hb; omega))
  have hs := abs_size ha
  have hs2 := abs_size hb
  have HR := Lib.hid (fun w => rmake_any (decide (a < 0) != decide (b < 0)) (bs a.natAbs) (bs b.natAbs) w (by omega) (by omega))
  rw [nv_bs, nv_bs] at HR
  obtain ⟨V0, hV0, HX0, hc0, hl0⟩ := box_new w (.bool false) (.string ⟨#[]⟩) (.string ⟨#[]⟩)
  have HC0 := hide hc0
  generalize hp : makeQ (decide (a < 0) != decide (b < 0)) a.natAbs b.natAbs = p at *
  obtain ⟨q, ok⟩ := p
  unfold RBPost at HR ⊢
  have hr : Hid (enc q = enc q) := rfl
  simp only at HR hr ⊢
  rw [enc_open q] at HR
  generalize bs a.natAbs = t at *
  generalize bs b.natAbs = u at *
  generalize a.natAbs = a' at *
  generalize b.natAbs = b' at *
  clear hc0 hs hs2 hp
  go_enter Tryz.func67, Tryz.ntmps67
  go_wp2_with fail
  refine (HM.out _).mono ?_
  rintro e w1 ⟨rfl, rfl⟩
  go_wp2_with fail
  refine (HF.out _).mono ?_
  rintro e w1 ⟨rfl, hb1⟩
  go_wp2_with fail
  refine (HN.out _).mono ?_
  rintro e w2 ⟨rfl, rfl⟩
  go_wp2_with fail
  refine (HG.out _).mono ?_
  rintro e w2 ⟨rfl, hb2⟩
  go_wp2_with fail
  refine (HR.out _).mono ?_
  rintro e w3 ⟨rfl, hb3⟩
  have hb4 := below_next hb1 (below_next hb2 hb3)
  have HB1 := hide (HX0.out.keep hb4 (by omega))
  obtain ⟨c0, c1, c2, f0, f1, f2⟩ := HB1.out
  have hbf := HC0.out.trans (hb4.mono (by omega))
  go_wp2_with fail
  refine bodyPost_ret (results_rat2 rfl _ rfl (HB1.out.set3 _ _ _)) rfl ?_
  exact ⟨rfl, below_set3 hbf (Nat.le_refl _) _ _ _⟩
end Go.Proofs.YtpbgmpjnfndfjaaGreatDoor.RtC
