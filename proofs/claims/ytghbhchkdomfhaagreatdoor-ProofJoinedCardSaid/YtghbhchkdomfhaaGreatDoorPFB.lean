/- PfJ, PfK, PfL, PfM, PfN, in one text. -/
import Derived.Test.YtghbhchkdomfhaaGreatDoorPFA
import Derived.Test.YtghbhchkdomfhaaGreatDoorQmu
import Derived.BigQuiet
import Derived.Test.YtghbhchkdomfhaaGreatDoorQmt
namespace Go.Proofs.YtghbhchkdomfhaaGreatDoor.PfJ
open Go.RowKit Wd RoL RnW RpF PqB PfS PfB PfA PfD PfE PfH PfI
theorem pr_info : (Tryz.prog.info? 27).map (fun i => (i.zero, i.size, i.bytes)) = some (some (.agg #[.string ByteArray.empty, .int .i64 0, .int .i64 0, .string ByteArray.empty, .bool false, .string ByteArray.empty, .string ByteArray.empty, .int .i64 0, .int .i64 0, .bool false, .string ByteArray.empty, .string ByteArray.empty, .int .i64 0, .int .i64 0]), 14, 160) := by kernel_rfl
theorem own_slice {w : World} {base n size : Nat} {e : TypeId} {v : Value} {xs : List Value} (h : w.ownsRow base e size v n xs) : ∃ A c, v = .slice A n c := by
  rcases h.2 with ⟨rfl, h0⟩ | ⟨g, cap, cur, rfl, _⟩
  · exact ⟨none, 0, by rw [h0]⟩
  · exact ⟨_, cap, rfl⟩
theorem DV_one (x : Dc) : ∀ u ∈ x.vals, u.oneCell' = true := by
  intro u hu
  simp only [Dc.vals, List.mem_cons, List.mem_nil_iff, or_false] at hu
  rcases hu with rfl | rfl | rfl | rfl | rfl | rfl | rfl | rfl | rfl | rfl | rfl | rfl | rfl | rfl <;> rfl
theorem reads_new (w : World) (l : List Value) (T : TypeId) (hl : l.length = 14) : Reads (w.alloc (.cells l.toArray T)) (w.heap.size + 1) 14 (some ⟨w.heap.size, 0, none⟩) 1 l := by
  refine ⟨by omega, fun _ => ⟨_, rfl, by show w.heap.size < w.heap.size + 1; omega, fun j u hj => ?_⟩⟩
  rw [Go.WideShapes.add_plain, Nat.zero_add]
  exact (Blk.new w l T).cell hj
theorem first_len {W : List (List UInt8)} {r : Rdr} (h : W.length ≠ 2) : firstD W r = (10, r) := by unfold firstD; rw [if_pos (.inl h)]
theorem first_open (w0 w1 : List UInt8) (r : Rdr) (h : r.complete = false) : firstD [w0, w1] r = (10, r) := by unfold firstD; rw [if_pos (.inr h)]
theorem first_two (w0 w1 : List UInt8) (r : Rdr) (h : r.complete = true) : firstD [w0, w1] r = if NmA.nmB (str w1) = false then (11, r) else if r.list.any (fun d => d.id.toList == (str w1).toList) = true then (12, r) else if 64 ≤ r.list.length then (2, r) else (0, ⟨r.list ++ [newDc (str w1)], 0⟩) := by
  have he : (fun d : Dc => decide (d.id = str w1)) = (fun d : Dc => d.id.toList == (str w1).toList) := by
    funext d
    by_cases hd : d.id = str w1
    · rw [hd]; simp
    · have : d.id.toList ≠ (str w1).toList := fun e => hd (by rw [ByteArray.toList_eq, ByteArray.toList_eq] at e; exact ByteArray.ext (Array.toList_inj.1 e))
      rw [decide_eq_false hd, beq_eq_false_iff_ne.2 this]
  unfold firstD
  rw [if_neg (by rw [h]; simp), show wd [w0, w1] 1 = w1 from rfl, he]
/-- what a line of a text leaves -/
def LineP (p : Int × Rdr) (R : Nat) (w : World) (e : Ending) (w' : World) : Prop :=
  ∃ A c, e = .returned (.int .i64 p.1) ∧ RdrAt w' R p.2 A c ∧ Kb R (R + 1) w w'
theorem str_new (w : World) (s : ByteArray) : ∃ V, w.alloc (.cells #[.string s] 9) = V ∧ Hid (Blk V w.heap.size [.string s]) ∧ Hid (Below w.heap.size w V) ∧ V.heap.size = w.heap.size + 1 :=
  ⟨_, rfl, Blk.new w [.string s] _, (Below.refl _ _).alloc (Nat.le_refl _) _, by simp⟩
/-- two cells of a world -/
def At2 (a b : Addr) (x y : Value) (w' : World) : Prop := w'.cell? a = some x ∧ w'.cell? b = some y
set_option maxHeartbeats 8000000 in
set_option maxRecDepth 100000 in
theorem first_any (W : List (List UInt8)) (r : Rdr) (R : Nat) (A0 : Option Addr) (c0 : Nat) (P : Nat → Prop) (A : Option Addr) (c : Nat) (w : World)
    (hS : Strs P w A c (W.map str)) (hW : ∀ x ∈ W, x.length ≤ 8192) (hl : W.length ≤ 9000) (hR : RdrAt w R r A0 c0) :
    Calls Tryz.prog 57 #[.pointer (some ⟨R, 0, none⟩), .slice A W.length c] w (LineP (firstD W r) R w) := by
  obtain ⟨i0, hi, hz0, hz1, hz2⟩ := info_parts pr_info
  have hRl := hR.blk.lt
  have HR := hide hR
  have HCO := Lib.hid (fun w A c h => complete_any r R A c w h)
  unfold LineP
  by_cases h2 : W.length = 2
  · obtain ⟨w0, w1, rfl⟩ := two_of h2
    clear h2
    have hw1 : (str w1).size ≤ 8192 := by rw [str_size]; exact hW w1 (by simp)
    have HNM := Lib.hid (fun w => NmA.nm_any (str w1) w (by unfold maxLen; omega))
    change Calls _ _ #[.pointer (some ⟨R, 0, none⟩), .slice A 2 c] _ _
    change Strs P w A c [str w0, str w1] at hS
    obtain ⟨B, off, rfl, hBl, _, a0, a1⟩ := strs_two hS
    cases hcm : r.complete
    · have HD := hide (first_open w0 w1 r hcm)
      rw [hcm] at HCO
      clear hS hW hl hR hcm
      go_enter Tryz.func57, Tryz.ntmps57
      go_wp2_with fail
      refine (HCO.out _ _ _ HR.out).mono ?_
      rintro e w2 ⟨rfl, rfl⟩
      go_wp2_with fail
      go_ret
      rw [HD.out]
      exact ⟨_, _, rfl, HR.out, Kb.refl _ _ _⟩
    · have hD := first_two w0 w1 r hcm
      rw [hcm] at HCO
      obtain ⟨V, hV, HX, HBV, hsV⟩ := str_new w (str w1)
      have HRV := hide (hR.below HBV.out)
      have x0 := HX.out.cell (i := 0) rfl
      have HCN := Lib.hid (fun w' hD h hb => contains_any r.list A0 c0 w.heap.size (str w1) w' hD h hb)
      generalize str w0 = s0 at *
      generalize hs1 : str w1 = s1 at *
      clear hS hW hl hcm
      cases hnm : NmA.nmB s1
      · rw [hnm] at HNM hD
        rw [if_pos rfl] at hD
        have HD := hide hD
        clear hD hnm hR
        go_enter Tryz.func57, Tryz.ntmps57
        go_wp2_with fail
        refine (HCO.out _ _ _ HR.out).mono ?_
        rintro e w2 ⟨rfl, rfl⟩
        go_wp2_with fail
        refine (HNM.out _).mono ?_
        rintro e w2 ⟨rfl, rfl⟩
        go_wp2_with fail
        go_ret
        rw [HD.out]
        exact ⟨_, _, rfl, HRV.out, Kb.of_below HBV.out (by omega)⟩
      · rw [hnm, if_neg (by simp)] at hD
        rw [hnm] at HNM
        cases hany : r.list.any (fun d => d.id.toList == s1.toList)
        · rw [hany, if_neg (by simp)] at hD
          rw [hany] at HCN
          by_cases h64 : 64 ≤ r.list.length
          · rw [if_pos h64] at hD
            have HD := hide hD
            clear hD hnm hR hany
            go_enter Tryz.func57, Tryz.ntmps57
            go_wp2_with fail
            refine (HCO.out _ _ _ HR.out).mono ?_
            rintro e w2 ⟨rfl, rfl⟩
            go_wp2_with fail
            refine (HNM.out _).mono ?_
            rintro e w2 ⟨rfl, rfl⟩
            have q0 := HRV.out.blk.cell (i := 0) rfl
            go_wp2_with fail
            refine (HCN.out _ HRV.out.docs x0 (by omega)).mono ?_
            rintro e w3 ⟨rfl, hb3⟩
            have HR3 := hide (HRV.out.below hb3)
            have HB3 := hide (HBV.out.trans (hb3.mono (by omega)))
            have y0 := (hb3.cell (p := ⟨w2.heap.size, 0, none⟩) (by show w2.heap.size < _; omega)).trans x0
            have hs3 := hb3.size
            clear q0 x0 hb3
            have q0 := HR3.out.blk.cell (i := 0) rfl
            go_wp2_with fail
            go_ret
            rw [HD.out]
            exact ⟨_, _, rfl, HR3.out, Kb.of_below HB3.out (by omega)⟩
          · rw [if_neg h64] at hD
            have HD := hide hD
            clear hD hnm hR hany
            go_enter Tryz.func57, Tryz.ntmps57
            go_wp2_with fail
            refine (HCO.out _ _ _ HR.out).mono ?_
            rintro e w2 ⟨rfl, rfl⟩
            go_wp2_with fail
            refine (HNM.out _).mono ?_
            rintro e w2 ⟨rfl, rfl⟩
            have q0 := HRV.out.blk.cell (i := 0) rfl
            go_wp2_with fail
            refine (HCN.out _ HRV.out.docs x0 (by omega)).mono ?_
            rintro e w3 ⟨rfl, hb3⟩
            have HR3 := hide (HRV.out.below hb3)
            have HB3 := hide (HBV.out.trans (hb3.mono (by omega)))
            have y0 := (hb3.cell (p := ⟨w2.heap.size, 0, none⟩) (by show w2.heap.size < _; omega)).trans x0
            have hs3 := hb3.size
            clear q0 x0 hb3
            have q0 := HR3.out.blk.cell (i := 0) rfl
            go_wp2_with fail
            have hI : At2 ⟨R, 0, none⟩ ⟨w2.heap.size, 0, none⟩ (.slice A0 r.list.length c0) (.string s1) w3.drew := ⟨q0, y0⟩
            have hne : Nonempty (Qin.In (At2 ⟨R, 0, none⟩ ⟨w2.heap.size, 0, none⟩ (.slice A0 r.list.length c0) (.string s1))) := ⟨⟨_, hI⟩⟩
            have z0 : ∀ v : Qin.In (At2 ⟨R, 0, none⟩ ⟨w2.heap.size, 0, none⟩ (.slice A0 r.list.length c0) (.string s1)), v.val.cell? ⟨R, 0, none⟩ = some (.slice A0 r.list.length c0) := fun v => v.ok.1
            have z1 : ∀ v : Qin.In (At2 ⟨R, 0, none⟩ ⟨w2.heap.size, 0, none⟩ (.slice A0 r.list.length c0) (.string s1)), v.val.cell? ⟨w2.heap.size, 0, none⟩ = some (.string s1) := fun v => v.ok.2
            refine Qmu.wp_region (C := Cls (At2 ⟨R, 0, none⟩ ⟨w2.heap.size, 0, none⟩ (.slice A0 r.list.length c0) (.string s1))) 11 (by kernel_rfl) (by kernel_rfl) (by kernel_rfl) ?_
            simp only [List.length_cons, List.length_nil]
            refine Qmu.takes (s := 11) (cls hI) [0, 1, 2, 3, 4, 5, 6] 5 _ _ _ (fun _ => cls hI) (by decide) (by kernel_rfl) ?_
            simp only [List.filterMap_cons, List.filterMap_nil, List.getElem?_toArray, List.getElem?_cons_zero, List.getElem?_cons_succ]
            change wpQuiet _ _ _ _ [_, _, _, _, _, _, _] _
            repeat (go_big_quiet_step (fail))
            refine wpQuiet_nil ?_
            refine Qmu.fork [7] (fun _ => cls hI) (by kernel_rfl) (by simp) ⟨?_, trivial⟩
            refine Qmu.by_op rfl (by kernel_rfl) ?_
            clear z0 z1 hI hne
            obtain ⟨V5, hV5⟩ : ∃ V5, (w3.alloc (.cells #[.string s1, .int .i64 0, .int .i64 0, .string ⟨#[]⟩, .bool false, .string ⟨#[]⟩, .string ⟨#[]⟩, .int .i64 0, .int .i64 0, .bool false, .string ⟨#[]⟩, .string ⟨#[]⟩, .int .i64 0, .int .i64 (-1)] 27)).drew = V5 := ⟨_, rfl⟩
            have hB5 : Below w3.heap.size w3 V5 := by rw [← hV5]; exact ((Below.refl _ _).alloc (Nat.le_refl _) _).drew
            have hrd : Reads V5 (w3.heap.size + 1) 14 (some ⟨w3.heap.size, 0, none⟩) 1 (newDc s1).vals := by rw [← hV5]; exact reads_new w3 (newDc s1).vals 27 rfl
            have HO5 := hide (own_below HR3.out.own hB5)
            have HK5 := hide (HR3.out.blk.below hB5)
            have hI5 : At2 ⟨R, 0, none⟩ ⟨w2.heap.size, 0, none⟩ (.slice A0 r.list.length c0) (.string s1) V5 := ⟨(hB5.cell (p := ⟨R, 0, none⟩) (by show R < _; omega)).trans q0, (hB5.cell (p := ⟨w2.heap.size, 0, none⟩) (by show w2.heap.size < _; omega)).trans y0⟩
            have hs5 := hB5.size
            have hl2 := HR.out.own.lt
            go_wp2_with fail
            refine ⟨rfl, ?_⟩
            refine Qmu.fork [8] (fun _ => cls hI5) (by kernel_rfl) (by simp) ⟨?_, trivial⟩
            refine Qmu.by_op rfl (by kernel_rfl) ?_
            refine wpList_append_any _ rfl (.tmp 39) (.tmp 42) 29 rfl (R + 1) 27 i0 _ 14 160 Tryz.underlying29 hi hz0 hz1 hz2 rfl (by decide) _ _ _ rfl HO5.out (w3.heap.size + 1) _ 1 1 _ rfl hrd (DV_one _) ?c3 ?c4 ?c5 ?_
            case c3 => unfold maxLen; omega
            case c4 => omega
            case c5 => omega
            intro v6 w6 hown6 hg6 hob6
            obtain ⟨A6, c6, rfl⟩ := own_slice hown6
            have hgb : Below (R + 1) V5 w6 := (Below.refl _ _).grown hg6 (by omega) (fun g hg => (HO5.out.lt g hg).1)
            have HK6 : Hid (BlkT w6 R 63 _) := (hgb.block R (by omega)).trans HK5.out
            have hI6 : At2 ⟨R, 0, none⟩ ⟨w2.heap.size, 0, none⟩ (.slice A0 r.list.length c0) (.string s1) w6 := ⟨HK6.out.cell (i := 0) rfl, hg6.cell hI5.2 (fun e => by have := (hl2 _ e.symm).2; simp at this)⟩
            have hne : Nonempty (Qin.In (At2 ⟨R, 0, none⟩ ⟨w2.heap.size, 0, none⟩ (.slice A0 r.list.length c0) (.string s1))) := ⟨⟨_, hI6⟩⟩
            have HKB := hide (((Kb.of_below (R := R) (B := R + 1) HB3.out (by omega)).trans (Kb.of_below hB5 (by omega))).trans (⟨hgb.os, hgb.tape, hgb.output, hgb.size, fun k hk _ => hgb.block k hk⟩ : Kb R (R + 1) V5 w6))
            have HO6 := hide hown6
            have f0 := HK6.out.frozen 0
            have g0 := HK6.out.cell (i := 0) rfl
            clear hown6 hg6 hob6 hgb hV5 hB5 hrd HO5 HK5 hl2
            go_wp2_with fail
            refine ⟨rfl, ?_⟩
            simp only [Act.put, List.getElem_toArray, List.getElem_cons_succ, List.getElem_cons_zero, List.setIfInBounds_toArray, List.set_cons_succ, List.set_cons_zero]
            refine Qmu.takes (s := 11) (cls hI6) [9, 10] 1 _ _ _ (fun _ => cls hI6) (by decide) (by kernel_rfl) ?_
            simp only [List.filterMap_cons, List.filterMap_nil, List.getElem?_toArray, List.getElem?_cons_zero, List.getElem?_cons_succ]
            change wpQuiet _ _ _ _ [_, _] _
            repeat (go_big_quiet_step (fail))
            refine wpQuiet_nil ?_
            refine Qmu.fork [11] (fun _ => cls hI6) (by kernel_rfl) (by simp) ⟨?_, trivial⟩
            refine Qmu.by_op rfl (by kernel_rfl) ?_
            go_wp2_with fail
            refine ⟨rfl, ?_⟩
            refine Qmu.by_end (Qmu.past (by kernel_rfl)) (by kernel_rfl) ?_
            have HK7 := hide (HK6.out.set 0 (.slice A6 (r.list.length + 1) c6))
            have HO7 := hide (ownsRow_setCell_below HO6.out (a := ⟨R, 0, none⟩) (by show R < R + 1; omega) (.slice A6 (r.list.length + 1) c6))
            have HB7 := hide (HKB.out.set 0 (.slice A6 (r.list.length + 1) c6))
            obtain ⟨w7, hw7⟩ : ∃ w7, w6.setCell ⟨R, 0, none⟩ (.slice A6 (r.list.length + 1) c6) = w7 := ⟨_, rfl⟩
            rw [hw7] at HK7 HO7 HB7 ⊢
            have f1 := HK7.out.frozen 1
            have g1 := HK7.out.cell (i := 1) rfl
            clear hw7 hI6 hI5 f0 g0 HK6 HO6 HKB hne
            have HK8 := hide (HK7.out.set 1 (.int .i64 0))
            have HO8 := hide (ownsRow_setCell_below HO7.out (a := ⟨R, 1, none⟩) (by show R < R + 1; omega) (.int .i64 0))
            have HB8 := hide (HB7.out.set 1 (.int .i64 0))
            go_wp2_with fail
            go_ret
            rw [HD.out]
            refine ⟨A6, c6, rfl, ⟨?_, ?_, ?_⟩, HB8.out⟩
            · have := HK8.out
              rw [show (r.list ++ [newDc s1]).length = r.list.length + 1 by simp]
              exact this
            · have := HO8.out
              rw [show (r.list ++ [newDc s1]).length = r.list.length + 1 by simp, DV_snoc]
              exact this
            · show (r.list ++ [newDc s1]).length ≤ 64
              simp; omega
        · rw [hany, if_pos rfl] at hD
          rw [hany] at HCN
          have HD := hide hD
          clear hD hnm hR hany
          go_enter Tryz.func57, Tryz.ntmps57
          go_wp2_with fail
          refine (HCO.out _ _ _ HR.out).mono ?_
          rintro e w2 ⟨rfl, rfl⟩
          go_wp2_with fail
          refine (HNM.out _).mono ?_
          rintro e w2 ⟨rfl, rfl⟩
          have q0 := HRV.out.blk.cell (i := 0) rfl
          go_wp2_with fail
          refine (HCN.out _ HRV.out.docs x0 (by omega)).mono ?_
          rintro e w3 ⟨rfl, hb3⟩
          have HR3 := hide (HRV.out.below hb3)
          have HB3 := hide (HBV.out.trans (hb3.mono (by omega)))
          have y0 := (hb3.cell (p := ⟨w2.heap.size, 0, none⟩) (by show w2.heap.size < _; omega)).trans x0
          have hs3 := hb3.size
          clear q0 x0 hb3
          go_wp2_with fail
          go_ret
          rw [HD.out]
          exact ⟨_, _, rfl, HR3.out, Kb.of_below HB3.out (by omega)⟩
  · have HD := hide (first_len (r := r) h2)
    have hne : ((W.length : Int) != 2) = true := by simp; omega
    clear hS hW h2 hR
    go_enter Tryz.func57, Tryz.ntmps57
    go_wp2_with fail
    go_ret
    rw [HD.out]
    exact ⟨_, _, rfl, HR.out, Kb.refl _ _ _⟩
end Go.Proofs.YtghbhchkdomfhaaGreatDoor.PfJ
namespace Go.Proofs.YtghbhchkdomfhaaGreatDoor.PfK
open Go.RowKit Wd RoL RnW RpF PqB PfS PfB PfA PfD PfE PfH PfI PfJ
def ordL : List ByteArray := [str kEstate, str kCreditor, str kAmount, str kIncurred, str kRank, str kInterest, str kSecured]
def idxB (s : ByteArray) : List ByteArray → Nat → Int
  | [], _ => -1
  | x :: l, k => if (s.toList == x.toList) = true then k else idxB s l (k + 1)
theorem idx_drop_hit {s x : ByteArray} {l : List ByteArray} {k : Nat} (hx : l[k]? = some x) (h : (s.toList == x.toList) = true) : idxB s (l.drop k) k = k := by
  obtain ⟨hk, rfl⟩ := List.getElem?_eq_some_iff.1 hx
  rw [List.drop_eq_getElem_cons hk, idxB, if_pos h]
theorem idx_drop_miss {s x : ByteArray} {l : List ByteArray} {k : Nat} (hx : l[k]? = some x) (h : (s.toList == x.toList) = false) : idxB s (l.drop k) k = idxB s (l.drop (k + 1)) (k + 1) := by
  obtain ⟨hk, rfl⟩ := List.getElem?_eq_some_iff.1 hx
  rw [List.drop_eq_getElem_cons hk, idxB, if_neg (by rw [h]; simp)]
theorem idx_ord (w : List UInt8) (h : kindOf w ≠ 1) : idxB (str w) ordL 0 = if kindOf w = 0 then -1 else (kindOf w : Int) - 2 := by
  unfold ordL
  have e : ∀ a : List UInt8, (str a).toList = a := fun a => by rw [ByteArray.toList_eq]; rfl
  simp only [idxB, e, beq_iff_eq]
  unfold kindOf at h ⊢
  by_cases h0 : w = kProof
  · rw [if_pos h0] at h; exact absurd rfl h
  · rw [if_neg h0]
    repeat' split
    all_goals first | rfl | (exfalso; omega) | simp_all
set_option maxRecDepth 100000 in
theorem ordinary_any (w : World) :
    Calls Tryz.prog 59 #[] w fun e w' => e = .returned (.slice (some ⟨w.heap.size, 0, none⟩) 7 7) ∧ (Strs (w.heap.size ≤ ·) w' (some ⟨w.heap.size, 0, none⟩) 7 ordL ∧ Below w.heap.size w w') := by
  go_enter Tryz.func59, Tryz.ntmps59
  go_wp2_with fail
  go_ret
  refine ⟨rfl, ⟨by unfold maxLen; decide, fun _ => ⟨w.heap.size, 0, rfl, by simp, ⟨Nat.le_refl _, by decide⟩, fun j x hx => ?_⟩⟩, (Below.refl _ _).alloc (Nat.le_refl _) _⟩
  refine (Blk.new w (ordL.map Value.string) 9).cell (i := 0 + j) (v := .string x) ?_
  rw [Nat.zero_add, List.getElem?_map, hx]
  rfl
set_option maxHeartbeats 2000000 in
set_option maxRecDepth 100000 in
theorem sindex_any (l : List ByteArray) (s : ByteArray) (P : Nat → Prop) (A : Option Addr) (c : Nat) (w : World) (hS : Strs P w A c l) :
    Calls Tryz.prog 58 #[.slice A l.length c, .string s] w fun e w' => e = .returned (.int .i64 (idxB s l 0)) ∧ w = w' := by
  have hlm := hS.1
  unfold maxLen at hlm
  have HS := hide hS
  clear hS
  go_enter Tryz.func58, Tryz.ntmps58
  go_wp2_with fail
  go_loop [8] (fun vi => ∃ k : Nat, k ≤ l.length ∧ vi = .int .i64 k ∧ Hid (idxB s l 0 = idxB s (l.drop k) k)) (fun vi => l.length - (intOf vi).toNat)
  case atStart => exact ⟨0, by omega, rfl, hide rfl⟩
  case round =>
    obtain ⟨k, hk, rfl, HI⟩ := hrel
    by_cases hlt : k < l.length
    · obtain ⟨x, hx⟩ : ∃ x, l[k]? = some x := ⟨_, List.getElem?_eq_getElem hlt⟩
      obtain ⟨b, off, rfl, hb, _, hc⟩ := HS.out.2 (by omega)
      have a0 := hc k x hx
      cases hq : (s.toList == x.toList)
      · have HN := hide (HI.out.trans (idx_drop_miss hx hq))
        clear hx hc
        go_wp2_with fail
        go_round
        case rel => exact ⟨k + 1, by omega, by go_num, HN⟩
        case measure => simp [intOf]; omega
      · have HN := hide (HI.out.trans (idx_drop_hit hx hq))
        clear hx hc
        go_wp2_with fail
        go_ret
        exact ⟨by rw [HN.out]; rfl, rfl⟩
    · obtain rfl : k = l.length := by omega
      have HN := hide (HI.out.trans (by rw [List.drop_eq_nil_of_le (Nat.le_refl _)]; rfl : idxB s (l.drop l.length) l.length = -1))
      go_wp2_with fail
      go_ret
      exact ⟨by rw [HN.out]; rfl, rfl⟩
end Go.Proofs.YtghbhchkdomfhaaGreatDoor.PfK
namespace Go.Proofs.YtghbhchkdomfhaaGreatDoor.PfL
open Go.RowKit Wd RoL RnW RpF PqB PfS PfB PfA PfC PfD PfE PfF PfG PfH PfI PfJ PfK
theorem splA_mem (c : UInt8) : ∀ (s cur : List UInt8), ∀ x ∈ splA c cur s, x.length ≤ cur.length + s.length
  | [], cur, x, h => by
    rw [splA, List.mem_singleton] at h
    subst h; simp
  | y :: l, cur, x, h => by
    rw [splA] at h
    split at h
    · rcases List.mem_cons.1 h with h | h
      · subst h; simp
      · have := splA_mem c l [] x h
        simp at this ⊢; omega
    · have := splA_mem c l (cur ++ [y]) x h
      simp at this ⊢; omega
theorem line_first {W : List (List UInt8)} {r : Rdr} (h : kindOf (wd W 0) = 1) : lineD W r = firstD W r := by
  unfold lineD; rw [h]; exact if_pos rfl
theorem line_bad {W : List (List UInt8)} {r : Rdr} (h : kindOf (wd W 0) ≠ 1) (h1 : r.list = [] ∨ kindOf (wd W 0) = 0 ∨ ¬ (kindOf (wd W 0) - 2 = r.at_ ∨ (r.at_ < kindOf (wd W 0) - 2 ∧ 5 ≤ r.at_))) : lineD W r = (10, r) := by
  unfold lineD; rw [if_neg h]; exact if_pos h1
theorem line_good {W : List (List UInt8)} {r : Rdr} {k : Nat} (hk : kindOf (wd W 0) = k) (h : k ≠ 1) (h1 : ¬ (r.list = [] ∨ k = 0 ∨ ¬ (k - 2 = r.at_ ∨ (r.at_ < k - 2 ∧ 5 ≤ r.at_)))) :
    lineD W r = ((fieldD k W (lastD r.list)).1, ⟨r.list.dropLast ++ [(fieldD k W (lastD r.list)).2], k - 1⟩) := by
  subst hk
  unfold lineD; rw [if_neg h]; exact if_neg h1
theorem head_of {W : List (List UInt8)} (h : W ≠ []) : W.map str = str (wd W 0) :: (W.map str).tail := by
  cases W with
  | nil => exact absurd rfl h
  | cons x l => rfl
theorem strs_head {P : Nat → Prop} {w : World} {A : Option Addr} {c : Nat} {W : List (List UInt8)} (h : Strs P w A c (W.map str)) (h0 : W ≠ []) : ∃ B off, A = some ⟨B, off, none⟩ ∧ B < w.heap.size ∧ P B ∧ w.cell? ⟨B, off, none⟩ = some (.string (str (wd W 0))) := by
  have hl : 0 < (W.map str).length := by rw [List.length_map]; exact (List.length_pos_iff.2 h0)
  obtain ⟨B, off, e, hb, hP, hc⟩ := h.2 hl
  exact ⟨B, off, e, hb, hP.1, hc 0 _ (by rw [head_of h0]; rfl)⟩
theorem proof_tl (w : List UInt8) : ((str w).toList == [112, 114, 111, 111, 102]) = decide (kindOf w = 1) := by
  rw [tl_str]
  by_cases h : w = kProof
  · rw [decide_eq_true (p := w = [112, 114, 111, 111, 102]) h, decide_eq_true (by unfold kindOf; rw [if_pos h])]
  · rw [decide_eq_false (p := w = [112, 114, 111, 111, 102]) h]
    symm
    rw [decide_eq_false_iff_not]
    unfold kindOf
    rw [if_neg h]
    repeat' split
    all_goals omega
theorem kind_le (w : List UInt8) : kindOf w ≤ 8 := by
  unfold kindOf
  repeat' split
  all_goals omega
theorem lastD_snoc (l : List Dc) (d : Dc) : lastD (l ++ [d]) = d := by simp [lastD]
theorem BlkT.other {w : World} {g R : Nat} {T : TypeId} {L : List Value} (h : BlkT w g T L) (hk : R ≠ g) (i : Nat) (v : Value) : BlkT (w.setCell ⟨R, i, none⟩ v) g T L := (Below.heap_setCell _ _ _ _ (by simpa using hk.symm)).trans h
theorem rdr_close {w : World} {R g c j : Nat} {dl : List Dc} {d d' : Dc} {pad : List Value} (hb : BlkT w R 63 [.slice (some ⟨g, 0, none⟩) (dl.length + 1) c, .int .i64 ((j : Int) + 1)]) (hg : BlkT w g 27 (DV dl ++ d'.vals ++ pad)) (hR : R + 1 ≤ g)
    (hl : (DV dl ++ d.vals ++ pad).length = c * 14) (hc : dl.length + 1 ≤ c) (hm : c ≤ maxLen) (h64 : dl.length + 1 ≤ 64) : RdrAt w R ⟨dl ++ [d'], j + 1⟩ (some ⟨g, 0, none⟩) c := by
  have e : (dl ++ [d']).length = dl.length + 1 := by simp
  refine ⟨?_, ?_, by show (dl ++ [d']).length ≤ 64; omega⟩
  · show BlkT w R _ [.slice _ (dl ++ [d']).length c, .int .i64 ((j + 1 : Nat) : Int)]
    rw [e]
    exact hb
  · show w.ownsRow _ _ _ (.slice _ (dl ++ [d']).length c) (dl ++ [d']).length (DV (dl ++ [d']))
    rw [e, DV_snoc]
    refine own_close hR hg ?_ ?_ hc hm
    · rw [← hl]; simp [Dc.vals]
    · rw [List.length_append, DV_len]
      show _ + 14 = _
      omega
theorem field_amount (W : List (List UInt8)) (d : Dc) : fieldD 4 W d = amountD W d := rfl
theorem field_interest (W : List (List UInt8)) (d : Dc) : fieldD 7 W d = interestD W d := rfl
theorem field_integer {k : Nat} (W : List (List UInt8)) (d : Dc) (h : k ≠ 4) (h1 : k ≠ 7) : fieldD k W d = integerD k W d := by unfold fieldD; rw [if_neg h, if_neg h1]
set_option maxHeartbeats 8000000 in
set_option maxRecDepth 100000 in
theorem line_one (s : ByteArray) (r : Rdr) (R : Nat) (A0 : Option Addr) (c0 : Nat) (w : World) (hs : s.size ≤ 8192) (hR : RdrAt w R r A0 c0) (he : Env w) (hk1 : kindOf (wd (splA 32 [] s.data.toList) 0) = 1) :
    Calls Tryz.prog 38 #[.pointer (some ⟨R, 0, none⟩), .string s] w (LineP (lineD (splA 32 [] s.data.toList) r) R w) := by
  have HSP := Lib.hid (split32_any s w (by omega) he)
  have hmem := splA_mem 32 s.data.toList []
  obtain ⟨hlen, hne⟩ := splA_len 32 s.data.toList []
  have hsl : s.data.toList.length = s.size := by simp
  unfold SplitP at HSP
  generalize splA 32 [] s.data.toList = W at *
  have hW : ∀ x ∈ W, x.length ≤ 8192 := fun x hx => by have := hmem x hx; simp at this; omega
  have hWl : W.length ≤ 9000 := by omega
  have hRl := hR.blk.lt
  have HR := hide hR
  have HE := hide he
  have htl := proof_tl (wd W 0)
  unfold LineP
  clear hmem hlen hsl hR he
  rw [decide_eq_true hk1] at htl
  have HD := hide (line_first (r := r) hk1)
  have HF := Lib.hid (fun P A c w A0 c0 hS hR => first_any W r R A0 c0 P A c w hS hW hWl hR)
  unfold LineP at HF
  go_enter Tryz.func38, Tryz.ntmps38
  go_wp2_with fail
  refine HSP.out.mono ?_
  rintro e w2 ⟨A, cp, rfl, hS, hb2⟩
  obtain ⟨B, off, rfl, hB, hPB, a0⟩ := strs_head hS hne
  have HS := hide hS
  have hpos : 0 < W.length := List.length_pos_iff.2 hne
  have HB2 := hide hb2
  have HR2 := hide (HR.out.below hb2)
  clear hS hb2 hk1
  go_wp2_with fail
  refine (HF.out _ _ _ _ _ _ HS.out HR2.out).mono ?_
  rintro e w3 ⟨A3, c3, rfl, hr3, hk3⟩
  go_wp2_with fail
  go_ret
  rw [HD.out]
  exact ⟨A3, c3, rfl, hr3, (Kb.of_below HB2.out (by omega)).trans hk3⟩
set_option maxHeartbeats 8000000 in
set_option maxRecDepth 100000 in
theorem line_no (s : ByteArray) (r : Rdr) (R : Nat) (A0 : Option Addr) (c0 : Nat) (w : World) (hs : s.size ≤ 8192) (hR : RdrAt w R r A0 c0) (he : Env w) (hk1 : kindOf (wd (splA 32 [] s.data.toList) 0) ≠ 1) (hbad : r.list = [] ∨ kindOf (wd (splA 32 [] s.data.toList) 0) = 0 ∨ ¬ (kindOf (wd (splA 32 [] s.data.toList) 0) - 2 = r.at_ ∨ (r.at_ < kindOf (wd (splA 32 [] s.data.toList) 0) - 2 ∧ 5 ≤ r.at_))) :
    Calls Tryz.prog 38 #[.pointer (some ⟨R, 0, none⟩), .string s] w (LineP (lineD (splA 32 [] s.data.toList) r) R w) := by
  have HSP := Lib.hid (split32_any s w (by omega) he)
  have hmem := splA_mem 32 s.data.toList []
  obtain ⟨hlen, hne⟩ := splA_len 32 s.data.toList []
  have hsl : s.data.toList.length = s.size := by simp
  unfold SplitP at HSP
  generalize splA 32 [] s.data.toList = W at *
  have hW : ∀ x ∈ W, x.length ≤ 8192 := fun x hx => by have := hmem x hx; simp at this; omega
  have hWl : W.length ≤ 9000 := by omega
  have hRl := hR.blk.lt
  have HR := hide hR
  have HE := hide he
  have htl := proof_tl (wd W 0)
  unfold LineP
  clear hmem hlen hsl hR he
  rw [decide_eq_false hk1] at htl
  have HIX := Lib.hid (fun P A c w hS => sindex_any ordL (str (wd W 0)) P A c w hS)
  obtain ⟨i, hi⟩ : ∃ i : Int, (if kindOf (wd W 0) = 0 then -1 else (kindOf (wd W 0) : Int) - 2) = i := ⟨_, rfl⟩
  rw [idx_ord _ hk1, hi] at HIX
  have HI := hide hi
  clear hi
  change Hid (∀ (P : Nat → Prop) (A : Option Addr) (c : Nat) (w : World), Strs P w A c ordL → Calls _ _ #[.slice A 7 c, _] w _) at HIX
  have HOR := Lib.hid (fun w => ordinary_any w)
  have HBAD := hide hbad
  clear hbad
  go_enter Tryz.func38, Tryz.ntmps38
  go_wp2_with fail
  refine HSP.out.mono ?_
  rintro e w2 ⟨A, cp, rfl, hS, hb2⟩
  obtain ⟨B, off, rfl, hB, hPB, a0⟩ := strs_head hS hne
  have HS := hide hS
  have hpos : 0 < W.length := List.length_pos_iff.2 hne
  have HB2 := hide hb2
  have HR2 := hide (HR.out.below hb2)
  have k0 : ∀ v : Qin.In (Below w2.heap.size w2), v.val.cell? ⟨B, off, none⟩ = some (.string (str (wd W 0))) := fun v => (v.ok.cell (p := ⟨B, off, none⟩) hB).trans a0
  have hs2 := hb2.size
  clear hS hb2
  go_wp2_with fail
  refine Qmt.wp_region (C := Cls (Below w2.heap.size w2)) (by kernel_rfl) (by kernel_rfl) ?_
  simp only [List.length_cons, List.length_nil]
  refine Qmt.takes [1, 2, 3] 3 _ _ _ (cls (Qin.start _ w2)) (by kernel_rfl) ?_
  simp only [List.filterMap_cons, List.filterMap_nil, List.getElem?_toArray, List.getElem?_cons_zero, List.getElem?_cons_succ]
  change wpQuiet _ _ _ _ [_, _, _] _
  repeat (go_big_quiet_step (fail))
  refine wpQuiet_nil ?_
  refine Qmt.fork [0] (cls (Qin.start _ w2)) (by kernel_rfl) (by simp) ⟨?_, trivial⟩
  refine Qmt.by_op rfl (by kernel_rfl) ?_
  go_wp2_with fail
  refine (HOR.out _).mono ?_
  rintro e w3 ⟨rfl, hS3, hb3⟩
  have hB3 := (Qin.start w2.heap.size w2).trans hb3
  have HS3 := hide hS3
  clear hS3 hb3
  go_wp2_with fail
  refine ⟨rfl, ?_⟩
  refine Qmt.fork [4] (cls hB3) (by kernel_rfl) (by simp) ⟨?_, trivial⟩
  refine Qmt.by_op rfl (by kernel_rfl) ?_
  go_wp2_with fail
  refine (HIX.out _ _ _ _ HS3.out).mono ?_
  rintro e w4 ⟨rfl, rfl⟩
  go_wp2_with fail
  refine ⟨rfl, ?_⟩
  refine Qmt.takes [5] 0 _ _ _ (cls hB3) (by kernel_rfl) ?_
  simp only [List.filterMap_cons, List.filterMap_nil, List.getElem?_toArray, List.getElem?_cons_zero, List.getElem?_cons_succ]
  change wpQuiet _ _ _ _ [_] _
  repeat (go_big_quiet_step (fail))
  refine wpQuiet_nil ?_
  refine Qmt.by_end (cls hB3) (by kernel_rfl) ?_
  have HR3 := hide (HR2.out.below hB3)
  have HB3 := hide (HB2.out.trans (hB3.mono hs2))
  have HE3 := hide (HE.out.below HB3.out)
  have HSW := hide (HS.out.below hB3)
  have q0 := HR3.out.blk.cell (i := 0) rfl
  have q1 := HR3.out.blk.cell (i := 1) rfl
  have hr64 := HR3.out.len
  clear k0 a0 HIX HOR HS3
  by_cases hl0 : r.list.length = 0
  · have hb0 : ((r.list.length : Int) == 0) = true := by rw [beq_iff_eq]; omega
    have HD := hide (line_bad (r := r) hk1 (.inl (List.eq_nil_of_length_eq_zero hl0)))
    clear hk1
    go_wp2_with fail
    go_ret
    rw [HD.out]
    exact ⟨_, _, rfl, HR3.out, Kb.of_below HB3.out (by omega)⟩
  · have hb0 : ((r.list.length : Int) == 0) = false := by rw [beq_eq_false_iff_ne]; omega
    by_cases hk0 : kindOf (wd W 0) = 0
    · have HD := hide (line_bad (r := r) hk1 (.inr (.inl hk0)))
      have hi : i = -1 := by rw [← HI.out, if_pos hk0]
      subst hi
      clear hk1 HI
      go_wp2_with fail
      go_ret
      rw [HD.out]
      exact ⟨_, _, rfl, HR3.out, Kb.of_below HB3.out (by omega)⟩
    · obtain ⟨j, hj⟩ : ∃ j, kindOf (wd W 0) = j + 2 := ⟨kindOf (wd W 0) - 2, by omega⟩
      have hi : i = (j : Int) := by rw [← HI.out, if_neg hk0, hj]; omega
      subst hi
      clear HI
      have hgood : ¬ (j = r.at_ ∨ (r.at_ < j ∧ 5 ≤ r.at_)) := by
        rcases HBAD.out with h | h | h
        · exact absurd (by rw [h]; rfl) hl0
        · omega
        · rw [hj] at h; exact h
      have HD := hide (line_bad (r := r) hk1 (.inr (.inr (by rw [hj]; omega))))
      have hj0 : decide ((j : Int) < 0) = false := decide_eq_false (by omega)
      have hb5 : ((j : Int) == (r.at_ : Int)) = false := by rw [beq_eq_false_iff_ne]; omega
      by_cases h6 : r.at_ < j
      · have hb7 : decide (5 ≤ (r.at_ : Int)) = false := decide_eq_false (by omega)
        clear hk1 hgood hj
        go_wp2_with fail
        go_ret
        rw [HD.out]
        exact ⟨_, _, rfl, HR3.out, Kb.of_below HB3.out (by omega)⟩
      · clear hk1 hgood hj
        go_wp2_with fail
        go_ret
        rw [HD.out]
        exact ⟨_, _, rfl, HR3.out, Kb.of_below HB3.out (by omega)⟩
end Go.Proofs.YtghbhchkdomfhaaGreatDoor.PfL
namespace Go.Proofs.YtghbhchkdomfhaaGreatDoor.PfM
open Go.RowKit Wd RoL RnW RpF PqB PfS PfB PfA PfC PfD PfE PfF PfG PfH PfI PfJ PfK PfL
theorem kind_eq {w v : List UInt8} {j k : Nat} (h : kindOf w = j + 2) (e : w = v) (hk : kindOf v = k + 2) : j = k := by
  subst e
  omega
set_option maxHeartbeats 8000000 in
set_option maxRecDepth 100000 in
theorem line_good_any (s : ByteArray) (r : Rdr) (R : Nat) (A0 : Option Addr) (c0 : Nat) (w : World) (hs : s.size ≤ 8192) (hR : RdrAt w R r A0 c0) (he : Env w) (j : Nat) (hj : kindOf (wd (splA 32 [] s.data.toList) 0) = j + 2) (hl0 : ¬ r.list.length = 0) (hgood : j = r.at_ ∨ (r.at_ < j ∧ 5 ≤ r.at_)) :
    Calls Tryz.prog 38 #[.pointer (some ⟨R, 0, none⟩), .string s] w (LineP (lineD (splA 32 [] s.data.toList) r) R w) := by
  have hk1 : kindOf (wd (splA 32 [] s.data.toList) 0) ≠ 1 := by omega
  have HSP := Lib.hid (split32_any s w (by omega) he)
  have hmem := splA_mem 32 s.data.toList []
  obtain ⟨hlen, hne⟩ := splA_len 32 s.data.toList []
  have hsl : s.data.toList.length = s.size := by simp
  unfold SplitP at HSP
  generalize splA 32 [] s.data.toList = W at *
  have hW : ∀ x ∈ W, x.length ≤ 8192 := fun x hx => by have := hmem x hx; simp at this; omega
  have hWl : W.length ≤ 9000 := by omega
  have hRl := hR.blk.lt
  have HR := hide hR
  have HE := hide he
  have htl := proof_tl (wd W 0)
  unfold LineP
  clear hmem hlen hsl hR he
  rw [decide_eq_false hk1] at htl
  have HIX := Lib.hid (fun P A c w hS => sindex_any ordL (str (wd W 0)) P A c w hS)
  obtain ⟨i, hi⟩ : ∃ i : Int, (if kindOf (wd W 0) = 0 then -1 else (kindOf (wd W 0) : Int) - 2) = i := ⟨_, rfl⟩
  rw [idx_ord _ hk1, hi] at HIX
  have HI := hide hi
  clear hi
  change Hid (∀ (P : Nat → Prop) (A : Option Addr) (c : Nat) (w : World), Strs P w A c ordL → Calls _ _ #[.slice A 7 c, _] w _) at HIX
  have HOR := Lib.hid (fun w => ordinary_any w)
  have HJ := hide hj
  have HGO := hide hgood
  clear hj hgood
  go_enter Tryz.func38, Tryz.ntmps38
  go_wp2_with fail
  refine HSP.out.mono ?_
  rintro e w2 ⟨A, cp, rfl, hS, hb2⟩
  obtain ⟨B, off, rfl, hB, hPB, a0⟩ := strs_head hS hne
  have HS := hide hS
  have hpos : 0 < W.length := List.length_pos_iff.2 hne
  have HB2 := hide hb2
  have HR2 := hide (HR.out.below hb2)
  have k0 : ∀ v : Qin.In (Below w2.heap.size w2), v.val.cell? ⟨B, off, none⟩ = some (.string (str (wd W 0))) := fun v => (v.ok.cell (p := ⟨B, off, none⟩) hB).trans a0
  have hs2 := hb2.size
  clear hS hb2
  go_wp2_with fail
  refine Qmt.wp_region (C := Cls (Below w2.heap.size w2)) (by kernel_rfl) (by kernel_rfl) ?_
  simp only [List.length_cons, List.length_nil]
  refine Qmt.takes [1, 2, 3] 3 _ _ _ (cls (Qin.start _ w2)) (by kernel_rfl) ?_
  simp only [List.filterMap_cons, List.filterMap_nil, List.getElem?_toArray, List.getElem?_cons_zero, List.getElem?_cons_succ]
  change wpQuiet _ _ _ _ [_, _, _] _
  repeat (go_big_quiet_step (fail))
  refine wpQuiet_nil ?_
  refine Qmt.fork [0] (cls (Qin.start _ w2)) (by kernel_rfl) (by simp) ⟨?_, trivial⟩
  refine Qmt.by_op rfl (by kernel_rfl) ?_
  go_wp2_with fail
  refine (HOR.out _).mono ?_
  rintro e w3 ⟨rfl, hS3, hb3⟩
  have hB3 := (Qin.start w2.heap.size w2).trans hb3
  have HS3 := hide hS3
  clear hS3 hb3
  go_wp2_with fail
  refine ⟨rfl, ?_⟩
  refine Qmt.fork [4] (cls hB3) (by kernel_rfl) (by simp) ⟨?_, trivial⟩
  refine Qmt.by_op rfl (by kernel_rfl) ?_
  go_wp2_with fail
  refine (HIX.out _ _ _ _ HS3.out).mono ?_
  rintro e w4 ⟨rfl, rfl⟩
  go_wp2_with fail
  refine ⟨rfl, ?_⟩
  refine Qmt.takes [5] 0 _ _ _ (cls hB3) (by kernel_rfl) ?_
  simp only [List.filterMap_cons, List.filterMap_nil, List.getElem?_toArray, List.getElem?_cons_zero, List.getElem?_cons_succ]
  change wpQuiet _ _ _ _ [_] _
  repeat (go_big_quiet_step (fail))
  refine wpQuiet_nil ?_
  refine Qmt.by_end (cls hB3) (by kernel_rfl) ?_
  have HR3 := hide (HR2.out.below hB3)
  have HB3 := hide (HB2.out.trans (hB3.mono hs2))
  have HE3 := hide (HE.out.below HB3.out)
  have HSW := hide (HS.out.below hB3)
  have q0 := HR3.out.blk.cell (i := 0) rfl
  have q1 := HR3.out.blk.cell (i := 1) rfl
  have hr64 := HR3.out.len
  clear k0 a0 HIX HOR HS3
  have hj := HJ.out
  have hgood := HGO.out
  clear HJ HGO
  have hb0 : ((r.list.length : Int) == 0) = false := by rw [beq_eq_false_iff_ne]; omega
  have hi : i = (j : Int) := by rw [← HI.out, if_neg (by omega), hj]; omega
  subst hi
  clear HI
  obtain ⟨dl, d, hdl⟩ : ∃ dl d, Hid (r.list = dl ++ [d]) := ⟨r.list.dropLast, r.list.getLast (fun e => hl0 (by rw [e]; rfl)), (List.dropLast_concat_getLast _).symm⟩
  have hj0 : decide ((j : Int) < 0) = false := decide_eq_false (by omega)
  have hpl : 1 ≤ r.list.length := by omega
  have hpl2 : dl.length + 1 ≤ 64 := by rw [hdl.out] at hr64; simpa using hr64
  have hj7 : j ≤ 6 := by
    have := kind_le (wd W 0)
    omega
  obtain ⟨g, pad, hA, hg, hBg, hcl, hxl, hnc, hcm⟩ := own_open HR.out.own (by omega)
  subst hA
  have hgl := hBg.lt
  have HBG := hide (hBg.below HB3.out)
  have HD : Hid (lineD W r = ((fieldD (j + 2) W d).1, ⟨dl ++ [(fieldD (j + 2) W d).2], j + 1⟩)) := by
    have := line_good (r := r) hj (by omega) (by rw [not_or, not_or]; exact ⟨fun e => hl0 (by rw [e]; rfl), by omega, by omega⟩)
    show _ = _
    rw [this, hdl.out, lastD_snoc, List.dropLast_concat]
    rfl
  have hbs : (((j : Int) == (r.at_ : Int)) = true ∧ True) ∨ (((j : Int) == (r.at_ : Int)) = false ∧ (r.at_ < j ∧ decide (5 ≤ (r.at_ : Int)) = true)) := by
    rcases hgood with h | h
    · exact .inl ⟨by rw [h]; simp, trivial⟩
    · exact .inr ⟨by rw [beq_eq_false_iff_ne]; omega, h.1, decide_eq_true (by omega)⟩
  have k0 : ∀ v : Qin.In (Below w3.heap.size w3), v.val.cell? ⟨R, 0, none⟩ = some (.slice (some ⟨g, 0, none⟩) r.list.length c0) := fun v => (v.ok.cell (p := ⟨R, 0, none⟩) (by show R < w3.heap.size; have := HB3.out.size; omega)).trans q0
  have hRw3 : R < w3.heap.size := by have := HB3.out.size; omega
  have HKW := hide hj
  clear hk1 hBg hgood hj
  rcases hbs with ⟨hb5, hb6⟩ | ⟨hb5, hb6, hb7⟩
  all_goals
    go_wp2_with fail
    refine Qin.region (I := Below w3.heap.size w3) (Qin.start _ w3) (by kernel_rfl) (by kernel_rfl) ?_
    repeat (go_big_quiet_step (fail))
    refine wpQuiet_nil ?_
    intro v
    have hpo : (r.list.length - 1) * 14 = (DV dl).length := by rw [DV_len, hdl.out]; simp
    rw [hpo]
    have hbv := v.ok
    have HBV := HBG.out.below hbv
    rw [hdl.out, DV_snoc] at HBV hcl
    have HCL := hide hcl
    rw [hdl.out, List.length_append, List.length_singleton] at hnc
    have HBV2 := hide HBV
    have HSV := hide ((HSW.out.below hbv).mono (Q := (· ≠ g)) (fun b hb e => by subst e; omega))
    obtain ⟨B', off', hA', hB', _, a0⟩ := strs_head HSV.out hne
    injection hA' with hA'
    injection hA' with e1 e2
    subst e1; subst e2
    have HKV := hide (Kb.of_below (R := R) (B := R + 1) (HB3.out.trans (hbv.mono HB3.out.size)) (by omega))
    have HEV := hide (HE3.out.below hbv)
    have hrv := HR3.out.blk.below hbv
    rw [show r.list.length = dl.length + 1 by rw [hdl.out]; simp] at hrv
    have HRV := hide hrv
    have t1 := tl_str (wd W 0) kAmount
    have t2 := tl_str (wd W 0) kInterest
    unfold kAmount at t1
    unfold kInterest at t2
    have hRw : R + 1 ≤ v.val.heap.size := by have := hbv.size; omega
    obtain ⟨wv, hwv⟩ : ∃ wv, wv = v.val := ⟨_, rfl⟩
    rw [← hwv] at HBV2 HSV hB' a0 HKV HEV HRV hRw ⊢
    clear hwv HBV hbv k0 HBG v hpo hrv hcl hxl q0 q1 hb5 hb6
    have HSP2 := hide (HSP.out)
    clear HSP
    by_cases hj2 : j = 2
    · have HQ := Lib.hid (fun pre post hS hB he => amount_any W d 27 g pre post (some ⟨B, off, none⟩) cp wv hS hW hWl hB he)
      have hw0 : wd W 0 = kAmount := (kind_word HKW.out (by omega)).trans (by rw [hj2]; rfl)
      replace t1 := t1.trans (decide_eq_true hw0)
      clear hw0
      rw [show fieldD (j + 2) W d = amountD W d by rw [hj2]; rfl] at HD
      have HJ2 := hide hj2
      clear hj2
      go_wp2_with fail
      refine (HQ.out _ _ HSV.out HBV2.out HEV.out).mono ?_
      rintro e w5 ⟨rfl, hk5, hb5⟩
      have HG5 := hide hb5
      have HR5 := hide (HRV.out.kept hk5 (by omega))
      have HK5 := hide (HKV.out.trans (Kb.of_kept hk5 (by omega) hRw))
      have f1 := HR5.out.frozen 1
      have g1 := HR5.out.cell (i := 1) rfl
      have HGS := hide (BlkT.other HG5.out (R := R) (by omega) 1 (.int .i64 ((j : Int) + 1)))
      clear hk5 hb5
      go_wp2_with fail
      go_ret
      rw [HD.out]
      exact ⟨_, _, rfl, rdr_close (HR5.out.set 1 _) HGS.out hg HCL.out hnc hcm hpl2, HK5.out.set 1 _⟩
    · by_cases hj5 : j = 5
      · have HQ := Lib.hid (fun pre post hS hB he => interest_any W d 27 g pre post (some ⟨B, off, none⟩) cp wv hS hW hWl hB he)
        have hw0 : wd W 0 = kInterest := (kind_word HKW.out (by omega)).trans (by rw [hj5]; rfl)
        replace t1 := t1.trans (decide_eq_false (fun e => by rw [hw0] at e; exact absurd e (by decide)))
        replace t2 := t2.trans (decide_eq_true hw0)
        clear hw0
        rw [show fieldD (j + 2) W d = interestD W d by rw [hj5]; rfl] at HD
        have HJ5 := hide hj5
        clear hj5 hj2
        go_wp2_with fail
        refine (HQ.out _ _ HSV.out HBV2.out HEV.out).mono ?_
        rintro e w5 ⟨rfl, hk5, hb5⟩
        have HG5 := hide hb5
        have HR5 := hide (HRV.out.kept hk5 (by omega))
        have HK5 := hide (HKV.out.trans (Kb.of_kept hk5 (by omega) hRw))
        have f1 := HR5.out.frozen 1
        have g1 := HR5.out.cell (i := 1) rfl
        have HGS := hide (BlkT.other HG5.out (R := R) (by omega) 1 (.int .i64 ((j : Int) + 1)))
        clear hk5 hb5
        go_wp2_with fail
        go_ret
        rw [HD.out]
        exact ⟨_, _, rfl, rdr_close (HR5.out.set 1 _) HGS.out hg HCL.out hnc hcm hpl2, HK5.out.set 1 _⟩
      · have HQ := Lib.hid (fun pre post hS hB (_ : Env wv) => integer_any (j + 2) W d 27 g pre post (some ⟨B, off, none⟩) cp wv HKW.out (by omega) hS hW hWl hB)
        replace t1 := t1.trans (decide_eq_false (fun e => hj2 (kind_eq HKW.out e (by decide))))
        replace t2 := t2.trans (decide_eq_false (fun e => hj5 (kind_eq HKW.out e (by decide))))
        rw [field_integer W d (by omega) (by omega)] at HD
        clear hj2 hj5
        go_wp2_with fail
        refine (HQ.out _ _ HSV.out HBV2.out HEV.out).mono ?_
        rintro e w5 ⟨rfl, hk5, hb5⟩
        have HG5 := hide hb5
        have HR5 := hide (HRV.out.kept hk5 (by omega))
        have HK5 := hide (HKV.out.trans (Kb.of_kept hk5 (by omega) hRw))
        have f1 := HR5.out.frozen 1
        have g1 := HR5.out.cell (i := 1) rfl
        have HGS := hide (BlkT.other HG5.out (R := R) (by omega) 1 (.int .i64 ((j : Int) + 1)))
        clear hk5 hb5
        go_wp2_with fail
        go_ret
        rw [HD.out]
        exact ⟨_, _, rfl, rdr_close (HR5.out.set 1 _) HGS.out hg HCL.out hnc hcm hpl2, HK5.out.set 1 _⟩
end Go.Proofs.YtghbhchkdomfhaaGreatDoor.PfM
namespace Go.Proofs.YtghbhchkdomfhaaGreatDoor.PfN
open Go.RowKit Wd RoL RnW RpF PqB PfS PfB PfA PfC PfD PfE PfF PfG PfH PfI PfJ PfK PfL PfM
theorem line_any (s : ByteArray) (r : Rdr) (R : Nat) (A0 : Option Addr) (c0 : Nat) (w : World) (hs : s.size ≤ 8192) (hR : RdrAt w R r A0 c0) (he : Env w) :
    Calls Tryz.prog 38 #[.pointer (some ⟨R, 0, none⟩), .string s] w (LineP (lineD (splA 32 [] s.data.toList) r) R w) := by
  by_cases hk1 : kindOf (wd (splA 32 [] s.data.toList) 0) = 1
  · exact line_one s r R A0 c0 w hs hR he hk1
  · by_cases hb : r.list = [] ∨ kindOf (wd (splA 32 [] s.data.toList) 0) = 0 ∨ ¬ (kindOf (wd (splA 32 [] s.data.toList) 0) - 2 = r.at_ ∨ (r.at_ < kindOf (wd (splA 32 [] s.data.toList) 0) - 2 ∧ 5 ≤ r.at_))
    · exact line_no s r R A0 c0 w hs hR he hk1 hb
    · have h1 : ¬ r.list.length = 0 := fun e => hb (.inl (List.eq_nil_of_length_eq_zero e))
      have h2 : kindOf (wd (splA 32 [] s.data.toList) 0) ≠ 0 := fun e => hb (.inr (.inl e))
      have h3 : kindOf (wd (splA 32 [] s.data.toList) 0) - 2 = r.at_ ∨ (r.at_ < kindOf (wd (splA 32 [] s.data.toList) 0) - 2 ∧ 5 ≤ r.at_) := Classical.not_not.1 fun e => hb (.inr (.inr e))
      exact line_good_any s r R A0 c0 w hs hR he (kindOf (wd (splA 32 [] s.data.toList) 0) - 2) (by omega) h1 h3
/-- what Parse leaves -/
def ParseP (p : List Dc × Nat × Int) (w : World) (e : Ending) (w' : World) : Prop :=
  ∃ A c, e = .returned (.tuple #[.slice A p.1.length c, .int .i64 (p.2.1 : Int), .int .i64 p.2.2]) ∧ DocsAt w' A p.1 ∧ Below w.heap.size w w'
theorem last_cut {L : List (List UInt8)} (h : L ≠ []) : ∃ Ls la, L = Ls ++ [la] := ⟨L.dropLast, L.getLast h, (List.dropLast_concat_getLast h).symm⟩
theorem parse_open {s : List UInt8} {Ls : List (List UInt8)} {la : List UInt8} (h : splA 10 [] s = Ls ++ [la]) :
    parseOf s = if 8192 < s.length ∨ 512 < (if la = [] then Ls.length else Ls.length + 1) then ([], 0, 2)
      else if (linesD Ls 0 ⟨[], 0⟩).1.2 ≠ 0 then ([], (linesD Ls 0 ⟨[], 0⟩).1.1, (linesD Ls 0 ⟨[], 0⟩).1.2)
      else if la ≠ [] ∨ (linesD Ls 0 ⟨[], 0⟩).2.complete = false then ([], Ls.length + 1, 10)
      else ((linesD Ls 0 ⟨[], 0⟩).2.list, 0, 0) := by
  unfold parseOf
  simp only [h, List.getLast?_append, List.getLast?_singleton, Option.some_or, Option.getD_some, List.length_append, List.length_singleton, Nat.add_sub_cancel, List.dropLast_concat]
theorem lines_nil (i : Nat) (r : Rdr) : linesD [] i r = ((0, 0), r) := rfl
theorem lines_bad {Ls : List (List UInt8)} {x : List UInt8} {k : Nat} {r : Rdr} (hx : Ls[k]? = some x) (h : (lineD (splA 32 [] x) r).1 ≠ 0) : linesD (Ls.drop k) k r = ((k + 1, (lineD (splA 32 [] x) r).1), r) := by
  obtain ⟨hk, rfl⟩ := List.getElem?_eq_some_iff.1 hx
  rw [List.drop_eq_getElem_cons hk, linesD, if_pos h]
theorem lines_on {Ls : List (List UInt8)} {x : List UInt8} {k : Nat} {r : Rdr} (hx : Ls[k]? = some x) (h : (lineD (splA 32 [] x) r).1 = 0) : linesD (Ls.drop k) k r = linesD (Ls.drop (k + 1)) (k + 1) (lineD (splA 32 [] x) r).2 := by
  obtain ⟨hk, rfl⟩ := List.getElem?_eq_some_iff.1 hx
  rw [List.drop_eq_getElem_cons hk, linesD, if_neg (by rw [h]; simp)]
theorem env_kb {R B : Nat} {w w' : World} (h : Env w) (hk : Kb R B w w') (hR : 0 < R) (hB : 0 < B) : Env w' := by
  obtain ⟨h1, m, h2⟩ := h
  exact ⟨Nat.le_trans h1 hk.size, m, (World.cell?_of_block (a := ⟨0, 0, none⟩) (hk.block 0 hB (by omega))).trans h2⟩
theorem kb_cell {R B : Nat} {w w' : World} (hk : Kb R B w w') {p : Addr} (hp : p.block < B) (hR : p.block ≠ R) : w'.cell? p = w.cell? p := World.cell?_of_block (hk.block _ hp hR)
theorem rdr_new (w : World) : ∃ V, w.alloc (.cells #[.slice none 0 0, .int .i64 0] 63) = V ∧ Hid (RdrAt V w.heap.size ⟨[], 0⟩ none 0) ∧ Hid (Below w.heap.size w V) ∧ V.heap.size = w.heap.size + 1 :=
  ⟨_, rfl, ⟨heap_alloc_new w _, World.ownsRow_nil _ _ _ _, by show 0 ≤ 64; omega⟩, (Below.refl _ _).alloc (Nat.le_refl _) _, by simp⟩
theorem kb_down {R : Nat} {w w' : World} (hk : Kb R (R + 1) w w') : Below R w w' := ⟨hk.os, hk.tape, hk.output, hk.size, fun k h => hk.block k (by omega) (by omega)⟩
set_option maxHeartbeats 8000000 in
set_option maxRecDepth 100000 in
theorem parse_docs (s : ByteArray) (w : World) (hs : s.size ≤ 1000000) (he : Env w) :
    Calls Tryz.prog 17 #[.string s] w (ParseP (parseOf s.data.toList) w) := by
  have hSP := split10_any s w hs he
  have hmem := splA_mem 10 s.data.toList []
  obtain ⟨hlen, hne⟩ := splA_len 10 s.data.toList []
  have hsl : s.data.toList.length = s.size := by simp
  obtain ⟨Ls, la, hL⟩ := last_cut hne
  have hD := parse_open hL
  rw [hsl] at hD
  unfold SplitP at hSP
  rw [hL] at hSP hmem hlen
  rw [List.length_append, List.length_singleton] at hlen
  have hm : ∀ x ∈ Ls, x.length ≤ s.size := fun x hx => by have := hmem x (List.mem_append_left _ hx); rw [hsl] at this; simpa using this
  simp only [List.length_append, List.length_singleton, List.map_append, List.map_cons, List.map_nil] at hSP
  have HSP := hide hSP
  have hLl : Ls.length ≤ 1000000 := by omega
  have hLb : (Ls.map str).length = Ls.length := List.length_map ..
  have HE := hide he
  have hla : (str la).toList = la := by rw [ByteArray.toList_eq]; rfl
  clear hL hne hSP hmem hlen he
  obtain ⟨cnt, hcnt⟩ : ∃ cnt, (if la = [] then Ls.length else Ls.length + 1) = cnt := ⟨_, rfl⟩
  rw [hcnt] at hD
  have hl : (la = [] ∧ (str la).toList = [] ∧ Hid (cnt = Ls.length)) ∨ (la ≠ [] ∧ (!(str la).toList.isEmpty) = true ∧ Hid (cnt = Ls.length + 1)) := by
    by_cases h : la = []
    · exact .inl ⟨h, by rw [hla, h], by rw [if_pos h] at hcnt; exact hcnt.symm⟩
    · exact .inr ⟨h, by rw [hla]; simpa using h, by rw [if_neg h] at hcnt; exact hcnt.symm⟩
  clear hla hcnt
  generalize str la = sl at *
  by_cases h8 : 8192 < s.size
  · have HD : Hid (parseOf s.data.toList = ([], 0, 2)) := by rw [if_pos (.inl h8)] at hD; exact hD
    clear hD hm
    rcases hl with ⟨hl, hl1, HC⟩ | ⟨hl, hl1, HC⟩
    all_goals
      clear hl
      go_enter Tryz.func17, Tryz.ntmps17
      go_wp2_with fail
      refine HSP.out.mono ?_
      rintro e w1 ⟨A, cp, rfl, hS, hb1⟩
      obtain ⟨B, off, rfl, hB, ⟨hPB, hcap⟩, hc⟩ := hS.2 (by simp)
      rw [List.length_append, List.length_map, List.length_singleton] at hcap
      have hcap2 : Ls.length ≤ cp := by omega
      have cl := hc Ls.length sl (by simp)
      have HB1 := hide hb1
      clear hS hc hb1
      go_wp2_with fail
      go_ret3
      rw [HD.out]
      unfold ParseP
      exact ⟨none, 0, rfl, DocsAt.nil _ _, HB1.out⟩
  · by_cases h5 : 512 < cnt
    · have HD : Hid (parseOf s.data.toList = ([], 0, 2)) := by rw [if_pos (.inr h5)] at hD; exact hD
      clear hD hm
      rcases hl with ⟨hl, hl1, HC⟩ | ⟨hl, hl1, HC⟩
      all_goals
        clear hl
        rw [HC.out] at h5
        clear HC
        go_enter Tryz.func17, Tryz.ntmps17
        go_wp2_with fail
        refine HSP.out.mono ?_
        rintro e w1 ⟨A, cp, rfl, hS, hb1⟩
        obtain ⟨B, off, rfl, hB, ⟨hPB, hcap⟩, hc⟩ := hS.2 (by simp)
        rw [List.length_append, List.length_map, List.length_singleton] at hcap
        have hcap2 : Ls.length ≤ cp := by omega
        have cl := hc Ls.length sl (by simp)
        have HB1 := hide hb1
        clear hS hc hb1
        go_wp2_with fail
        go_ret3
        rw [HD.out]
        unfold ParseP
        exact ⟨none, 0, rfl, DocsAt.nil _ _, HB1.out⟩
    · rw [if_neg (by omega)] at hD
      have HM := hide hm
      have HD := hide hD
      have hs8 : s.size ≤ 8192 := by omega
      clear hD hm
      rcases hl with ⟨hl, hl1, HC⟩ | ⟨hl, hl1, HC⟩
      · have HLA := hide hl
        rw [HC.out] at h5
        clear HC hl
        go_enter Tryz.func17, Tryz.ntmps17
        go_wp2_with fail
        refine HSP.out.mono ?_
        rintro e w1 ⟨A, cp, rfl, hS, hb1⟩
        obtain ⟨B, off, rfl, hB, ⟨hPB, hcap⟩, hc⟩ := hS.2 (by simp)
        rw [List.length_append, List.length_map, List.length_singleton] at hcap
        have hcap2 : Ls.length ≤ cp := by omega
        have cl := hc Ls.length sl (by simp)
        have HB1 := hide hb1
        have HCL : Hid (∀ k x, Ls[k]? = some x → w1.cell? ⟨B, off + k, none⟩ = some (.string (str x))) := fun k x hx => hc k (str x) (by
          rw [List.getElem?_append_left (by rw [List.length_map]; exact (List.getElem?_eq_some_iff.1 hx).1), List.getElem?_map, hx]
          rfl)
        obtain ⟨V, hV, HR, HBV, hsV⟩ := rdr_new w1
        have HEV := hide (HE.out.below (hb1.trans (HBV.out.mono hb1.size)))
        have hR0 : 0 < w1.heap.size := by have := HE.out.1; have := hb1.size; omega
        clear hS hc hb1
        go_wp2_with fail
        obtain ⟨R, hRe⟩ : ∃ R, w1.heap.size = R := ⟨_, rfl⟩
        have HWR := hide hRe
        rw [hRe] at HR hR0 hB ⊢
        rw [hRe] at hsV
        clear hRe hV
        go_loopw [9, 10, 11, 42] (fun _ _ _ vi wr => ∃ (k : Nat) (r : Rdr) (A' : Option Addr) (c' : Nat), k ≤ Ls.length ∧ vi = .int .i64 k ∧ Hid (linesD Ls 0 ⟨[], 0⟩ = linesD (Ls.drop k) k r) ∧ Hid (RdrAt wr R r A' c') ∧ Hid (Kb R (R + 1) V wr)) (fun _ _ _ vi _ => Ls.length - (intOf vi).toNat)
        case atStart => exact ⟨0, ⟨[], 0⟩, none, 0, by omega, rfl, rfl, HR, hide (Kb.refl _ _ _)⟩
        case round =>
          obtain ⟨k, r, A', c', hk, rfl, HI, HRR, HK⟩ := hrel
          by_cases hlt : k < Ls.length
          · obtain ⟨x, hx⟩ : ∃ x, Ls[k]? = some x := ⟨_, List.getElem?_eq_getElem hlt⟩
            have hB2 : B < w1.heap.size := by rw [HWR.out]; exact hB
            have a0 := (kb_cell HK.out (p := ⟨B, off + k, none⟩) (by show B < R + 1; omega) (by show B ≠ R; omega)).trans ((HBV.out.cell (p := ⟨B, off + k, none⟩) hB2).trans (HCL.out k x hx))
            have HX := hide hx
            have HLN := Lib.hid (fun h1 h2 => line_any (str x) r R A' c' wr (by rw [str_size]; have := HM.out x (List.mem_of_getElem? hx); omega) h1 h2)
            rw [show (str x).data.toList = x from rfl] at HLN
            obtain ⟨⟨cd, r'⟩, hp⟩ : ∃ p, lineD (splA 32 [] x) r = p := ⟨_, rfl⟩
            rw [hp] at HLN
            unfold LineP at HLN
            have HP := hide hp
            clear hx hp
            by_cases h0 : cd = 0
            · subst h0
              go_wp2_with fail
              refine (HLN.out HRR.out (env_kb HEV.out HK.out hR0 (by omega))).mono ?_
              rintro e w3 ⟨A3, c3, rfl, hr3, hk3⟩
              have HR3 := hide hr3
              have HK3 := hide (HK.out.trans hk3)
              clear hr3 hk3
              go_wp2_with fail
              go_roundw
              case rel => exact ⟨k + 1, r', A3, c3, by omega, by go_num, hide (by rw [HI.out, lines_on HX.out (by rw [HP.out]), HP.out]), HR3, HK3⟩
              case measure => simp [intOf]; omega
            · have hb0 : (cd != 0) = true := by simpa using h0
              have HQ : Hid (parseOf s.data.toList = ([], k + 1, cd)) := by
                show _ = _
                rw [HD.out, HI.out, lines_bad HX.out (by rw [HP.out]; exact h0), HP.out, if_pos (by exact h0)]
              clear h0
              go_wp2_with fail
              refine (HLN.out HRR.out (env_kb HEV.out HK.out hR0 (by omega))).mono ?_
              rintro e w3 ⟨A3, c3, rfl, hr3, hk3⟩
              have HK3 := hide (HK.out.trans hk3)
              clear hr3 hk3
              go_wp2_with fail
              go_ret3
              rw [HQ.out]
              unfold ParseP
              exact ⟨none, 0, rfl, DocsAt.nil _ _, (HB1.out.trans (HBV.out.mono HB1.out.size)).trans ((kb_down HK3.out).mono (by have := HB1.out.size; rw [HWR.out] at this; exact this))⟩
          · obtain rfl : k = Ls.length := by omega
            have HLI : Hid (linesD Ls 0 ⟨[], 0⟩ = ((0, 0), r)) := by
              show _ = _
              rw [HI.out, List.drop_eq_nil_of_le (Nat.le_refl _), lines_nil]
            have HBF := hide ((HB1.out.trans (HBV.out.mono HB1.out.size)).trans ((kb_down HK.out).mono (by have := HB1.out.size; rw [HWR.out] at this; exact this)))
            have HCO := Lib.hid (fun h => complete_any r R A' c' wr h)
            cases hcm : r.complete
            · have HQ : Hid (parseOf s.data.toList = ([], Ls.length + 1, 10)) := by
                show _ = _
                rw [HD.out, HLI.out, if_neg (by simp), if_pos (.inr hcm)]
              rw [hcm] at HCO
              clear hcm
              go_wp2_with fail
              refine (HCO.out HRR.out).mono ?_
              rintro e w3 ⟨rfl, rfl⟩
              go_wp2_with fail
              go_ret3
              rw [HQ.out]
              unfold ParseP
              exact ⟨none, 0, rfl, DocsAt.nil _ _, HBF.out⟩
            · have HQ : Hid (parseOf s.data.toList = (r.list, 0, 0)) := by
                show _ = _
                rw [HD.out, HLI.out, if_neg (by simp), if_neg (by rw [not_or]; exact ⟨fun h => h HLA.out, by rw [hcm]; simp⟩)]
              rw [hcm] at HCO
              clear hcm
              have q0 := HRR.out.blk.cell (i := 0) rfl
              go_wp2_with fail
              refine (HCO.out HRR.out).mono ?_
              rintro e w3 ⟨rfl, rfl⟩
              go_wp2_with fail
              go_ret3
              rw [HQ.out]
              unfold ParseP
              exact ⟨A', c', rfl, HRR.out.docs, HBF.out⟩
      · have HLA := hide hl
        rw [HC.out] at h5
        clear HC hl
        go_enter Tryz.func17, Tryz.ntmps17
        go_wp2_with fail
        refine HSP.out.mono ?_
        rintro e w1 ⟨A, cp, rfl, hS, hb1⟩
        obtain ⟨B, off, rfl, hB, ⟨hPB, hcap⟩, hc⟩ := hS.2 (by simp)
        rw [List.length_append, List.length_map, List.length_singleton] at hcap
        have hcap2 : Ls.length ≤ cp := by omega
        have cl := hc Ls.length sl (by simp)
        have HB1 := hide hb1
        have HCL : Hid (∀ k x, Ls[k]? = some x → w1.cell? ⟨B, off + k, none⟩ = some (.string (str x))) := fun k x hx => hc k (str x) (by
          rw [List.getElem?_append_left (by rw [List.length_map]; exact (List.getElem?_eq_some_iff.1 hx).1), List.getElem?_map, hx]
          rfl)
        obtain ⟨V, hV, HR, HBV, hsV⟩ := rdr_new w1
        have HEV := hide (HE.out.below (hb1.trans (HBV.out.mono hb1.size)))
        have hR0 : 0 < w1.heap.size := by have := HE.out.1; have := hb1.size; omega
        clear hS hc hb1
        go_wp2_with fail
        obtain ⟨R, hRe⟩ : ∃ R, w1.heap.size = R := ⟨_, rfl⟩
        have HWR := hide hRe
        rw [hRe] at HR hR0 hB ⊢
        rw [hRe] at hsV
        clear hRe hV
        go_loopw [9, 10, 11, 42] (fun _ _ _ vi wr => ∃ (k : Nat) (r : Rdr) (A' : Option Addr) (c' : Nat), k ≤ Ls.length ∧ vi = .int .i64 k ∧ Hid (linesD Ls 0 ⟨[], 0⟩ = linesD (Ls.drop k) k r) ∧ Hid (RdrAt wr R r A' c') ∧ Hid (Kb R (R + 1) V wr)) (fun _ _ _ vi _ => Ls.length - (intOf vi).toNat)
        case atStart => exact ⟨0, ⟨[], 0⟩, none, 0, by omega, rfl, rfl, HR, hide (Kb.refl _ _ _)⟩
        case round =>
          obtain ⟨k, r, A', c', hk, rfl, HI, HRR, HK⟩ := hrel
          by_cases hlt : k < Ls.length
          · obtain ⟨x, hx⟩ : ∃ x, Ls[k]? = some x := ⟨_, List.getElem?_eq_getElem hlt⟩
            have hB2 : B < w1.heap.size := by rw [HWR.out]; exact hB
            have a0 := (kb_cell HK.out (p := ⟨B, off + k, none⟩) (by show B < R + 1; omega) (by show B ≠ R; omega)).trans ((HBV.out.cell (p := ⟨B, off + k, none⟩) hB2).trans (HCL.out k x hx))
            have HX := hide hx
            have HLN := Lib.hid (fun h1 h2 => line_any (str x) r R A' c' wr (by rw [str_size]; have := HM.out x (List.mem_of_getElem? hx); omega) h1 h2)
            rw [show (str x).data.toList = x from rfl] at HLN
            obtain ⟨⟨cd, r'⟩, hp⟩ : ∃ p, lineD (splA 32 [] x) r = p := ⟨_, rfl⟩
            rw [hp] at HLN
            unfold LineP at HLN
            have HP := hide hp
            clear hx hp
            by_cases h0 : cd = 0
            · subst h0
              go_wp2_with fail
              refine (HLN.out HRR.out (env_kb HEV.out HK.out hR0 (by omega))).mono ?_
              rintro e w3 ⟨A3, c3, rfl, hr3, hk3⟩
              have HR3 := hide hr3
              have HK3 := hide (HK.out.trans hk3)
              clear hr3 hk3
              go_wp2_with fail
              go_roundw
              case rel => exact ⟨k + 1, r', A3, c3, by omega, by go_num, hide (by rw [HI.out, lines_on HX.out (by rw [HP.out]), HP.out]), HR3, HK3⟩
              case measure => simp [intOf]; omega
            · have hb0 : (cd != 0) = true := by simpa using h0
              have HQ : Hid (parseOf s.data.toList = ([], k + 1, cd)) := by
                show _ = _
                rw [HD.out, HI.out, lines_bad HX.out (by rw [HP.out]; exact h0), HP.out, if_pos (by exact h0)]
              clear h0
              go_wp2_with fail
              refine (HLN.out HRR.out (env_kb HEV.out HK.out hR0 (by omega))).mono ?_
              rintro e w3 ⟨A3, c3, rfl, hr3, hk3⟩
              have HK3 := hide (HK.out.trans hk3)
              clear hr3 hk3
              go_wp2_with fail
              go_ret3
              rw [HQ.out]
              unfold ParseP
              exact ⟨none, 0, rfl, DocsAt.nil _ _, (HB1.out.trans (HBV.out.mono HB1.out.size)).trans ((kb_down HK3.out).mono (by have := HB1.out.size; rw [HWR.out] at this; exact this))⟩
          · obtain rfl : k = Ls.length := by omega
            have HLI : Hid (linesD Ls 0 ⟨[], 0⟩ = ((0, 0), r)) := by
              show _ = _
              rw [HI.out, List.drop_eq_nil_of_le (Nat.le_refl _), lines_nil]
            have HBF := hide ((HB1.out.trans (HBV.out.mono HB1.out.size)).trans ((kb_down HK.out).mono (by have := HB1.out.size; rw [HWR.out] at this; exact this)))
            have HQ : Hid (parseOf s.data.toList = ([], Ls.length + 1, 10)) := by
              show _ = _
              rw [HD.out, HLI.out, if_neg (by simp), if_pos (.inl HLA.out)]
            go_wp2_with fail
            go_ret3
            rw [HQ.out]
            unfold ParseP
            exact ⟨none, 0, rfl, DocsAt.nil _ _, HBF.out⟩
end Go.Proofs.YtghbhchkdomfhaaGreatDoor.PfN
