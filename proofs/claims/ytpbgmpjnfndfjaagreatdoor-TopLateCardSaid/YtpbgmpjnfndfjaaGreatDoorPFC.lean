/- PfO, PfP, PfQ, PfR, PfT, PfU, in one text. -/
import Derived.Test.YtpbgmpjnfndfjaaGreatDoorPFA
import Derived.Test.YtpbgmpjnfndfjaaGreatDoorQmu
import Derived.Test.YtpbgmpjnfndfjaaGreatDoorHsE
import Derived.Test.YtpbgmpjnfndfjaaGreatDoorShelf
import Derived.WalkSmall
namespace Go.Proofs.YtpbgmpjnfndfjaaGreatDoor.PfO
theorem here : True := trivial
open Go.RowKit Wd RoL RnW RnQ RnR RnP RtA RpC RpF PqB PfS PfB PfA PfD PfE PfH PfI
def inB (n m : Int) : Bool := decide (0 ≤ n) && decide (n ≤ m)
/-- the two numbers of a document -/
def _root_.Go.Proofs.YtpbgmpjnfndfjaaGreatDoor.PfA.Dc.amt (d : Dc) : Rat := fixQ d.neg d.num.data.toList d.den.data.toList
def _root_.Go.Proofs.YtpbgmpjnfndfjaaGreatDoor.PfA.Dc.rate (d : Dc) : Rat := fixQ d.rneg d.rnum.data.toList d.rden.data.toList
/-- the code of a document -/
def checkD (d : Dc) : Int :=
  if NmA.nmB d.id = false then 11
  else if inB d.est 7 = false then 1
  else if inB d.cred 31 = false then 1
  else if codeB d.code.data.toList = false then 8
  else if sgnQ d.amt < 0 then 7
  else if inB d.inc 1048576 = false then 1
  else if inB d.rank 7 = false then 1
  else if sgnQ d.rate < 0 then 7
  else if inB d.rfrom 1048576 = false then 1
  else if sgnQ d.rate = 0 ∧ d.rfrom ≠ 0 then 1
  else if inB (d.sec + 1) 8 = false then 1
  else 0
/-- the sizes of a document that Check can read -/
structure Dc.Ok (d : Dc) : Prop where
  id : d.id.size ≤ 100000
  code : d.code.size ≤ 100000
  num : d.num.size ≤ 50000
  den : d.den.size ≤ 50000
  rnum : d.rnum.size ≤ 50000
  rden : d.rden.size ≤ 50000
  s1 : -9223372036854775808 ≤ d.sec
  s2 : d.sec ≤ 9223372036854775807
theorem doc_new (w : World) (d : Dc) : ∃ V, w.alloc (.cells #[.string d.id, .int .i64 d.est, .int .i64 d.cred, .string d.code, .bool d.neg, .string d.num, .string d.den, .int .i64 d.inc, .int .i64 d.rank, .bool d.rneg, .string d.rnum, .string d.rden, .int .i64 d.rfrom, .int .i64 d.sec] 34) = V ∧ Hid (BlkT V w.heap.size 34 d.vals) ∧ Hid (Below w.heap.size w V) ∧ w.heap.size < V.heap.size :=
  ⟨_, rfl, heap_alloc_new w _, (Below.refl _ _).alloc (Nat.le_refl _) _, by simp⟩
theorem doc_at {w : World} {g : Nat} {T : TypeId} {d : Dc} (h : BlkT w g T d.vals) : DocAt w g 0 d :=
  ⟨h.cell (i := 0) rfl, h.cell (i := 1) rfl, h.cell (i := 2) rfl, h.cell (i := 3) rfl, h.cell (i := 4) rfl, h.cell (i := 5) rfl, h.cell (i := 6) rfl, h.cell (i := 7) rfl, h.cell (i := 8) rfl, h.cell (i := 9) rfl, h.cell (i := 10) rfl, h.cell (i := 11) rfl, h.cell (i := 12) rfl, h.cell (i := 13) rfl⟩
set_option maxHeartbeats 8000000 in
set_option maxRecDepth 100000 in
theorem check_any (d : Dc) (w : World) (hd : Dc.Ok d) :
    Calls Tryz.prog 148 #[d.agg] w fun e w' => e = .returned (.int .i64 (checkD d)) ∧ Below w.heap.size w w' := by
  have HN := Lib.hid (fun w => NmA.nm_any d.id w (by have := hd.id; unfold maxLen; omega))
  have HC := Lib.hid (fun w => code_any d.code w (by have := hd.code; unfold maxLen; omega))
  have HS1 := Lib.hid (fun w => RpI.sign_any d.neg d.num d.den w (by have := hd.num; omega) (by have := hd.den; omega))
  have HS2 := Lib.hid (fun w => RpI.sign_any d.rneg d.rnum d.rden w (by have := hd.rnum; omega) (by have := hd.rden; omega))
  have HWI := Lib.hid (fun n m w => within_any n m w)
  obtain ⟨V, hV, HX, HBV, hsV⟩ := doc_new w d
  have hs1 := hd.s1
  have hs2 := hd.s2
  have HD : Hid (∀ x, checkD d = x → checkD d = x) := fun _ h => h
  unfold checkD at HD
  change Hid (∀ (n m : Int) (w : World), Calls _ _ #[.int .i64 n, .int .i64 m] w (fun e w' => e = .returned (.bool (inB n m)) ∧ w = w')) at HWI
  change Hid (∀ (w : World), Calls _ _ _ w fun e w' => e = .returned (.int .i64 (sgnQ d.amt)) ∧ Below w.heap.size w w') at HS1
  change Hid (∀ (w : World), Calls _ _ _ w fun e w' => e = .returned (.int .i64 (sgnQ d.rate)) ∧ Below w.heap.size w w') at HS2
  obtain ⟨a0, a1, a2, a3, a4, a5, a6, a7, a8, a9, a10, a11, a12, a13⟩ := doc_at HX.out
  unfold PfA.Dc.agg
  go_enter Tryz.func148, Tryz.ntmps148
  go_wp2_with fail
  cases h1 : NmA.nmB d.id
  · have HQ : Hid (checkD d = 11) := by show _ = _; unfold checkD; rw [if_pos h1]
    refine (HN.out _).mono ?_
    rintro e w2 ⟨rfl, rfl⟩
    go_wp2_with fail
    go_ret
    rw [HQ.out]
    exact ⟨rfl, HBV.out⟩
  · refine (HN.out _).mono ?_
    rintro e w2 ⟨rfl, rfl⟩
    go_wp2_with fail
    cases h2 : inB d.est 7
    · have HQ : Hid (checkD d = 1) := by show _ = _; unfold checkD; rw [if_neg (by simp [h1]), if_pos h2]
      refine (HWI.out _ _ _).mono ?_
      rintro e w2 ⟨rfl, rfl⟩
      go_wp2_with fail
      go_ret
      rw [HQ.out]
      exact ⟨rfl, HBV.out⟩
    · refine (HWI.out _ _ _).mono ?_
      rintro e w2 ⟨rfl, rfl⟩
      go_wp2_with fail
      cases h3 : inB d.cred 31
      · have HQ : Hid (checkD d = 1) := by show _ = _; unfold checkD; rw [if_neg (by simp [h1]), if_neg (by simp [h2]), if_pos h3]
        refine (HWI.out _ _ _).mono ?_
        rintro e w2 ⟨rfl, rfl⟩
        go_wp2_with fail
        go_ret
        rw [HQ.out]
        exact ⟨rfl, HBV.out⟩
      · refine (HWI.out _ _ _).mono ?_
        rintro e w2 ⟨rfl, rfl⟩
        go_wp2_with fail
        cases h4 : codeB d.code.data.toList
        · have HQ : Hid (checkD d = 8) := by show _ = _; unfold checkD; rw [if_neg (by simp [h1]), if_neg (by simp [h2]), if_neg (by simp [h3]), if_pos h4]
          refine (HC.out _).mono ?_
          rintro e w2 ⟨rfl, rfl⟩
          go_wp2_with fail
          go_ret
          rw [HQ.out]
          exact ⟨rfl, HBV.out⟩
        · refine (HC.out _).mono ?_
          rintro e w2 ⟨rfl, rfl⟩
          go_wp2_with fail
          by_cases h5 : sgnQ d.amt < 0
          · have HQ : Hid (checkD d = 7) := by show _ = _; unfold checkD; rw [if_neg (by simp [h1]), if_neg (by simp [h2]), if_neg (by simp [h3]), if_neg (by simp [h4]), if_pos h5]
            refine (HS1.out _).mono ?_
            rintro e w3 ⟨rfl, hb⟩
            have HX2 := hide (HX.out.below hb)
            have HB2 := hide (HBV.out.trans (hb.mono (Nat.le_of_lt hsV)))
            have hs2V : w.heap.size < w3.heap.size := Nat.lt_of_lt_of_le hsV hb.size
            clear hb a0 a1 a2 a3 a4 a5 a6 a7 a8 a9 a10 a11 a12 a13
            obtain ⟨a0, a1, a2, a3, a4, a5, a6, a7, a8, a9, a10, a11, a12, a13⟩ := doc_at HX2.out
            go_wp2_with fail
            go_ret
            rw [HQ.out]
            exact ⟨rfl, HB2.out⟩
          · refine (HS1.out _).mono ?_
            rintro e w3 ⟨rfl, hb⟩
            have HX2 := hide (HX.out.below hb)
            have HB2 := hide (HBV.out.trans (hb.mono (Nat.le_of_lt hsV)))
            have hs2V : w.heap.size < w3.heap.size := Nat.lt_of_lt_of_le hsV hb.size
            clear hb a0 a1 a2 a3 a4 a5 a6 a7 a8 a9 a10 a11 a12 a13
            obtain ⟨a0, a1, a2, a3, a4, a5, a6, a7, a8, a9, a10, a11, a12, a13⟩ := doc_at HX2.out
            go_wp2_with fail
            cases h6 : inB d.inc 1048576
            · have HQ : Hid (checkD d = 1) := by show _ = _; unfold checkD; rw [if_neg (by simp [h1]), if_neg (by simp [h2]), if_neg (by simp [h3]), if_neg (by simp [h4]), if_neg (by omega), if_pos h6]
              refine (HWI.out _ _ _).mono ?_
              rintro e w2 ⟨rfl, rfl⟩
              go_wp2_with fail
              go_ret
              rw [HQ.out]
              exact ⟨rfl, HB2.out⟩
            · refine (HWI.out _ _ _).mono ?_
              rintro e w2 ⟨rfl, rfl⟩
              go_wp2_with fail
              cases h7 : inB d.rank 7
              · have HQ : Hid (checkD d = 1) := by show _ = _; unfold checkD; rw [if_neg (by simp [h1]), if_neg (by simp [h2]), if_neg (by simp [h3]), if_neg (by simp [h4]), if_neg (by omega), if_neg (by simp [h6]), if_pos h7]
                refine (HWI.out _ _ _).mono ?_
                rintro e w2 ⟨rfl, rfl⟩
                go_wp2_with fail
                go_ret
                rw [HQ.out]
                exact ⟨rfl, HB2.out⟩
              · refine (HWI.out _ _ _).mono ?_
                rintro e w2 ⟨rfl, rfl⟩
                go_wp2_with fail
                by_cases h8 : sgnQ d.rate < 0
                · have HQ : Hid (checkD d = 7) := by show _ = _; unfold checkD; rw [if_neg (by simp [h1]), if_neg (by simp [h2]), if_neg (by simp [h3]), if_neg (by simp [h4]), if_neg (by omega), if_neg (by simp [h6]), if_neg (by simp [h7]), if_pos h8]
                  refine (HS2.out _).mono ?_
                  rintro e w4 ⟨rfl, hb⟩
                  have HX3 := hide (HX2.out.below hb)
                  have HB3 := hide (HB2.out.trans (hb.mono (Nat.le_of_lt hs2V)))
                  have hs3V : w.heap.size < w4.heap.size := Nat.lt_of_lt_of_le hs2V hb.size
                  clear hb a0 a1 a2 a3 a4 a5 a6 a7 a8 a9 a10 a11 a12 a13
                  obtain ⟨a0, a1, a2, a3, a4, a5, a6, a7, a8, a9, a10, a11, a12, a13⟩ := doc_at HX3.out
                  go_wp2_with fail
                  go_ret
                  rw [HQ.out]
                  exact ⟨rfl, HB3.out⟩
                · refine (HS2.out _).mono ?_
                  rintro e w4 ⟨rfl, hb⟩
                  have HX3 := hide (HX2.out.below hb)
                  have HB3 := hide (HB2.out.trans (hb.mono (Nat.le_of_lt hs2V)))
                  have hs3V : w.heap.size < w4.heap.size := Nat.lt_of_lt_of_le hs2V hb.size
                  clear hb a0 a1 a2 a3 a4 a5 a6 a7 a8 a9 a10 a11 a12 a13
                  obtain ⟨a0, a1, a2, a3, a4, a5, a6, a7, a8, a9, a10, a11, a12, a13⟩ := doc_at HX3.out
                  go_wp2_with fail
                  cases h9 : inB d.rfrom 1048576
                  · have HQ : Hid (checkD d = 1) := by show _ = _; unfold checkD; rw [if_neg (by simp [h1]), if_neg (by simp [h2]), if_neg (by simp [h3]), if_neg (by simp [h4]), if_neg (by omega), if_neg (by simp [h6]), if_neg (by simp [h7]), if_neg (by omega), if_pos h9]
                    refine (HWI.out _ _ _).mono ?_
                    rintro e w2 ⟨rfl, rfl⟩
                    go_wp2_with fail
                    go_ret
                    rw [HQ.out]
                    exact ⟨rfl, HB3.out⟩
                  · refine (HWI.out _ _ _).mono ?_
                    rintro e w2 ⟨rfl, rfl⟩
                    go_wp2_with fail
                    by_cases h10 : sgnQ d.rate = 0
                    · by_cases h11 : d.rfrom = 0
                      · refine (HS2.out _).mono ?_
                        rintro e w5 ⟨rfl, hb⟩
                        have HX4 := hide (HX3.out.below hb)
                        have HB4 := hide (HB3.out.trans (hb.mono (Nat.le_of_lt hs3V)))
                        have hs4V : w.heap.size < w5.heap.size := Nat.lt_of_lt_of_le hs3V hb.size
                        clear hb a0 a1 a2 a3 a4 a5 a6 a7 a8 a9 a10 a11 a12 a13
                        obtain ⟨a0, a1, a2, a3, a4, a5, a6, a7, a8, a9, a10, a11, a12, a13⟩ := doc_at HX4.out
                        by_cases hsx : d.sec ≤ 9223372036854775806
                        · cases h12 : inB (d.sec + 1) 8
                          · go_wp2_with fail
                            have HQ : Hid (checkD d = 1) := by show _ = _; unfold checkD; rw [if_neg (by simp [h1]), if_neg (by simp [h2]), if_neg (by simp [h3]), if_neg (by simp [h4]), if_neg (by omega), if_neg (by simp [h6]), if_neg (by simp [h7]), if_neg (by omega), if_neg (by simp [h9]), if_neg (fun e => e.2 h11), if_pos h12]
                            refine (HWI.out _ _ _).mono ?_
                            rintro e w2 ⟨rfl, rfl⟩
                            go_wp2_with fail
                            go_ret
                            rw [HQ.out]
                            exact ⟨rfl, HB4.out⟩
                          · go_wp2_with fail
                            have HQ : Hid (checkD d = 0) := by show _ = _; unfold checkD; rw [if_neg (by simp [h1]), if_neg (by simp [h2]), if_neg (by simp [h3]), if_neg (by simp [h4]), if_neg (by omega), if_neg (by simp [h6]), if_neg (by simp [h7]), if_neg (by omega), if_neg (by simp [h9]), if_neg (fun e => e.2 h11), if_neg (by simp [h12])]
                            refine (HWI.out _ _ _).mono ?_
                            rintro e w2 ⟨rfl, rfl⟩
                            go_wp2_with fail
                            go_ret
                            rw [HQ.out]
                            exact ⟨rfl, HB4.out⟩
                        · have h12 : inB (d.sec + 1) 8 = false := by unfold inB; rw [decide_eq_false (p := d.sec + 1 ≤ 8) (by omega)]; simp
                          have HQ : Hid (checkD d = 1) := by show _ = _; unfold checkD; rw [if_neg (by simp [h1]), if_neg (by simp [h2]), if_neg (by simp [h3]), if_neg (by simp [h4]), if_neg (by omega), if_neg (by simp [h6]), if_neg (by simp [h7]), if_neg (by omega), if_neg (by simp [h9]), if_neg (fun e => e.2 h11), if_pos h12]
                          have hwr : IntKind.i64.wrap (d.sec + 1) = -9223372036854775808 := by rw [show d.sec = 9223372036854775807 by omega]; decide
                          have hin : inB (-9223372036854775808) 8 = false := by decide
                          go_wp2_with fail
                          refine (HWI.out _ _ _).mono ?_
                          rintro e w2 ⟨rfl, rfl⟩
                          go_wp2_with fail
                          go_ret
                          rw [HQ.out]
                          exact ⟨rfl, HB4.out⟩
                      · have h11b : (d.rfrom != 0) = true := by simpa using h11
                        have HQ : Hid (checkD d = 1) := by show _ = _; unfold checkD; rw [if_neg (by simp [h1]), if_neg (by simp [h2]), if_neg (by simp [h3]), if_neg (by simp [h4]), if_neg (by omega), if_neg (by simp [h6]), if_neg (by simp [h7]), if_neg (by omega), if_neg (by simp [h9]), if_pos ⟨h10, h11⟩]
                        refine (HS2.out _).mono ?_
                        rintro e w5 ⟨rfl, hb⟩
                        have HX4 := hide (HX3.out.below hb)
                        have HB4 := hide (HB3.out.trans (hb.mono (Nat.le_of_lt hs3V)))
                        have hs4V : w.heap.size < w5.heap.size := Nat.lt_of_lt_of_le hs3V hb.size
                        clear hb a0 a1 a2 a3 a4 a5 a6 a7 a8 a9 a10 a11 a12 a13
                        obtain ⟨a0, a1, a2, a3, a4, a5, a6, a7, a8, a9, a10, a11, a12, a13⟩ := doc_at HX4.out
                        go_wp2_with fail
                        go_ret
                        rw [HQ.out]
                        exact ⟨rfl, HB4.out⟩
                    · have h10b : (sgnQ d.rate == 0) = false := by simpa using h10
                      refine (HS2.out _).mono ?_
                      rintro e w5 ⟨rfl, hb⟩
                      have HX4 := hide (HX3.out.below hb)
                      have HB4 := hide (HB3.out.trans (hb.mono (Nat.le_of_lt hs3V)))
                      have hs4V : w.heap.size < w5.heap.size := Nat.lt_of_lt_of_le hs3V hb.size
                      clear hb a0 a1 a2 a3 a4 a5 a6 a7 a8 a9 a10 a11 a12 a13
                      obtain ⟨a0, a1, a2, a3, a4, a5, a6, a7, a8, a9, a10, a11, a12, a13⟩ := doc_at HX4.out
                      by_cases hsx : d.sec ≤ 9223372036854775806
                      · cases h12 : inB (d.sec + 1) 8
                        · go_wp2_with fail
                          have HQ : Hid (checkD d = 1) := by show _ = _; unfold checkD; rw [if_neg (by simp [h1]), if_neg (by simp [h2]), if_neg (by simp [h3]), if_neg (by simp [h4]), if_neg (by omega), if_neg (by simp [h6]), if_neg (by simp [h7]), if_neg (by omega), if_neg (by simp [h9]), if_neg (fun e => h10 e.1), if_pos h12]
                          refine (HWI.out _ _ _).mono ?_
                          rintro e w2 ⟨rfl, rfl⟩
                          go_wp2_with fail
                          go_ret
                          rw [HQ.out]
                          exact ⟨rfl, HB4.out⟩
                        · go_wp2_with fail
                          have HQ : Hid (checkD d = 0) := by show _ = _; unfold checkD; rw [if_neg (by simp [h1]), if_neg (by simp [h2]), if_neg (by simp [h3]), if_neg (by simp [h4]), if_neg (by omega), if_neg (by simp [h6]), if_neg (by simp [h7]), if_neg (by omega), if_neg (by simp [h9]), if_neg (fun e => h10 e.1), if_neg (by simp [h12])]
                          refine (HWI.out _ _ _).mono ?_
                          rintro e w2 ⟨rfl, rfl⟩
                          go_wp2_with fail
                          go_ret
                          rw [HQ.out]
                          exact ⟨rfl, HB4.out⟩
                      · have h12 : inB (d.sec + 1) 8 = false := by unfold inB; rw [decide_eq_false (p := d.sec + 1 ≤ 8) (by omega)]; simp
                        have HQ : Hid (checkD d = 1) := by show _ = _; unfold checkD; rw [if_neg (by simp [h1]), if_neg (by simp [h2]), if_neg (by simp [h3]), if_neg (by simp [h4]), if_neg (by omega), if_neg (by simp [h6]), if_neg (by simp [h7]), if_neg (by omega), if_neg (by simp [h9]), if_neg (fun e => h10 e.1), if_pos h12]
                        have hwr : IntKind.i64.wrap (d.sec + 1) = -9223372036854775808 := by rw [show d.sec = 9223372036854775807 by omega]; decide
                        have hin : inB (-9223372036854775808) 8 = false := by decide
                        go_wp2_with fail
                        refine (HWI.out _ _ _).mono ?_
                        rintro e w2 ⟨rfl, rfl⟩
                        go_wp2_with fail
                        go_ret
                        rw [HQ.out]
                        exact ⟨rfl, HB4.out⟩
end Go.Proofs.YtpbgmpjnfndfjaaGreatDoor.PfO
namespace Go.Proofs.YtpbgmpjnfndfjaaGreatDoor.PfP
theorem here : True := trivial
open Go.RowKit Wd RoL RnW RpF PqB PfS PfB PfA PfD PfE PfH PfI HsE
section
variable {b : Nat} {w w' w'' : World}
end
end Go.Proofs.YtpbgmpjnfndfjaaGreatDoor.PfP
namespace Go.Proofs.YtpbgmpjnfndfjaaGreatDoor.PfQ
theorem here : True := trivial
open Go.RowKit Wd RoL RnD RnW RnQ RnR RnP RpE RpF RtA PqB PfS PfB PfA PfD PfE PfH PfI PfO PfP
section
variable {B b H : Nat} {d : Dc} {w0 w w' : World} {l : List UInt8}
end
/-- the sizes and ranges of a document that can be written -/
structure Wr (d : Dc) : Prop where
  id : d.id.size ≤ 100000
  code : d.code.size ≤ 100000
  num : d.num.size ≤ 50000
  den : d.den.size ≤ 50000
  rnum : d.rnum.size ≤ 50000
  rden : d.rden.size ≤ 50000
  est0 : -9223372036854775808 ≤ d.est
  est1 : d.est ≤ 9223372036854775807
  cred0 : -9223372036854775808 ≤ d.cred
  cred1 : d.cred ≤ 9223372036854775807
  inc0 : -9223372036854775808 ≤ d.inc
  inc1 : d.inc ≤ 9223372036854775807
  rank0 : -9223372036854775808 ≤ d.rank
  rank1 : d.rank ≤ 9223372036854775807
  from0 : -9223372036854775808 ≤ d.rfrom
  from1 : d.rfrom ≤ 9223372036854775807
  sec0 : -9223372036854775808 ≤ d.sec
  sec1 : d.sec ≤ 9223372036854775807
end Go.Proofs.YtpbgmpjnfndfjaaGreatDoor.PfQ
namespace Go.Proofs.YtpbgmpjnfndfjaaGreatDoor.PfR
theorem here : True := trivial
open Go.RowKit Wd RoL RnD RnW RnQ RnR RnP RpE RpF RtA PqB PfS PfB PfA PfD PfE PfH PfI PfO PfP PfQ
section
variable {B b H : Nat} {d : Dc} {w0 w : World} {l : List UInt8}
end
end Go.Proofs.YtpbgmpjnfndfjaaGreatDoor.PfR
namespace Go.Proofs.YtpbgmpjnfndfjaaGreatDoor.PfT
theorem here : True := trivial
open Go.RowKit Wd RoL RnD RnW RnQ RnR RnP RpE RpF RtA PqB PfS PfB PfA PfD PfE PfH PfI PfO PfP PfQ PfR
end Go.Proofs.YtpbgmpjnfndfjaaGreatDoor.PfT
namespace Go.Proofs.YtpbgmpjnfndfjaaGreatDoor.PfU
theorem here : True := trivial
open Go.RowKit Wd RoL RnD RnW RnQ RnR RnP RpE RpF RtA PqB PfS PfB PfA PfD PfE PfH PfI PfO PfP PfQ PfR PfT
theorem Wr.ok {d : Dc} (h : Wr d) : Dc.Ok d := ⟨h.id, h.code, h.num, h.den, h.rnum, h.rden, h.sec0, h.sec1⟩
end Go.Proofs.YtpbgmpjnfndfjaaGreatDoor.PfU
