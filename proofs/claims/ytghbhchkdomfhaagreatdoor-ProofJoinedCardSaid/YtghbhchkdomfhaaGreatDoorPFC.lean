/- PfO, PfP, PfQ, PfR, PfT, PfU, in one text. -/
import Derived.Test.YtghbhchkdomfhaaGreatDoorPFA
import Derived.Test.YtghbhchkdomfhaaGreatDoorQmu
import Derived.Test.YtghbhchkdomfhaaGreatDoorHsE
import Derived.Test.YtghbhchkdomfhaaGreatDoorShelf
import Derived.Lib.ItoaLen
import Derived.Lib.AppendIntMem
import Derived.WalkSmall
import Derived.Maps.OwnSet
import Derived.Maps.Views
import Derived.StringKeys
namespace Go.Proofs.YtghbhchkdomfhaaGreatDoor.PfO
open Go.RowKit Wd RoL RnW RnQ RnR RnP RtA RpC RpF PqB PfS PfB PfA PfD PfE PfH PfI
def inB (n m : Int) : Bool := decide (0 ≤ n) && decide (n ≤ m)
/-- the two numbers of a document -/
def _root_.Go.Proofs.YtghbhchkdomfhaaGreatDoor.PfA.Dc.amt (d : Dc) : Rat := fixQ d.neg d.num.data.toList d.den.data.toList
def _root_.Go.Proofs.YtghbhchkdomfhaaGreatDoor.PfA.Dc.rate (d : Dc) : Rat := fixQ d.rneg d.rnum.data.toList d.rden.data.toList
/-- the code of a document -/
def checkD (d : Dc) : Int :=
  if NmA.nmB d.id = false then 11
  else if inB d.est 7 = false then 1
  else if inB d.cred 31 = false then 1
  else if codeB d.code.data.toList = false then 8
  else if sgnQ d.amt < 0 then 7
  else if inB d.inc 1048576 = false then 1
  else if inB d.rank 7 = false then 1
  else if sgnQ d.rate < 0 then 7
  else if inB d.rfrom 1048576 = false then 1
  else if sgnQ d.rate = 0 ∧ d.rfrom ≠ 0 then 1
  else if inB (d.sec + 1) 8 = false then 1
  else 0
/-- the sizes of a document that Check can read -/
structure Dc.Ok (d : Dc) : Prop where
  id : d.id.size ≤ 100000
  code : d.code.size ≤ 100000
  num : d.num.size ≤ 50000
  den : d.den.size ≤ 50000
  rnum : d.rnum.size ≤ 50000
  rden : d.rden.size ≤ 50000
  s1 : -9223372036854775808 ≤ d.sec
  s2 : d.sec ≤ 9223372036854775807
theorem doc_new (w : World) (d : Dc) : ∃ V, w.alloc (.cells #[.string d.id, .int .i64 d.est, .int .i64 d.cred, .string d.code, .bool d.neg, .string d.num, .string d.den, .int .i64 d.inc, .int .i64 d.rank, .bool d.rneg, .string d.rnum, .string d.rden, .int .i64 d.rfrom, .int .i64 d.sec] 27) = V ∧ Hid (BlkT V w.heap.size 27 d.vals) ∧ Hid (Below w.heap.size w V) ∧ w.heap.size < V.heap.size :=
  ⟨_, rfl, heap_alloc_new w _, (Below.refl _ _).alloc (Nat.le_refl _) _, by simp⟩
theorem doc_at {w : World} {g : Nat} {T : TypeId} {d : Dc} (h : BlkT w g T d.vals) : DocAt w g 0 d :=
  ⟨h.cell (i := 0) rfl, h.cell (i := 1) rfl, h.cell (i := 2) rfl, h.cell (i := 3) rfl, h.cell (i := 4) rfl, h.cell (i := 5) rfl, h.cell (i := 6) rfl, h.cell (i := 7) rfl, h.cell (i := 8) rfl, h.cell (i := 9) rfl, h.cell (i := 10) rfl, h.cell (i := 11) rfl, h.cell (i := 12) rfl, h.cell (i := 13) rfl⟩
set_option maxHeartbeats 8000000 in
set_option maxRecDepth 100000 in
theorem check_any (d : Dc) (w : World) (hd : Dc.Ok d) :
    Calls Tryz.prog 15 #[d.agg] w fun e w' => e = .returned (.int .i64 (checkD d)) ∧ Below w.heap.size w w' := by
  have HN := Lib.hid (fun w => NmA.nm_any d.id w (by have := hd.id; unfold maxLen; omega))
  have HC := Lib.hid (fun w => code_any d.code w (by have := hd.code; unfold maxLen; omega))
  have HS1 := Lib.hid (fun w => RpI.sign_any d.neg d.num d.den w (by have := hd.num; omega) (by have := hd.den; omega))
  have HS2 := Lib.hid (fun w => RpI.sign_any d.rneg d.rnum d.rden w (by have := hd.rnum; omega) (by have := hd.rden; omega))
  have HWI := Lib.hid (fun n m w => within_any n m w)
  obtain ⟨V, hV, HX, HBV, hsV⟩ := doc_new w d
  have hs1 := hd.s1
  have hs2 := hd.s2
  have HD : Hid (∀ x, checkD d = x → checkD d = x) := fun _ h => h
  unfold checkD at HD
  change Hid (∀ (n m : Int) (w : World), Calls _ _ #[.int .i64 n, .int .i64 m] w (fun e w' => e = .returned (.bool (inB n m)) ∧ w = w')) at HWI
  change Hid (∀ (w : World), Calls _ _ _ w fun e w' => e = .returned (.int .i64 (sgnQ d.amt)) ∧ Below w.heap.size w w') at HS1
  change Hid (∀ (w : World), Calls _ _ _ w fun e w' => e = .returned (.int .i64 (sgnQ d.rate)) ∧ Below w.heap.size w w') at HS2
  obtain ⟨a0, a1, a2, a3, a4, a5, a6, a7, a8, a9, a10, a11, a12, a13⟩ := doc_at HX.out
  unfold PfA.Dc.agg
  go_enter Tryz.func15, Tryz.ntmps15
  go_wp2_with fail
  cases h1 : NmA.nmB d.id
  · have HQ : Hid (checkD d = 11) := by show _ = _; unfold checkD; rw [if_pos h1]
    refine (HN.out _).mono ?_
    rintro e w2 ⟨rfl, rfl⟩
    go_wp2_with fail
    go_ret
    rw [HQ.out]
    exact ⟨rfl, HBV.out⟩
  · refine (HN.out _).mono ?_
    rintro e w2 ⟨rfl, rfl⟩
    go_wp2_with fail
    cases h2 : inB d.est 7
    · have HQ : Hid (checkD d = 1) := by show _ = _; unfold checkD; rw [if_neg (by simp [h1]), if_pos h2]
      refine (HWI.out _ _ _).mono ?_
      rintro e w2 ⟨rfl, rfl⟩
      go_wp2_with fail
      go_ret
      rw [HQ.out]
      exact ⟨rfl, HBV.out⟩
    · refine (HWI.out _ _ _).mono ?_
      rintro e w2 ⟨rfl, rfl⟩
      go_wp2_with fail
      cases h3 : inB d.cred 31
      · have HQ : Hid (checkD d = 1) := by show _ = _; unfold checkD; rw [if_neg (by simp [h1]), if_neg (by simp [h2]), if_pos h3]
        refine (HWI.out _ _ _).mono ?_
        rintro e w2 ⟨rfl, rfl⟩
        go_wp2_with fail
        go_ret
        rw [HQ.out]
        exact ⟨rfl, HBV.out⟩
      · refine (HWI.out _ _ _).mono ?_
        rintro e w2 ⟨rfl, rfl⟩
        go_wp2_with fail
        cases h4 : codeB d.code.data.toList
        · have HQ : Hid (checkD d = 8) := by show _ = _; unfold checkD; rw [if_neg (by simp [h1]), if_neg (by simp [h2]), if_neg (by simp [h3]), if_pos h4]
          refine (HC.out _).mono ?_
          rintro e w2 ⟨rfl, rfl⟩
          go_wp2_with fail
          go_ret
          rw [HQ.out]
          exact ⟨rfl, HBV.out⟩
        · refine (HC.out _).mono ?_
          rintro e w2 ⟨rfl, rfl⟩
          go_wp2_with fail
          by_cases h5 : sgnQ d.amt < 0
          · have HQ : Hid (checkD d = 7) := by show _ = _; unfold checkD; rw [if_neg (by simp [h1]), if_neg (by simp [h2]), if_neg (by simp [h3]), if_neg (by simp [h4]), if_pos h5]
            refine (HS1.out _).mono ?_
            rintro e w3 ⟨rfl, hb⟩
            have HX2 := hide (HX.out.below hb)
            have HB2 := hide (HBV.out.trans (hb.mono (Nat.le_of_lt hsV)))
            have hs2V : w.heap.size < w3.heap.size := Nat.lt_of_lt_of_le hsV hb.size
            clear hb a0 a1 a2 a3 a4 a5 a6 a7 a8 a9 a10 a11 a12 a13
            obtain ⟨a0, a1, a2, a3, a4, a5, a6, a7, a8, a9, a10, a11, a12, a13⟩ := doc_at HX2.out
            go_wp2_with fail
            go_ret
            rw [HQ.out]
            exact ⟨rfl, HB2.out⟩
          · refine (HS1.out _).mono ?_
            rintro e w3 ⟨rfl, hb⟩
            have HX2 := hide (HX.out.below hb)
            have HB2 := hide (HBV.out.trans (hb.mono (Nat.le_of_lt hsV)))
            have hs2V : w.heap.size < w3.heap.size := Nat.lt_of_lt_of_le hsV hb.size
            clear hb a0 a1 a2 a3 a4 a5 a6 a7 a8 a9 a10 a11 a12 a13
            obtain ⟨a0, a1, a2, a3, a4, a5, a6, a7, a8, a9, a10, a11, a12, a13⟩ := doc_at HX2.out
            go_wp2_with fail
            cases h6 : inB d.inc 1048576
            · have HQ : Hid (checkD d = 1) := by show _ = _; unfold checkD; rw [if_neg (by simp [h1]), if_neg (by simp [h2]), if_neg (by simp [h3]), if_neg (by simp [h4]), if_neg (by omega), if_pos h6]
              refine (HWI.out _ _ _).mono ?_
              rintro e w2 ⟨rfl, rfl⟩
              go_wp2_with fail
              go_ret
              rw [HQ.out]
              exact ⟨rfl, HB2.out⟩
            · refine (HWI.out _ _ _).mono ?_
              rintro e w2 ⟨rfl, rfl⟩
              go_wp2_with fail
              cases h7 : inB d.rank 7
              · have HQ : Hid (checkD d = 1) := by show _ = _; unfold checkD; rw [if_neg (by simp [h1]), if_neg (by simp [h2]), if_neg (by simp [h3]), if_neg (by simp [h4]), if_neg (by omega), if_neg (by simp [h6]), if_pos h7]
                refine (HWI.out _ _ _).mono ?_
                rintro e w2 ⟨rfl, rfl⟩
                go_wp2_with fail
                go_ret
                rw [HQ.out]
                exact ⟨rfl, HB2.out⟩
              · refine (HWI.out _ _ _).mono ?_
                rintro e w2 ⟨rfl, rfl⟩
                go_wp2_with fail
                by_cases h8 : sgnQ d.rate < 0
                · have HQ : Hid (checkD d = 7) := by show _ = _; unfold checkD; rw [if_neg (by simp [h1]), if_neg (by simp [h2]), if_neg (by simp [h3]), if_neg (by simp [h4]), if_neg (by omega), if_neg (by simp [h6]), if_neg (by simp [h7]), if_pos h8]
                  refine (HS2.out _).mono ?_
                  rintro e w4 ⟨rfl, hb⟩
                  have HX3 := hide (HX2.out.below hb)
                  have HB3 := hide (HB2.out.trans (hb.mono (Nat.le_of_lt hs2V)))
                  have hs3V : w.heap.size < w4.heap.size := Nat.lt_of_lt_of_le hs2V hb.size
                  clear hb a0 a1 a2 a3 a4 a5 a6 a7 a8 a9 a10 a11 a12 a13
                  obtain ⟨a0, a1, a2, a3, a4, a5, a6, a7, a8, a9, a10, a11, a12, a13⟩ := doc_at HX3.out
                  go_wp2_with fail
                  go_ret
                  rw [HQ.out]
                  exact ⟨rfl, HB3.out⟩
                · refine (HS2.out _).mono ?_
                  rintro e w4 ⟨rfl, hb⟩
                  have HX3 := hide (HX2.out.below hb)
                  have HB3 := hide (HB2.out.trans (hb.mono (Nat.le_of_lt hs2V)))
                  have hs3V : w.heap.size < w4.heap.size := Nat.lt_of_lt_of_le hs2V hb.size
                  clear hb a0 a1 a2 a3 a4 a5 a6 a7 a8 a9 a10 a11 a12 a13
                  obtain ⟨a0, a1, a2, a3, a4, a5, a6, a7, a8, a9, a10, a11, a12, a13⟩ := doc_at HX3.out
                  go_wp2_with fail
                  cases h9 : inB d.rfrom 1048576
                  · have HQ : Hid (checkD d = 1) := by show _ = _; unfold checkD; rw [if_neg (by simp [h1]), if_neg (by simp [h2]), if_neg (by simp [h3]), if_neg (by simp [h4]), if_neg (by omega), if_neg (by simp [h6]), if_neg (by simp [h7]), if_neg (by omega), if_pos h9]
                    refine (HWI.out _ _ _).mono ?_
                    rintro e w2 ⟨rfl, rfl⟩
                    go_wp2_with fail
                    go_ret
                    rw [HQ.out]
                    exact ⟨rfl, HB3.out⟩
                  · refine (HWI.out _ _ _).mono ?_
                    rintro e w2 ⟨rfl, rfl⟩
                    go_wp2_with fail
                    by_cases h10 : sgnQ d.rate = 0
                    · by_cases h11 : d.rfrom = 0
                      · refine (HS2.out _).mono ?_
                        rintro e w5 ⟨rfl, hb⟩
                        have HX4 := hide (HX3.out.below hb)
                        have HB4 := hide (HB3.out.trans (hb.mono (Nat.le_of_lt hs3V)))
                        have hs4V : w.heap.size < w5.heap.size := Nat.lt_of_lt_of_le hs3V hb.size
                        clear hb a0 a1 a2 a3 a4 a5 a6 a7 a8 a9 a10 a11 a12 a13
                        obtain ⟨a0, a1, a2, a3, a4, a5, a6, a7, a8, a9, a10, a11, a12, a13⟩ := doc_at HX4.out
                        by_cases hsx : d.sec ≤ 9223372036854775806
                        · cases h12 : inB (d.sec + 1) 8
                          · go_wp2_with fail
                            have HQ : Hid (checkD d = 1) := by show _ = _; unfold checkD; rw [if_neg (by simp [h1]), if_neg (by simp [h2]), if_neg (by simp [h3]), if_neg (by simp [h4]), if_neg (by omega), if_neg (by simp [h6]), if_neg (by simp [h7]), if_neg (by omega), if_neg (by simp [h9]), if_neg (fun e => e.2 h11), if_pos h12]
                            refine (HWI.out _ _ _).mono ?_
                            rintro e w2 ⟨rfl, rfl⟩
                            go_wp2_with fail
                            go_ret
                            rw [HQ.out]
                            exact ⟨rfl, HB4.out⟩
                          · go_wp2_with fail
                            have HQ : Hid (checkD d = 0) := by show _ = _; unfold checkD; rw [if_neg (by simp [h1]), if_neg (by simp [h2]), if_neg (by simp [h3]), if_neg (by simp [h4]), if_neg (by omega), if_neg (by simp [h6]), if_neg (by simp [h7]), if_neg (by omega), if_neg (by simp [h9]), if_neg (fun e => e.2 h11), if_neg (by simp [h12])]
                            refine (HWI.out _ _ _).mono ?_
                            rintro e w2 ⟨rfl, rfl⟩
                            go_wp2_with fail
                            go_ret
                            rw [HQ.out]
                            exact ⟨rfl, HB4.out⟩
                        · have h12 : inB (d.sec + 1) 8 = false := by unfold inB; rw [decide_eq_false (p := d.sec + 1 ≤ 8) (by omega)]; simp
                          have HQ : Hid (checkD d = 1) := by show _ = _; unfold checkD; rw [if_neg (by simp [h1]), if_neg (by simp [h2]), if_neg (by simp [h3]), if_neg (by simp [h4]), if_neg (by omega), if_neg (by simp [h6]), if_neg (by simp [h7]), if_neg (by omega), if_neg (by simp [h9]), if_neg (fun e => e.2 h11), if_pos h12]
                          have hwr : IntKind.i64.wrap (d.sec + 1) = -9223372036854775808 := by rw [show d.sec = 9223372036854775807 by omega]; decide
                          have hin : inB (-9223372036854775808) 8 = false := by decide
                          go_wp2_with fail
                          refine (HWI.out _ _ _).mono ?_
                          rintro e w2 ⟨rfl, rfl⟩
                          go_wp2_with fail
                          go_ret
                          rw [HQ.out]
                          exact ⟨rfl, HB4.out⟩
                      · have h11b : (d.rfrom != 0) = true := by simpa using h11
                        have HQ : Hid (checkD d = 1) := by show _ = _; unfold checkD; rw [if_neg (by simp [h1]), if_neg (by simp [h2]), if_neg (by simp [h3]), if_neg (by simp [h4]), if_neg (by omega), if_neg (by simp [h6]), if_neg (by simp [h7]), if_neg (by omega), if_neg (by simp [h9]), if_pos ⟨h10, h11⟩]
                        refine (HS2.out _).mono ?_
                        rintro e w5 ⟨rfl, hb⟩
                        have HX4 := hide (HX3.out.below hb)
                        have HB4 := hide (HB3.out.trans (hb.mono (Nat.le_of_lt hs3V)))
                        have hs4V : w.heap.size < w5.heap.size := Nat.lt_of_lt_of_le hs3V hb.size
                        clear hb a0 a1 a2 a3 a4 a5 a6 a7 a8 a9 a10 a11 a12 a13
                        obtain ⟨a0, a1, a2, a3, a4, a5, a6, a7, a8, a9, a10, a11, a12, a13⟩ := doc_at HX4.out
                        go_wp2_with fail
                        go_ret
                        rw [HQ.out]
                        exact ⟨rfl, HB4.out⟩
                    · have h10b : (sgnQ d.rate == 0) = false := by simpa using h10
                      refine (HS2.out _).mono ?_
                      rintro e w5 ⟨rfl, hb⟩
                      have HX4 := hide (HX3.out.below hb)
                      have HB4 := hide (HB3.out.trans (hb.mono (Nat.le_of_lt hs3V)))
                      have hs4V : w.heap.size < w5.heap.size := Nat.lt_of_lt_of_le hs3V hb.size
                      clear hb a0 a1 a2 a3 a4 a5 a6 a7 a8 a9 a10 a11 a12 a13
                      obtain ⟨a0, a1, a2, a3, a4, a5, a6, a7, a8, a9, a10, a11, a12, a13⟩ := doc_at HX4.out
                      by_cases hsx : d.sec ≤ 9223372036854775806
                      · cases h12 : inB (d.sec + 1) 8
                        · go_wp2_with fail
                          have HQ : Hid (checkD d = 1) := by show _ = _; unfold checkD; rw [if_neg (by simp [h1]), if_neg (by simp [h2]), if_neg (by simp [h3]), if_neg (by simp [h4]), if_neg (by omega), if_neg (by simp [h6]), if_neg (by simp [h7]), if_neg (by omega), if_neg (by simp [h9]), if_neg (fun e => h10 e.1), if_pos h12]
                          refine (HWI.out _ _ _).mono ?_
                          rintro e w2 ⟨rfl, rfl⟩
                          go_wp2_with fail
                          go_ret
                          rw [HQ.out]
                          exact ⟨rfl, HB4.out⟩
                        · go_wp2_with fail
                          have HQ : Hid (checkD d = 0) := by show _ = _; unfold checkD; rw [if_neg (by simp [h1]), if_neg (by simp [h2]), if_neg (by simp [h3]), if_neg (by simp [h4]), if_neg (by omega), if_neg (by simp [h6]), if_neg (by simp [h7]), if_neg (by omega), if_neg (by simp [h9]), if_neg (fun e => h10 e.1), if_neg (by simp [h12])]
                          refine (HWI.out _ _ _).mono ?_
                          rintro e w2 ⟨rfl, rfl⟩
                          go_wp2_with fail
                          go_ret
                          rw [HQ.out]
                          exact ⟨rfl, HB4.out⟩
                      · have h12 : inB (d.sec + 1) 8 = false := by unfold inB; rw [decide_eq_false (p := d.sec + 1 ≤ 8) (by omega)]; simp
                        have HQ : Hid (checkD d = 1) := by show _ = _; unfold checkD; rw [if_neg (by simp [h1]), if_neg (by simp [h2]), if_neg (by simp [h3]), if_neg (by simp [h4]), if_neg (by omega), if_neg (by simp [h6]), if_neg (by simp [h7]), if_neg (by omega), if_neg (by simp [h9]), if_neg (fun e => h10 e.1), if_pos h12]
                        have hwr : IntKind.i64.wrap (d.sec + 1) = -9223372036854775808 := by rw [show d.sec = 9223372036854775807 by omega]; decide
                        have hin : inB (-9223372036854775808) 8 = false := by decide
                        go_wp2_with fail
                        refine (HWI.out _ _ _).mono ?_
                        rintro e w2 ⟨rfl, rfl⟩
                        go_wp2_with fail
                        go_ret
                        rw [HQ.out]
                        exact ⟨rfl, HB4.out⟩
end Go.Proofs.YtghbhchkdomfhaaGreatDoor.PfO
namespace Go.Proofs.YtghbhchkdomfhaaGreatDoor.PfP
open Go.RowKit Wd RoL RnW RpF PqB PfS PfB PfA PfD PfE PfH PfI HsE
/-- all blocks but b and the rows of bytes are as they were -/
structure KT (b : Nat) (w w' : World) : Prop where
  os : w'.os = w.os
  tape : w'.tape = w.tape
  output : w'.output = w.output
  size : w.heap.size ≤ w'.heap.size
  block : ∀ k, k < w.heap.size → k ≠ b → (∀ L f, w.heap[k]? ≠ some (.cells L 5 f)) → w'.heap[k]? = w.heap[k]?
section
variable {b : Nat} {w w' w'' : World}
theorem KT.refl (b : Nat) (w : World) : KT b w w := ⟨rfl, rfl, rfl, Nat.le_refl _, fun _ _ _ _ => rfl⟩
theorem KT.trans (h : KT b w w') (k : KT b w' w'') : KT b w w'' :=
  ⟨k.os.trans h.os, k.tape.trans h.tape, k.output.trans h.output, Nat.le_trans h.size k.size, fun i hs hi hT => (k.block i (Nat.lt_of_lt_of_le hs h.size) hi (by rw [h.block i hs hi hT]; exact hT)).trans (h.block i hs hi hT)⟩
theorem KT.of_below (h : Below w.heap.size w w') : KT b w w' := ⟨h.os, h.tape, h.output, h.size, fun k hs _ _ => h.block k hs⟩
theorem KT.set (w : World) (i : Nat) (v : Value) : KT b w (w.setCell ⟨b, i, none⟩ v) := ⟨rfl, rfl, rfl, by simp [World.setCell], fun k _ hk _ => Below.heap_setCell _ _ _ _ hk⟩
theorem KT.blk {g : Nat} {T : TypeId} {L : List Value} (h : KT b w w') (hB : BlkT w g T L) (hg : g ≠ b) (hT : T ≠ 5) : BlkT w' g T L := (h.block g hB.lt hg (fun L' f e => by
    have h2 := hB.symm.trans e
    simp only [Option.some.injEq, Obj.cells.injEq] at h2
    exact hT h2.2.1)).trans hB
end
theorem copyCheck_t (B b : Nat) (bs : List Value) (w : World) (h : Lib.IsBuilder 73 5 B b bs w) :
    Calls Tryz.prog 90 #[.pointer (some ⟨b, 0, none⟩)] w fun e w' => e = .returned (.tuple #[]) ∧ (Lib.BuilderAt 73 5 B b (.pointer (some ⟨b, 0, none⟩)) bs w' ∧ (Below B w w' ∧ KT b w w')) := by
  rcases h with h | h
  · refine (copyCheck_fresh b w h.cell0 h.shape h.frozen0).mono ?_
    rintro e w' ⟨rfl, rfl⟩
    exact ⟨rfl, h.used _, (Below.refl B w).setCell (p := ⟨b, 0, none⟩) h.1 _, KT.set _ _ _⟩
  · refine (copyCheck_used b w h.cell0).mono ?_
    rintro e w' ⟨rfl, rfl⟩
    exact ⟨rfl, h, Below.refl B _, KT.refl _ _⟩
set_option maxHeartbeats 1000000 in
set_option maxRecDepth 100000 in
theorem writeString_t (B b : Nat) (bs : List Value) (s : ByteArray) (w : World) (h : Lib.IsBuilder 73 5 B b bs w) (hlen : bs.length + s.size ≤ 140737488355328) (hBw : B ≤ w.heap.size) :
    Calls Tryz.prog 68 #[.pointer (some ⟨b, 0, none⟩), .string s] w fun e w' => e = .returned (.tuple #[.int .i64 s.size, .nilIface]) ∧ (Lib.IsBuilder 73 5 B b (bs ++ Lib.strCells s) w' ∧ (Below B w w' ∧ KT b w w')) := by
  obtain ⟨i0, hi, hz0, hz1, hz2⟩ := info_parts infoB
  go_enter Tryz.func68, Tryz.ntmps68
  go_wp2_with (go_at_call 90; refine (copyCheck_t B b bs _ h).mono ?_)
  rintro e w1 ⟨rfl, h1, hb1, hk1⟩
  obtain ⟨hB, v, hbk, hown, hne⟩ := h1
  have c0 : w1.cell? ⟨b, 0, none⟩ = some (.pointer (some ⟨b, 0, none⟩)) := by rw [Lib.cell_of_heap hbk]; rfl
  have c1 : w1.cell? ⟨b, 1, none⟩ = some v := by rw [Lib.cell_of_heap hbk]; rfl
  go_wp2_with (at_builtin; refine Lib.wpList_append_own_string _ rfl _ _ 51 9 rfl B 5 i0 Tryz.underlying51 Tryz.underlying9 hi hz0 hz1 hz2 _ _ _ rfl hown s rfl ?c3 ?c4 ?c5 ?_)
  case c3 => unfold maxLen; omega
  case c4 => omega
  case c5 => have := hb1.size; omega
  intro v' w2 hown' hgrow _
  have hlt : b < w1.heap.size := by
    rcases Nat.lt_or_ge b w1.heap.size with h' | h'
    · exact h'
    · simp [Array.getElem?_eq_none h'] at hbk
  have hk2 : KT b w1 w2 := ⟨hgrow.os, hgrow.tape, hgrow.output, hgrow.size, fun k hs _ hT => hgrow.block k hs (fun e => by
    rcases hown.2 with ⟨rfl, _⟩ | ⟨g, cap, cur, rfl, _, hg, _⟩
    · simp [Value.ownBlock] at e
    · simp only [Value.ownBlock, Option.some.injEq] at e
      subst e
      exact hT _ _ hg)⟩
  have hb2 : w2.heap[b]? = some (.cells #[.pointer (some ⟨b, 0, none⟩), v] 73 (0, 0)) := by
    rw [hgrow.block b hlt (fun e => hne e.symm)]
    exact hbk
  have d0 : w2.cell? ⟨b, 0, none⟩ = some (.pointer (some ⟨b, 0, none⟩)) := by rw [Lib.cell_of_heap hb2]; rfl
  have d1 : w2.cell? ⟨b, 1, none⟩ = some v := by rw [Lib.cell_of_heap hb2]; rfl
  have f1 : w2.frozen? ⟨b, 1, none⟩ = false := Lib.frozen_of_heap hb2 1
  obtain ⟨ao, n', cap, rfl⟩ : ∃ ao n' cap, v' = .slice ao n' cap := by
    rcases hown'.2 with ⟨hv, _⟩ | ⟨g, cap, cur, hv, _⟩
    · exact ⟨_, _, _, hv⟩
    · exact ⟨_, _, _, hv⟩
  have HK := hide ((hk1.trans hk2).trans (KT.set w2 1 (.slice ao n' cap)))
  clear hk1 hk2
  go_wp2
  go_ret2
  refine ⟨rfl, .inr ?_, ?_, HK.out⟩
  · exact Lib.BuilderAt.put (T := 73) (e := 5) hB hb2 (bs' := bs ++ Lib.strCells s) (by simpa [Lib.strCells_length] using hown') (by decide)
  · exact (hb1.grown hgrow (by have := hb1.size; omega) (fun k hk => (hown.lt k hk).1)).setCell (p := ⟨b, 1, none⟩) hB _
/-- a line of words -/
def ln (ws : List (List UInt8)) : List UInt8 := Lib.join ws [32] ++ [10]
/-- a builder is kept by what makes memory alone -/
theorem builder_below {T e B b : Nat} {bs : List Value} {w w' : World} (h : Lib.IsBuilder T e B b bs w) (hb : Below w.heap.size w w') : Lib.IsBuilder T e B b bs w' := by
  have key : ∀ p, Lib.BuilderAt T e B b p bs w → Lib.BuilderAt T e B b p bs w' := by
    intro p hp
    have hlt := hp.lt
    obtain ⟨h1, v, h2, h3, h4⟩ := hp
    exact ⟨h1, v, (hb.block b hlt).trans h2, own_below h3 hb, h4⟩
  rcases h with h | h
  · exact .inl (key _ h)
  · exact .inr (key _ h)
theorem app_data (a b : ByteArray) : (a ++ b).data.toList = a.data.toList ++ b.data.toList := by simp [ByteArray.data_append]
/-- what put leaves -/
def PutP (B b : Nat) (bs : List Value) (w : World) (e : Ending) (w' : World) : Prop :=
  e = .returned (.tuple #[]) ∧ (Lib.IsBuilder 73 5 B b bs w' ∧ (Below B w w' ∧ KT b w w'))
set_option maxHeartbeats 4000000 in
set_option maxRecDepth 100000 in
theorem put_any (B b H bk o c : Nat) (l : List UInt8) (xs : List ByteArray) (w : World) (hH : w.cell? ⟨H, 0, none⟩ = some (.pointer (some ⟨b, 0, none⟩))) (hHl : H < w.heap.size)
    (hc : ∀ (j : Nat) x, xs[j]? = some x → w.cell? ⟨bk, o + j, none⟩ = some (.string x)) (hbk : bk < w.heap.size) (hN : xs.length ≤ 100) (hcap : xs.length ≤ c) (hlen : (Lib.join (xs.map (·.data.toList)) [32]).length ≤ 10000000)
    (h : Lib.IsBuilder 73 5 B b (Lib.byteCells l) w) (hl : l.length ≤ 100000000) (hBw : B ≤ w.heap.size) :
    Calls Tryz.prog 67 #[.slice (some ⟨bk, o, none⟩) xs.length c, .pointer (some ⟨H, 0, none⟩)] w (PutP B b (Lib.byteCells (l ++ ln (xs.map (·.data.toList)))) w) := by
  have HJ := Lib.hid (fun w' (hb : Below w.heap.size w w') => Tryz.strings_Join bk o c xs ⟨#[32]⟩ w' (fun j x hx => (hb.cell (p := ⟨bk, o + j, none⟩) hbk).trans (hc j x hx)) (Nat.lt_of_lt_of_le hbk hb.size) (by omega) hcap (by show (Lib.join (xs.map (·.data.toList)) [32]).length ≤ _; omega))
  obtain ⟨J, hJ⟩ : ∃ J, J = Lib.join (xs.map (·.data.toList)) [32] := ⟨_, rfl⟩
  change Hid (∀ w', Below w.heap.size w w' → Calls _ _ #[_, .string ⟨#[32]⟩] w' fun e w'' => e = .returned (.string (st (Lib.join (xs.map (·.data.toList)) [32]))) ∧ Below w'.heap.size w' w'') at HJ
  unfold ln
  rw [← hJ] at HJ hlen ⊢
  have HB := hide h
  have k0 : ∀ v : Qin.In (Below w.heap.size w), v.val.cell? ⟨H, 0, none⟩ = some (.pointer (some ⟨b, 0, none⟩)) := fun v => (v.ok.cell (p := ⟨H, 0, none⟩) hHl).trans hH
  have hst : (st J ++ ⟨#[10]⟩).size ≤ 10000001 := by rw [ByteArray.size_append, st_size]; show _ + 1 ≤ _; omega
  have hst1 : (st J).size ≤ 10000000 := by rw [st_size]; exact hlen
  have hcells := hide (show Lib.byteCells l ++ Lib.strCells (st J ++ ⟨#[10]⟩) = Lib.byteCells (l ++ (J ++ [10])) by rw [Lib.strCells_eq, app_data]; simp [Lib.byteCells, st])
  have hbl : (Lib.byteCells l).length ≤ 100000000 := by rw [Lib.byteCells_length]; exact hl
  clear hJ hlen hc h hN hcap
  go_enter Tryz.func67, Tryz.ntmps67
  go_wp2_with fail
  refine Qmu.wp_region (C := Cls (Below w.heap.size w)) 4 (by kernel_rfl) (by kernel_rfl) (by kernel_rfl) ?_
  simp only [List.length_cons, List.length_nil]
  refine Qmu.takes (s := 4) (cls (Qin.start _ w)) [0, 1] 3 _ _ _ (fun _ => cls (Qin.start _ w)) (by decide) (by kernel_rfl) ?_
  simp only [List.filterMap_cons, List.filterMap_nil, List.getElem?_toArray, List.getElem?_cons_zero, List.getElem?_cons_succ]
  change wpQuiet _ _ _ _ [_, _] _
  repeat (go_big_quiet_step (fail))
  refine wpQuiet_nil ?_
  refine Qmu.fork [2] (fun _ => cls (Qin.start _ w)) (by kernel_rfl) (by simp) ⟨?_, trivial⟩
  refine Qmu.by_op rfl (by kernel_rfl) ?_
  go_wp2_with fail
  refine (HJ.out _ (Qin.start _ w)).mono ?_
  rintro e w3 ⟨rfl, hb3⟩
  have hB3 := (Qin.start w.heap.size w).trans hb3
  have HIB := hide (builder_below HB.out hB3)
  have hs3 := hB3.size
  go_wp2_with fail
  refine ⟨rfl, ?_⟩
  refine Qmu.takes (s := 4) (cls (Qin.start _ w)) [3] 1 _ _ _ (fun _ => cls hB3) (by decide) (by kernel_rfl) ?_
  simp only [List.filterMap_cons, List.filterMap_nil, List.getElem?_toArray, List.getElem?_cons_zero, List.getElem?_cons_succ]
  change wpQuiet _ _ _ _ [_] _
  repeat (go_big_quiet_step (fail))
  refine wpQuiet_nil ?_
  refine Qmu.fork [4] (fun _ => cls hB3) (by kernel_rfl) (by simp) ⟨?_, trivial⟩
  refine Qmu.by_op rfl (by kernel_rfl) ?_
  have HW := Lib.hid (writeString_t B b _ (st J ++ ⟨#[10]⟩) w3 HIB.out (by omega) (by omega))
  rw [hcells.out] at HW
  have HB3 := hide hB3
  clear hb3 hB3 k0
  go_wp2_with fail
  refine HW.out.mono ?_
  rintro e w4 ⟨rfl, hib, hb4, hk4⟩
  have HIB4 := hide hib
  have HB4 := hide ((HB3.out.mono hBw).trans hb4)
  have HK4 := hide ((KT.of_below HB3.out).trans hk4)
  clear hib hb4 hk4
  go_wp2_with fail
  refine ⟨rfl, ?_⟩
  refine Qmu.by_end (Qmu.past (by kernel_rfl)) (by kernel_rfl) ?_
  go_wp2_with fail
  go_end0
  unfold PutP
  exact ⟨rfl, HIB4.out, HB4.out, HK4.out⟩
end Go.Proofs.YtghbhchkdomfhaaGreatDoor.PfP
namespace Go.Proofs.YtghbhchkdomfhaaGreatDoor.PfQ
open Go.RowKit Wd RoL RnD RnW RnQ RnR RnP RpE RpF RtA PqB PfS PfB PfA PfD PfE PfH PfI PfO PfP
theorem gPow : Tryz.prog.globalNamed "internal/strconv.uint64pow10" = some 3 := by kernel_rfl
/-- what the library's functions read of package-level variables -/
def EnvT (w : World) : Prop := 6 ≤ w.heap.size ∧ Env w ∧ Lib.TabIs Tryz.prog w "internal/strconv.uint64pow10" .u64 Lib.pow10Tab
theorem EnvT.down {B : Nat} {w w' : World} (h : EnvT w) (hb : Below B w w') (hB : 6 ≤ B) : EnvT w' := by
  obtain ⟨h1, ⟨h0, m, h2⟩, h3⟩ := h
  refine ⟨Nat.le_trans h1 hb.size, ⟨Nat.le_trans h0 hb.size, m, (hb.cell (p := ⟨0, 0, none⟩) (by show 0 < B; omega)).trans h2⟩, ?_⟩
  unfold Lib.TabIs at h3 ⊢
  exact var?_below hb gPow (by omega) h3
theorem EnvT.below {w w' : World} (h : EnvT w) (hb : Below w.heap.size w w') : EnvT w' := h.down hb h.1
theorem itoa_env (n : Int) (h0 : -9223372036854775808 ≤ n) (h1 : n ≤ 9223372036854775807) (w : World) (he : EnvT w) :
    Calls Tryz.prog 70 #[.int .i64 n] w fun e w' => e = .returned (.string (st (Lib.itoa n))) ∧ Below w.heap.size w w' := by
  refine (Tryz.strconv_Itoa n h0 h1 w he.2.2).mono ?_
  rintro e w' ⟨rfl, k, os, rfl⟩
  exact ⟨rfl, Lib.below_grow w.heap.size w (Nat.le_refl _) k os⟩
/-- the text of a document -/
def docL (d : Dc) : List UInt8 :=
  ln [kProof, d.id.data.toList] ++ ln [kEstate, Lib.itoa d.est] ++ ln [kCreditor, Lib.itoa d.cred] ++ ln [kAmount, d.code.data.toList, formatQ d.amt] ++ ln [kIncurred, Lib.itoa d.inc] ++ ln [kRank, Lib.itoa d.rank]
    ++ (if 0 < sgnQ d.rate then ln [kInterest, formatQ d.rate, kFrom, Lib.itoa d.rfrom] else []) ++ (if 0 ≤ d.sec then ln [kSecured, Lib.itoa d.sec] else [])
/-- the state while a document is written -/
structure St (B b H : Nat) (d : Dc) (w0 : World) (l : List UInt8) (w : World) : Prop where
  ib : Lib.IsBuilder 73 5 B b (Lib.byteCells l) w
  pb : BlkT w H 71 [.pointer (some ⟨b, 0, none⟩)]
  px : BlkT w (H + 1) 27 d.vals
  env : EnvT w
  bel : Below B w0 w
  kt : KT b w0 w
  hB : 6 ≤ B
  bH : b < H
  hBw : B ≤ w.heap.size
section
variable {B b H : Nat} {d : Dc} {w0 w w' : World} {l : List UInt8}
theorem St.below (h : St B b H d w0 l w) (hb : Below w.heap.size w w') : St B b H d w0 l w' :=
  ⟨builder_below h.ib hb, h.pb.below hb, h.px.below hb, h.env.below hb, h.bel.trans (hb.mono h.hBw), h.kt.trans (KT.of_below hb), h.hB, h.bH, Nat.le_trans h.hBw hb.size⟩
theorem St.put (h : St B b H d w0 l w) {l' : List UInt8} (hi : Lib.IsBuilder 73 5 B b (Lib.byteCells l') w') (hb : Below B w w') (hk : KT b w w') : St B b H d w0 l' w' :=
  ⟨hi, hk.blk h.pb (by have := h.bH; omega) (by decide), hk.blk h.px (by have := h.bH; omega) (by decide), h.env.down hb h.hB, h.bel.trans hb, h.kt.trans hk, h.hB, h.bH, Nat.le_trans h.hBw hb.size⟩
theorem St.doc (h : St B b H d w0 l w) : DocAt w (H + 1) 0 d := doc_at h.px
end
theorem ln_len (ws : List (List UInt8)) (n : Nat) (h : ∀ x ∈ ws, x.length ≤ n) (hn : ws.length ≤ 4) : (Lib.join ws [32]).length ≤ 4 * n + 4 := by
  match ws, hn with
  | [], _ => simp [Lib.join_nil]
  | [a], _ => have := h a (by simp); rw [Lib.join_length]; simp [Lib.lens]; omega
  | [a, b], _ => have := h a (by simp); have := h b (by simp); rw [Lib.join_length]; simp [Lib.lens]; omega
  | [a, b, c], _ => have := h a (by simp); have := h b (by simp); have := h c (by simp); rw [Lib.join_length]; simp [Lib.lens]; omega
  | [a, b, c, d], _ => have := h a (by simp); have := h b (by simp); have := h c (by simp); have := h d (by simp); rw [Lib.join_length]; simp [Lib.lens]; omega
/-- put at words that were just laid -/
theorem put_new {B b H : Nat} {d : Dc} {w0 w : World} {l : List UInt8} (xs : List ByteArray) (h : St B b H d w0 l w) (hx : ∀ x ∈ xs, x.size ≤ 500000) (hn : xs.length ≤ 4) (hn0 : 0 < xs.length) (hl : l.length ≤ 90000000) :
    Calls Tryz.prog 67 #[.slice (some ⟨w.heap.size, 0, none⟩) xs.length xs.length, .pointer (some ⟨H, 0, none⟩)] (w.alloc (.cells (xs.map Value.string).toArray 9))
      fun e w' => e = .returned (.tuple #[]) ∧ St B b H d w0 (l ++ ln (xs.map (·.data.toList))) w' := by
  have hb : Below w.heap.size w (w.alloc (.cells (xs.map Value.string).toArray 9)) := (Below.refl _ _).alloc (Nat.le_refl _) _
  have h2 := h.below hb
  refine (put_any B b H w.heap.size 0 xs.length l xs _ (h2.pb.cell (i := 0) rfl) h2.pb.lt ?_ (by simp) (by omega) (Nat.le_refl _) ?_ h2.ib (by omega) h2.hBw).mono ?_
  · intro j x hj
    rw [Nat.zero_add]
    exact (Blk.new w (xs.map Value.string) 9).cell (i := j) (by rw [List.getElem?_map, hj]; rfl)
  · have := ln_len (xs.map (·.data.toList)) 500000 (fun y hy => by
      obtain ⟨x, hx1, rfl⟩ := List.mem_map.1 hy
      have := hx x hx1
      simpa using this) (by rw [List.length_map]; exact hn)
    omega
  · rintro e w' ⟨rfl, hi, hb', hk⟩
    exact ⟨rfl, h2.put hi hb' hk⟩
theorem box2 (B b : Nat) (d : Dc) (w : World) (l : List UInt8) (hi : Lib.IsBuilder 73 5 B b (Lib.byteCells l) w) (he : EnvT w) (hB : 6 ≤ B) (hb : b < w.heap.size) (hBw : B ≤ w.heap.size) :
    ∃ V, (w.alloc (.cells #[.pointer (some ⟨b, 0, none⟩)] 71)).alloc (.cells #[.string d.id, .int .i64 d.est, .int .i64 d.cred, .string d.code, .bool d.neg, .string d.num, .string d.den, .int .i64 d.inc, .int .i64 d.rank, .bool d.rneg, .string d.rnum, .string d.rden, .int .i64 d.rfrom, .int .i64 d.sec] 27) = V ∧ Hid (St B b w.heap.size d w l V) := by
  have hb1 : Below w.heap.size w (w.alloc (.cells #[.pointer (some ⟨b, 0, none⟩)] 71)) := (Below.refl _ _).alloc (Nat.le_refl _) _
  have hs1 : (w.alloc (.cells #[.pointer (some ⟨b, 0, none⟩)] 71)).heap.size = w.heap.size + 1 := by simp
  have hp : BlkT (w.alloc (.cells #[.pointer (some ⟨b, 0, none⟩)] 71)) w.heap.size 71 [.pointer (some ⟨b, 0, none⟩)] := heap_alloc_new w _
  generalize w.alloc (.cells #[.pointer (some ⟨b, 0, none⟩)] 71) = V1 at *
  have hb2 : Below V1.heap.size V1 (V1.alloc (.cells #[.string d.id, .int .i64 d.est, .int .i64 d.cred, .string d.code, .bool d.neg, .string d.num, .string d.den, .int .i64 d.inc, .int .i64 d.rank, .bool d.rneg, .string d.rnum, .string d.rden, .int .i64 d.rfrom, .int .i64 d.sec] 27)) := (Below.refl _ _).alloc (Nat.le_refl _) _
  have hj := hb1.trans (hb2.mono hb1.size)
  refine ⟨_, rfl, ?_⟩
  have hx := heap_alloc_new V1 (.cells #[.string d.id, .int .i64 d.est, .int .i64 d.cred, .string d.code, .bool d.neg, .string d.num, .string d.den, .int .i64 d.inc, .int .i64 d.rank, .bool d.rneg, .string d.rnum, .string d.rden, .int .i64 d.rfrom, .int .i64 d.sec] 27)
  rw [hs1] at hx
  exact ⟨builder_below hi hj, hp.below hb2, hx, he.below hj, hj.mono hBw, KT.of_below hj, hB, hb, Nat.le_trans hBw hj.size⟩
/-- the sizes and ranges of a document that can be written -/
structure Wr (d : Dc) : Prop where
  id : d.id.size ≤ 100000
  code : d.code.size ≤ 100000
  num : d.num.size ≤ 50000
  den : d.den.size ≤ 50000
  rnum : d.rnum.size ≤ 50000
  rden : d.rden.size ≤ 50000
  est0 : -9223372036854775808 ≤ d.est
  est1 : d.est ≤ 9223372036854775807
  cred0 : -9223372036854775808 ≤ d.cred
  cred1 : d.cred ≤ 9223372036854775807
  inc0 : -9223372036854775808 ≤ d.inc
  inc1 : d.inc ≤ 9223372036854775807
  rank0 : -9223372036854775808 ≤ d.rank
  rank1 : d.rank ≤ 9223372036854775807
  from0 : -9223372036854775808 ≤ d.rfrom
  from1 : d.rfrom ≤ 9223372036854775807
  sec0 : -9223372036854775808 ≤ d.sec
  sec1 : d.sec ≤ 9223372036854775807
theorem fq_size {b : Bool} {x y : ByteArray} (hx : x.size ≤ 50000) (hy : y.size ≤ 50000) : (st (formatQ (fixQ b x.data.toList y.data.toList))).size ≤ 400000 := by
  obtain ⟨hs1, hs2⟩ := fix_size (n := b) (a := x) (d := y)
  generalize fixQ b x.data.toList y.data.toList = q at *
  have h1 := dec_size (nm q)
  have h2 := dec_size q.den
  have h3 := den_size q
  rw [fmt_eq, ByteArray.size_append, ByteArray.size_append]
  have e1 : (if negB q then st [45] else st []).size ≤ 1 := by split <;> simp [st_size]
  have e2 : (if q.den = 1 then st [] else (st [47] ++ st (decOf q.den))).size ≤ 1 + (st (decOf q.den)).size := by
    split
    · simp [st_size]
    · rw [ByteArray.size_append]; simp [st_size]
  omega
theorem itoa_sz {n : Int} (h0 : -9223372036854775808 ≤ n) (h1 : n ≤ 9223372036854775807) : (st (Lib.itoa n)).size ≤ 21 := by rw [st_size]; exact Lib.itoa_length_le n h0 h1
end Go.Proofs.YtghbhchkdomfhaaGreatDoor.PfQ
namespace Go.Proofs.YtghbhchkdomfhaaGreatDoor.PfR
open Go.RowKit Wd RoL RnD RnW RnQ RnR RnP RpE RpF RtA PqB PfS PfB PfA PfD PfE PfH PfI PfO PfP PfQ
section
variable {B b H : Nat} {d : Dc} {w0 w : World} {l : List UInt8}
theorem put2 (s1 s2 : ByteArray) (h : St B b H d w0 l w) (h1 : s1.size ≤ 500000) (h2 : s2.size ≤ 500000) (hl : l.length ≤ 90000000) :
    Calls Tryz.prog 67 #[.slice (some ⟨w.heap.size, 0, none⟩) 2 2, .pointer (some ⟨H, 0, none⟩)] (w.alloc (.cells #[.string s1, .string s2] 9))
      fun e w' => e = .returned (.tuple #[]) ∧ St B b H d w0 (l ++ ln [s1.data.toList, s2.data.toList]) w' :=
  put_new [s1, s2] h (by simp [h1, h2]) (by simp) (by simp) hl
theorem put3 (s1 s2 s3 : ByteArray) (h : St B b H d w0 l w) (h1 : s1.size ≤ 500000) (h2 : s2.size ≤ 500000) (h3 : s3.size ≤ 500000) (hl : l.length ≤ 90000000) :
    Calls Tryz.prog 67 #[.slice (some ⟨w.heap.size, 0, none⟩) 3 3, .pointer (some ⟨H, 0, none⟩)] (w.alloc (.cells #[.string s1, .string s2, .string s3] 9))
      fun e w' => e = .returned (.tuple #[]) ∧ St B b H d w0 (l ++ ln [s1.data.toList, s2.data.toList, s3.data.toList]) w' :=
  put_new [s1, s2, s3] h (by simp [h1, h2, h3]) (by simp) (by simp) hl
theorem put4 (s1 s2 s3 s4 : ByteArray) (h : St B b H d w0 l w) (h1 : s1.size ≤ 500000) (h2 : s2.size ≤ 500000) (h3 : s3.size ≤ 500000) (h4 : s4.size ≤ 500000) (hl : l.length ≤ 90000000) :
    Calls Tryz.prog 67 #[.slice (some ⟨w.heap.size, 0, none⟩) 4 4, .pointer (some ⟨H, 0, none⟩)] (w.alloc (.cells #[.string s1, .string s2, .string s3, .string s4] 9))
      fun e w' => e = .returned (.tuple #[]) ∧ St B b H d w0 (l ++ ln [s1.data.toList, s2.data.toList, s3.data.toList, s4.data.toList]) w' :=
  put_new [s1, s2, s3, s4] h (by simp [h1, h2, h3, h4]) (by simp) (by simp) hl
end
/-- what write leaves -/
def WriteP (B b : Nat) (l : List UInt8) (w : World) (e : Ending) (w' : World) : Prop :=
  e = .returned (.tuple #[]) ∧ (Lib.IsBuilder 73 5 B b (Lib.byteCells l) w' ∧ (Below B w w' ∧ KT b w w'))
theorem ln_bd (l : List UInt8) (ws : List (List UInt8)) (hn : ws.length ≤ 4) (h : ∀ x ∈ ws, x.length ≤ 500000) : (l ++ ln ws).length ≤ l.length + 2000005 := by
  have := ln_len ws 500000 h hn
  unfold ln
  rw [List.length_append, List.length_append, List.length_singleton]
  omega
theorem data_len (s : ByteArray) : s.data.toList.length = s.size := by simp
set_option maxHeartbeats 8000000 in
set_option maxRecDepth 100000 in
theorem write_any (B b : Nat) (d : Dc) (l : List UInt8) (w : World) (hi : Lib.IsBuilder 73 5 B b (Lib.byteCells l) w) (he : EnvT w) (hB : 6 ≤ B) (hb : b < w.heap.size) (hBw : B ≤ w.heap.size) (hd : Wr d) (hl : l.length ≤ 70000000) :
    Calls Tryz.prog 44 #[.pointer (some ⟨b, 0, none⟩), d.agg] w (WriteP B b (l ++ docL d) w) := by
  obtain ⟨V, hV, H0⟩ := box2 B b d w l hi he hB hb hBw
  obtain ⟨a0, a1, a2, a3, a4, a5, a6, a7, a8, a9, a10, a11, a12, a13⟩ := H0.out.doc
  have p0 := H0.out.pb.cell (i := 0) rfl
  have hid : d.id.size ≤ 500000 := by have := hd.id; omega
  have hcode : d.code.size ≤ 500000 := by have := hd.code; omega
  have hfa : (st (formatQ d.amt)).size ≤ 500000 := by have := fq_size (b := d.neg) hd.num hd.den; unfold Dc.amt; omega
  have hfr : (st (formatQ d.rate)).size ≤ 500000 := by have := fq_size (b := d.rneg) hd.rnum hd.rden; unfold Dc.rate; omega
  have HS := Lib.hid (fun w => RpI.sign_any d.rneg d.rnum d.rden w (by have := hd.rnum; omega) (by have := hd.rden; omega))
  have HF1 := Lib.hid (fun w => format_any d.neg d.num d.den w hd.num hd.den)
  have HF2 := Lib.hid (fun w => format_any d.rneg d.rnum d.rden w hd.rnum hd.rden)
  change Hid (∀ (w : World), Calls _ _ _ w fun e w' => e = .returned (.int .i64 (sgnQ d.rate)) ∧ Below w.heap.size w w') at HS
  change Hid (∀ (w : World), Calls _ _ _ w fun e w' => e = .returned (.string (st (formatQ d.amt))) ∧ Below w.heap.size w w') at HF1
  change Hid (∀ (w : World), Calls _ _ _ w fun e w' => e = .returned (.string (st (formatQ d.rate))) ∧ Below w.heap.size w w') at HF2
  unfold PfA.Dc.agg
  clear hi he
  go_enter Tryz.func44, Tryz.ntmps44
  go_wp2_with fail
  refine (put2 ⟨#[112, 114, 111, 111, 102]⟩ d.id H0.out (by decide) hid (by omega)).mono ?_
  rintro e w2 ⟨rfl, hq⟩
  have HL1 := hide (show l ++ ln [(⟨#[112, 114, 111, 111, 102]⟩ : ByteArray).data.toList, (d.id : ByteArray).data.toList] = l ++ ln [kProof, d.id.data.toList] from rfl)
  obtain ⟨l1, hl1⟩ : ∃ l1, l ++ ln [(⟨#[112, 114, 111, 111, 102]⟩ : ByteArray).data.toList, (d.id : ByteArray).data.toList] = l1 := ⟨_, rfl⟩
  have hb1 : l1.length ≤ l.length + 2000005 := by rw [← hl1]; exact ln_bd _ _ (by simp) (by simp only [List.mem_cons, List.mem_nil_iff, or_false, forall_eq_or_imp, forall_eq, data_len]; exact ⟨(by decide), hid⟩)
  rw [hl1] at hq HL1
  have H2 := hide hq
  clear hq hl1
  clear a0 a1 a2 a3 a4 a5 a6 a7 a8 a9 a10 a11 a12 a13
  obtain ⟨a0, a1, a2, a3, a4, a5, a6, a7, a8, a9, a10, a11, a12, a13⟩ := H2.out.doc
  go_wp2_with fail
  refine (itoa_env d.est hd.est0 hd.est1 _ H2.out.env).mono ?_
  rintro e w3 ⟨rfl, hq⟩
  have H3 := hide (H2.out.below hq)
  clear hq
  clear a0 a1 a2 a3 a4 a5 a6 a7 a8 a9 a10 a11 a12 a13
  obtain ⟨a0, a1, a2, a3, a4, a5, a6, a7, a8, a9, a10, a11, a12, a13⟩ := H3.out.doc
  go_wp2_with fail
  refine (put2 ⟨#[101, 115, 116, 97, 116, 101]⟩ (st (Lib.itoa d.est)) H3.out (by decide) (Nat.le_trans (itoa_sz hd.est0 hd.est1) (by decide)) (by omega)).mono ?_
  rintro e w4 ⟨rfl, hq⟩
  have HL2 := hide (show l1 ++ ln [(⟨#[101, 115, 116, 97, 116, 101]⟩ : ByteArray).data.toList, ((st (Lib.itoa d.est)) : ByteArray).data.toList] = l1 ++ ln [kEstate, Lib.itoa d.est] from rfl)
  obtain ⟨l2, hl2⟩ : ∃ l2, l1 ++ ln [(⟨#[101, 115, 116, 97, 116, 101]⟩ : ByteArray).data.toList, ((st (Lib.itoa d.est)) : ByteArray).data.toList] = l2 := ⟨_, rfl⟩
  have hb2 : l2.length ≤ l1.length + 2000005 := by rw [← hl2]; exact ln_bd _ _ (by simp) (by simp only [List.mem_cons, List.mem_nil_iff, or_false, forall_eq_or_imp, forall_eq, data_len]; exact ⟨(by decide), (Nat.le_trans (itoa_sz hd.est0 hd.est1) (by decide))⟩)
  rw [hl2] at hq HL2
  have H4 := hide hq
  clear hq hl2
  clear a0 a1 a2 a3 a4 a5 a6 a7 a8 a9 a10 a11 a12 a13
  obtain ⟨a0, a1, a2, a3, a4, a5, a6, a7, a8, a9, a10, a11, a12, a13⟩ := H4.out.doc
  go_wp2_with fail
  refine (itoa_env d.cred hd.cred0 hd.cred1 _ H4.out.env).mono ?_
  rintro e w5 ⟨rfl, hq⟩
  have H5 := hide (H4.out.below hq)
  clear hq
  clear a0 a1 a2 a3 a4 a5 a6 a7 a8 a9 a10 a11 a12 a13
  obtain ⟨a0, a1, a2, a3, a4, a5, a6, a7, a8, a9, a10, a11, a12, a13⟩ := H5.out.doc
  go_wp2_with fail
  refine (put2 ⟨#[99, 114, 101, 100, 105, 116, 111, 114]⟩ (st (Lib.itoa d.cred)) H5.out (by decide) (Nat.le_trans (itoa_sz hd.cred0 hd.cred1) (by decide)) (by omega)).mono ?_
  rintro e w6 ⟨rfl, hq⟩
  have HL3 := hide (show l2 ++ ln [(⟨#[99, 114, 101, 100, 105, 116, 111, 114]⟩ : ByteArray).data.toList, ((st (Lib.itoa d.cred)) : ByteArray).data.toList] = l2 ++ ln [kCreditor, Lib.itoa d.cred] from rfl)
  obtain ⟨l3, hl3⟩ : ∃ l3, l2 ++ ln [(⟨#[99, 114, 101, 100, 105, 116, 111, 114]⟩ : ByteArray).data.toList, ((st (Lib.itoa d.cred)) : ByteArray).data.toList] = l3 := ⟨_, rfl⟩
  have hb3 : l3.length ≤ l2.length + 2000005 := by rw [← hl3]; exact ln_bd _ _ (by simp) (by simp only [List.mem_cons, List.mem_nil_iff, or_false, forall_eq_or_imp, forall_eq, data_len]; exact ⟨(by decide), (Nat.le_trans (itoa_sz hd.cred0 hd.cred1) (by decide))⟩)
  rw [hl3] at hq HL3
  have H6 := hide hq
  clear hq hl3
  clear a0 a1 a2 a3 a4 a5 a6 a7 a8 a9 a10 a11 a12 a13
  obtain ⟨a0, a1, a2, a3, a4, a5, a6, a7, a8, a9, a10, a11, a12, a13⟩ := H6.out.doc
  go_wp2_with fail
  have hK := H6.out.px
  have k3 : ∀ v : Qin.In (Below w6.heap.size w6), v.val.cell? ⟨w.heap.size + 1, 0 + 3, none⟩ = some (.string d.code) := fun v => (v.ok.cell (p := ⟨w.heap.size + 1, 0 + 3, none⟩) hK.lt).trans a3
  have k4 : ∀ v : Qin.In (Below w6.heap.size w6), v.val.cell? ⟨w.heap.size + 1, 0 + 4, none⟩ = some (.bool d.neg) := fun v => (v.ok.cell (p := ⟨w.heap.size + 1, 0 + 4, none⟩) hK.lt).trans a4
  have k5 : ∀ v : Qin.In (Below w6.heap.size w6), v.val.cell? ⟨w.heap.size + 1, 0 + 5, none⟩ = some (.string d.num) := fun v => (v.ok.cell (p := ⟨w.heap.size + 1, 0 + 5, none⟩) hK.lt).trans a5
  have k6 : ∀ v : Qin.In (Below w6.heap.size w6), v.val.cell? ⟨w.heap.size + 1, 0 + 6, none⟩ = some (.string d.den) := fun v => (v.ok.cell (p := ⟨w.heap.size + 1, 0 + 6, none⟩) hK.lt).trans a6
  have k9 : ∀ v : Qin.In (Below w6.heap.size w6), v.val.cell? ⟨w.heap.size + 1, 0 + 9, none⟩ = some (.bool d.rneg) := fun v => (v.ok.cell (p := ⟨w.heap.size + 1, 0 + 9, none⟩) hK.lt).trans a9
  have k10 : ∀ v : Qin.In (Below w6.heap.size w6), v.val.cell? ⟨w.heap.size + 1, 0 + 10, none⟩ = some (.string d.rnum) := fun v => (v.ok.cell (p := ⟨w.heap.size + 1, 0 + 10, none⟩) hK.lt).trans a10
  have k11 : ∀ v : Qin.In (Below w6.heap.size w6), v.val.cell? ⟨w.heap.size + 1, 0 + 11, none⟩ = some (.string d.rden) := fun v => (v.ok.cell (p := ⟨w.heap.size + 1, 0 + 11, none⟩) hK.lt).trans a11
  have k12 : ∀ v : Qin.In (Below w6.heap.size w6), v.val.cell? ⟨w.heap.size + 1, 0 + 12, none⟩ = some (.int .i64 d.rfrom) := fun v => (v.ok.cell (p := ⟨w.heap.size + 1, 0 + 12, none⟩) hK.lt).trans a12
  clear hK
  refine Qmu.wp_region (C := Cls (Below w6.heap.size w6)) 7 (by kernel_rfl) (by kernel_rfl) (by kernel_rfl) ?_
  simp only [List.length_cons, List.length_nil]
  refine Qmu.takes (s := 7) (cls (Qin.start _ w6)) [0, 1, 2, 3, 4] 3 _ _ _ (fun _ => cls (Qin.start _ w6)) (by decide) (by kernel_rfl) ?_
  simp only [List.filterMap_cons, List.filterMap_nil, List.getElem?_toArray, List.getElem?_cons_zero, List.getElem?_cons_succ]
  change wpQuiet _ _ _ _ [_, _, _, _, _] _
  repeat (go_big_quiet_step (fail))
  refine wpQuiet_nil ?_
  refine Qmu.fork [5] (fun _ => cls (Qin.start w6.heap.size w6)) (by kernel_rfl) (by simp) ⟨?_, trivial⟩
  refine Qmu.by_op rfl (by kernel_rfl) ?_
  go_wp2_with fail
  refine (HF1.out _).mono ?_
  rintro e w7 ⟨rfl, hq⟩
  have HB7 := hide ((Qin.start w6.heap.size w6).trans (hq.mono (Qin.start w6.heap.size w6).size))
  have hs7 := HB7.out.size
  clear hq
  go_wp2_with fail
  refine ⟨rfl, ?_⟩
  refine Qmu.fork [6] (fun _ => cls HB7.out) (by kernel_rfl) (by simp) ⟨?_, trivial⟩
  refine Qmu.by_op rfl (by kernel_rfl) ?_
  go_wp2_with fail
  refine ⟨rfl, ?_⟩
  refine Qmu.fork [7] (fun _ => cls (HB7.out.alloc (by omega) _)) (by kernel_rfl) (by simp) ⟨?_, trivial⟩
  refine Qmu.by_op rfl (by kernel_rfl) ?_
  have H7 := hide (H6.out.below HB7.out)
  clear k3 k4 k5 k6 k9 k10 k11 k12
  clear a0 a1 a2 a3 a4 a5 a6 a7 a8 a9 a10 a11 a12 a13
  obtain ⟨a0, a1, a2, a3, a4, a5, a6, a7, a8, a9, a10, a11, a12, a13⟩ := H7.out.doc
  go_wp2_with fail
  refine (put3 ⟨#[97, 109, 111, 117, 110, 116]⟩ d.code (st (formatQ d.amt)) H7.out (by decide) hcode hfa (by omega)).mono ?_
  rintro e w8 ⟨rfl, hq⟩
  have HL4 := hide (show l3 ++ ln [(⟨#[97, 109, 111, 117, 110, 116]⟩ : ByteArray).data.toList, (d.code : ByteArray).data.toList, ((st (formatQ d.amt)) : ByteArray).data.toList] = l3 ++ ln [kAmount, d.code.data.toList, formatQ d.amt] from rfl)
  obtain ⟨l4, hl4⟩ : ∃ l4, l3 ++ ln [(⟨#[97, 109, 111, 117, 110, 116]⟩ : ByteArray).data.toList, (d.code : ByteArray).data.toList, ((st (formatQ d.amt)) : ByteArray).data.toList] = l4 := ⟨_, rfl⟩
  have hb4 : l4.length ≤ l3.length + 2000005 := by rw [← hl4]; exact ln_bd _ _ (by simp) (by simp only [List.mem_cons, List.mem_nil_iff, or_false, forall_eq_or_imp, forall_eq, data_len]; exact ⟨(by decide), hcode, hfa⟩)
  rw [hl4] at hq HL4
  have H8 := hide hq
  clear hq hl4
  clear a0 a1 a2 a3 a4 a5 a6 a7 a8 a9 a10 a11 a12 a13
  obtain ⟨a0, a1, a2, a3, a4, a5, a6, a7, a8, a9, a10, a11, a12, a13⟩ := H8.out.doc
  go_wp2_with fail
  refine ⟨rfl, ?_⟩
  refine Qmu.by_end (Qmu.past (by kernel_rfl)) (by kernel_rfl) ?_
  go_wp2_with fail
  refine (itoa_env d.inc hd.inc0 hd.inc1 _ H8.out.env).mono ?_
  rintro e w9 ⟨rfl, hq⟩
  have H9 := hide (H8.out.below hq)
  clear hq
  clear a0 a1 a2 a3 a4 a5 a6 a7 a8 a9 a10 a11 a12 a13
  obtain ⟨a0, a1, a2, a3, a4, a5, a6, a7, a8, a9, a10, a11, a12, a13⟩ := H9.out.doc
  go_wp2_with fail
  refine (put2 ⟨#[105, 110, 99, 117, 114, 114, 101, 100]⟩ (st (Lib.itoa d.inc)) H9.out (by decide) (Nat.le_trans (itoa_sz hd.inc0 hd.inc1) (by decide)) (by omega)).mono ?_
  rintro e w10 ⟨rfl, hq⟩
  have HL5 := hide (show l4 ++ ln [(⟨#[105, 110, 99, 117, 114, 114, 101, 100]⟩ : ByteArray).data.toList, ((st (Lib.itoa d.inc)) : ByteArray).data.toList] = l4 ++ ln [kIncurred, Lib.itoa d.inc] from rfl)
  obtain ⟨l5, hl5⟩ : ∃ l5, l4 ++ ln [(⟨#[105, 110, 99, 117, 114, 114, 101, 100]⟩ : ByteArray).data.toList, ((st (Lib.itoa d.inc)) : ByteArray).data.toList] = l5 := ⟨_, rfl⟩
  have hb5 : l5.length ≤ l4.length + 2000005 := by rw [← hl5]; exact ln_bd _ _ (by simp) (by simp only [List.mem_cons, List.mem_nil_iff, or_false, forall_eq_or_imp, forall_eq, data_len]; exact ⟨(by decide), (Nat.le_trans (itoa_sz hd.inc0 hd.inc1) (by decide))⟩)
  rw [hl5] at hq HL5
  have H10 := hide hq
  clear hq hl5
  clear a0 a1 a2 a3 a4 a5 a6 a7 a8 a9 a10 a11 a12 a13
  obtain ⟨a0, a1, a2, a3, a4, a5, a6, a7, a8, a9, a10, a11, a12, a13⟩ := H10.out.doc
  go_wp2_with fail
  refine (itoa_env d.rank hd.rank0 hd.rank1 _ H10.out.env).mono ?_
  rintro e w11 ⟨rfl, hq⟩
  have H11 := hide (H10.out.below hq)
  clear hq
  clear a0 a1 a2 a3 a4 a5 a6 a7 a8 a9 a10 a11 a12 a13
  obtain ⟨a0, a1, a2, a3, a4, a5, a6, a7, a8, a9, a10, a11, a12, a13⟩ := H11.out.doc
  go_wp2_with fail
  refine (put2 ⟨#[114, 97, 110, 107]⟩ (st (Lib.itoa d.rank)) H11.out (by decide) (Nat.le_trans (itoa_sz hd.rank0 hd.rank1) (by decide)) (by omega)).mono ?_
  rintro e w12 ⟨rfl, hq⟩
  have HL6 := hide (show l5 ++ ln [(⟨#[114, 97, 110, 107]⟩ : ByteArray).data.toList, ((st (Lib.itoa d.rank)) : ByteArray).data.toList] = l5 ++ ln [kRank, Lib.itoa d.rank] from rfl)
  obtain ⟨l6, hl6⟩ : ∃ l6, l5 ++ ln [(⟨#[114, 97, 110, 107]⟩ : ByteArray).data.toList, ((st (Lib.itoa d.rank)) : ByteArray).data.toList] = l6 := ⟨_, rfl⟩
  have hb6 : l6.length ≤ l5.length + 2000005 := by rw [← hl6]; exact ln_bd _ _ (by simp) (by simp only [List.mem_cons, List.mem_nil_iff, or_false, forall_eq_or_imp, forall_eq, data_len]; exact ⟨(by decide), (Nat.le_trans (itoa_sz hd.rank0 hd.rank1) (by decide))⟩)
  rw [hl6] at hq HL6
  have H12 := hide hq
  clear hq hl6
  clear a0 a1 a2 a3 a4 a5 a6 a7 a8 a9 a10 a11 a12 a13
  obtain ⟨a0, a1, a2, a3, a4, a5, a6, a7, a8, a9, a10, a11, a12, a13⟩ := H12.out.doc
  go_wp2_with fail
  refine (HS.out _).mono ?_
  rintro e w13 ⟨rfl, hq⟩
  have H13 := hide (H12.out.below hq)
  clear hq
  clear a0 a1 a2 a3 a4 a5 a6 a7 a8 a9 a10 a11 a12 a13
  obtain ⟨a0, a1, a2, a3, a4, a5, a6, a7, a8, a9, a10, a11, a12, a13⟩ := H13.out.doc
  by_cases hr : 0 < sgnQ d.rate
  · go_wp2_with fail
    have hK := H13.out.px
    have k3 : ∀ v : Qin.In (Below w13.heap.size w13), v.val.cell? ⟨w.heap.size + 1, 0 + 3, none⟩ = some (.string d.code) := fun v => (v.ok.cell (p := ⟨w.heap.size + 1, 0 + 3, none⟩) hK.lt).trans a3
    have k4 : ∀ v : Qin.In (Below w13.heap.size w13), v.val.cell? ⟨w.heap.size + 1, 0 + 4, none⟩ = some (.bool d.neg) := fun v => (v.ok.cell (p := ⟨w.heap.size + 1, 0 + 4, none⟩) hK.lt).trans a4
    have k5 : ∀ v : Qin.In (Below w13.heap.size w13), v.val.cell? ⟨w.heap.size + 1, 0 + 5, none⟩ = some (.string d.num) := fun v => (v.ok.cell (p := ⟨w.heap.size + 1, 0 + 5, none⟩) hK.lt).trans a5
    have k6 : ∀ v : Qin.In (Below w13.heap.size w13), v.val.cell? ⟨w.heap.size + 1, 0 + 6, none⟩ = some (.string d.den) := fun v => (v.ok.cell (p := ⟨w.heap.size + 1, 0 + 6, none⟩) hK.lt).trans a6
    have k9 : ∀ v : Qin.In (Below w13.heap.size w13), v.val.cell? ⟨w.heap.size + 1, 0 + 9, none⟩ = some (.bool d.rneg) := fun v => (v.ok.cell (p := ⟨w.heap.size + 1, 0 + 9, none⟩) hK.lt).trans a9
    have k10 : ∀ v : Qin.In (Below w13.heap.size w13), v.val.cell? ⟨w.heap.size + 1, 0 + 10, none⟩ = some (.string d.rnum) := fun v => (v.ok.cell (p := ⟨w.heap.size + 1, 0 + 10, none⟩) hK.lt).trans a10
    have k11 : ∀ v : Qin.In (Below w13.heap.size w13), v.val.cell? ⟨w.heap.size + 1, 0 + 11, none⟩ = some (.string d.rden) := fun v => (v.ok.cell (p := ⟨w.heap.size + 1, 0 + 11, none⟩) hK.lt).trans a11
    have k12 : ∀ v : Qin.In (Below w13.heap.size w13), v.val.cell? ⟨w.heap.size + 1, 0 + 12, none⟩ = some (.int .i64 d.rfrom) := fun v => (v.ok.cell (p := ⟨w.heap.size + 1, 0 + 12, none⟩) hK.lt).trans a12
    clear hK
    refine Qmu.wp_region (C := Cls (Below w13.heap.size w13)) 8 (by kernel_rfl) (by kernel_rfl) (by kernel_rfl) ?_
    simp only [List.length_cons, List.length_nil]
    refine Qmu.takes (s := 8) (cls (Qin.start _ w13)) [0, 1, 2, 4, 5] 4 _ _ _ (fun _ => cls (Qin.start _ w13)) (by decide) (by kernel_rfl) ?_
    simp only [List.filterMap_cons, List.filterMap_nil, List.getElem?_toArray, List.getElem?_cons_zero, List.getElem?_cons_succ]
    change wpQuiet _ _ _ _ [_, _, _, _, _] _
    repeat (go_big_quiet_step (fail))
    refine wpQuiet_nil ?_
    refine Qmu.fork [3] (fun _ => cls (Qin.start w13.heap.size w13)) (by kernel_rfl) (by simp) ⟨?_, trivial⟩
    refine Qmu.by_op rfl (by kernel_rfl) ?_
    go_wp2_with fail
    refine (HF2.out _).mono ?_
    rintro e w14 ⟨rfl, hq⟩
    have HB14 := hide ((Qin.start w13.heap.size w13).trans (hq.mono (Qin.start w13.heap.size w13).size))
    have hs14 := HB14.out.size
    clear hq
    go_wp2_with fail
    refine ⟨rfl, ?_⟩
    refine Qmu.fork [6] (fun _ => cls HB14.out) (by kernel_rfl) (by simp) ⟨?_, trivial⟩
    refine Qmu.by_op rfl (by kernel_rfl) ?_
    go_wp2_with fail
    refine (itoa_env d.rfrom hd.from0 hd.from1 _ (H13.out.below HB14.out).env).mono ?_
    rintro e w15 ⟨rfl, hq⟩
    have HB15 := hide (HB14.out.trans (hq.mono HB14.out.size))
    have hs15 := HB15.out.size
    clear hq
    go_wp2_with fail
    refine ⟨rfl, ?_⟩
    refine Qmu.fork [7] (fun _ => cls HB15.out) (by kernel_rfl) (by simp) ⟨?_, trivial⟩
    refine Qmu.by_op rfl (by kernel_rfl) ?_
    go_wp2_with fail
    refine ⟨rfl, ?_⟩
    refine Qmu.fork [8] (fun _ => cls (HB15.out.alloc (by omega) _)) (by kernel_rfl) (by simp) ⟨?_, trivial⟩
    refine Qmu.by_op rfl (by kernel_rfl) ?_
    have H15 := hide (H13.out.below HB15.out)
    clear k3 k4 k5 k6 k9 k10 k11 k12
    clear a0 a1 a2 a3 a4 a5 a6 a7 a8 a9 a10 a11 a12 a13
    obtain ⟨a0, a1, a2, a3, a4, a5, a6, a7, a8, a9, a10, a11, a12, a13⟩ := H15.out.doc
    go_wp2_with fail
    refine (put4 ⟨#[105, 110, 116, 101, 114, 101, 115, 116]⟩ (st (formatQ d.rate)) ⟨#[102, 114, 111, 109]⟩ (st (Lib.itoa d.rfrom)) H15.out (by decide) hfr (by decide) (Nat.le_trans (itoa_sz hd.from0 hd.from1) (by decide)) (by omega)).mono ?_
    rintro e w16 ⟨rfl, hq⟩
    have HL7 := hide (show l6 ++ ln [(⟨#[105, 110, 116, 101, 114, 101, 115, 116]⟩ : ByteArray).data.toList, ((st (formatQ d.rate)) : ByteArray).data.toList, (⟨#[102, 114, 111, 109]⟩ : ByteArray).data.toList, ((st (Lib.itoa d.rfrom)) : ByteArray).data.toList] = l6 ++ ln [kInterest, formatQ d.rate, kFrom, Lib.itoa d.rfrom] from rfl)
    obtain ⟨l7, hl7⟩ : ∃ l7, l6 ++ ln [(⟨#[105, 110, 116, 101, 114, 101, 115, 116]⟩ : ByteArray).data.toList, ((st (formatQ d.rate)) : ByteArray).data.toList, (⟨#[102, 114, 111, 109]⟩ : ByteArray).data.toList, ((st (Lib.itoa d.rfrom)) : ByteArray).data.toList] = l7 := ⟨_, rfl⟩
    have hb7 : l7.length ≤ l6.length + 2000005 := by rw [← hl7]; exact ln_bd _ _ (by simp) (by simp only [List.mem_cons, List.mem_nil_iff, or_false, forall_eq_or_imp, forall_eq, data_len]; exact ⟨(by decide), hfr, (by decide), (Nat.le_trans (itoa_sz hd.from0 hd.from1) (by decide))⟩)
    rw [hl7] at hq HL7
    have H16 := hide hq
    clear hq hl7
    clear a0 a1 a2 a3 a4 a5 a6 a7 a8 a9 a10 a11 a12 a13
    obtain ⟨a0, a1, a2, a3, a4, a5, a6, a7, a8, a9, a10, a11, a12, a13⟩ := H16.out.doc
    go_wp2_with fail
    refine ⟨rfl, ?_⟩
    refine Qmu.by_end (Qmu.past (by kernel_rfl)) (by kernel_rfl) ?_
    by_cases hsec : 0 ≤ d.sec
    · go_wp2_with fail
      refine (itoa_env d.sec hd.sec0 hd.sec1 _ H16.out.env).mono ?_
      rintro e w17 ⟨rfl, hq⟩
      have H17 := hide (H16.out.below hq)
      clear hq
      clear a0 a1 a2 a3 a4 a5 a6 a7 a8 a9 a10 a11 a12 a13
      obtain ⟨a0, a1, a2, a3, a4, a5, a6, a7, a8, a9, a10, a11, a12, a13⟩ := H17.out.doc
      go_wp2_with fail
      refine (put2 ⟨#[115, 101, 99, 117, 114, 101, 100]⟩ (st (Lib.itoa d.sec)) H17.out (by decide) (Nat.le_trans (itoa_sz hd.sec0 hd.sec1) (by decide)) (by omega)).mono ?_
      rintro e w18 ⟨rfl, hq⟩
      have HL8 := hide (show l7 ++ ln [(⟨#[115, 101, 99, 117, 114, 101, 100]⟩ : ByteArray).data.toList, ((st (Lib.itoa d.sec)) : ByteArray).data.toList] = l7 ++ ln [kSecured, Lib.itoa d.sec] from rfl)
      obtain ⟨l8, hl8⟩ : ∃ l8, l7 ++ ln [(⟨#[115, 101, 99, 117, 114, 101, 100]⟩ : ByteArray).data.toList, ((st (Lib.itoa d.sec)) : ByteArray).data.toList] = l8 := ⟨_, rfl⟩
      have hb8 : l8.length ≤ l7.length + 2000005 := by rw [← hl8]; exact ln_bd _ _ (by simp) (by simp only [List.mem_cons, List.mem_nil_iff, or_false, forall_eq_or_imp, forall_eq, data_len]; exact ⟨(by decide), (Nat.le_trans (itoa_sz hd.sec0 hd.sec1) (by decide))⟩)
      rw [hl8] at hq HL8
      have H18 := hide hq
      clear hq hl8
      clear a0 a1 a2 a3 a4 a5 a6 a7 a8 a9 a10 a11 a12 a13
      obtain ⟨a0, a1, a2, a3, a4, a5, a6, a7, a8, a9, a10, a11, a12, a13⟩ := H18.out.doc
      go_wp2_with fail
      go_end0
      have hfin : l8 = l ++ docL d := by
        rw [HL8.out, HL7.out, HL6.out, HL5.out, HL4.out, HL3.out, HL2.out, HL1.out]
        unfold docL
        rw [if_pos hr, if_pos hsec]
        simp only [List.append_assoc]
      rw [hfin] at H18
      unfold WriteP
      exact ⟨rfl, H18.out.ib, H18.out.bel, H18.out.kt⟩
    · go_wp2_with fail
      go_end0
      have hfin : l7 = l ++ docL d := by
        rw [HL7.out, HL6.out, HL5.out, HL4.out, HL3.out, HL2.out, HL1.out]
        unfold docL
        rw [if_pos hr, if_neg (show ¬ 0 ≤ d.sec by omega)]
        simp only [List.append_assoc, List.append_nil]
      rw [hfin] at H16
      unfold WriteP
      exact ⟨rfl, H16.out.ib, H16.out.bel, H16.out.kt⟩
  · by_cases hsec : 0 ≤ d.sec
    · go_wp2_with fail
      refine (itoa_env d.sec hd.sec0 hd.sec1 _ H13.out.env).mono ?_
      rintro e w14 ⟨rfl, hq⟩
      have H14 := hide (H13.out.below hq)
      clear hq
      clear a0 a1 a2 a3 a4 a5 a6 a7 a8 a9 a10 a11 a12 a13
      obtain ⟨a0, a1, a2, a3, a4, a5, a6, a7, a8, a9, a10, a11, a12, a13⟩ := H14.out.doc
      go_wp2_with fail
      refine (put2 ⟨#[115, 101, 99, 117, 114, 101, 100]⟩ (st (Lib.itoa d.sec)) H14.out (by decide) (Nat.le_trans (itoa_sz hd.sec0 hd.sec1) (by decide)) (by omega)).mono ?_
      rintro e w15 ⟨rfl, hq⟩
      have HL7 := hide (show l6 ++ ln [(⟨#[115, 101, 99, 117, 114, 101, 100]⟩ : ByteArray).data.toList, ((st (Lib.itoa d.sec)) : ByteArray).data.toList] = l6 ++ ln [kSecured, Lib.itoa d.sec] from rfl)
      obtain ⟨l7, hl7⟩ : ∃ l7, l6 ++ ln [(⟨#[115, 101, 99, 117, 114, 101, 100]⟩ : ByteArray).data.toList, ((st (Lib.itoa d.sec)) : ByteArray).data.toList] = l7 := ⟨_, rfl⟩
      have hb7 : l7.length ≤ l6.length + 2000005 := by rw [← hl7]; exact ln_bd _ _ (by simp) (by simp only [List.mem_cons, List.mem_nil_iff, or_false, forall_eq_or_imp, forall_eq, data_len]; exact ⟨(by decide), (Nat.le_trans (itoa_sz hd.sec0 hd.sec1) (by decide))⟩)
      rw [hl7] at hq HL7
      have H15 := hide hq
      clear hq hl7
      clear a0 a1 a2 a3 a4 a5 a6 a7 a8 a9 a10 a11 a12 a13
      obtain ⟨a0, a1, a2, a3, a4, a5, a6, a7, a8, a9, a10, a11, a12, a13⟩ := H15.out.doc
      go_wp2_with fail
      go_end0
      have hfin : l7 = l ++ docL d := by
        rw [HL7.out, HL6.out, HL5.out, HL4.out, HL3.out, HL2.out, HL1.out]
        unfold docL
        rw [if_neg (show ¬ 0 < sgnQ d.rate by omega), if_pos hsec]
        simp only [List.append_assoc, List.append_nil]
      rw [hfin] at H15
      unfold WriteP
      exact ⟨rfl, H15.out.ib, H15.out.bel, H15.out.kt⟩
    · go_wp2_with fail
      go_end0
      have hfin : l6 = l ++ docL d := by
        rw [HL6.out, HL5.out, HL4.out, HL3.out, HL2.out, HL1.out]
        unfold docL
        rw [if_neg (show ¬ 0 < sgnQ d.rate by omega), if_neg (show ¬ 0 ≤ d.sec by omega)]
        simp only [List.append_assoc, List.append_nil]
      rw [hfin] at H13
      unfold WriteP
      exact ⟨rfl, H13.out.ib, H13.out.bel, H13.out.kt⟩
end Go.Proofs.YtghbhchkdomfhaaGreatDoor.PfR
namespace Go.Proofs.YtghbhchkdomfhaaGreatDoor.PfT
open Go.RowKit Wd RoL RnD RnW RnQ RnR RnP RpE RpF RtA PqB PfS PfB PfA PfD PfE PfH PfI PfO PfP PfQ PfR
def idL (s : ByteArray) : Lit := .string s.data.toList
/-- a map in memory that holds true at the names seen -/
def SeenAt (w : World) (m n : Nat) (ids : List ByteArray) : Prop :=
  w.ownsMap (H := Unit) Tryz.prog 9 (plainElem Tryz.prog 4) m n (Maps.setOf (.lit (.bool true)) (ids.map idL)) ∧ ids.length ≤ n
def seenB (ids : List ByteArray) (s : ByteArray) : Bool := ids.any fun x => x.toList == s.toList
theorem idL_key (s : ByteArray) : WideAt.IsKeyLit (idL s) := trivial
theorem zeroB (w : World) : (zeroValue 4).run Tryz.prog w = .ok (.bool false) w := by simp [Tryz.zeroValue4]
theorem fold_at (u z : DataW Unit) (k : Lit) : ∀ (acc : List Lit) (m : DataW Unit), Maps.IsMap m → (∀ x ∈ acc, WideAt.IsKeyLit x) → (acc.foldl (fun m x => m.put x u) m).atKey k z = if acc.any (fun x => x.sameKey k) = true then u else m.atKey k z
  | [], m, _, _ => by simp
  | x :: r, m, hm, h => by
    rw [List.foldl_cons, fold_at u z k r (m.put x u) (hm.put x u) (fun y hy => h y (by simp [hy])), List.any_cons]
    by_cases e : k = x
    · subst e
      rw [Maps.atKey_put_same hm (h k (by simp)), WideAt.sameKey_self (h k (by simp))]
      simp
    · rw [Maps.atKey_put_other e, Maps.sameKey_ne (fun e' => e e'.symm)]
      simp
theorem set_at (ids : List ByteArray) (s : ByteArray) : (Maps.setOf (H := Unit) (.lit (.bool true)) (ids.map idL)).atKey (idL s) (.lit (.bool false)) = .lit (.bool (seenB ids s)) := by
  unfold Maps.setOf
  rw [fold_at _ _ _ _ _ Maps.isMap_empty (fun y hy => by obtain ⟨z, _, rfl⟩ := List.mem_map.1 hy; exact idL_key z), List.any_map]
  have e : ((fun x : Lit => x.sameKey (idL s)) ∘ idL) = fun x : ByteArray => x.toList == s.toList := by
    funext x
    show (x.data.toList == s.data.toList) = _
    rw [ByteArray.toList_eq, ByteArray.toList_eq]
  rw [e]
  show (if seenB ids s = true then _ else _) = _
  cases seenB ids s <;> rfl
theorem plain_bool_inv {P : Program} {e : TypeId} (he : P.underlying e = some .bool) {v : Value} {x : Bool} {ps : List MemPlace} (h : plainElem (H := Unit) P e v = some (.lit (.bool x), ps)) : v = .bool x := by
  unfold plainElem at h
  rw [he] at h
  cases v <;> simp at h
  rw [h.1]
theorem SeenAt.look {w : World} {m n : Nat} {ids : List ByteArray} (h : SeenAt w m n ids) (s : ByteArray) (hs : s.size ≤ maxLen) :
    (Instr.lookup 74 (.map (some m)) (.string s) false).run Tryz.prog w = .ok (.bool (seenB ids s)) w := by
  obtain ⟨v, ps, hrun, hv⟩ := h.1.lookup (Maps.string_keyed Tryz.underlying9) Tryz.underlying74 (zeroB w) (plainElem_bool Tryz.underlying4 false) (WideMaps.keyOf_string_mk Tryz.underlying9 hs)
  have e := set_at ids s
  unfold idL at e
  have hv2 : plainElem (H := Unit) Tryz.prog 4 v = some (.lit (.bool (seenB ids s)), ps) := by rw [hv]; exact congrArg some (Prod.ext e rfl)
  rw [hrun, plain_bool_inv Tryz.underlying4 hv2]
theorem SeenAt.add {w : World} {m n : Nat} {ids : List ByteArray} (h : SeenAt w m n ids) (s : ByteArray) (hs : s.size ≤ maxLen) (hn : n < maxLen) :
    ∃ w', (Instr.mapUpdate 74 (.map (some m)) (.string s) (.bool true)).run Tryz.prog w = .ok () w' ∧ SeenAt w' m (n + 1) (ids ++ [s]) ∧ w.grownBy w' (some m) := by
  obtain ⟨w', h1, h2, h3⟩ := h.1.update (Maps.string_keyed Tryz.underlying9) Tryz.underlying74 hn (WideMaps.keyOf_string_mk Tryz.underlying9 hs) (plainElem_bool Tryz.underlying4 true)
  refine ⟨w', h1, ⟨?_, by have := h.2; simp; omega⟩, h3⟩
  rw [List.map_append, List.map_singleton, Maps.setOf_snoc]
  exact h2
theorem SeenAt.lt {w : World} {m n : Nat} {ids : List ByteArray} (h : SeenAt w m n ids) : m < w.heap.size := h.1.lt
theorem SeenAt.block {w w' : World} {m n : Nat} {ids : List ByteArray} (h : SeenAt w m n ids) (e : w'.heap[m]? = w.heap[m]?) : SeenAt w' m n ids := by
  obtain ⟨⟨es, clock, hb, r⟩, h2⟩ := h
  exact ⟨⟨es, clock, e.trans hb, r⟩, h2⟩
theorem SeenAt.below {w w' : World} {m n : Nat} {ids : List ByteArray} (h : SeenAt w m n ids) (hb : Below w.heap.size w w') : SeenAt w' m n ids := h.block (hb.block m h.lt)
theorem SeenAt.kt {w w' : World} {b m n : Nat} {ids : List ByteArray} (h : SeenAt w m n ids) (hk : KT b w w') (hm : m ≠ b) : SeenAt w' m n ids := by
  refine h.block (hk.block m h.lt hm ?_)
  obtain ⟨⟨es, clock, hb, r⟩, h2⟩ := h
  intro L f e
  rw [hb] at e
  injection e with e
  exact Obj.noConfusion e
theorem SeenAt.made (w : World) : SeenAt (w.alloc (.map #[] 0)) w.heap.size 0 [] := ⟨World.ownsMap_made w _ _ _, Nat.le_refl _⟩
end Go.Proofs.YtghbhchkdomfhaaGreatDoor.PfT
namespace Go.Proofs.YtghbhchkdomfhaaGreatDoor.PfU
open Go.RowKit Wd RoL RnD RnW RnQ RnR RnP RpE RpF RtA PqB PfS PfB PfA PfD PfE PfH PfI PfO PfP PfQ PfR PfT
/-- the text of documents -/
def textD (l : List Dc) : List UInt8 := l.flatMap docL
/-- the first error of documents, behind the names ids -/
def errD : List ByteArray → List Dc → Int
  | _, [] => 0
  | ids, d :: l => if checkD d ≠ 0 then checkD d else if seenB ids d.id = true then 12 else errD (ids ++ [d.id]) l
/-- what Format returns -/
def fmtD (l : List Dc) : List UInt8 × Int :=
  if 64 < l.length then ([], 2) else if errD [] l ≠ 0 then ([], errD [] l) else if 8192 < (textD l).length ∨ 512 < Lib.count (textD l) [10] then ([], 2) else (textD l, 0)
theorem textD_snoc (l : List Dc) (x : Dc) : textD (l ++ [x]) = textD l ++ docL x := by simp [textD]
theorem take_snoc {α : Type} {l : List α} {k : Nat} {r : α} (h : l[k]? = some r) : l.take (k + 1) = l.take k ++ [r] := by rw [List.take_add_one, h]; rfl
theorem err_check {l : List Dc} {k : Nat} {d : Dc} {ids : List ByteArray} (hd : l[k]? = some d) (h : checkD d ≠ 0) : errD ids (l.drop k) = checkD d := by
  obtain ⟨hk, rfl⟩ := List.getElem?_eq_some_iff.1 hd
  rw [List.drop_eq_getElem_cons hk, errD, if_pos h]
theorem err_twice {l : List Dc} {k : Nat} {d : Dc} {ids : List ByteArray} (hd : l[k]? = some d) (h : checkD d = 0) (h1 : seenB ids d.id = true) : errD ids (l.drop k) = 12 := by
  obtain ⟨hk, rfl⟩ := List.getElem?_eq_some_iff.1 hd
  rw [List.drop_eq_getElem_cons hk, errD, if_neg (by rw [h]; simp), if_pos h1]
theorem err_on {l : List Dc} {k : Nat} {d : Dc} {ids : List ByteArray} (hd : l[k]? = some d) (h : checkD d = 0) (h1 : seenB ids d.id = false) : errD ids (l.drop k) = errD (ids ++ [d.id]) (l.drop (k + 1)) := by
  obtain ⟨hk, rfl⟩ := List.getElem?_eq_some_iff.1 hd
  rw [List.drop_eq_getElem_cons hk, errD, if_neg (by rw [h]; simp), if_neg (by rw [h1]; simp)]
theorem err_end (l : List Dc) (ids : List ByteArray) : errD ids (l.drop l.length) = 0 := by rw [List.drop_eq_nil_of_le (Nat.le_refl _)]; rfl
theorem fmt_long {l : List Dc} (h : 64 < l.length) : fmtD l = ([], 2) := by unfold fmtD; rw [if_pos h]
theorem fmt_err {l : List Dc} {c : Int} (h : ¬ 64 < l.length) (he : errD [] l = c) (hc : c ≠ 0) : fmtD l = ([], c) := by
  unfold fmtD; rw [if_neg h, if_pos (by rw [he]; exact hc), he]
theorem fmt_big {l : List Dc} (h : ¬ 64 < l.length) (he : errD [] l = 0) (hb : 8192 < (textD l).length ∨ 512 < Lib.count (textD l) [10]) : fmtD l = ([], 2) := by
  unfold fmtD; rw [if_neg h, if_neg (by rw [he]; simp), if_pos hb]
theorem fmt_ok {l : List Dc} (h : ¬ 64 < l.length) (he : errD [] l = 0) (hb : ¬ 8192 < (textD l).length) (hc : ¬ 512 < Lib.count (textD l) [10]) : fmtD l = (textD l, 0) := by
  unfold fmtD; rw [if_neg h, if_neg (by rw [he]; simp), if_neg (by rw [not_or]; exact ⟨hb, hc⟩)]
theorem check_parts {d : Dc} (h : checkD d = 0) : NmA.nmB d.id = true ∧ codeB d.code.data.toList = true := by
  unfold checkD at h
  cases h1 : NmA.nmB d.id
  · rw [if_pos h1] at h; omega
  rw [if_neg (by rw [h1]; simp)] at h
  refine ⟨rfl, ?_⟩
  cases h4 : codeB d.code.data.toList
  · split at h
    · omega
    · split at h
      · omega
      · omega
  · rfl
theorem ln2 (a b : List UInt8) : (ln [a, b]).length = a.length + b.length + 2 := by unfold ln; rw [List.length_append, Lib.join_length]; simp [Lib.lens]; omega
theorem ln3 (a b c : List UInt8) : (ln [a, b, c]).length = a.length + b.length + c.length + 3 := by unfold ln; rw [List.length_append, Lib.join_length]; simp [Lib.lens]; omega
theorem ln4 (a b c d : List UInt8) : (ln [a, b, c, d]).length = a.length + b.length + c.length + d.length + 4 := by unfold ln; rw [List.length_append, Lib.join_length]; simp [Lib.lens]; omega
theorem nm_small {s : ByteArray} (h : NmA.nmB s = true) : s.size ≤ 32 := by
  unfold NmA.nmB at h
  simp only [Bool.and_eq_true, decide_eq_true_eq] at h
  exact h.2.1
theorem code_small {l : List UInt8} (h : codeB l = true) : l.length = 3 := by
  unfold codeB at h
  simp only [Bool.and_eq_true, decide_eq_true_eq] at h
  exact h.2
theorem doc_len {d : Dc} (h : checkD d = 0) (hd : Wr d) : (docL d).length ≤ 801000 := by
  obtain ⟨h1, h2⟩ := check_parts h
  have e1 : d.id.data.toList.length ≤ 32 := by rw [data_len]; exact nm_small h1
  have e2 := code_small h2
  have e3 := fq_size (b := d.neg) hd.num hd.den
  have e4 := fq_size (b := d.rneg) hd.rnum hd.rden
  have e5 := itoa_sz hd.est0 hd.est1
  have e6 := itoa_sz hd.cred0 hd.cred1
  have e7 := itoa_sz hd.inc0 hd.inc1
  have e8 := itoa_sz hd.rank0 hd.rank1
  have e9 := itoa_sz hd.from0 hd.from1
  have e10 := itoa_sz hd.sec0 hd.sec1
  rw [st_size] at e3 e4 e5 e6 e7 e8 e9 e10
  change (formatQ d.amt).length ≤ _ at e3
  change (formatQ d.rate).length ≤ _ at e4
  unfold docL
  simp only [List.length_append, ln2, ln3]
  have a1 : (if 0 < sgnQ d.rate then ln [kInterest, formatQ d.rate, kFrom, Lib.itoa d.rfrom] else []).length ≤ 400100 := by
    split
    · rw [ln4]; show 8 + _ + 4 + _ + 4 ≤ _; omega
    · simp
  have a2 : (if 0 ≤ d.sec then ln [kSecured, Lib.itoa d.sec] else []).length ≤ 100 := by
    split
    · rw [ln2]; show 7 + _ + 2 ≤ _; omega
    · simp
  have k1 : kProof.length = 5 := rfl
  have k2 : kEstate.length = 6 := rfl
  have k3 : kCreditor.length = 8 := rfl
  have k4 : kAmount.length = 6 := rfl
  have k5 : kIncurred.length = 8 := rfl
  have k6 : kRank.length = 4 := rfl
  omega
def okAll (l : List Dc) : Prop := ∀ d ∈ l, checkD d = 0
theorem text_len : ∀ (l : List Dc), okAll l → (∀ x ∈ l, Wr x) → (textD l).length ≤ 801000 * l.length
  | [], _, _ => by simp [textD]
  | x :: l, h, hf => by
    have h1 := text_len l (fun y hy => h y (by simp [hy])) (fun y hy => hf y (by simp [hy]))
    have h2 := doc_len (h x (by simp)) (hf x (by simp))
    unfold textD at h1 ⊢
    rw [List.flatMap_cons, List.length_append, List.length_cons]
    omega
theorem ok_snoc {l : List Dc} {k : Nat} {x : Dc} (h : l[k]? = some x) (ha : okAll (l.take k)) (hx : checkD x = 0) : okAll (l.take (k + 1)) := by
  rw [take_snoc h]
  intro d hd
  rcases List.mem_append.1 hd with hd | hd
  · exact ha d hd
  · rw [List.mem_singleton.1 hd]; exact hx
theorem Wr.ok {d : Dc} (h : Wr d) : Dc.Ok d := ⟨h.id, h.code, h.num, h.den, h.rnum, h.rden, h.sec0, h.sec1⟩
def FmtP (p : List UInt8 × Int) (w : World) (e : Ending) (w' : World) : Prop := e = .returned (.tuple #[.string (st p.1), .int .i64 p.2]) ∧ Below w.heap.size w w'
theorem fmt_post {p q : List UInt8 × Int} {w w' : World} (h : p = q) (hb : Below w.heap.size w w') : FmtP p w (.returned (.tuple #[.string (st q.1), .int .i64 q.2])) w' := ⟨by rw [h], hb⟩
/-- the state of Format's loop -/
structure Fs (l : List Dc) (k : Nat) (ids : List ByteArray) (w wr : World) : Prop where
  err : errD [] l = errD ids (l.drop k)
  ok : okAll (l.take k)
  ib : Lib.IsBuilder 73 5 w.heap.size w.heap.size (Lib.byteCells (textD (l.take k))) wr
  seen : SeenAt wr (w.heap.size + 1) k ids
  bel : Below w.heap.size w wr
theorem Fs.below {l : List Dc} {k : Nat} {ids : List ByteArray} {w wr w' : World} (h : Fs l k ids w wr) (hb : Below wr.heap.size wr w') : Fs l k ids w w' :=
  ⟨h.err, h.ok, builder_below h.ib hb, h.seen.below hb, h.bel.trans (hb.mono h.bel.size)⟩
theorem builder_grown {B b m n : Nat} {bs : List Value} {ids : List ByteArray} {w w' : World} (h : Lib.IsBuilder 73 5 B b bs w) (hs : SeenAt w m n ids) (hg : w.grownBy w' (some m)) (hm : m ≠ b) : Lib.IsBuilder 73 5 B b bs w' := by
  obtain ⟨⟨es, clock, hb, r⟩, h2⟩ := hs
  have key : ∀ p, Lib.BuilderAt 73 5 B b p bs w → Lib.BuilderAt 73 5 B b p bs w' := by
    intro p hp
    have hlt := hp.lt
    obtain ⟨h1, v, h2, h3, h4⟩ := hp
    refine ⟨h1, v, (hg.block b hlt (fun e => hm (by injection e with e; exact e.symm))).trans h2, h3.kept hg (Or.inr ?_), h4⟩
    intro e
    rcases h3.2 with ⟨rfl, _⟩ | ⟨g, cap, cur, rfl, _, hg2, _⟩
    · simp [Value.ownBlock] at e
    · simp only [Value.ownBlock, Option.some.injEq] at e
      subst e
      rw [hb] at hg2
      injection hg2 with e
      exact Obj.noConfusion e
  rcases h with h | h
  · exact .inl (key _ h)
  · exact .inr (key _ h)
theorem blkT_grown {w w' : World} {g m : Nat} {T : TypeId} {L : List Value} (h : BlkT w g T L) (hg : w.grownBy w' (some m)) (hm : g ≠ m) : BlkT w' g T L :=
  (hg.block g h.lt (fun e => hm (by injection e))).trans h
theorem fs_start (l : List Dc) (w : World) : Fs l 0 [] w ((w.alloc (.cells #[.pointer none, .slice none 0 0] 73)).alloc (.map #[] 0)) := by
  have hs1 : (w.alloc (.cells #[.pointer none, .slice none 0 0] 73)).heap.size = w.heap.size + 1 := by simp
  have hi := Lib.fresh_isBuilder 73 5 w
  have hb : Below w.heap.size w (w.alloc (.cells #[.pointer none, .slice none 0 0] 73)) := (Below.refl _ _).alloc (Nat.le_refl _) _
  generalize w.alloc (.cells #[.pointer none, .slice none 0 0] 73) = V at *
  have hb2 : Below V.heap.size V (V.alloc (.map #[] 0)) := (Below.refl _ _).alloc (Nat.le_refl _) _
  refine ⟨rfl, fun d hd => by simp at hd, builder_below hi hb2, ?_, hb.trans (hb2.mono hb.size)⟩
  rw [← hs1]
  exact SeenAt.made V
set_option maxHeartbeats 8000000 in
set_option maxRecDepth 100000 in
theorem format_docs (l : List Dc) (A : Option Addr) (c : Nat) (w : World) (h : DocsAt w A l) (hf : ∀ x ∈ l, Wr x) (he : EnvT w) :
    Calls Tryz.prog 20 #[.slice A l.length c] w (FmtP (fmtD l) w) := by
  have hlen := h.1
  unfold maxLen at hlen
  have H := hide h
  have HF := Lib.hid hf
  have HE := hide he
  clear h hf he
  by_cases hbig : 64 < l.length
  · have hout := hide (fmt_long hbig)
    go_enter Tryz.func20, Tryz.ntmps20
    go_wp2_with fail
    go_ret2
    exact fmt_post hout.out (Below.refl _ _)
  · have HB := hide hbig
    have hb' : l.length ≤ 64 := by omega
    clear hbig
    have hmm := @run_makeMap Tryz.prog
    have HST := hide (fs_start l w)
    go_enter Tryz.func20, Tryz.ntmps20
    go_wp2_with fail
    clear hmm
    go_loopw [16, 7, 8] (fun vi _ _ wr => ∃ (k : Nat) (ids : List ByteArray), k ≤ l.length ∧ vi = .int .i64 k ∧ Hid (Fs l k ids w wr)) (fun vi _ _ _ => l.length - (intOf vi).toNat)
    case atStart => exact ⟨0, [], by omega, rfl, HST⟩
    case round =>
      clear HST
      obtain ⟨k, ids, hk, rfl, HS⟩ := hrel
      by_cases hlt : k < l.length
      · obtain ⟨x, hx⟩ : ∃ r, l[k]? = some r := ⟨_, List.getElem?_eq_getElem hlt⟩
        have hfx := HF.out x (List.mem_of_getElem? hx)
        obtain ⟨b1, o1, rfl, hb1, p0, p1, p2, p3, p4, p5, p6, p7, p8, p9, p10, p11, p12, p13⟩ := (H.out.below HS.out.bel).full hx
        obtain ⟨V, hV, HX, HBV, hsV⟩ := doc_new wr x
        have HCK := Lib.hid (check_any x V (Wr.ok hfx))
        unfold PfA.Dc.agg at HCK
        have HSV := hide (HS.out.below HBV.out)
        have HXX := hide hx
        have hidm : x.id.size ≤ maxLen := by have := hfx.id; unfold maxLen; omega
        have hwr := HS.out.bel.size
        have hml := HS.out.seen.lt
        obtain ⟨d0, d1, d2, d3, d4, d5, d6, d7, d8, d9, d10, d11, d12, d13⟩ := doc_at HX.out
        obtain ⟨cd, hcd⟩ : ∃ cd, checkD x = cd := ⟨_, rfl⟩
        rw [hcd] at HCK
        have HCD := hide hcd
        clear hx hcd
        by_cases h0 : cd = 0
        · subst h0
          cases hsn : seenB ids x.id
          · have HER := hide (err_on HXX.out HCD.out hsn)
            have HSN := hide hsn
            clear hsn
            go_wp2_with fail
            refine HCK.out.mono ?_
            rintro e w3 ⟨rfl, hb3⟩
            have HS3 := hide (HSV.out.below hb3)
            have HX3 := hide (HX.out.below hb3)
            have hw3 := hb3.size
            have hlook := HS3.out.seen.look x.id hidm
            rw [HSN.out] at hlook
            obtain ⟨w4, hupd, hS4, hg4⟩ := HS3.out.seen.add x.id hidm (by unfold maxLen; omega)
            have HS4 := hide hS4
            have HX4 := hide (blkT_grown HX3.out hg4 (by omega))
            have HI4 := hide (builder_grown HS3.out.ib HS3.out.seen hg4 (by omega))
            have HB4 := hide (HS3.out.bel.grown hg4 HS3.out.bel.size (fun j hj => by injection hj with hj; omega))
            have hw4 := HB4.out.size
            clear hb3 hS4 hg4 d0 d1 d2 d3 d4 d5 d6 d7 d8 d9 d10 d11 d12 d13
            obtain ⟨d0, d1, d2, d3, d4, d5, d6, d7, d8, d9, d10, d11, d12, d13⟩ := doc_at HX3.out
            obtain ⟨e0, e1, e2, e3, e4, e5, e6, e7, e8, e9, e10, e11, e12, e13⟩ := doc_at HX4.out
            go_wp2_with fail
            have htl := text_len (l.take k) HS.out.ok (fun y hy => HF.out y (List.mem_of_mem_take hy))
            rw [List.length_take] at htl
            refine (write_any w.heap.size w.heap.size x (textD (l.take k)) w4 HI4.out (HE.out.down HB4.out HE.out.1) HE.out.1 (by have := HS4.out.lt; omega) (by omega) hfx (by omega)).mono ?_
            rintro e w5 ⟨rfl, hi5, hb5, hk5⟩
            have HS5 : Hid (Fs l (k + 1) (ids ++ [x.id]) w w5) := ⟨HS.out.err.trans HER.out, ok_snoc HXX.out HS.out.ok HCD.out, by rw [take_snoc HXX.out, textD_snoc]; exact hi5, HS4.out.kt hk5 (by omega), HB4.out.trans hb5⟩
            clear hi5 hb5 hk5 htl hlook hupd
            go_wp2_with fail
            go_roundw
            case rel => exact ⟨k + 1, ids ++ [x.id], by omega, by go_num, HS5⟩
            case measure => simp [intOf]; omega
          · have HER := hide (fmt_err HB.out (HS.out.err.trans (err_twice HXX.out HCD.out hsn)) (by decide))
            have HSN := hide hsn
            clear hsn
            go_wp2_with fail
            refine HCK.out.mono ?_
            rintro e w3 ⟨rfl, hb3⟩
            have HS3 := hide (HSV.out.below hb3)
            have HX3 := hide (HX.out.below hb3)
            have hlook := HS3.out.seen.look x.id hidm
            rw [HSN.out] at hlook
            clear hb3 d0 d1 d2 d3 d4 d5 d6 d7 d8 d9 d10 d11 d12 d13
            obtain ⟨d0, d1, d2, d3, d4, d5, d6, d7, d8, d9, d10, d11, d12, d13⟩ := doc_at HX3.out
            go_wp2_with fail
            go_ret2
            exact fmt_post HER.out HS3.out.bel
        · have HER := hide (fmt_err HB.out ((HS.out.err.trans (err_check HXX.out (by rw [HCD.out]; exact h0))).trans HCD.out) h0)
          have hb0 : (cd != 0) = true := by simpa using h0
          clear h0
          go_wp2_with fail
          refine HCK.out.mono ?_
          rintro e w3 ⟨rfl, hb3⟩
          have HS3 := hide (HSV.out.below hb3)
          clear hb3
          go_wp2_with fail
          go_ret2
          exact fmt_post HER.out HS3.out.bel
      · obtain rfl : k = l.length := by omega
        have hal := HS.out.ok
        rw [List.take_length] at hal
        have htl := text_len l hal HF.out
        have hib := HS.out.ib
        rw [List.take_length] at hib
        have HIB := hide hib
        have HER := hide (HS.out.err.trans (err_end l ids))
        have HBR := hide HS.out.bel
        have hsz := HS.out.bel.size
        have hst : (st (textD l)).size ≤ 60000000 := by rw [st_size]; omega
        have hst2 := st_size (textD l)
        have HCN := Lib.hid (fun (s : ByteArray) m w h hm => Any.strings_Count_any Tryz.lays138 s ⟨#[10]⟩ m w h hm (by decide))
        have HSR := Lib.hid (Tryz.Builder_String_any w.heap.size w.heap.size (textD l) wr hib hsz)
        change Hid (Calls _ _ _ wr fun e w' => e = .returned (.string (st (textD l))) ∧ Below w.heap.size wr w') at HSR
        have hcn : Lib.countB (st (textD l)) ⟨#[10]⟩ = Lib.count (textD l) [10] := rfl
        have H1 := Lib.hid (fun hb hc => fmt_ok (l := l) HB.out HER.out hb hc)
        have H2 := Lib.hid (fun hb => fmt_big (l := l) HB.out HER.out hb)
        rw [← hcn] at H1 H2
        rw [← hst2] at H1 H2
        obtain ⟨cn, hcc⟩ : ∃ cn, Lib.countB (st (textD l)) ⟨#[10]⟩ = cn := ⟨_, rfl⟩
        have HCC := hide hcc
        rw [hcc] at H1 H2
        clear hal htl hib HS hcn hst2 hcc
        generalize hT : st (textD l) = T at *
        have HT := hide hT
        clear hT
        by_cases h8 : 8192 < T.size
        · have HQ := hide (H2.out (.inl h8))
          clear H1 H2
          go_wp2_with fail
          refine HSR.out.mono ?_
          rintro e w3 ⟨rfl, hb3⟩
          have HB3 := hide (HBR.out.trans hb3)
          clear hb3
          go_wp2_with fail
          go_ret2
          exact fmt_post HQ.out HB3.out
        · by_cases h5 : 512 < cn
          · have HQ := hide (H2.out (.inr h5))
            clear H1 H2
            go_wp2_with fail
            refine HSR.out.mono ?_
            rintro e w3 ⟨rfl, hb3⟩
            have HB3 := hide (HBR.out.trans hb3)
            clear hb3
            go_wp2_with fail
            obtain ⟨_, ⟨_, m, hm⟩, _⟩ := HE.out.down HB3.out HE.out.1
            refine (HCN.out _ m _ (by omega) hm).mono ?_
            rintro e w4 ⟨rfl, rfl⟩
            rw [HCC.out]
            go_wp2_with fail
            go_ret2
            exact fmt_post HQ.out HB3.out
          · have HQ := hide (H1.out h8 h5)
            clear H1 H2
            go_wp2_with fail
            refine HSR.out.mono ?_
            rintro e w3 ⟨rfl, hb3⟩
            have HB3 := hide (HBR.out.trans hb3)
            clear hb3
            go_wp2_with fail
            obtain ⟨_, ⟨_, m, hm⟩, _⟩ := HE.out.down HB3.out HE.out.1
            refine (HCN.out _ m _ (by omega) hm).mono ?_
            rintro e w4 ⟨rfl, rfl⟩
            rw [HCC.out]
            go_wp2_with fail
            go_ret2
            have hf := fmt_post HQ.out HB3.out
            rw [show st (textD l, (0 : Int)).1 = T from HT.out] at hf
            exact hf
end Go.Proofs.YtghbhchkdomfhaaGreatDoor.PfU
