/- The walk of the reference's CheckProof. -/
import Derived.Test.YtghbhchkdomfhaaGreatDoorPgI
namespace Go.Proofs.YtghbhchkdomfhaaGreatDoor.PgJ
open Go.RowKit Wd RoL RnW RnQ RnR RnP RtA RpC RpF PqB PfS PfB PfA PfD PfE PfH PfI PfO
theorem in_no {n m : Int} (h : inB n m = false) : n < 0 ∨ m < n := by
  unfold inB at h
  simp only [Bool.and_eq_false_iff, decide_eq_false_iff_not] at h
  omega
theorem in_yes {n m : Int} (h : inB n m = true) : 0 ≤ n ∧ n ≤ m := by simpa [inB] using h
set_option maxHeartbeats 16000000 in
set_option maxRecDepth 100000 in
theorem rcheck_any (d : Dc) (w : World) (hd : Dc.Ok d) :
    Calls Tryz.prog 16 #[d.agg] w fun e w' => e = .returned (.int .i64 (checkD d)) ∧ Below w.heap.size w w' := by
  have HN := Lib.hid (fun w => NmA.rnm_any d.id w (by have := hd.id; unfold maxLen; omega))
  have HC := Lib.hid (fun w => rcode_any d.code w (by have := hd.code; unfold maxLen; omega))
  have HS1 := Lib.hid (fun w => RtH.rsign_any d.neg d.num d.den w (by have := hd.num; omega) (by have := hd.den; omega))
  have HS2 := Lib.hid (fun w => RtH.rsign_any d.rneg d.rnum d.rden w (by have := hd.rnum; omega) (by have := hd.rden; omega))
  have HDY := Lib.hid (fun n w => day_any n w)
  change Hid (∀ (n : Int) (w : World), Calls _ _ #[.int .i64 n] w (fun e w' => e = .returned (.bool (inB n 1048576)) ∧ w = w')) at HDY
  change Hid (∀ (w : World), Calls _ _ _ w fun e w' => e = .returned (.int .i64 (sgnQ d.amt)) ∧ Below w.heap.size w w') at HS1
  change Hid (∀ (w : World), Calls _ _ _ w fun e w' => e = .returned (.int .i64 (sgnQ d.rate)) ∧ Below w.heap.size w w') at HS2
  obtain ⟨V, hV, HX, HBV, hsV⟩ := doc_new w d
  obtain ⟨a0, a1, a2, a3, a4, a5, a6, a7, a8, a9, a10, a11, a12, a13⟩ := doc_at HX.out
  unfold PfA.Dc.agg
  go_enter Tryz.func16, Tryz.ntmps16
  go_wp2_with fail
  cases h1 : NmA.nmB d.id
  · have HQ : Hid (checkD d = 11) := by show _ = _; unfold checkD; rw [if_pos h1]
    refine (HN.out _).mono ?_
    rintro e w2 ⟨rfl, rfl⟩
    go_wp2_with fail
    go_ret
    rw [HQ.out]
    exact ⟨rfl, HBV.out⟩
  · refine (HN.out _).mono ?_
    rintro e w2 ⟨rfl, rfl⟩
    cases h2 : inB d.est 7
    · rcases in_no h2 with hx | hx
      · have HQ : Hid (checkD d = 1) := by show _ = _; unfold checkD; rw [if_neg (by simp [h1]), if_pos h2]
        go_wp2_with fail
        go_ret
        rw [HQ.out]
        exact ⟨rfl, HBV.out⟩
      · have hy : ¬ d.est < 0 := by omega
        have HQ : Hid (checkD d = 1) := by show _ = _; unfold checkD; rw [if_neg (by simp [h1]), if_pos h2]
        go_wp2_with fail
        go_ret
        rw [HQ.out]
        exact ⟨rfl, HBV.out⟩
    · obtain ⟨e1, e2⟩ := in_yes h2
      have e1b : ¬ d.est < 0 := by omega
      have e2b : ¬ 8 ≤ d.est := by omega
      cases h3 : inB d.cred 31
      · rcases in_no h3 with hx | hx
        · have HQ : Hid (checkD d = 1) := by show _ = _; unfold checkD; rw [if_neg (by simp [h1]), if_neg (by simp [h2]), if_pos h3]
          go_wp2_with fail
          go_ret
          rw [HQ.out]
          exact ⟨rfl, HBV.out⟩
        · have hy : ¬ d.cred < 0 := by omega
          have HQ : Hid (checkD d = 1) := by show _ = _; unfold checkD; rw [if_neg (by simp [h1]), if_neg (by simp [h2]), if_pos h3]
          go_wp2_with fail
          go_ret
          rw [HQ.out]
          exact ⟨rfl, HBV.out⟩
      · obtain ⟨f1, f2⟩ := in_yes h3
        have f1b : ¬ d.cred < 0 := by omega
        have f2b : ¬ 32 ≤ d.cred := by omega
        go_wp2_with fail
        cases h4 : codeB d.code.data.toList
        · have HQ : Hid (checkD d = 8) := by show _ = _; unfold checkD; rw [if_neg (by simp [h1]), if_neg (by simp [h2]), if_neg (by simp [h3]), if_pos h4]
          refine (HC.out _).mono ?_
          rintro e w2 ⟨rfl, rfl⟩
          go_wp2_with fail
          go_ret
          rw [HQ.out]
          exact ⟨rfl, HBV.out⟩
        · refine (HC.out _).mono ?_
          rintro e w2 ⟨rfl, rfl⟩
          go_wp2_with fail
          by_cases h5 : sgnQ d.amt < 0
          · have HQ : Hid (checkD d = 7) := by show _ = _; unfold checkD; rw [if_neg (by simp [h1]), if_neg (by simp [h2]), if_neg (by simp [h3]), if_neg (by simp [h4]), if_pos h5]
            refine (HS1.out _).mono ?_
            rintro e w12 ⟨rfl, hb⟩
            have HX12 := hide (HX.out.below hb)
            have HB12 := hide (HBV.out.trans (hb.mono (Nat.le_of_lt hsV)))
            have hs12V : w.heap.size < w12.heap.size := Nat.lt_of_lt_of_le hsV hb.size
            clear hb a0 a1 a2 a3 a4 a5 a6 a7 a8 a9 a10 a11 a12 a13
            obtain ⟨a0, a1, a2, a3, a4, a5, a6, a7, a8, a9, a10, a11, a12, a13⟩ := doc_at HX12.out
            go_wp2_with fail
            go_ret
            rw [HQ.out]
            exact ⟨rfl, HB12.out⟩
          · refine (HS1.out _).mono ?_
            rintro e w12 ⟨rfl, hb⟩
            have HX12 := hide (HX.out.below hb)
            have HB12 := hide (HBV.out.trans (hb.mono (Nat.le_of_lt hsV)))
            have hs12V : w.heap.size < w12.heap.size := Nat.lt_of_lt_of_le hsV hb.size
            clear hb a0 a1 a2 a3 a4 a5 a6 a7 a8 a9 a10 a11 a12 a13
            obtain ⟨a0, a1, a2, a3, a4, a5, a6, a7, a8, a9, a10, a11, a12, a13⟩ := doc_at HX12.out
            go_wp2_with fail
            cases h6 : inB d.inc 1048576
            · have HQ : Hid (checkD d = 1) := by show _ = _; unfold checkD; rw [if_neg (by simp [h1]), if_neg (by simp [h2]), if_neg (by simp [h3]), if_neg (by simp [h4]), if_neg (by omega), if_pos h6]
              refine (HDY.out _ _).mono ?_
              rintro e w2 ⟨rfl, rfl⟩
              rw [h6]
              go_wp2_with fail
              go_ret
              rw [HQ.out]
              exact ⟨rfl, HB12.out⟩
            · refine (HDY.out _ _).mono ?_
              rintro e w2 ⟨rfl, rfl⟩
              rw [h6]
              cases h7 : inB d.rank 7
              · rcases in_no h7 with hx | hx
                · have HQ : Hid (checkD d = 1) := by show _ = _; unfold checkD; rw [if_neg (by simp [h1]), if_neg (by simp [h2]), if_neg (by simp [h3]), if_neg (by simp [h4]), if_neg (by omega), if_neg (by simp [h6]), if_pos h7]
                  go_wp2_with fail
                  go_ret
                  rw [HQ.out]
                  exact ⟨rfl, HB12.out⟩
                · have hy : ¬ d.rank < 0 := by omega
                  have HQ : Hid (checkD d = 1) := by show _ = _; unfold checkD; rw [if_neg (by simp [h1]), if_neg (by simp [h2]), if_neg (by simp [h3]), if_neg (by simp [h4]), if_neg (by omega), if_neg (by simp [h6]), if_pos h7]
                  go_wp2_with fail
                  go_ret
                  rw [HQ.out]
                  exact ⟨rfl, HB12.out⟩
              · obtain ⟨g1, g2⟩ := in_yes h7
                have g1b : ¬ d.rank < 0 := by omega
                have g2b : ¬ 7 < d.rank := by omega
                go_wp2_with fail
                by_cases h8 : sgnQ d.rate < 0
                · have HQ : Hid (checkD d = 7) := by show _ = _; unfold checkD; rw [if_neg (by simp [h1]), if_neg (by simp [h2]), if_neg (by simp [h3]), if_neg (by simp [h4]), if_neg (by omega), if_neg (by simp [h6]), if_neg (by simp [h7]), if_pos h8]
                  refine (HS2.out _).mono ?_
                  rintro e w13 ⟨rfl, hb⟩
                  have HX13 := hide (HX12.out.below hb)
                  have HB13 := hide (HB12.out.trans (hb.mono (Nat.le_of_lt hs12V)))
                  have hs13V : w.heap.size < w13.heap.size := Nat.lt_of_lt_of_le hs12V hb.size
                  clear hb a0 a1 a2 a3 a4 a5 a6 a7 a8 a9 a10 a11 a12 a13
                  obtain ⟨a0, a1, a2, a3, a4, a5, a6, a7, a8, a9, a10, a11, a12, a13⟩ := doc_at HX13.out
                  go_wp2_with fail
                  go_ret
                  rw [HQ.out]
                  exact ⟨rfl, HB13.out⟩
                · refine (HS2.out _).mono ?_
                  rintro e w13 ⟨rfl, hb⟩
                  have HX13 := hide (HX12.out.below hb)
                  have HB13 := hide (HB12.out.trans (hb.mono (Nat.le_of_lt hs12V)))
                  have hs13V : w.heap.size < w13.heap.size := Nat.lt_of_lt_of_le hs12V hb.size
                  clear hb a0 a1 a2 a3 a4 a5 a6 a7 a8 a9 a10 a11 a12 a13
                  obtain ⟨a0, a1, a2, a3, a4, a5, a6, a7, a8, a9, a10, a11, a12, a13⟩ := doc_at HX13.out
                  go_wp2_with fail
                  cases h9 : inB d.rfrom 1048576
                  · have HQ : Hid (checkD d = 1) := by show _ = _; unfold checkD; rw [if_neg (by simp [h1]), if_neg (by simp [h2]), if_neg (by simp [h3]), if_neg (by simp [h4]), if_neg (by omega), if_neg (by simp [h6]), if_neg (by simp [h7]), if_neg (by omega), if_pos h9]
                    refine (HDY.out _ _).mono ?_
                    rintro e w2 ⟨rfl, rfl⟩
                    rw [h9]
                    go_wp2_with fail
                    go_ret
                    rw [HQ.out]
                    exact ⟨rfl, HB13.out⟩
                  · refine (HDY.out _ _).mono ?_
                    rintro e w2 ⟨rfl, rfl⟩
                    rw [h9]
                    go_wp2_with fail
                    by_cases h10 : sgnQ d.rate = 0
                    · have h10b : (sgnQ d.rate == 0) = true := by rw [beq_iff_eq]; exact h10
                      by_cases h11 : d.rfrom = 0
                      · refine (HS2.out _).mono ?_
                        rintro e w14 ⟨rfl, hb⟩
                        have HX14 := hide (HX13.out.below hb)
                        have HB14 := hide (HB13.out.trans (hb.mono (Nat.le_of_lt hs13V)))
                        have hs14V : w.heap.size < w14.heap.size := Nat.lt_of_lt_of_le hs13V hb.size
                        clear hb a0 a1 a2 a3 a4 a5 a6 a7 a8 a9 a10 a11 a12 a13
                        obtain ⟨a0, a1, a2, a3, a4, a5, a6, a7, a8, a9, a10, a11, a12, a13⟩ := doc_at HX14.out
                        have h11b : (d.rfrom != 0) = false := by simpa using h11
                        cases h12 : inB (d.sec + 1) 8
                        · rcases in_no h12 with hx | hx
                          · have hy : d.sec < -1 := by omega
                            have HQ : Hid (checkD d = 1) := by show _ = _; unfold checkD; rw [if_neg (by simp [h1]), if_neg (by simp [h2]), if_neg (by simp [h3]), if_neg (by simp [h4]), if_neg (by omega), if_neg (by simp [h6]), if_neg (by simp [h7]), if_neg (by omega), if_neg (by simp [h9]), if_neg (fun e => e.2 h11), if_pos h12]
                            go_wp2_with fail
                            go_ret
                            rw [HQ.out]
                            exact ⟨rfl, HB14.out⟩
                          · have hy : ¬ d.sec < -1 := by omega
                            have hz : 8 ≤ d.sec := by omega
                            have HQ : Hid (checkD d = 1) := by show _ = _; unfold checkD; rw [if_neg (by simp [h1]), if_neg (by simp [h2]), if_neg (by simp [h3]), if_neg (by simp [h4]), if_neg (by omega), if_neg (by simp [h6]), if_neg (by simp [h7]), if_neg (by omega), if_neg (by simp [h9]), if_neg (fun e => e.2 h11), if_pos h12]
                            go_wp2_with fail
                            go_ret
                            rw [HQ.out]
                            exact ⟨rfl, HB14.out⟩
                        · have hy : ¬ d.sec < -1 := by have := (in_yes h12).1; omega
                          have hz : ¬ 8 ≤ d.sec := by have := (in_yes h12).2; omega
                          have HQ : Hid (checkD d = 0) := by show _ = _; unfold checkD; rw [if_neg (by simp [h1]), if_neg (by simp [h2]), if_neg (by simp [h3]), if_neg (by simp [h4]), if_neg (by omega), if_neg (by simp [h6]), if_neg (by simp [h7]), if_neg (by omega), if_neg (by simp [h9]), if_neg (fun e => e.2 h11), if_neg (by simp [h12])]
                          go_wp2_with fail
                          go_ret
                          rw [HQ.out]
                          exact ⟨rfl, HB14.out⟩
                      · have h11b : (d.rfrom != 0) = true := by simpa using h11
                        have HQ : Hid (checkD d = 1) := by show _ = _; unfold checkD; rw [if_neg (by simp [h1]), if_neg (by simp [h2]), if_neg (by simp [h3]), if_neg (by simp [h4]), if_neg (by omega), if_neg (by simp [h6]), if_neg (by simp [h7]), if_neg (by omega), if_neg (by simp [h9]), if_pos ⟨h10, h11⟩]
                        refine (HS2.out _).mono ?_
                        rintro e w14 ⟨rfl, hb⟩
                        have HX14 := hide (HX13.out.below hb)
                        have HB14 := hide (HB13.out.trans (hb.mono (Nat.le_of_lt hs13V)))
                        have hs14V : w.heap.size < w14.heap.size := Nat.lt_of_lt_of_le hs13V hb.size
                        clear hb a0 a1 a2 a3 a4 a5 a6 a7 a8 a9 a10 a11 a12 a13
                        obtain ⟨a0, a1, a2, a3, a4, a5, a6, a7, a8, a9, a10, a11, a12, a13⟩ := doc_at HX14.out
                        go_wp2_with fail
                        go_ret
                        rw [HQ.out]
                        exact ⟨rfl, HB14.out⟩
                    · have h10b : (sgnQ d.rate == 0) = false := by rw [beq_eq_false_iff_ne]; exact h10
                      refine (HS2.out _).mono ?_
                      rintro e w14 ⟨rfl, hb⟩
                      have HX14 := hide (HX13.out.below hb)
                      have HB14 := hide (HB13.out.trans (hb.mono (Nat.le_of_lt hs13V)))
                      have hs14V : w.heap.size < w14.heap.size := Nat.lt_of_lt_of_le hs13V hb.size
                      clear hb a0 a1 a2 a3 a4 a5 a6 a7 a8 a9 a10 a11 a12 a13
                      obtain ⟨a0, a1, a2, a3, a4, a5, a6, a7, a8, a9, a10, a11, a12, a13⟩ := doc_at HX14.out
                      cases h12 : inB (d.sec + 1) 8
                      · rcases in_no h12 with hx | hx
                        · have hy : d.sec < -1 := by omega
                          have HQ : Hid (checkD d = 1) := by show _ = _; unfold checkD; rw [if_neg (by simp [h1]), if_neg (by simp [h2]), if_neg (by simp [h3]), if_neg (by simp [h4]), if_neg (by omega), if_neg (by simp [h6]), if_neg (by simp [h7]), if_neg (by omega), if_neg (by simp [h9]), if_neg (fun e => h10 e.1), if_pos h12]
                          go_wp2_with fail
                          go_ret
                          rw [HQ.out]
                          exact ⟨rfl, HB14.out⟩
                        · have hy : ¬ d.sec < -1 := by omega
                          have hz : 8 ≤ d.sec := by omega
                          have HQ : Hid (checkD d = 1) := by show _ = _; unfold checkD; rw [if_neg (by simp [h1]), if_neg (by simp [h2]), if_neg (by simp [h3]), if_neg (by simp [h4]), if_neg (by omega), if_neg (by simp [h6]), if_neg (by simp [h7]), if_neg (by omega), if_neg (by simp [h9]), if_neg (fun e => h10 e.1), if_pos h12]
                          go_wp2_with fail
                          go_ret
                          rw [HQ.out]
                          exact ⟨rfl, HB14.out⟩
                      · have hy : ¬ d.sec < -1 := by have := (in_yes h12).1; omega
                        have hz : ¬ 8 ≤ d.sec := by have := (in_yes h12).2; omega
                        have HQ : Hid (checkD d = 0) := by show _ = _; unfold checkD; rw [if_neg (by simp [h1]), if_neg (by simp [h2]), if_neg (by simp [h3]), if_neg (by simp [h4]), if_neg (by omega), if_neg (by simp [h6]), if_neg (by simp [h7]), if_neg (by omega), if_neg (by simp [h9]), if_neg (fun e => h10 e.1), if_neg (by simp [h12])]
                        go_wp2_with fail
                        go_ret
                        rw [HQ.out]
                        exact ⟨rfl, HB14.out⟩
end Go.Proofs.YtghbhchkdomfhaaGreatDoor.PgJ
