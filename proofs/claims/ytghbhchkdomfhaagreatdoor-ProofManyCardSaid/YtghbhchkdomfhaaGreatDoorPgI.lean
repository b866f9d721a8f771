/- The walks of the laws ProofName and ProofParse. -/
import Derived.Test.YtghbhchkdomfhaaGreatDoorPGB
namespace Go.Proofs.YtghbhchkdomfhaaGreatDoor.PgI
open Go.RowKit Wd RnW RpF PqB PfS PfB PfA PfD PfE PfH PfN PfQ PfU PgF PgG PgH
set_option maxHeartbeats 8000000 in
set_option maxRecDepth 100000 in
theorem name_law (s : ByteArray) (w : World) (hs : s.size ≤ maxLen) (he : EnvT w) :
    Calls Tryz.prog 3 #[.string s] w fun e w' => e = .returned (.bool true) ∧ Below w.heap.size w w' := by
  have HAW := Lib.hid (fun w (h : EnvT w) => awake_docs w h)
  have P1 := Lib.hid (fun w => NmA.nm_any s w hs)
  have R1 := Lib.hid (fun w => NmA.rnm_any s w hs)
  unfold maxLen at hs
  generalize NmA.nmB s = b at *
  have hbb : (b == b) = true := by simp
  by_cases h2 : 100 < s.size
  · have HA := hide (HAW.out w he)
    clear he
    go_enter Tryz.func3, Tryz.ntmps3
    go_wp2_with fail
    refine HA.out.mono ?_
    rintro e w3 ⟨rfl, hb3⟩
    go_wp2_with fail
    go_ret
    exact ⟨rfl, hb3⟩
  · have HA := hide (HAW.out w he)
    clear he
    go_enter Tryz.func3, Tryz.ntmps3
    go_wp2_with fail
    refine HA.out.mono ?_
    rintro e w3 ⟨rfl, hb3⟩
    have HB3 := hide hb3
    clear hb3
    go_wp2_with fail
    refine (P1.out _).mono ?_
    rintro e w4 ⟨rfl, rfl⟩
    go_wp2_with fail
    refine (R1.out _).mono ?_
    rintro e w4 ⟨rfl, rfl⟩
    go_wp2_with fail
    go_ret
    exact ⟨rfl, HB3.out⟩
set_option maxHeartbeats 8000000 in
set_option maxRecDepth 100000 in
theorem parse_law (s : ByteArray) (w : World) (hs : s.size ≤ maxLen) (he : EnvT w) :
    Calls Tryz.prog 5 #[.string s] w fun e w' => e = .returned (.bool true) ∧ Below w.heap.size w w' := by
  unfold maxLen at hs
  have HAW := Lib.hid (fun w (h : EnvT w) => awake_docs w h)
  by_cases h2 : 1500 < s.size
  · have HA := hide (HAW.out w he)
    clear he
    go_enter Tryz.func5, Tryz.ntmps5
    go_wp2_with fail
    refine HA.out.mono ?_
    rintro e w3 ⟨rfl, hb3⟩
    go_wp2_with fail
    go_ret
    exact ⟨rfl, hb3⟩
  · have P1 := hide (parse_docs s w (by omega) he.2.1)
    have HE := hide he
    have R1 := Lib.hid (fun w => rparse_docs s w (by omega))
    generalize parseOf s.data.toList = p at *
    obtain ⟨l, a, er⟩ := p
    unfold ParseP at P1 R1
    dsimp only at P1 R1
    clear he
    go_enter Tryz.func5, Tryz.ntmps5
    go_wp2_with fail
    refine P1.out.mono ?_
    rintro e w5 ⟨A, c, rfl, hc5, hb5⟩
    have HE5 := hide (HE.out.below hb5)
    have HC5 := hide hc5
    have HB5 := hide hb5
    clear hc5 hb5 P1
    go_wp2_with fail
    refine (R1.out _).mono ?_
    rintro e w6 ⟨A', c', rfl, hc6, hb6⟩
    have HE6 := hide (HE5.out.below hb6)
    have HC6 := hide (HC5.out.below hb6)
    have HD6 := hide hc6
    have HB6 := hide (HB5.out.trans (hb6.mono HB5.out.size))
    clear hc6 hb6 R1
    go_wp2_with fail
    refine (HAW.out _ HE6.out).mono ?_
    rintro e w7 ⟨rfl, hb7⟩
    have HC7 := hide (HC6.out.below hb7)
    have HD7 := hide (HD6.out.below hb7)
    have HB7 := hide (HB6.out.trans (hb7.mono HB6.out.size))
    clear hb7
    go_wp2_with fail
    refine (same_docs l A A' c c' _ HC7.out HD7.out).mono ?_
    rintro e w8 ⟨rfl, hb8⟩
    have HB8 := hide (HB7.out.trans (hb8.mono HB7.out.size))
    clear hb8
    go_wp2_with fail
    go_ret
    exact ⟨rfl, HB8.out⟩
end Go.Proofs.YtghbhchkdomfhaaGreatDoor.PgI
