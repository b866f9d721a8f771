/- Match, the program's and the reference's, whole. -/
import Derived.Test.YtkllpfijeglppaaDoorHsMh
namespace Go.Proofs.YtkllpfijeglppaaDoor.HsMi
open Go.RowKit Hs HsB HsC HsD HsF HsG HsH HsE HsI HsJ HsK HsL HsM HsN HsO HsP HsQ HsR HsS HsT HsU HsV HsMa HsLaw6 HsMb HsMc HsMd HsMe HsMf HsMe2 HsMg HsMh
theorem post_nil (er : Int) {w w' : World} (hb : Below w.heap.size w w') : MatchPost [] er w (.returned (.tuple #[.slice none 0 0, .int .i64 er])) w' := ⟨_, rfl, World.ownsRow_nil _ _ _ _, hb⟩
theorem post_nil' {er er' : Int} {w w' : World} (h : er = er') (hb : Below w.heap.size w w') : MatchPost [] er' w (.returned (.tuple #[.slice none 0 0, .int .i64 er])) w' := by subst h; exact post_nil er hb
set_option maxHeartbeats 4000000 in
theorem rmatch_err (a b : List HRow) (A B : Option Addr) (c c' : Nat) (s : Int) (w : World) (ha : RowsAt w w.heap.size A a) (hb : RowsAt w w.heap.size B b) (hE : ¬ matchErr a b s = 0) :
    Calls Tryd.prog 30 #[.slice A a.length c, .slice B b.length c', .int .i64 s] w (MatchPost [] (matchErr a b s) w) := by
  have HA := hide ha
  have HB := hide hb
  have hne : (matchErr a b s != 0) = true := by simpa using hE
  clear ha hb hE
  go_enter Tryd.func30, Tryd.ntmps30
  go_wp2_with fail
  refine (check_any a b _ _ _ _ s _ HA.out HB.out).mono ?_
  rintro e w1 ⟨rfl, hb1⟩
  go_wp2_with fail
  go_ret2
  exact post_nil _ hb1
set_option maxHeartbeats 4000000 in
theorem pmatch_err (a b : List HRow) (A B : Option Addr) (c c' : Nat) (s : Int) (w : World) (ha : RowsAt w w.heap.size A a) (hb : RowsAt w w.heap.size B b) (hE : ¬ matchErr a b s = 0) :
    Calls Tryd.prog 29 #[.slice A a.length c, .slice B b.length c', .int .i64 s] w (MatchPost [] (matchErr a b s) w) := by
  have hla := ha.1
  have hlb := hb.1
  unfold maxLen at hla hlb
  have HA := hide ha
  have HB := hide hb
  have HE := hide hE
  clear ha hb hE
  by_cases h1 : 256 < a.length
  · have HR := hide (matchErr2 (s := s) (.inl h1 : 256 < a.length ∨ 256 < b.length))
    go_enter Tryd.func29, Tryd.ntmps29
    go_wp2_with fail
    go_ret2
    exact post_nil' HR.out (Below.refl _ _)
  · by_cases h2 : 256 < b.length
    · have HR := hide (matchErr2 (s := s) (.inr h2 : 256 < a.length ∨ 256 < b.length))
      go_enter Tryd.func29, Tryd.ntmps29
      go_wp2_with fail
      go_ret2
      exact post_nil' HR.out (Below.refl _ _)
    · have H0 := hide (show ¬ (256 < a.length ∨ 256 < b.length) by omega)
      cases dA : days a
      · have DA := Lib.hid dA
        have HR := hide (matchErr1 (s := s) H0.out (fun h => by rw [DA.out] at h; cases h.1))
        clear dA
        go_enter Tryd.func29, Tryd.ntmps29
        go_wp2_with fail
        refine (days_any a _ _ _ HA.out).mono ?_
        rintro e w1 ⟨rfl, hb1⟩
        rw [DA.out]
        go_wp2_with fail
        go_ret2
        exact post_nil' HR.out hb1
      · have DA := Lib.hid dA
        clear dA
        cases dB : days b
        · have DB := Lib.hid dB
          have HR := hide (matchErr1 (s := s) H0.out (fun h => by rw [DB.out] at h; cases h.2.1))
          clear dB
          go_enter Tryd.func29, Tryd.ntmps29
          go_wp2_with fail
          refine (days_any a _ _ _ HA.out).mono ?_
          rintro e w1 ⟨rfl, hb1⟩
          rw [DA.out]
          go_wp2_with fail
          refine (days_any b _ _ _ ((HB.out.below hb1).mono hb1.size)).mono ?_
          rintro e w2 ⟨rfl, hb2⟩
          rw [DB.out]
          have hb12 := hb1.trans (hb2.mono hb1.size)
          clear hb1 hb2
          go_wp2_with fail
          go_ret2
          exact post_nil' HR.out hb12
        · have DB := Lib.hid dB
          clear dB
          by_cases hs : 0 ≤ s ∧ s ≤ 1048576
          · obtain ⟨hs0, hs1⟩ := hs
            have HD := hide (show days a = true ∧ days b = true ∧ 0 ≤ s ∧ s ≤ 1048576 from ⟨DA.out, DB.out, hs0, hs1⟩)
            cases sA : stepsUp a
            · have SA := hide (stepsErr1 sA).symm
              have HR := hide (matchErr15 (a := a) (b := b) (s := s) H0.out HD.out (fun h => by rw [sA] at h; cases h.1))
              clear sA
              go_enter Tryd.func29, Tryd.ntmps29
              go_wp2_with fail
              refine (days_any a _ _ _ HA.out).mono ?_
              rintro e w1 ⟨rfl, hb1⟩
              rw [DA.out]
              go_wp2_with fail
              refine (days_any b _ _ _ ((HB.out.below hb1).mono hb1.size)).mono ?_
              rintro e w2 ⟨rfl, hb2⟩
              rw [DB.out]
              have hb12 := hb1.trans (hb2.mono hb1.size)
              clear hb1 hb2
              go_wp2_with fail
              refine (ordered_any a _ _ _ ((HA.out.below hb12).mono hb12.size)).mono ?_
              rintro e w3 ⟨rfl, hb3⟩
              rw [SA.out]
              have hb13 := hb12.trans (hb3.mono hb12.size)
              clear hb12 hb3
              go_wp2_with fail
              go_ret2
              exact post_nil' HR.out hb13
            · have SA := hide (stepsErr0 sA).symm
              cases sB : stepsUp b
              · have SB := hide (stepsErr1 sB).symm
                have HR := hide (matchErr15 (a := a) (b := b) (s := s) H0.out HD.out (fun h => by rw [sB] at h; cases h.2))
                clear sA sB
                go_enter Tryd.func29, Tryd.ntmps29
                go_wp2_with fail
                refine (days_any a _ _ _ HA.out).mono ?_
                rintro e w1 ⟨rfl, hb1⟩
                rw [DA.out]
                go_wp2_with fail
                refine (days_any b _ _ _ ((HB.out.below hb1).mono hb1.size)).mono ?_
                rintro e w2 ⟨rfl, hb2⟩
                rw [DB.out]
                have hb12 := hb1.trans (hb2.mono hb1.size)
                clear hb1 hb2
                go_wp2_with fail
                refine (ordered_any a _ _ _ ((HA.out.below hb12).mono hb12.size)).mono ?_
                rintro e w3 ⟨rfl, hb3⟩
                rw [SA.out]
                have hb13 := hb12.trans (hb3.mono hb12.size)
                clear hb12 hb3
                go_wp2_with fail
                refine (ordered_any b _ _ _ ((HB.out.below hb13).mono hb13.size)).mono ?_
                rintro e w4 ⟨rfl, hb4⟩
                rw [SB.out]
                have hb14 := hb13.trans (hb4.mono hb13.size)
                clear hb13 hb4
                go_wp2_with fail
                go_ret2
                exact post_nil' HR.out hb14
              · exact absurd (matchErr0 H0.out HD.out ⟨sA, sB⟩).symm HE.out
          · have HR := hide (matchErr1 (a := a) (b := b) (s := s) H0.out (fun h => hs h.2.2))
            rcases (by omega : s < 0 ∨ (¬ s < 0 ∧ 1048576 < s)) with hs | ⟨hs, hs'⟩
            all_goals
              go_enter Tryd.func29, Tryd.ntmps29
              go_wp2_with fail
              refine (days_any a _ _ _ HA.out).mono ?_
              rintro e w1 ⟨rfl, hb1⟩
              rw [DA.out]
              go_wp2_with fail
              refine (days_any b _ _ _ ((HB.out.below hb1).mono hb1.size)).mono ?_
              rintro e w2 ⟨rfl, hb2⟩
              rw [DB.out]
              have hb12 := hb1.trans (hb2.mono hb1.size)
              clear hb1 hb2
              go_wp2_with fail
              go_ret2
              exact post_nil' HR.out hb12
theorem rmatch_any (a b : List HRow) (A B : Option Addr) (c c' : Nat) (s : Int) (w : World) (ha : RowsAt w w.heap.size A a) (hb : RowsAt w w.heap.size B b) :
    Calls Tryd.prog 30 #[.slice A a.length c, .slice B b.length c', .int .i64 s] w (MatchPost (matchOf a b s) (matchErr a b s) w) := by
  by_cases h : matchErr a b s = 0
  · rw [matchOf, if_pos h, h]; exact rmatch_go a b A B c c' s w ha hb h
  · rw [matchOf, if_neg h]; exact rmatch_err a b A B c c' s w ha hb h
theorem pmatch_any (a b : List HRow) (A B : Option Addr) (c c' : Nat) (s : Int) (w : World) (ha : RowsAt w w.heap.size A a) (hb : RowsAt w w.heap.size B b) :
    Calls Tryd.prog 29 #[.slice A a.length c, .slice B b.length c', .int .i64 s] w (MatchPost (matchOf a b s) (matchErr a b s) w) := by
  by_cases h : matchErr a b s = 0
  · rw [matchOf, if_pos h, h]; exact pmatch_go a b A B c c' s w ha hb h
  · rw [matchOf, if_neg h]; exact pmatch_err a b A B c c' s w ha hb h
end Go.Proofs.YtkllpfijeglppaaDoor.HsMi
