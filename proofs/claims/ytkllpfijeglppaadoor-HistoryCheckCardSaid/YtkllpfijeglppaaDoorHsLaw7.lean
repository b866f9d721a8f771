/- The walk of the law HistoryCheck. -/
import Derived.Test.YtkllpfijeglppaaDoorHsLaw6
import Derived.Test.YtkllpfijeglppaaDoorHsY
namespace Go.Proofs.YtkllpfijeglppaaDoor.HsLaw7
open Go.RowKit Hs HsB HsC HsD HsF HsG HsH HsE HsI HsJ HsK HsL HsM HsN HsO HsP HsQ HsR HsS HsT HsU HsV HsW HsLaw1 HsPa HsLaw2 HsLaw3 HsLaw4 HsLaw5 HsLaw6
/-- a slice reads as some list of n rows -/
def RowsN (w : World) (B : Nat) (A : Option Addr) (n : Nat) : Prop := ∃ l : List HRow, l.length = n ∧ RowsAt w B A l
theorem RowsN.below {w w' : World} {B n : Nat} {A : Option Addr} (h : RowsN w B A n) (hb : Below B w w') : RowsN w' B A n := by
  obtain ⟨l, hl, hr⟩ := h
  exact ⟨l, hl, hr.below hb⟩
theorem RowsN.mono {w : World} {B B' n : Nat} {A : Option Addr} (h : RowsN w B A n) (hb : B ≤ B') : RowsN w B' A n := by
  obtain ⟨l, hl, hr⟩ := h
  exact ⟨l, hl, hr.mono hb⟩
theorem cell_set {w : World} {b o o' : Nat} {z z' : Int} (h : w.cell? ⟨b, o', none⟩ = some (.int .i64 z')) : ∃ y : Int, (w.setCell ⟨b, o, none⟩ (.int .i64 z)).cell? ⟨b, o', none⟩ = some (.int .i64 y) := by
  by_cases e : o = o'
  · subst e
    exact ⟨z, World.cell?_setCell_same _ _ _ h⟩
  · exact ⟨z', (World.cell?_setCell_other _ _ _ _ (by intro h'; injection h' with _ h2; exact e h2)).trans h⟩
theorem RowsN.set {w : World} {B n g o : Nat} {z : Int} (h : RowsN w B (some ⟨g, 0, none⟩) n) : RowsN (w.setCell ⟨g, o, none⟩ (.int .i64 z)) B (some ⟨g, 0, none⟩) n := by
  obtain ⟨l, rfl, h1, h2⟩ := h
  rcases Nat.eq_zero_or_pos l.length with h0 | hp
  · exact ⟨l, rfl, h1, fun hp => by omega⟩
  · obtain ⟨b, off, e, hlt, hc⟩ := h2 hp
    cases e
    have key : ∀ i, i < l.length → ∃ r : HRow, RowCells (w.setCell ⟨g, o, none⟩ (.int .i64 z)) g (0 + i * 6) r := by
      intro i hi
      obtain ⟨c0, c1, c2, c3, c4, c5⟩ := hc i l[i] (List.getElem?_eq_getElem hi)
      obtain ⟨y0, d0⟩ := cell_set (o := o) (z := z) c0
      obtain ⟨y1, d1⟩ := cell_set (o := o) (z := z) c1
      obtain ⟨y2, d2⟩ := cell_set (o := o) (z := z) c2
      obtain ⟨y3, d3⟩ := cell_set (o := o) (z := z) c3
      obtain ⟨y4, d4⟩ := cell_set (o := o) (z := z) c4
      obtain ⟨y5, d5⟩ := cell_set (o := o) (z := z) c5
      exact ⟨⟨y0, y1, y2, y3, y4, y5⟩, d0, d1, d2, d3, d4, d5⟩
    obtain ⟨m, hm, hq⟩ := HsY.gather l.length key
    exact ⟨m, hm, by rw [hm]; exact h1, fun _ => ⟨g, 0, rfl, hlt, hq⟩⟩
theorem awake_keep {w W : World} {B : Option Addr} {n : Nat} (he : Env w) (h1 : Below w.heap.size w W) (h2 : RowsN W W.heap.size B n) :
    Calls Tryd.prog 13 #[] W fun e w' => e = .returned (.bool true) ∧ Below w.heap.size w w' ∧ RowsN w' w'.heap.size B n :=
  (awake_any W (he.below h1)).mono fun _ _ ⟨e, h⟩ => ⟨e, h1.trans (h.mono h1.size), (h2.below h).mono h.size⟩
theorem check_n {w W : World} {B : Option Addr} {n c : Nat} (p : Int) (l : List HRow) (hl : l.length = n) (h1 : Below w.heap.size w W) (h2 : RowsAt W W.heap.size B l) :
    Calls Tryd.prog 26 #[.int .i64 p, .slice B n c] W fun e w' => e = .returned (.int .i64 (checkOf p l : Nat)) ∧ Below w.heap.size w w' ∧ RowsAt w' w'.heap.size B l ∧ Below W.heap.size W w' := by
  subst hl
  exact (check_any p l B c W h2).mono fun _ _ ⟨e, h⟩ => ⟨e, h1.trans (h.mono h1.size), (h2.below h).mono h.size, h⟩
theorem rcheck_n {w W : World} {B : Option Addr} {n c : Nat} (p : Int) (l : List HRow) (hl : l.length = n) (h1 : Below w.heap.size w W) (h2 : RowsAt W W.heap.size B l) :
    Calls Tryd.prog 27 #[.int .i64 p, .slice B n c] W fun e w' => e = .returned (.int .i64 (checkOf p l : Nat)) ∧ Below w.heap.size w w' ∧ RowsAt w' w'.heap.size B l ∧ Below W.heap.size W w' := by
  subst hl
  exact (rcheck_any p l B c W h2).mono fun _ _ ⟨e, h⟩ => ⟨e, h1.trans (h.mono h1.size), (h2.below h).mono h.size, h⟩
set_option maxHeartbeats 8000000 in
set_option maxRecDepth 100000 in
theorem check_law (p : Int) (A : Option Addr) (l : List HRow) (c : Nat) (A' : Option Addr) (n c' : Nat) (a q : Int) (w : World) (hl : RowsAt w w.heap.size A l) (hf : FivesAt w w.heap.size A' n) (ha : 0 ≤ a ∧ a ≤ 255) (hq : 0 ≤ q ∧ q ≤ 255) (he : Env w) :
    Calls Tryd.prog 10 #[.int .i64 p, .slice A l.length c, .slice A' n c', .int .u8 a, .int .u8 q] w fun e w' => e = .returned (.bool true) ∧ Below w.heap.size w w' := by
  obtain ⟨ha0, ha1⟩ := ha
  obtain ⟨hq0, hq1⟩ := hq
  have hlen := hl.1
  have hn := hf.1
  unfold maxLen at hlen hn
  have HL := hide hl
  have HF := hide hf
  clear hl hf
  by_cases h12 : 12 < l.length
  · go_enter Tryd.func10, Tryd.ntmps10
    go_wp2_with (go_at_call 13; refine (awake_any _ he).mono ?_; rintro e w1 ⟨rfl, hb⟩)
    go_ret
    exact ⟨rfl, hb⟩
  · by_cases h24 : 24 < n
    · go_enter Tryd.func10, Tryd.ntmps10
      go_wp2_with (go_at_call 13; refine (awake_any _ he).mono ?_; rintro e w1 ⟨rfl, hb⟩)
      go_ret
      exact ⟨rfl, hb⟩
    · go_enter Tryd.func10, Tryd.ntmps10
      go_wp2_with fail
      refine (rows4_any A' n c' 20 w HF.out (by omega)).mono ?_
      rintro e w1 ⟨v, x, rfl, hbu, hxm, hown, hb1⟩
      obtain ⟨B, cp, rfl⟩ := own_slice hown
      have hxx : RowsN w1 w1.heap.size B x.length := ⟨x, rfl, rows_of_own hown (own_len hown)⟩
      rcases Nat.eq_zero_or_pos x.length with h0 | hpos
      · have hle : ¬ 0 < x.length := by omega
        clear hown hbu h0
        go_wp2_with fail
        refine (awake_keep he hb1 hxx).mono ?_
        rintro e w2 ⟨rfl, hbb2, l2, hl2, hr2⟩
        have hla := (HL.out.below hbb2).mono hbb2.size
        have HL2 := hide hl2
        clear hl2
        go_wp2_with (first
          | (go_at_call 26; (with_reducible refine (check_n (w := w) p l rfl hbb2 hla).mono ?_); rintro e w3 ⟨rfl, hbb3, hla3, hb3⟩; have hr3 := (hr2.below hb3).mono hb3.size)
          | (go_at_call 27; (with_reducible refine (rcheck_n (w := w) p l rfl hbb3 hla3).mono ?_); rintro e w4 ⟨rfl, hbb4, _, hb4⟩; have hr4 := (hr3.below hb4).mono hb4.size)
          | (go_at_call 26; (with_reducible refine (check_n (w := w) 4 l2 HL2.out hbb4 hr4).mono ?_); rintro e w5 ⟨rfl, hbb5, hr5, _⟩)
          | (go_at_call 27; (with_reducible refine (rcheck_n (w := w) 4 l2 HL2.out hbb5 hr5).mono ?_); rintro e w6 ⟨rfl, hbb6, _, _⟩))
        go_ret
        exact ⟨rfl, hbb6⟩
      · obtain ⟨g, cg, hA, hg, hgl⟩ := hown.form hpos
        cases hA
        obtain ⟨k, hk⟩ : ∃ k : Nat, a % (x.length : Int) = (k : Int) := Int.eq_ofNat_of_zero_le (Int.emod_nonneg _ (by omega))
        have hkl : k < x.length := by have := Int.emod_lt_of_pos a (show (0 : Int) < x.length by omega); omega
        obtain ⟨m, hm, hrr⟩ := hxx
        obtain ⟨b', off', e', hlt', hcc⟩ := hrr.2 (by omega)
        cases e'
        obtain ⟨rr, hrk⟩ : ∃ r, m[k]? = some r := ⟨_, List.getElem?_eq_getElem (by omega)⟩
        obtain ⟨c0, c1, c2, c3, c4, c5⟩ := hcc k rr hrk
        have hxx : Hid (RowsN w1 w1.heap.size (some ⟨g, 0, none⟩) x.length) := ⟨m, hm, hrr⟩
        have ff : ∀ j, w1.frozen? ⟨g, j, none⟩ = false := fun j => by
          rcases hown.2 with ⟨h, _⟩ | ⟨g', cap', cur, h, _, hh, _⟩
          · cases h
          · cases h; exact Lib.frozen_of_heap hh j
        rw [Nat.zero_add] at c0 c1 c2 c3 c4 c5
        clear hcc hrr hbu hown hm hrk
        by_cases hq0' : q % 8 = 0
        · have t0 : (q % 8 == 0) = true := by simp [hq0']
          clear hq0'
          go_wp2_with fail
          refine (awake_keep (w := w) (B := some ⟨g, 0, none⟩) (n := x.length) he ?_ ?_).mono ?_
          · exact hb1.setCell (p := ⟨g, _, none⟩) hg _
          · exact hxx.out.set.mono (by simp)
          rintro e w2 ⟨rfl, hbb2, l2, hl2, hr2⟩
          have hla := (HL.out.below hbb2).mono hbb2.size
          have HL2 := hide hl2
          clear hl2
          go_wp2_with (first
            | (go_at_call 26; (with_reducible refine (check_n (w := w) p l rfl hbb2 hla).mono ?_); rintro e w3 ⟨rfl, hbb3, hla3, hb3⟩; have hr3 := (hr2.below hb3).mono hb3.size)
            | (go_at_call 27; (with_reducible refine (rcheck_n (w := w) p l rfl hbb3 hla3).mono ?_); rintro e w4 ⟨rfl, hbb4, _, hb4⟩; have hr4 := (hr3.below hb4).mono hb4.size)
            | (go_at_call 26; (with_reducible refine (check_n (w := w) 4 l2 HL2.out hbb4 hr4).mono ?_); rintro e w5 ⟨rfl, hbb5, hr5, _⟩)
            | (go_at_call 27; (with_reducible refine (rcheck_n (w := w) 4 l2 HL2.out hbb5 hr5).mono ?_); rintro e w6 ⟨rfl, hbb6, _, _⟩))
          go_ret
          exact ⟨rfl, hbb6⟩
        have hn0 : (q % 8 == 0) = false := by simpa using hq0'
        clear hq0'
        by_cases hq1' : q % 8 = 1
        · have t1 : (q % 8 == 1) = true := by simp [hq1']
          have t0 : (q % 8 == 0) = false := by simp [hq1']
          clear hq1' hn0
          go_wp2_with fail
          refine (awake_keep (w := w) (B := some ⟨g, 0, none⟩) (n := x.length) he ?_ ?_).mono ?_
          · exact hb1.setCell (p := ⟨g, _, none⟩) hg _
          · exact hxx.out.set.mono (by simp)
          rintro e w2 ⟨rfl, hbb2, l2, hl2, hr2⟩
          have hla := (HL.out.below hbb2).mono hbb2.size
          have HL2 := hide hl2
          clear hl2
          go_wp2_with (first
            | (go_at_call 26; (with_reducible refine (check_n (w := w) p l rfl hbb2 hla).mono ?_); rintro e w3 ⟨rfl, hbb3, hla3, hb3⟩; have hr3 := (hr2.below hb3).mono hb3.size)
            | (go_at_call 27; (with_reducible refine (rcheck_n (w := w) p l rfl hbb3 hla3).mono ?_); rintro e w4 ⟨rfl, hbb4, _, hb4⟩; have hr4 := (hr3.below hb4).mono hb4.size)
            | (go_at_call 26; (with_reducible refine (check_n (w := w) 4 l2 HL2.out hbb4 hr4).mono ?_); rintro e w5 ⟨rfl, hbb5, hr5, _⟩)
            | (go_at_call 27; (with_reducible refine (rcheck_n (w := w) 4 l2 HL2.out hbb5 hr5).mono ?_); rintro e w6 ⟨rfl, hbb6, _, _⟩))
          go_ret
          exact ⟨rfl, hbb6⟩
        have hn1 : (q % 8 == 1) = false := by simpa using hq1'
        clear hq1'
        by_cases hq2' : q % 8 = 2
        · have t2 : (q % 8 == 2) = true := by simp [hq2']
          have t0 : (q % 8 == 0) = false := by simp [hq2']
          have t1 : (q % 8 == 1) = false := by simp [hq2']
          clear hq2' hn0 hn1
          go_wp2_with fail
          refine (awake_keep (w := w) (B := some ⟨g, 0, none⟩) (n := x.length) he ?_ ?_).mono ?_
          · exact hb1.setCell (p := ⟨g, _, none⟩) hg _
          · exact hxx.out.set.mono (by simp)
          rintro e w2 ⟨rfl, hbb2, l2, hl2, hr2⟩
          have hla := (HL.out.below hbb2).mono hbb2.size
          have HL2 := hide hl2
          clear hl2
          go_wp2_with (first
            | (go_at_call 26; (with_reducible refine (check_n (w := w) p l rfl hbb2 hla).mono ?_); rintro e w3 ⟨rfl, hbb3, hla3, hb3⟩; have hr3 := (hr2.below hb3).mono hb3.size)
            | (go_at_call 27; (with_reducible refine (rcheck_n (w := w) p l rfl hbb3 hla3).mono ?_); rintro e w4 ⟨rfl, hbb4, _, hb4⟩; have hr4 := (hr3.below hb4).mono hb4.size)
            | (go_at_call 26; (with_reducible refine (check_n (w := w) 4 l2 HL2.out hbb4 hr4).mono ?_); rintro e w5 ⟨rfl, hbb5, hr5, _⟩)
            | (go_at_call 27; (with_reducible refine (rcheck_n (w := w) 4 l2 HL2.out hbb5 hr5).mono ?_); rintro e w6 ⟨rfl, hbb6, _, _⟩))
          go_ret
          exact ⟨rfl, hbb6⟩
        have hn2 : (q % 8 == 2) = false := by simpa using hq2'
        clear hq2'
        by_cases hq3' : q % 8 = 3
        · have t3 : (q % 8 == 3) = true := by simp [hq3']
          have t0 : (q % 8 == 0) = false := by simp [hq3']
          have t1 : (q % 8 == 1) = false := by simp [hq3']
          have t2 : (q % 8 == 2) = false := by simp [hq3']
          clear hq3' hn0 hn1 hn2
          go_wp2_with fail
          refine (awake_keep (w := w) (B := some ⟨g, 0, none⟩) (n := x.length) he ?_ ?_).mono ?_
          · exact hb1.setCell (p := ⟨g, _, none⟩) hg _
          · exact hxx.out.set.mono (by simp)
          rintro e w2 ⟨rfl, hbb2, l2, hl2, hr2⟩
          have hla := (HL.out.below hbb2).mono hbb2.size
          have HL2 := hide hl2
          clear hl2
          go_wp2_with (first
            | (go_at_call 26; (with_reducible refine (check_n (w := w) p l rfl hbb2 hla).mono ?_); rintro e w3 ⟨rfl, hbb3, hla3, hb3⟩; have hr3 := (hr2.below hb3).mono hb3.size)
            | (go_at_call 27; (with_reducible refine (rcheck_n (w := w) p l rfl hbb3 hla3).mono ?_); rintro e w4 ⟨rfl, hbb4, _, hb4⟩; have hr4 := (hr3.below hb4).mono hb4.size)
            | (go_at_call 26; (with_reducible refine (check_n (w := w) 4 l2 HL2.out hbb4 hr4).mono ?_); rintro e w5 ⟨rfl, hbb5, hr5, _⟩)
            | (go_at_call 27; (with_reducible refine (rcheck_n (w := w) 4 l2 HL2.out hbb5 hr5).mono ?_); rintro e w6 ⟨rfl, hbb6, _, _⟩))
          go_ret
          exact ⟨rfl, hbb6⟩
        have hn3 : (q % 8 == 3) = false := by simpa using hq3'
        clear hq3'
        by_cases hq4' : q % 8 = 4
        · have t4 : (q % 8 == 4) = true := by simp [hq4']
          have t0 : (q % 8 == 0) = false := by simp [hq4']
          have t1 : (q % 8 == 1) = false := by simp [hq4']
          have t2 : (q % 8 == 2) = false := by simp [hq4']
          have t3 : (q % 8 == 3) = false := by simp [hq4']
          clear hq4' hn0 hn1 hn2 hn3
          go_wp2_with fail
          refine (awake_keep (w := w) (B := some ⟨g, 0, none⟩) (n := x.length) he ?_ ?_).mono ?_
          · exact hb1.setCell (p := ⟨g, _, none⟩) hg _
          · exact hxx.out.set.mono (by simp)
          rintro e w2 ⟨rfl, hbb2, l2, hl2, hr2⟩
          have hla := (HL.out.below hbb2).mono hbb2.size
          have HL2 := hide hl2
          clear hl2
          go_wp2_with (first
            | (go_at_call 26; (with_reducible refine (check_n (w := w) p l rfl hbb2 hla).mono ?_); rintro e w3 ⟨rfl, hbb3, hla3, hb3⟩; have hr3 := (hr2.below hb3).mono hb3.size)
            | (go_at_call 27; (with_reducible refine (rcheck_n (w := w) p l rfl hbb3 hla3).mono ?_); rintro e w4 ⟨rfl, hbb4, _, hb4⟩; have hr4 := (hr3.below hb4).mono hb4.size)
            | (go_at_call 26; (with_reducible refine (check_n (w := w) 4 l2 HL2.out hbb4 hr4).mono ?_); rintro e w5 ⟨rfl, hbb5, hr5, _⟩)
            | (go_at_call 27; (with_reducible refine (rcheck_n (w := w) 4 l2 HL2.out hbb5 hr5).mono ?_); rintro e w6 ⟨rfl, hbb6, _, _⟩))
          go_ret
          exact ⟨rfl, hbb6⟩
        have hn4 : (q % 8 == 4) = false := by simpa using hq4'
        clear hq4'
        by_cases hq5' : q % 8 = 5
        · have t5 : (q % 8 == 5) = true := by simp [hq5']
          have t0 : (q % 8 == 0) = false := by simp [hq5']
          have t1 : (q % 8 == 1) = false := by simp [hq5']
          have t2 : (q % 8 == 2) = false := by simp [hq5']
          have t3 : (q % 8 == 3) = false := by simp [hq5']
          have t4 : (q % 8 == 4) = false := by simp [hq5']
          clear hq5' hn0 hn1 hn2 hn3 hn4
          go_wp2_with fail
          refine (awake_keep (w := w) (B := some ⟨g, 0, none⟩) (n := x.length) he ?_ ?_).mono ?_
          · exact hb1.setCell (p := ⟨g, _, none⟩) hg _
          · exact hxx.out.set.mono (by simp)
          rintro e w2 ⟨rfl, hbb2, l2, hl2, hr2⟩
          have hla := (HL.out.below hbb2).mono hbb2.size
          have HL2 := hide hl2
          clear hl2
          go_wp2_with (first
            | (go_at_call 26; (with_reducible refine (check_n (w := w) p l rfl hbb2 hla).mono ?_); rintro e w3 ⟨rfl, hbb3, hla3, hb3⟩; have hr3 := (hr2.below hb3).mono hb3.size)
            | (go_at_call 27; (with_reducible refine (rcheck_n (w := w) p l rfl hbb3 hla3).mono ?_); rintro e w4 ⟨rfl, hbb4, _, hb4⟩; have hr4 := (hr3.below hb4).mono hb4.size)
            | (go_at_call 26; (with_reducible refine (check_n (w := w) 4 l2 HL2.out hbb4 hr4).mono ?_); rintro e w5 ⟨rfl, hbb5, hr5, _⟩)
            | (go_at_call 27; (with_reducible refine (rcheck_n (w := w) 4 l2 HL2.out hbb5 hr5).mono ?_); rintro e w6 ⟨rfl, hbb6, _, _⟩))
          go_ret
          exact ⟨rfl, hbb6⟩
        have hn5 : (q % 8 == 5) = false := by simpa using hq5'
        clear hq5'
        by_cases hq6' : q % 8 = 6
        · have t6 : (q % 8 == 6) = true := by simp [hq6']
          have t0 : (q % 8 == 0) = false := by simp [hq6']
          have t1 : (q % 8 == 1) = false := by simp [hq6']
          have t2 : (q % 8 == 2) = false := by simp [hq6']
          have t3 : (q % 8 == 3) = false := by simp [hq6']
          have t4 : (q % 8 == 4) = false := by simp [hq6']
          have t5 : (q % 8 == 5) = false := by simp [hq6']
          clear hq6' hn0 hn1 hn2 hn3 hn4 hn5
          go_wp2_with fail
          refine (awake_keep (w := w) (B := some ⟨g, 0, none⟩) (n := x.length) he ?_ ?_).mono ?_
          · exact hb1.setCell (p := ⟨g, _, none⟩) hg _
          · exact hxx.out.set.mono (by simp)
          rintro e w2 ⟨rfl, hbb2, l2, hl2, hr2⟩
          have hla := (HL.out.below hbb2).mono hbb2.size
          have HL2 := hide hl2
          clear hl2
          go_wp2_with (first
            | (go_at_call 26; (with_reducible refine (check_n (w := w) p l rfl hbb2 hla).mono ?_); rintro e w3 ⟨rfl, hbb3, hla3, hb3⟩; have hr3 := (hr2.below hb3).mono hb3.size)
            | (go_at_call 27; (with_reducible refine (rcheck_n (w := w) p l rfl hbb3 hla3).mono ?_); rintro e w4 ⟨rfl, hbb4, _, hb4⟩; have hr4 := (hr3.below hb4).mono hb4.size)
            | (go_at_call 26; (with_reducible refine (check_n (w := w) 4 l2 HL2.out hbb4 hr4).mono ?_); rintro e w5 ⟨rfl, hbb5, hr5, _⟩)
            | (go_at_call 27; (with_reducible refine (rcheck_n (w := w) 4 l2 HL2.out hbb5 hr5).mono ?_); rintro e w6 ⟨rfl, hbb6, _, _⟩))
          go_ret
          exact ⟨rfl, hbb6⟩
        have hn6 : (q % 8 == 6) = false := by simpa using hq6'
        clear hq6'
        go_wp2_with fail
        refine (awake_keep he hb1 hxx.out).mono ?_
        rintro e w2 ⟨rfl, hbb2, l2, hl2, hr2⟩
        have hla := (HL.out.below hbb2).mono hbb2.size
        have HL2 := hide hl2
        clear hl2
        go_wp2_with (first
          | (go_at_call 26; (with_reducible refine (check_n (w := w) p l rfl hbb2 hla).mono ?_); rintro e w3 ⟨rfl, hbb3, hla3, hb3⟩; have hr3 := (hr2.below hb3).mono hb3.size)
          | (go_at_call 27; (with_reducible refine (rcheck_n (w := w) p l rfl hbb3 hla3).mono ?_); rintro e w4 ⟨rfl, hbb4, _, hb4⟩; have hr4 := (hr3.below hb4).mono hb4.size)
          | (go_at_call 26; (with_reducible refine (check_n (w := w) 4 l2 HL2.out hbb4 hr4).mono ?_); rintro e w5 ⟨rfl, hbb5, hr5, _⟩)
          | (go_at_call 27; (with_reducible refine (rcheck_n (w := w) 4 l2 HL2.out hbb5 hr5).mono ?_); rintro e w6 ⟨rfl, hbb6, _, _⟩))
        go_ret
        exact ⟨rfl, hbb6⟩
end Go.Proofs.YtkllpfijeglppaaDoor.HsLaw7
