/- The walk of the law HistoryMatch. -/
import Derived.Test.YtkllpfijeglppaaDoorHsMk
import Derived.Test.YtkllpfijeglppaaDoorHsW
namespace Go.Proofs.YtkllpfijeglppaaDoor.HsLaw9
open Go.RowKit Hs HsB HsC HsD HsF HsG HsH HsE HsI HsJ HsK HsL HsM HsN HsO HsP HsQ HsR HsS HsT HsU HsW HsY HsMa HsMb HsMc HsMd HsMe HsMf HsMe2 HsMg HsMh HsMi HsMj HsMk
theorem pvals_get (l : List (Nat × Nat)) (i : Nat) (r : Nat × Nat) (h : l[i]? = some r) : (pvals l)[i * 2]? = some (.int .i64 (r.1 : Int)) ∧ (pvals l)[i * 2 + 1]? = some (.int .i64 (r.2 : Int)) := by
  induction l generalizing i with
  | nil => simp at h
  | cons a l ih =>
    have e : pvals (a :: l) = [.int .i64 (a.1 : Int), .int .i64 (a.2 : Int)] ++ pvals l := by simp [pvals]
    rw [e]
    cases i with
    | zero => simp at h; subst h; simp
    | succ i =>
      obtain ⟨h1, h2⟩ := ih i (by simpa using h)
      rw [show (i + 1) * 2 = i * 2 + 1 + 1 by omega]
      exact ⟨by simpa using h1, by simpa using h2⟩
theorem pairs_of_own {w : World} {B c : Nat} {l : List (Nat × Nat)} {A : Option Addr} (h : w.ownsRow B 62 2 (.slice A l.length c) l.length (pvals l)) : PairsAt w w.heap.size A l := by
  refine ⟨HsV.own_len h, fun hp => ?_⟩
  obtain ⟨g, cg, hA, _, hlt⟩ := h.form hp
  cases hA
  refine ⟨g, 0, rfl, hlt, fun k r hk => ?_⟩
  have hkl : k < l.length := (List.getElem?_eq_some_iff.1 hk).1
  obtain ⟨h1, h2⟩ := pvals_get l k r hk
  rw [Nat.zero_add]
  exact ⟨(h.cellAt (k * 2) (by omega)).trans h1, (h.cellAt (k * 2 + 1) (by omega)).trans h2⟩
theorem PairsAt.more {w : World} {B B' : Nat} {A : Option Addr} {l : List (Nat × Nat)} (h : PairsAt w B A l) (hb : B ≤ B') : PairsAt w B' A l :=
  ⟨h.1, fun hp => by
    obtain ⟨b, off, e, hlt, hc⟩ := h.2 hp
    exact ⟨b, off, e, by omega, hc⟩⟩
theorem rows_next {w w' : World} {A : Option Addr} {l : List HRow} (h : RowsAt w w.heap.size A l) (hb : Below w.heap.size w w') : RowsAt w' w'.heap.size A l := (h.below hb).mono hb.size
theorem pairs_next {w w' : World} {A : Option Addr} {l : List (Nat × Nat)} (h : PairsAt w w.heap.size A l) (hb : Below w.heap.size w w') : PairsAt w' w'.heap.size A l := PairsAt.more (h.below hb) hb.size
theorem below_next {w w1 w2 : World} (h : Below w.heap.size w w1) (h2 : Below w1.heap.size w1 w2) : Below w.heap.size w w2 := h.trans (h2.mono h.size)
theorem int_info' : (Tryd.prog.info? 3).map (fun i => i.size) = some 1 := by kernel_rfl
theorem int_cells : Tryd.prog.cellsOf 3 = 1 := by kernel_rfl
set_option maxHeartbeats 4000000 in
set_option maxRecDepth 100000 in
theorem match_law (A0 : Option Addr) (l0 : List HRow) (c0 : Nat) (A1 : Option Addr) (l1 : List HRow) (c1 : Nat) (s : Int) (A3 : Option Addr) (n3 c3 : Nat) (gx : Int) (A5 : Option Addr) (n5 c5 : Nat) (dx : Int) (w : World)
    (h0 : RowsAt w w.heap.size A0 l0) (h1 : RowsAt w w.heap.size A1 l1) (h3 : FivesAt w w.heap.size A3 n3) (h5 : ByteAt w w.heap.size A5 n5) (hg : 0 ≤ gx ∧ gx ≤ 65535) (hd : 0 ≤ dx ∧ dx ≤ 255) (he : Env w) :
    Calls Tryd.prog 11 #[.slice A0 l0.length c0, .slice A1 l1.length c1, .int .i64 s, .slice A3 n3 c3, .int .u16 gx, .slice A5 n5 c5, .int .u8 dx] w fun e w' => e = .returned (.bool true) ∧ Below w.heap.size w w' := by
  obtain ⟨gp, rfl⟩ : ∃ n : Nat, gx = n := ⟨gx.toNat, by omega⟩
  obtain ⟨hd0, hd1⟩ := hd
  clear hg
  have hl0 := h0.1
  have hl1 := h1.1
  unfold maxLen at hl0 hl1
  obtain ⟨ii, hii⟩ : ∃ i, Tryd.prog.info? 3 = some i := by
    have h := int_info'
    cases h2 : Tryd.prog.info? 3 with
    | none => rw [h2] at h; cases h
    | some i => exact ⟨i, rfl⟩
  have II := hide hii
  have H0 := hide h0
  have H1 := hide h1
  have H3 := hide h3
  have H5 := hide h5
  clear h0 h1 h3 h5 hii
  by_cases h8 : 8 < l0.length ∨ 8 < l1.length
  · rcases (by omega : 8 < l0.length ∨ (¬ 8 < l0.length ∧ 8 < l1.length)) with h | ⟨h, h'⟩
    all_goals
      clear h8
      go_enter Tryd.func11, Tryd.ntmps11
      go_wp2_with (go_at_call 13; refine (awake_any _ he).mono ?_; rintro e w1 ⟨rfl, hb⟩)
      go_ret
      exact ⟨rfl, hb⟩
  · have g0 : ¬ 8 < l0.length := by omega
    have g1 : ¬ 8 < l1.length := by omega
    clear h8
    go_enter Tryd.func11, Tryd.ntmps11
    go_wp2_with fail
    refine (statements_any A3 A5 n3 c3 n5 c5 gp _ H3.out H5.out).mono ?_
    rintro e w1 ⟨va, vb, xa, xb, rfl, _, _, hxa, hxb, hoa, hob, hb1⟩
    obtain ⟨Aa, ca, rfl⟩ := own_slice hoa
    obtain ⟨Ab, cb, rfl⟩ := own_slice hob
    have HA := hide (HsV.rows_of_own hoa (HsV.own_len hoa))
    have HB := hide (HsV.rows_of_own hob (HsV.own_len hob))
    have H0 := hide (rows_next H0.out hb1)
    have H1 := hide (rows_next H1.out hb1)
    clear hoa hob H3 H5
    go_wp2_with fail
    refine (pmatch_any xa xb _ _ _ _ (dx % 6) _ HA.out HB.out).mono ?_
    rintro e w2 ⟨v, rfl, ho, hb2⟩
    obtain ⟨P1, k1, rfl⟩ := own_slice ho
    have Q1 := hide (pairs_of_own ho)
    have HA := hide (rows_next HA.out hb2)
    have HB := hide (rows_next HB.out hb2)
    have H0 := hide (rows_next H0.out hb2)
    have H1 := hide (rows_next H1.out hb2)
    have hbb2 := below_next hb1 hb2
    clear ho hb1 hb2
    go_wp2_with fail
    refine (rmatch_any xa xb _ _ _ _ (dx % 6) _ HA.out HB.out).mono ?_
    rintro e w3 ⟨v, rfl, ho, hb3⟩
    obtain ⟨P2, k2, rfl⟩ := own_slice ho
    have Q2 := hide (pairs_of_own ho)
    have Q1 := hide (pairs_next Q1.out hb3)
    have H0 := hide (rows_next H0.out hb3)
    have H1 := hide (rows_next H1.out hb3)
    have hbb3 := below_next hbb2 hb3
    clear ho hbb2 hb3 HA HB
    go_wp2_with fail
    refine (pmatch_any l0 l1 _ _ _ _ s _ H0.out H1.out).mono ?_
    rintro e w4 ⟨v, rfl, ho, hb4⟩
    obtain ⟨P3, k3, rfl⟩ := own_slice ho
    have Q3 := hide (pairs_of_own ho)
    have Q1 := hide (pairs_next Q1.out hb4)
    have Q2 := hide (pairs_next Q2.out hb4)
    have H0 := hide (rows_next H0.out hb4)
    have H1 := hide (rows_next H1.out hb4)
    have hbb4 := below_next hbb3 hb4
    clear ho hbb3 hb4
    go_wp2_with fail
    refine (rmatch_any l0 l1 _ _ _ _ s _ H0.out H1.out).mono ?_
    rintro e w5 ⟨v, rfl, ho, hb5⟩
    obtain ⟨P4, k4, rfl⟩ := own_slice ho
    have Q4 := hide (pairs_of_own ho)
    have Q1 := hide (pairs_next Q1.out hb5)
    have Q2 := hide (pairs_next Q2.out hb5)
    have Q3 := hide (pairs_next Q3.out hb5)
    have hbb5 := below_next hbb4 hb5
    clear ho hbb4 hb5 H0 H1
    generalize matchErr xa xb (dx % 6) = e1
    generalize matchErr l0 l1 s = e2
    generalize matchOf xa xb (dx % 6) = p1 at Q1 Q2 ⊢
    generalize matchOf l0 l1 s = p2 at Q3 Q4 ⊢
    go_wp2_with fail
    refine (awake_any _ (he.below hbb5)).mono ?_
    rintro e w6 ⟨rfl, hb6⟩
    have Q1 := hide (pairs_next Q1.out hb6)
    have Q2 := hide (pairs_next Q2.out hb6)
    have Q3 := hide (pairs_next Q3.out hb6)
    have Q4 := hide (pairs_next Q4.out hb6)
    have hbb6 := below_next hbb5 hb6
    clear hbb5 hb6
    go_wp2_with fail
    refine (samePairs_yes p1 _ _ _ _ _ ii II.out int_cells Q1.out Q2.out).mono ?_
    rintro e w7 ⟨rfl, hb7⟩
    have Q3 := hide (pairs_next Q3.out hb7)
    have Q4 := hide (pairs_next Q4.out hb7)
    have hbb7 := below_next hbb6 hb7
    clear hbb6 hb7 Q1 Q2
    go_wp2_with fail
    refine (samePairs_yes p2 _ _ _ _ _ ii II.out int_cells Q3.out Q4.out).mono ?_
    rintro e w8 ⟨rfl, hb8⟩
    have hbb8 := below_next hbb7 hb8
    go_wp2_with fail
    go_ret
    exact ⟨rfl, hbb8⟩
end Go.Proofs.YtkllpfijeglppaaDoor.HsLaw9
