/- The walk of the law HistoryMost. -/
import Derived.Test.YtkllpfijeglppaaDoorHsMk
import Derived.Test.YtkllpfijeglppaaDoorHsMm
import Derived.Test.YtkllpfijeglppaaDoorHsW
namespace Go.Proofs.YtkllpfijeglppaaDoor.HsLaw10
open Go.RowKit Hs HsB HsC HsD HsF HsG HsH HsE HsI HsJ HsK HsL HsM HsN HsO HsP HsQ HsR HsS HsT HsU HsW HsY HsMa HsMb HsMc HsMd HsMe HsMf HsMe2 HsMg HsMh HsMi HsMj HsMk HsMl HsMm
theorem pvals_get (l : List (Nat × Nat)) (i : Nat) (r : Nat × Nat) (h : l[i]? = some r) : (pvals l)[i * 2]? = some (.int .i64 (r.1 : Int)) ∧ (pvals l)[i * 2 + 1]? = some (.int .i64 (r.2 : Int)) := by
  induction l generalizing i with
  | nil => simp at h
  | cons a l ih =>
    have e : pvals (a :: l) = [.int .i64 (a.1 : Int), .int .i64 (a.2 : Int)] ++ pvals l := by simp [pvals]
    rw [e]
    cases i with
    | zero => simp at h; subst h; simp
    | succ i =>
      obtain ⟨h1, h2⟩ := ih i (by simpa using h)
      rw [show (i + 1) * 2 = i * 2 + 1 + 1 by omega]
      exact ⟨by simpa using h1, by simpa using h2⟩
theorem pairs_of_own {w : World} {B c : Nat} {l : List (Nat × Nat)} {A : Option Addr} (h : w.ownsRow B 62 2 (.slice A l.length c) l.length (pvals l)) : PairsAt w w.heap.size A l := by
  refine ⟨HsV.own_len h, fun hp => ?_⟩
  obtain ⟨g, cg, hA, _, hlt⟩ := h.form hp
  cases hA
  refine ⟨g, 0, rfl, hlt, fun k r hk => ?_⟩
  have hkl : k < l.length := (List.getElem?_eq_some_iff.1 hk).1
  obtain ⟨h1, h2⟩ := pvals_get l k r hk
  rw [Nat.zero_add]
  exact ⟨(h.cellAt (k * 2) (by omega)).trans h1, (h.cellAt (k * 2 + 1) (by omega)).trans h2⟩
theorem own_cap {w : World} {B e size n c : Nat} {A : Option Addr} {xs : List Value} (h : w.ownsRow B e size (.slice A n c) n xs) : n ≤ c := by
  rcases h.2 with ⟨h0, _⟩ | ⟨g, cap, cur, h0, _, _, hnc, _⟩
  · injection h0 with _ h1 h2; omega
  · injection h0 with _ h1 h2; omega
theorem rows_take {w : World} {B : Nat} {A : Option Addr} {l : List HRow} (h : RowsAt w B A l) (k : Nat) : RowsAt w B A (l.take k) := by
  refine ⟨Nat.le_trans (List.length_take_le' ..) h.1, fun hp => ?_⟩
  obtain ⟨b, off, e, hlt, hc⟩ := h.2 (by rw [List.length_take] at hp; omega)
  refine ⟨b, off, e, hlt, fun j r hj => hc j r ?_⟩
  rw [List.getElem?_take] at hj
  split at hj
  · exact hj
  · cases hj
theorem ord_days {D : Int} {l : List HRow} (h : Ord D l) (hD : D ≤ 1048576) : days l = true := by
  unfold days
  rw [List.all_eq_true]
  intro r hr
  have := h.1 r hr
  simp only [decide_eq_true_eq]
  unfold DayIn
  omega
theorem err_zero {D : Int} {a b : List HRow} {s : Int} (ha : Ord D a) (hb : Ord D b) (hD : D ≤ 1048576) (hla : a.length ≤ 9) (hlb : b.length ≤ 9) (hs0 : 0 ≤ s) (hs1 : s ≤ 1000) : matchErr a b s = 0 :=
  (matchErr0 (by omega) ⟨ord_days ha hD, ord_days hb hD, hs0, by omega⟩ ⟨steps_of_pairwise ha.2, steps_of_pairwise hb.2⟩).symm
theorem ord_sub {D : Int} {l : List HRow} (h : Ord D l) (k : Nat) : Ord D (l.take k) :=
  ⟨fun r hr => h.1 r (List.mem_of_mem_take hr), h.2.sublist (List.take_sublist k l)⟩
theorem below_next {w w1 w2 : World} (h : Below w.heap.size w w1) (h2 : Below w1.heap.size w1 w2) : Below w.heap.size w w2 := h.trans (h2.mono h.size)
theorem rows_next {w w' : World} {A : Option Addr} {l : List HRow} (h : RowsAt w w.heap.size A l) (hb : Below w.heap.size w w') : RowsAt w' w'.heap.size A l := (h.below hb).mono hb.size
set_option maxHeartbeats 4000000 in
set_option maxRecDepth 100000 in
theorem most_law (A0 : Option Addr) (n0 c0 : Nat) (gx : Int) (A2 : Option Addr) (n2 c2 : Nat) (dx : Int) (w : World)
    (h0 : FivesAt w w.heap.size A0 n0) (h2 : ByteAt w w.heap.size A2 n2) (hg : 0 ≤ gx ∧ gx ≤ 65535) (hd : 0 ≤ dx ∧ dx ≤ 255) (he : Env w) :
    Calls Tryd.prog 12 #[.slice A0 n0 c0, .int .u16 gx, .slice A2 n2 c2, .int .u8 dx] w fun e w' => e = .returned (.bool true) ∧ Below w.heap.size w w' := by
  obtain ⟨gp, rfl⟩ : ∃ n : Nat, gx = n := ⟨gx.toNat, by omega⟩
  obtain ⟨hd0, hd1⟩ := hd
  obtain ⟨ib, hib, hbz0, hbz1, hbz2⟩ := info_parts boolInfo
  clear hg
  have H0 := hide h0
  have H2 := hide h2
  clear h0 h2
  go_enter Tryd.func12, Tryd.ntmps12
  go_wp2_with fail
  refine (statements_any A0 A2 n0 c0 n2 c2 gp _ H0.out H2.out).mono ?_
  rintro e w1 ⟨va, vb, xa, b, rfl, oa, ob, hxa, hxb, hoa, hob, hb1⟩
  obtain ⟨Aa, ca, rfl⟩ := own_slice hoa
  obtain ⟨Ab, cb, rfl⟩ := own_slice hob
  have HA := hide (HsV.rows_of_own hoa (HsV.own_len hoa))
  have HB := hide (HsV.rows_of_own hob (HsV.own_len hob))
  have hca := own_cap hoa
  have OA := hide oa
  have OB := hide ob
  clear hoa hob H0 H2 oa ob
  go_upto_if 27 with fail
  go_cut [9] (fun v wx => ∃ A' c', v = .slice A' (xa.take 6).length c' ∧ w1 = wx ∧ RowsAt w1 w1.heap.size A' (xa.take 6))
  case first =>
    by_cases h6 : 6 < xa.length
    · have hl6 : Hid ((xa.take 6).length = 6) := by show _ = _; rw [List.length_take]; omega
      go_wp2_with fail
      go_meet
      case rel => exact ⟨Aa, ca, by rw [hl6.out], rfl, rows_take HA.out 6⟩
    · have hl6 : Hid (xa.take 6 = xa) := by show _ = _; exact List.take_of_length_le (by omega)
      go_wp2_with fail
      go_meet
      case rel => exact ⟨Aa, ca, by rw [hl6.out], rfl, by rw [hl6.out]; exact HA.out⟩
  case rest =>
    obtain ⟨A', c', rfl, rfl, ha⟩ := hcut
    have HA := hide ha
    have OA := hide (ord_sub OA.out 6)
    have hla : (xa.take 6).length ≤ 6 := by rw [List.length_take]; omega
    clear ha hca
    generalize xa.take 6 = a at HA OA hla ⊢
    obtain ⟨s, hs⟩ : ∃ s, dx % 6 = s := ⟨_, rfl⟩
    have hs0 : 0 ≤ s := by omega
    have hs1 : s ≤ 5 := by omega
    go_wp2_with fail
    refine (pmatch_any a b _ _ _ _ s _ HA.out HB.out).mono ?_
    have hE := err_zero (s := s) OA.out OB.out (by omega) (by omega) hxb hs0 (by omega)
    rintro e w2 ⟨v, rfl, ho, hb2⟩
    rw [hE]
    rw [matchOf, if_pos hE] at ho
    have HPM := hide (pairs_most s b OB.out.2 a 0 (List.replicate b.length false) OA.out.2 (by simp))
    have hok := pairs_ok s a b a 0 (List.replicate b.length false) rfl (by simp)
    have hln := pairs_len s b 0 a (List.replicate b.length false)
    generalize pairs s b 0 a (List.replicate b.length false) = L at ho HPM hok hln
    obtain ⟨P1, k1, rfl⟩ := own_slice ho
    have HQ := hide (pairs_of_own ho)
    have HA := hide (rows_next HA.out hb2)
    have HB := hide (rows_next HB.out hb2)
    have hbb2 := below_next hb1 hb2
    have HOK := hide hok
    clear ho hb1 hb2 hok hE
    go_wp2_with (first
      | (at_make
         refine wpList_make_full _ rfl (.tmp 41) (.tmp 41) 61 rfl w2.heap.size 4 ib _ 1 Tryd.underlying61 hib hbz0 hbz1 .i64 .i64 _ _ b.length rfl rfl ?c1 ?c2 ?c3 ?c4 ?c5 ?_
         case c1 => rfl
         case c2 => rfl
         case c3 => rw [hbz2]; omega
         case c4 => unfold maxLen; omega
         case c5 => exact Nat.le_refl _
         intro w3 hown hg))
    rw [made_bvals] at hown
    have hb3 : Below w2.heap.size w2 w3 := (Below.refl _ _).grown hg (Nat.le_refl _) (by simp)
    clear hg
    go_loopw [15] (fun vi wq => ∃ (i lo : Nat) (us : List Bool), i ≤ L.length ∧ vi = .int .i64 i ∧ us.length = b.length ∧ Hid (okPairs s a b lo us (L.drop i)) ∧ Hid (0 < i → ∃ r, L[i - 1]? = some r ∧ r.1 < lo) ∧ wq.ownsRow w2.heap.size 4 1 (.slice (some ⟨w2.heap.size, 0, none⟩) b.length b.length) b.length (bvals us) ∧ Below w2.heap.size w2 wq) (fun vi _ => L.length - (intOf vi).toNat)
    case atStart => exact ⟨0, 0, List.replicate b.length false, by omega, rfl, by simp, HOK.out, fun h => absurd h (by omega), hown, hb3⟩
    case round =>
      clear hown hb3
      obtain ⟨i, lo, us, hi, rfl, hus, HO, HL, hown, hbr⟩ := hrel
      by_cases hlt : i < L.length
      · obtain ⟨⟨p, q⟩, hr⟩ : ∃ r, L[i]? = some r := ⟨_, List.getElem?_eq_getElem hlt⟩
        obtain ⟨bp, op, rfl, hbp, hcp⟩ := (HQ.out.below hbr).2 (by omega)
        obtain ⟨e0, e1⟩ := hcp i _ hr
        dsimp only at e0 e1
        have hok' := HO.out
        rw [drop_get hr] at hok'
        obtain ⟨hlo, ⟨x, y, hx, hy, hn⟩, hu, hnext⟩ := hok'
        have hpl : p < a.length := (List.getElem?_eq_some_iff.1 hx).1
        have hql : q < b.length := (List.getElem?_eq_some_iff.1 hy).1
        have hdx : DayIn x := dayIn_of (ord_days OA.out (by omega)) hx
        have hdy : DayIn y := dayIn_of (ord_days OB.out (by omega)) hy
        obtain ⟨b1, o1, rfl, hbw1, hc1⟩ := (HA.out.below hbr).2 (by omega)
        obtain ⟨b2, o2, rfl, hbw2, hc2⟩ := (HB.out.below hbr).2 (by omega)
        have HN := hide hn
        have HNEXT := hide hnext
        have HR := hide hr
        have hcpx := Lib.hid hcp
        have q1 := fun z => rows_in hc1 hx hbw1 hbr.size z
        have q2 := fun z => rows_in hc2 hy hbw2 hbr.size z
        have hgq : w2.heap.size < wr.heap.size := (hown.lt _ rfl).2
        have Q1 := Lib.hid q1
        have Q2 := Lib.hid q2
        clear q1 q2 hc1 hc2 hx hy hn hnext hr hcp HO
        have qc : wr.cell? ⟨w2.heap.size, q, none⟩ = some (.bool false) := (hown.cellAt q (by omega)).trans (bvals_get _ _ hu)
        have QC := hide qc
        clear qc hu
        have t1 : decide ((p : Int) < 0) = false := by simp
        have t2 : decide (a.length ≤ p) = false := by simp; omega
        have t2' : decide ((a.length : Int) ≤ (p : Int)) = false := by simp; omega
        have t3 : decide ((q : Int) < 0) = false := by simp
        have t4 : decide (b.length ≤ q) = false := by simp; omega
        have t4' : decide ((b.length : Int) ≤ (q : Int)) = false := by simp; omega
        haveI : Nonempty (Qin.In (Below wr.heap.size wr)) := ⟨⟨wr, Below.refl _ _⟩⟩
        have hcw := fun z => corrs_in wr x y s z hdx hdy
        rw [HN.out] at hcw
        have HCW := Lib.hid hcw
        clear hcw
        rcases Nat.eq_zero_or_pos i with hi0 | hi0
        · have t5 : decide (0 < i) = false := by simp; omega
          have t5' : decide ((0 : Int) < (i : Int)) = false := by simp; omega
          clear HL hi0
          go_wp2_with fail
          go_quiet (fail)
          have gq : ∀ z : Qin.In (Below wr.heap.size wr), z.val.cell? ⟨w2.heap.size, q, none⟩ = some (.bool false) := fun z => (z.ok.cell (p := ⟨w2.heap.size, q, none⟩) hgq).trans QC.out
          have a0 := fun z => (Q1.out z).1
          have a1 := fun z => (Q1.out z).2.1
          have a2 := fun z => (Q1.out z).2.2.1
          have a3 := fun z => (Q1.out z).2.2.2.1
          have a4 := fun z => (Q1.out z).2.2.2.2.1
          have a5 := fun z => (Q1.out z).2.2.2.2.2
          have c0 := fun z => (Q2.out z).1
          have c1 := fun z => (Q2.out z).2.1
          have c2 := fun z => (Q2.out z).2.2.1
          have c3 := fun z => (Q2.out z).2.2.2.1
          have c4 := fun z => (Q2.out z).2.2.2.2.1
          have c5 := fun z => (Q2.out z).2.2.2.2.2
          go_wp2_with fail
          refine Qin.region (I := Below wr.heap.size wr) ⟨rfl, rfl, rfl, Nat.le_refl _, fun _ _ => rfl⟩ (by kernel_rfl) (by kernel_rfl) ?_
          repeat (go_big_quiet_step ((go_at_call 32; exact HCW.out _)))
          refine wpQuiet_nil ?_
          intro z
          have hoz := own_below hown z.ok
          have hbz := hbr.trans (z.ok.mono hbr.size)
          have hcz := gq z
          have hfz := hoz.frozenAt q
          obtain ⟨hos, hgs⟩ := hoz.stored q (.bool true)
          have hbs := hbz.setCell (p := ⟨w2.heap.size, q, none⟩) (Nat.le_refl _) (.bool true)
          clear a0 a1 a2 a3 a4 a5 c0 c1 c2 c3 c4 c5 gq Q1 Q2
          go_wp2_with fail
          go_roundw
          case rel => exact ⟨i + 1, p + 1, us.set q true, by omega, by go_num, by simpa using hus, HNEXT.out, fun _ => ⟨(p, q), by rw [Nat.add_sub_cancel]; exact HR.out, Nat.lt_succ_self _⟩, by rw [← bvals_set]; exact hos, hbs⟩
          case measure => simp [intOf]; omega
        · obtain ⟨j, hj⟩ : ∃ j, i = j + 1 := ⟨i - 1, by omega⟩
          have hjs : i - 1 = j := by omega
          obtain ⟨⟨p0, q0⟩, hr0, hp0⟩ := HL.out hi0
          rw [hjs] at hr0
          dsimp only at hp0
          have f0 : wr.cell? ⟨bp, op + j * 2, none⟩ = some (.int .i64 (p0 : Int)) := (hcpx.out j _ hr0).1
          have hsub : IntKind.i64.wrap ((i : Int) - 1) = (j : Int) := by
            rw [show (i : Int) - 1 = (j : Int) by omega]; exact IntWalk.i64_in _ (by omega)
          have hjl : j < L.length := by omega
          have hpp : p0 < p := by omega
          have t5 : decide (0 < i) = true := by simp; omega
          have t5' : decide ((0 : Int) < (i : Int)) = true := by simp; omega
          have t6 : decide (p ≤ p0) = false := by simp; omega
          have t6' : decide ((p : Int) ≤ (p0 : Int)) = false := by simp; omega
          clear hr0 hjs hj HL
          go_wp2_with fail
          go_quiet (fail)
          have gq : ∀ z : Qin.In (Below wr.heap.size wr), z.val.cell? ⟨w2.heap.size, q, none⟩ = some (.bool false) := fun z => (z.ok.cell (p := ⟨w2.heap.size, q, none⟩) hgq).trans QC.out
          have gf : ∀ z : Qin.In (Below wr.heap.size wr), z.val.cell? ⟨bp, op + j * 2, none⟩ = some (.int .i64 (p0 : Int)) := fun z => (z.ok.cell (p := ⟨bp, op + j * 2, none⟩) (by show bp < _; omega)).trans f0
          clear f0
          have a0 := fun z => (Q1.out z).1
          have a1 := fun z => (Q1.out z).2.1
          have a2 := fun z => (Q1.out z).2.2.1
          have a3 := fun z => (Q1.out z).2.2.2.1
          have a4 := fun z => (Q1.out z).2.2.2.2.1
          have a5 := fun z => (Q1.out z).2.2.2.2.2
          have c0 := fun z => (Q2.out z).1
          have c1 := fun z => (Q2.out z).2.1
          have c2 := fun z => (Q2.out z).2.2.1
          have c3 := fun z => (Q2.out z).2.2.2.1
          have c4 := fun z => (Q2.out z).2.2.2.2.1
          have c5 := fun z => (Q2.out z).2.2.2.2.2
          go_wp2_with fail
          refine Qin.region (I := Below wr.heap.size wr) ⟨rfl, rfl, rfl, Nat.le_refl _, fun _ _ => rfl⟩ (by kernel_rfl) (by kernel_rfl) ?_
          repeat (go_big_quiet_step ((go_at_call 32; exact HCW.out _)))
          refine wpQuiet_nil ?_
          intro z
          have hoz := own_below hown z.ok
          have hbz := hbr.trans (z.ok.mono hbr.size)
          have hcz := gq z
          have hfz := hoz.frozenAt q
          obtain ⟨hos, hgs⟩ := hoz.stored q (.bool true)
          have hbs := hbz.setCell (p := ⟨w2.heap.size, q, none⟩) (Nat.le_refl _) (.bool true)
          clear a0 a1 a2 a3 a4 a5 c0 c1 c2 c3 c4 c5 gq Q1 Q2 gf
          go_wp2_with fail
          go_roundw
          case rel => exact ⟨i + 1, p + 1, us.set q true, by omega, by go_num, by simpa using hus, HNEXT.out, fun _ => ⟨(p, q), by rw [Nat.add_sub_cancel]; exact HR.out, Nat.lt_succ_self _⟩, by rw [← bvals_set]; exact hos, hbs⟩
          case measure => simp [intOf]; omega
      · have HPM2 : Hid (L.length = mostOf s b a (Nat.testBit 0)) := by
          show _ = _
          rw [HPM.out, ub_replicate]
          congr 1
          funext k
          exact (Nat.zero_testBit k).symm
        have hbw : Below w.heap.size w wr := hbb2.trans (hbr.mono hbb2.size)
        have HA2 := hide ((HA.out.below hbr).mono hbr.size)
        have HB2 := hide ((HB.out.below hbr).mono hbr.size)
        clear hown HO HL
        go_wp2_with fail
        refine (awake_any _ (he.below hbw)).mono ?_
        rintro e w4 ⟨rfl, hb4⟩
        have hbw4 := below_next hbw hb4
        go_wp2_with fail
        refine (most_any s a b _ _ _ _ (by omega) hxb (ord_days OA.out (by omega)) (ord_days OB.out (by omega)) a.length 0 0 _ _ _ rfl rfl (by omega) (by omega) (by omega) (rows_next HA2.out hb4) (rows_next HB2.out hb4)).mono ?_
        rintro e w5 ⟨rfl, hb5⟩
        rw [List.drop_zero, ← HPM2.out]
        go_wp2_with fail
        go_ret
        exact ⟨rfl, below_next hbw4 hb5⟩
end Go.Proofs.YtkllpfijeglppaaDoor.HsLaw10
