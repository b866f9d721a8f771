/- PqW, PqZ, in one text. -/
import Derived.Test.YtnbdckfnohagbaaGreatDoorPJ
import Derived.Test.YtnbdckfnohagbaaGreatDoorPX
import Derived.Test.YtnbdckfnohagbaaGreatDoorQmu
import Derived.Lib.EndianBits
import Derived.Laws.BitsLemmas
namespace Go.Proofs.YtnbdckfnohagbaaGreatDoor.PqW
theorem here : True := trivial
open Go.RowKit Go.ChangeShapes Go.WideShapes Go.ChangeAt Go.Deep Lx Wd RnW PqA PqB PqG PqP PqN PqR PqS PqT PqU PqY RnA RnB RnQ RnR RnP RnD RnE RtA RtC RpB RpC RpF RpH RoA RoC RoL
/-- four numbers in a row -/
def FourAt (w : World) (b o : Nat) : Prop := ∃ z0 z1 z2 z3 : Nat, z0 < 65536 ∧ z1 < 65536 ∧ z2 < 65536 ∧ z3 < 65536 ∧
  w.cell? ⟨b, o, none⟩ = some (.int .u16 z0) ∧ w.cell? ⟨b, o + 1, none⟩ = some (.int .u16 z1) ∧ w.cell? ⟨b, o + 2, none⟩ = some (.int .u16 z2) ∧ w.cell? ⟨b, o + 3, none⟩ = some (.int .u16 z3)
def FoursAt (w : World) (B : Nat) (A : Option Addr) (n : Nat) : Prop := n ≤ maxLen ∧ (0 < n → ∃ b off, A = some ⟨b, off, none⟩ ∧ b < B ∧ ∀ k, k < n → FourAt w b (off + k * 4))
theorem FoursAt.below {w w' : World} {B n : Nat} {A : Option Addr} (h : FoursAt w B A n) (hb : Below B w w') : FoursAt w' B A n :=
  ⟨h.1, fun hp => by
    obtain ⟨b, off, e, hlt, hc⟩ := h.2 hp
    refine ⟨b, off, e, hlt, fun k hk => ?_⟩
    obtain ⟨z0, z1, z2, z3, g0, g1, g2, g3, c0, c1, c2, c3⟩ := hc k hk
    exact ⟨z0, z1, z2, z3, g0, g1, g2, g3, (hb.cell (p := ⟨b, _, none⟩) hlt).trans c0, (hb.cell (p := ⟨b, _, none⟩) hlt).trans c1, (hb.cell (p := ⟨b, _, none⟩) hlt).trans c2, (hb.cell (p := ⟨b, _, none⟩) hlt).trans c3⟩⟩
section
variable {H : Type} {enc : TypeId × Value → H} {W : World} {base : Nat}
theorem four_cells : Tryz.prog.cellsOf 84 = 4 := by kernel_rfl
theorem u16_cells : Tryz.prog.cellsOf 48 = 1 := by kernel_rfl
set_option maxRecDepth 100000 in
theorem open_fours {v : Value} {d : DataW H} {p : List MemPlace} (hv : Value.okWide Tryz.prog W .any base 39 v) (h : DataW.Trod enc Tryz.prog W 0 (fun _ => true) true 39 v d p) :
    ∃ (A : Option Addr) (n : Nat) (c : Nat), v = .slice A n c ∧ FoursAt W W.heap.size A n := by
  obtain ⟨a0, len, cap, rfl⟩ := okWide_slice Tryz.underlying39 hv
  obtain ⟨fuel, hf⟩ := h
  rcases open_slice Tryz.underlying39 hf with ⟨hcs, _⟩ | ⟨a, len', cap', m, n, D, Pl, hcs, _, hl, hm, hmm, _, hi⟩
  · have e : Value.slice a0 len cap = .slice none 0 0 := by simpa [Value.cells] using hcs
    injection e with e1 e2 e3
    subst e1; subst e2; subst e3
    exact ⟨none, 0, 0, rfl, Nat.zero_le _, fun h => by cases h⟩
  · have e : Value.slice a0 len cap = .slice (some a) len' cap' := by simpa [Value.cells] using hcs
    injection e with e1 e2 e3
    subst e1; subst e2; subst e3
    simp only [if_true] at hmm
    rw [four_cells] at hi
    have key0 : ∀ i, i < len → ∀ j, j < 4 → ∃ z : Nat, z < 65536 ∧ W.cell? (a.add (i * 4 + j)) = some (.int .u16 z) := by
      intro i hilt j hj
      obtain ⟨cs', hc, ht⟩ := hi i (by omega)
      obtain ⟨xs, m', _, _, hlen, hxl, hg⟩ := DataW.trod_array Tryz.underlying84 ht
      obtain ⟨_, hcl, hat⟩ := World.cells?_some hc
      have h1 := hg j hj
      rw [u16_cells, Nat.mul_one] at h1
      have hone : (cs'.drop j).take 1 = [cs'[j]'(by omega)] := by
        rw [List.drop_eq_getElem_cons (by omega)]; rfl
      have hv : cs'[j]? = some (cs'[j]'(by omega)) := List.getElem?_eq_getElem (by omega)
      rw [hone, List.getElem?_eq_getElem (by omega)] at h1
      obtain ⟨z, hz, _, hwf⟩ := DataW.trod_int Tryz.underlying48 h1
      have hz' : cs'[j]'(by omega) = .int .u16 z := by simpa using hz
      have hb := bounds_u16 hwf
      have hcell := hat j hj
      refine ⟨z.toNat, by omega, ?_⟩
      rw [← Go.Deep.add_add, hcell, hv, hz']
      congr 2
      omega
    refine ⟨some a, len, cap, rfl, by omega, fun hp => ?_⟩
    obtain ⟨_, _, h0⟩ := key0 0 hp 0 (by omega)
    obtain ⟨b, off, rfl, hb⟩ := plain_of h0
    refine ⟨b, off, rfl, hb, fun k hk => ?_⟩
    obtain ⟨z0, g0, c0⟩ := key0 k hk 0 (by omega)
    obtain ⟨z1, g1, c1⟩ := key0 k hk 1 (by omega)
    obtain ⟨z2, g2, c2⟩ := key0 k hk 2 (by omega)
    obtain ⟨z3, g3, c3⟩ := key0 k hk 3 (by omega)
    rw [Go.WideShapes.add_plain] at c0 c1 c2 c3
    exact ⟨z0, z1, z2, z3, g0, g1, g2, g3, by rw [← c0]; congr 2, by rw [← c1]; congr 2, by rw [← c2]; congr 2, by rw [← c3]; congr 2⟩
end
set_option maxHeartbeats 2000000 in
set_option maxRecDepth 100000 in
theorem whole_any (n : Nat) (hn : n ≤ 1000000) (w : World) :
    Calls Tryz.prog 65 #[.int .i64 (n : Int)] w (RPost (mk false n 1) w) := by
  have HF := Lib.hid (fun w => rint_any (n : Int) w ⟨by omega, by omega⟩)
  have hm : intQ (n : Int) = mk false n 1 := by unfold intQ; rw [decide_eq_false (by omega)]; rfl
  rw [hm] at HF
  unfold RPost at HF ⊢
  generalize mk false n 1 = q at *
  simp only [enc_open] at HF
  rw [enc_open]
  obtain ⟨V0, hV0, HJ, hB0, hl0⟩ := box_new w (.bool false) (.string ⟨#[]⟩) (.string ⟨#[]⟩)
  have HB0 := hide hB0
  clear hm hB0
  go_enter Tryz.func65, Tryz.ntmps65
  go_wp2_with fail
  refine (HF.out _).mono ?_
  rintro e w1 ⟨rfl, hb1⟩
  have HJ2 := hide (HJ.out.keep hb1 hl0)
  have HBF := hide (HB0.out.trans (hb1.mono (Nat.le_of_lt hl0)))
  obtain ⟨c0, c1, c2, f0, f1, f2⟩ := HJ2.out
  clear hb1
  go_wp2_with fail
  refine bodyPost_ret (results_rat rfl _ rfl (HJ2.out.set3 _ _ _)) rfl ?_
  exact ⟨rfl, below_set3 HBF.out (Nat.le_refl _) _ _ _⟩
/-- a small amount -/
def Aq (q : Rat) : Prop := ∃ a b, a ≤ 30 ∧ 1 ≤ b ∧ b ≤ 6 ∧ q = mk false a b
def AmtP (w : World) (e : Ending) (w' : World) : Prop := ∃ q, Aq q ∧ e = .returned (.agg #[.bool (negB q), .string (bs (nm q)), .string (dstr q)]) ∧ Below w.heap.size w w'
theorem amt_post {q : Rat} {a b : Nat} {w : World} {e : Ending} {w' : World} (hq : q = mk false a b) (ha : a ≤ 30) (h1 : 1 ≤ b) (h2 : b ≤ 6) (he : e = .returned (.agg #[.bool (negB q), .string (bs (nm q)), .string (dstr q)])) (hb : Below w.heap.size w w') : AmtP w e w' := ⟨q, ⟨a, b, ha, h1, h2, hq⟩, he, hb⟩
set_option maxHeartbeats 4000000 in
set_option maxRecDepth 100000 in
theorem amount_any (x : Nat) (hx : x < 65536) (w : World) :
    Calls Tryz.prog 36 #[.int .u16 (x : Int)] w (AmtP w) := by
  obtain ⟨V0, hV0, HJ, hB0, hl0⟩ := box_new w (.bool false) (.string ⟨#[]⟩) (.string ⟨#[]⟩)
  have HB0 := hide hB0
  clear hB0
  by_cases h0 : x % 5 = 0
  · have hm0 : (((x : Int) % 5) == 0) = true := by rw [beq_iff_eq]; omega
    have HF := Lib.hid (fun w => ratio_any (x / 5 % 23) (1 + x / 115 % 6) w (by omega) (by omega) (by omega))
    rw [show ((x / 5 % 23 : Nat) : Int) = (x : Int) / 5 % 23 by omega, show ((1 + x / 115 % 6 : Nat) : Int) = 1 + (x : Int) / 115 % 6 by omega] at HF
    obtain ⟨a, ha⟩ : ∃ a, x / 5 % 23 = a := ⟨_, rfl⟩
    obtain ⟨b, hb⟩ : ∃ b, 1 + x / 115 % 6 = b := ⟨_, rfl⟩
    have ha' : a ≤ 30 := by omega
    have hb' : 1 ≤ b ∧ b ≤ 6 := by omega
    rw [ha, hb] at HF
    obtain ⟨q, hq⟩ : ∃ q, mk false a b = q := ⟨_, rfl⟩
    have HQ := hide hq
    rw [hq] at HF
    unfold RPost at HF
    simp only [enc_open] at HF
    obtain ⟨hb1, hb2⟩ := hb'
    clear hq ha hb h0
    go_enter Tryz.func36, Tryz.ntmps36
    go_wp2_with fail
    refine (HF.out _).mono ?_
    rintro e w1 ⟨rfl, hb1⟩
    have HJ2 := hide (HJ.out.keep hb1 hl0)
    have HBF := hide (HB0.out.trans (hb1.mono (Nat.le_of_lt hl0)))
    obtain ⟨c0, c1, c2, f0, f1, f2⟩ := HJ2.out
    clear hb1
    go_wp2_with fail
    refine bodyPost_ret (results_rat rfl _ rfl (HJ2.out.set3 _ _ _)) rfl ?_
    exact amt_post HQ.out.symm ha' (by assumption) (by assumption) rfl (below_set3 HBF.out (Nat.le_refl _) _ _ _)
  · have hm0 : (((x : Int) % 5) == 0) = false := by rw [beq_eq_false_iff_ne]; omega
    by_cases h1 : x % 5 = 1
    · have hm1 : (((x : Int) % 5) == 1) = true := by rw [beq_iff_eq]; omega
      have HF := Lib.hid (fun w => whole_any (10 * (x / 5 % 4)) (by omega) w)
      rw [show ((10 * (x / 5 % 4) : Nat) : Int) = 10 * ((x : Int) / 5 % 4) by omega] at HF
      obtain ⟨a, ha⟩ : ∃ a, 10 * (x / 5 % 4) = a := ⟨_, rfl⟩
      have ha' : a ≤ 30 := by omega
      rw [ha] at HF
      obtain ⟨q, hq⟩ : ∃ q, mk false a 1 = q := ⟨_, rfl⟩
      have HQ := hide hq
      rw [hq] at HF
      unfold RPost at HF
      simp only [enc_open] at HF
      clear hq ha h0 h1
      go_enter Tryz.func36, Tryz.ntmps36
      go_wp2_with fail
      refine (HF.out _).mono ?_
      rintro e w1 ⟨rfl, hb1⟩
      have HJ2 := hide (HJ.out.keep hb1 hl0)
      have HBF := hide (HB0.out.trans (hb1.mono (Nat.le_of_lt hl0)))
      obtain ⟨c0, c1, c2, f0, f1, f2⟩ := HJ2.out
      clear hb1
      go_wp2_with fail
      refine bodyPost_ret (results_rat rfl _ rfl (HJ2.out.set3 _ _ _)) rfl ?_
      exact amt_post HQ.out.symm ha' (by omega) (by omega) rfl (below_set3 HBF.out (Nat.le_refl _) _ _ _)
    · have hm1 : (((x : Int) % 5) == 1) = false := by rw [beq_eq_false_iff_ne]; omega
      have HF := Lib.hid (fun w => whole_any (x / 5 % 13) (by omega) w)
      rw [show ((x / 5 % 13 : Nat) : Int) = (x : Int) / 5 % 13 by omega] at HF
      obtain ⟨a, ha⟩ : ∃ a, x / 5 % 13 = a := ⟨_, rfl⟩
      have ha' : a ≤ 30 := by omega
      rw [ha] at HF
      obtain ⟨q, hq⟩ : ∃ q, mk false a 1 = q := ⟨_, rfl⟩
      have HQ := hide hq
      rw [hq] at HF
      unfold RPost at HF
      simp only [enc_open] at HF
      clear hq ha h0 h1
      go_enter Tryz.func36, Tryz.ntmps36
      go_wp2_with fail
      refine (HF.out _).mono ?_
      rintro e w1 ⟨rfl, hb1⟩
      have HJ2 := hide (HJ.out.keep hb1 hl0)
      have HBF := hide (HB0.out.trans (hb1.mono (Nat.le_of_lt hl0)))
      obtain ⟨c0, c1, c2, f0, f1, f2⟩ := HJ2.out
      clear hb1
      go_wp2_with fail
      refine bodyPost_ret (results_rat rfl _ rfl (HJ2.out.set3 _ _ _)) rfl ?_
      exact amt_post HQ.out.symm ha' (by omega) (by omega) rfl (below_set3 HBF.out (Nat.le_refl _) _ _ _)
theorem amt_small : ∀ a < 31, ∀ b < 7, 0 < b → negB (mk false a b) = false ∧ (decOf (nm (mk false a b))).length ≤ 3 ∧ (decOf (mk false a b).den).length ≤ 3 ∧ (formatQ (mk false a b)).length ≤ 5 ∧ (bytesOf (nm (mk false a b))).length ≤ 3 ∧ (encD (mk false a b)).length ≤ 3 := by decide +kernel
theorem Aq.small {q : Rat} (h : Aq q) : negB q = false ∧ (decOf (nm q)).length ≤ 3 ∧ (decOf q.den).length ≤ 3 ∧ (formatQ q).length ≤ 5 ∧ (bs (nm q)).size ≤ 3 ∧ (dstr q).size ≤ 3 := by
  obtain ⟨a, b, h1, h2, h3, rfl⟩ := h
  obtain ⟨k1, k2, k3, k4, k5, k6⟩ := amt_small a (by omega) b (by omega) (by omega)
  have e5 := st_size (bytesOf (nm (mk false a b)))
  have e6 := st_size (encD (mk false a b))
  change (bs (nm (mk false a b))).size = _ at e5
  change (dstr (mk false a b)).size = _ at e6
  exact ⟨k1, k2, k3, k4, by rw [e5]; exact k5, by rw [e6]; exact k6⟩
end Go.Proofs.YtnbdckfnohagbaaGreatDoor.PqW
namespace Go.Proofs.YtnbdckfnohagbaaGreatDoor.PqZ
theorem here : True := trivial
open Go.RowKit Lx LxD Wd RnW PqA PqB PqC PqD PqG PqH PqN PqS PqT PqU PqW PqY NmA RnQ RnR RnP RnD RnE RtA RpC RoL
def nmsV : List Value := [.string ⟨#[97]⟩, .string ⟨#[98]⟩, .string ⟨#[99]⟩, .string ⟨#[100]⟩, .string ⟨#[101]⟩, .string ⟨#[102]⟩, .string ⟨#[112]⟩, .string ⟨#[113]⟩, .string ⟨#[114]⟩]
/-- a short name -/
def isN (s : ByteArray) : Prop := plB s = true ∧ s.size = 1
theorem name_of (j : Nat) (hj : j < 9) : ∃ s, isN s ∧ nmsV[j]? = some (.string s) := by
  match j, hj with
  | 0, _ => exact ⟨⟨#[97]⟩, ⟨by decide +kernel, rfl⟩, rfl⟩
  | 1, _ => exact ⟨⟨#[98]⟩, ⟨by decide +kernel, rfl⟩, rfl⟩
  | 2, _ => exact ⟨⟨#[99]⟩, ⟨by decide +kernel, rfl⟩, rfl⟩
  | 3, _ => exact ⟨⟨#[100]⟩, ⟨by decide +kernel, rfl⟩, rfl⟩
  | 4, _ => exact ⟨⟨#[101]⟩, ⟨by decide +kernel, rfl⟩, rfl⟩
  | 5, _ => exact ⟨⟨#[102]⟩, ⟨by decide +kernel, rfl⟩, rfl⟩
  | 6, _ => exact ⟨⟨#[112]⟩, ⟨by decide +kernel, rfl⟩, rfl⟩
  | 7, _ => exact ⟨⟨#[113]⟩, ⟨by decide +kernel, rfl⟩, rfl⟩
  | 8, _ => exact ⟨⟨#[114]⟩, ⟨by decide +kernel, rfl⟩, rfl⟩
  | n + 9, h => exact absurd h (by omega)
/-- a clause that the generator makes -/
structure Gd (x : Cl) : Prop where
  code : codeOf x = 0
  num : NumOk x
  fit : Fit x
  line : (lineL x).length ≤ 200
  items : (itemsOf x).length ≤ 20
  off : x.off = 0
theorem size_one {s : ByteArray} (h : s.size = 1) : s.data.toList.length = 1 := by simpa using h
theorem fit_of {x : Cl} (h1 : x.name.size = 1) (h2 : x.other.size ≤ 1) (h3 : ∀ s ∈ x.list, s.size = 1) (h4 : x.num.size ≤ 3) (h5 : x.den.size ≤ 3) : Fit x :=
  ⟨by rw [h1]; decide, Nat.le_trans h2 (by decide), fun s hs => by rw [h3 s hs]; decide, by omega, by omega⟩
theorem gd4 {nn : ByteArray} (h : isN nn) : Gd ⟨4, nn, sNo, [], false, sNo, sNo, 0⟩ := by
  refine ⟨?_, fun h => absurd h (show ¬ (4 : Int) = 3 by decide), fit_of h.2 (show sNo.size ≤ 1 by decide) (fun s hs => by cases hs) (show sNo.size ≤ 3 by decide) (show sNo.size ≤ 3 by decide), ?_, ?_, rfl⟩
  · unfold codeOf
    rw [if_neg (show ¬ ((4 : Int) < 1 ∨ (4 : Int) < 4) by decide), if_neg (by rw [show _ = _ from h.1]; decide), if_neg (show ¬ (4 : Int) = 1 by decide), if_neg (show ¬ (4 : Int) = 2 by decide), if_neg (show ¬ (4 : Int) = 3 by decide)]
  · have := size_one h.2
    unfold lineL headL
    rw [if_neg (show ¬ (4 : Int) = 1 by decide), if_neg (show ¬ (4 : Int) = 2 by decide), if_neg (show ¬ (4 : Int) = 3 by decide)]
    simp only [List.length_append, List.length_cons, List.length_nil]
    omega
  · unfold itemsOf
    rw [if_neg (show ¬ (4 : Int) = 1 by decide), if_neg (show ¬ (4 : Int) = 2 by decide), if_neg (show ¬ (4 : Int) = 3 by decide)]
    simp
theorem gd2 {nn ot : ByteArray} (h : isN nn) (ho : isN ot) : Gd ⟨2, nn, ot, [], false, sNo, sNo, 0⟩ := by
  refine ⟨?_, fun h => absurd h (show ¬ (2 : Int) = 3 by decide), fit_of h.2 (by show ot.size ≤ 1; rw [ho.2]; exact Nat.le_refl _) (fun s hs => by cases hs) (show sNo.size ≤ 3 by decide) (show sNo.size ≤ 3 by decide), ?_, ?_, rfl⟩
  · unfold codeOf
    rw [if_neg (show ¬ ((2 : Int) < 1 ∨ (4 : Int) < 2) by decide), if_neg (by rw [show _ = _ from h.1]; decide), if_neg (show ¬ (2 : Int) = 1 by decide), if_pos rfl, if_neg (by rw [show _ = _ from ho.1]; decide)]
  · have := size_one h.2
    have := size_one ho.2
    unfold lineL headL
    rw [if_neg (show ¬ (2 : Int) = 1 by decide), if_pos rfl]
    simp only [List.length_append, List.length_cons, List.length_nil]
    omega
  · unfold itemsOf
    rw [if_neg (show ¬ (2 : Int) = 1 by decide), if_pos rfl]
    simp
theorem amt3 (nn : ByteArray) (q : Rat) : amt ⟨3, nn, sNo, [], negB q, bs (nm q), dstr q, 0⟩ = q := fix_enc q
theorem gd3 {nn : ByteArray} {q : Rat} (h : isN nn) (hq : Aq q) : Gd ⟨3, nn, sNo, [], negB q, bs (nm q), dstr q, 0⟩ := by
  obtain ⟨q1, q2, q3, q4, q5, q6⟩ := hq.small
  have ha := amt3 nn q
  refine ⟨?_, fun _ => ?_, fit_of h.2 (show sNo.size ≤ 1 by decide) (fun s hs => by cases hs) q5 q6, ?_, ?_, rfl⟩
  · unfold codeOf
    rw [if_neg (show ¬ ((3 : Int) < 1 ∨ (4 : Int) < 3) by decide), if_neg (by rw [show _ = _ from h.1]; decide), if_neg (show ¬ (3 : Int) = 1 by decide), if_neg (show ¬ (3 : Int) = 2 by decide), if_pos rfl, if_neg]
    unfold sgC
    change ¬ sgnQ (amt ⟨3, nn, sNo, [], negB q, bs (nm q), dstr q, 0⟩) < 0
    rw [ha, sgnQ_eq, q1]
    split <;> decide
  · change (decOf (nm (amt ⟨3, nn, sNo, [], negB q, bs (nm q), dstr q, 0⟩))).length ≤ 2000 ∧ (decOf (amt ⟨3, nn, sNo, [], negB q, bs (nm q), dstr q, 0⟩).den).length ≤ 2000
    rw [ha]
    exact ⟨by omega, by omega⟩
  · have := size_one h.2
    unfold lineL headL
    rw [if_neg (show ¬ (3 : Int) = 1 by decide), if_neg (show ¬ (3 : Int) = 2 by decide), if_pos rfl]
    change (_ ++ formatQ (amt ⟨3, nn, sNo, [], negB q, bs (nm q), dstr q, 0⟩) ++ _).length ≤ 200
    rw [ha]
    simp only [List.length_append, List.length_cons, List.length_nil]
    omega
  · unfold itemsOf
    rw [if_neg (show ¬ (3 : Int) = 1 by decide), if_neg (show ¬ (3 : Int) = 2 by decide), if_pos rfl]
    simp
theorem gd1 {nn : ByteArray} {l : List ByteArray} (h : isN nn) (hl : ∀ s ∈ l, isN s) (h1 : 1 ≤ l.length) (h3 : l.length ≤ 3) : Gd ⟨1, nn, sNo, l, false, sNo, sNo, 0⟩ := by
  have hall : l.all plB = true := List.all_eq_true.2 fun s hs => (hl s hs).1
  refine ⟨?_, fun h => absurd h (show ¬ (1 : Int) = 3 by decide), fit_of h.2 (show sNo.size ≤ 1 by decide) (fun s hs => (hl s hs).2) (show sNo.size ≤ 3 by decide) (show sNo.size ≤ 3 by decide), ?_, ?_, rfl⟩
  · unfold codeOf
    rw [if_neg (show ¬ ((1 : Int) < 1 ∨ (4 : Int) < 1) by decide), if_neg (by rw [show _ = _ from h.1]; decide), if_pos rfl, if_neg (by rw [show _ = _ from hall]; decide), if_neg (show ¬ l.length = 0 by omega), if_neg (show ¬ 32 < l.length by omega)]
  · have := size_one h.2
    have := join_len l (fun s hs => by rw [(hl s hs).2]; decide)
    unfold lineL headL
    rw [if_pos rfl]
    simp only [List.length_append, List.length_cons, List.length_nil]
    omega
  · unfold itemsOf
    rw [if_pos rfl]
    simp only [List.length_cons, List.length_append, List.length_nil, tailI_len]
    have : l.tail.length = l.length - 1 := List.length_tail
    omega
theorem and15 (z : Nat) (hz : z < 65536) : bits BinOp.and IntKind.u16 (z : Int) 15 = ((z % 16 : Nat) : Int) := by
  have h := bits_mask .u16 16 (by decide) wraps_u16 4 (by decide) (z : Int) (by omega) (by omega)
  have e : ((2 : Int) ^ 4 - 1) = 15 := by decide
  have e2 : ((2 : Int) ^ 4) = 16 := by decide
  rw [e, e2] at h
  rw [h]
  omega
theorem low_kin {W : World} {B b j : Nat} {x : Value} (hb : b < B) (h : W.cell? ⟨b, j, none⟩ = some x) (v : Qin.In (Below B W)) : v.val.cell? ⟨b, j, none⟩ = some x := (v.ok.cell (p := ⟨b, j, none⟩) hb).trans h
/-- the clause of a round, in the block K -/
def CMid (w0 : World) (K : Nat) (wx : World) : Prop := ∃ (x : Cl) (A : Option Addr) (c : Nat), Gd x ∧ Blk wx K (Cl.vals x A c) ∧ Strs (K < ·) wx A c x.list ∧ Below w0.heap.size w0 wx
theorem Gd.vals {x : Cl} (h : Gd x) (A : Option Addr) (c : Nat) : Cl.vals x A c = [.int .i64 x.kind, .string x.name, .string x.other, .slice A x.list.length c, .bool x.neg, .string x.num, .string x.den, .int .i64 0] := by unfold Cl.vals; rw [h.off]
set_option maxHeartbeats 8000000 in
set_option maxRecDepth 100000 in
theorem clauses_any (A : Option Addr) (n c : Nat) (w : World) (h : FoursAt w w.heap.size A n) :
    Calls Tryz.prog 17 #[.slice A n c] w fun e w' => ∃ l A' c', e = .returned (.slice A' l.length c') ∧ ClsAt w' A' l ∧ l.length ≤ 10 ∧ (∀ x ∈ l, Gd x) ∧ Below w.heap.size w w' := by
  have hn := h.1
  unfold maxLen at hn
  have H := hide h
  clear h
  obtain ⟨i0, hi, hz0, hz1, hz2⟩ := info_parts PqD.cl_info
  obtain ⟨s0, hs, hy0, hy1, hy2⟩ := info_parts PqD.str_info
  obtain ⟨W1, hW1⟩ : ∃ W1, w.alloc (.cells #[.string ⟨#[97]⟩, .string ⟨#[98]⟩, .string ⟨#[99]⟩, .string ⟨#[100]⟩, .string ⟨#[101]⟩, .string ⟨#[102]⟩, .string ⟨#[112]⟩, .string ⟨#[113]⟩, .string ⟨#[114]⟩] 9) = W1 := ⟨_, rfl⟩
  have hN := Blk.new w nmsV 9
  have hB1 : Below w.heap.size w W1 := by rw [← hW1]; exact (Below.refl _ _).alloc (Nat.le_refl _) _
  change Blk (w.alloc (.cells #[.string ⟨#[97]⟩, .string ⟨#[98]⟩, .string ⟨#[99]⟩, .string ⟨#[100]⟩, .string ⟨#[101]⟩, .string ⟨#[102]⟩, .string ⟨#[112]⟩, .string ⟨#[113]⟩, .string ⟨#[114]⟩] 9)) _ _ at hN
  rw [hW1] at hN
  have HN := hide hN
  have HB1 := hide hB1
  clear hN hB1
  go_enter Tryz.func17, Tryz.ntmps17
  go_wp2_with fail
  obtain ⟨NB, hNB⟩ : ∃ NB, w.heap.size = NB := ⟨_, rfl⟩
  have HNB := hide hNB
  have hw0 : Hid (Below NB w W1) := by rw [← hNB]; exact HB1.out
  rw [hNB] at HN
  rw [hNB]
  clear hNB hW1
  have hNW : NB < W1.heap.size := HN.out.lt
  go_loopw [3, 5] (fun vo vi wr => ∃ (k : Nat) (l : List Cl) (A' : Option Addr) (c' : Nat) (xs : List Value), k ≤ 10 ∧ vo = .slice A' k c' ∧ vi = .int .i64 k ∧ Hid (l.length = k) ∧ Hid (∀ x ∈ l, Gd x) ∧ Hid (Blk wr NB nmsV) ∧ Hid (wr.ownsRow (NB + 1) 45 8 (.slice A' k c') k xs) ∧ Hid (ClsIn (fun b => NB < b ∧ (Value.slice A' k c').ownBlock ≠ some b) wr l xs) ∧ Hid (Below NB w wr) ∧ NB < wr.heap.size) (fun _ vi _ => 10 - (intOf vi).toNat)
  case atStart => exact ⟨0, [], none, 0, [], by omega, rfl, rfl, rfl, fun x h => (by cases h), HN, World.ownsRow_nil _ _ _ _, rfl, hw0, hNW⟩
  case round =>
    clear HN HB1 hw0 hNW
    obtain ⟨k, l, A', c', xs, hk, rfl, rfl, HL, HG, HN, HO, HC, HB, hNW⟩ := hrel
    obtain ⟨wq, rfl⟩ : ∃ wq : World, wq = wr := ⟨_, rfl⟩
    by_cases hc : k < n ∧ k < 10
    · obtain ⟨hc1, hc2⟩ := hc
      obtain ⟨b, off, rfl, hbw, hcell⟩ := H.out.2 (by omega)
      rw [HNB.out] at hbw
      obtain ⟨z0, z1, z2, z3, g0, g1, g2, g3, p0, p1, p2, p3⟩ := hcell k hc1
      have k0 := (HB.out.cell (p := ⟨b, off + k * 4, none⟩) hbw).trans p0
      have k1 := (HB.out.cell (p := ⟨b, off + k * 4 + 1, none⟩) hbw).trans p1
      have k2 := (HB.out.cell (p := ⟨b, off + k * 4 + 2, none⟩) hbw).trans p2
      have k3 := (HB.out.cell (p := ⟨b, off + k * 4 + 3, none⟩) hbw).trans p3
      clear p0 p1 p2 p3 hcell
      obtain ⟨V, hV⟩ : ∃ V, wq.alloc (.cells #[.int .u16 (z0 : Int), .int .u16 (z1 : Int), .int .u16 (z2 : Int), .int .u16 (z3 : Int)] 84) = V := ⟨_, rfl⟩
      have hX := Blk.new wq [.int .u16 (z0 : Int), .int .u16 (z1 : Int), .int .u16 (z2 : Int), .int .u16 (z3 : Int)] 84
      have hBV : Below wq.heap.size wq V := by rw [← hV]; exact (Below.refl _ _).alloc (Nat.le_refl _) _
      change Blk (wq.alloc (.cells #[.int .u16 (z0 : Int), .int .u16 (z1 : Int), .int .u16 (z2 : Int), .int .u16 (z3 : Int)] 84)) _ _ at hX
      rw [hV] at hX
      have HX := hide hX
      have HBV := hide hBV
      have HNV := hide (HN.out.below hBV)
      clear hX hBV
      have hsV : wq.heap.size < V.heap.size := HX.out.lt
      obtain ⟨nn, hnn, hnv⟩ := name_of (z1 % 9) (by omega)
      have HNN := hide hnn
      have x0 := at_kin hsV (HX.out.cell (i := 0) rfl)
      have x1 := at_kin hsV (HX.out.cell (i := 1) rfl)
      have n1 := at_kin (show NB < V.heap.size by omega) (HNV.out.cell hnv)
      obtain ⟨kd, hkd⟩ : ∃ kd, 1 + (z0 : Int) % 4 = kd := ⟨_, rfl⟩
      have hk4 : kd = 1 ∨ kd = 2 ∨ kd = 3 ∨ kd = 4 := by omega
      have HKD := hide hkd
      have HK4 := hide hk4
      clear hnn hnv hkd hk4
      go_upto_region 7 with fail
      go_cut [7] (fun v7 wx => ∃ K, v7 = .pointer (some ⟨K, 0, none⟩) ∧ wq.heap.size < K ∧ Hid (Blk wx K [.int .i64 kd, .string nn, .string ⟨#[]⟩, .slice none 0 0, .bool false, .string ⟨#[]⟩, .string ⟨#[]⟩, .int .i64 0]) ∧ Hid (Below V.heap.size V wx))
      case first =>
        go_wp2_with fail
        refine Qmt.wp_region (C := Cls (Below V.heap.size V)) (by kernel_rfl) (by kernel_rfl) ?_
        simp only [List.length_cons, List.length_nil]
        refine Qmt.takes [0, 1, 2, 3, 4, 5, 6, 7, 8, 9, 10, 11] 2 _ _ _ (cls (Qin.start _ _)) (by kernel_rfl) ?_
        simp only [List.filterMap_cons, List.filterMap_nil, List.getElem?_toArray, List.getElem?_cons_zero, List.getElem?_cons_succ]
        change wpQuiet _ _ _ _ [_, _, _, _, _, _, _, _, _, _, _, _] _
        repeat (go_big_quiet_step (fail))
        refine wpQuiet_nil ?_
        refine Qmt.fork [12] (cls (Qin.start _ _)) (by kernel_rfl) (by simp) ⟨?_, trivial⟩
        refine Qmt.by_op rfl (by kernel_rfl) ?_
        go_wp2_with fail
        refine ⟨rfl, ?_⟩
        have hb1 := ((Below.refl V.heap.size V).alloc (Nat.le_refl _) (.cells #[.int .i64 0, .string ⟨#[]⟩, .string ⟨#[]⟩, .slice none 0 0, .bool false, .string ⟨#[]⟩, .string ⟨#[]⟩, .int .i64 0] 45)).drew
        have hx1 : Blk (V.alloc (.cells #[.int .i64 0, .string ⟨#[]⟩, .string ⟨#[]⟩, .slice none 0 0, .bool false, .string ⟨#[]⟩, .string ⟨#[]⟩, .int .i64 0] 45)).drew V.heap.size [.int .i64 0, .string ⟨#[]⟩, .string ⟨#[]⟩, .slice none 0 0, .bool false, .string ⟨#[]⟩, .string ⟨#[]⟩, .int .i64 0] := Blk.new V [.int .i64 0, .string ⟨#[]⟩, .string ⟨#[]⟩, .slice none 0 0, .bool false, .string ⟨#[]⟩, .string ⟨#[]⟩, .int .i64 0] 45
        obtain ⟨W2, hW2⟩ : ∃ W2, (V.alloc (.cells #[.int .i64 0, .string ⟨#[]⟩, .string ⟨#[]⟩, .slice none 0 0, .bool false, .string ⟨#[]⟩, .string ⟨#[]⟩, .int .i64 0] 45)).drew = W2 := ⟨_, rfl⟩
        rw [hW2] at hb1 hx1
        have HW2 := hide hW2
        clear hW2
        rw [HW2.out]
        obtain ⟨y0, y1, y2, y3, y4, y5, y6, y7⟩ := cells8 hx1
        obtain ⟨f0, f1, f2, f3, f4, f5, f6, f7⟩ := frozen8 hx1
        refine Qmt.fork [13] (cls hb1) (by kernel_rfl) (by simp) ⟨?_, trivial⟩
        refine Qmt.by_op rfl (by kernel_rfl) ?_
        go_wp2_with fail
        refine ⟨rfl, ?_⟩
        refine Qmt.by_end (cls (below_set8 hb1 (K := V.heap.size) (Nat.le_refl _) (.int .i64 (1 + (z0 : Int) % 4)) (.string nn) (.string ⟨#[]⟩) (.slice none 0 0) (.bool false) (.string ⟨#[]⟩) (.string ⟨#[]⟩) (.int .i64 0))) (by kernel_rfl) ?_
        go_wp2_with fail
        go_meet
        case rel => exact ⟨V.heap.size, rfl, hsV, (by rw [← HKD.out]; exact hx1.set8 rfl (.int .i64 (1 + (z0 : Int) % 4)) (.string nn) (.string ⟨#[]⟩) (.slice none 0 0) (.bool false) (.string ⟨#[]⟩) (.string ⟨#[]⟩) (.int .i64 0)), below_set8 hb1 (K := V.heap.size) (Nat.le_refl _) (.int .i64 (1 + (z0 : Int) % 4)) (.string nn) (.string ⟨#[]⟩) (.slice none 0 0) (.bool false) (.string ⟨#[]⟩) (.string ⟨#[]⟩) (.int .i64 0)⟩
      case rest =>
        obtain ⟨K, rfl, hKw, HKB, HBX⟩ := hcut
        obtain ⟨wo, rfl⟩ : ∃ wo : World, wo = wc := ⟨_, rfl⟩
        have HXc := hide (HX.out.below (HBX.out.mono (Nat.le_refl _)))
        have HNc := hide (HNV.out.below HBX.out)
        have HBc := hide (HBV.out.trans (HBX.out.mono HBV.out.size))
        have hKc : K < wo.heap.size := HKB.out.lt
        have hXc : wq.heap.size < wo.heap.size := by omega
        clear x0 x1 n1 HX HNV HBX HBV hV k0 k1 k2 k3
        have d0 := HKB.out.cell (i := 0) rfl
        go_upto_block 2 with fail
        go_cut [] (fun wx => Hid (CMid wq K wx))
        case first =>
          clear d0
          rcases HK4.out with rfl | rfl | rfl | rfl
          · obtain ⟨mm, hmm, hmv⟩ := name_of (6 + z1 % 3) (by omega)
            have HMM := hide hmm
            have x1 := HXc.out.cell (i := 1) rfl
            have n2 := HNc.out.cell hmv
            obtain ⟨d0, d1, d2, d3, d4, d5, d6, d7⟩ := cells8 HKB.out
            obtain ⟨f0, f1, f2, f3, f4, f5, f6, f7⟩ := frozen8 HKB.out
            have hK1 := HKB.out.set 1 (.string mm)
            have hX1 := HXc.out.other (k := K) (by omega) 1 (.string mm)
            have hB1 := HBc.out.setCell (p := ⟨K, 1, none⟩) (Nat.le_of_lt hKw) (.string mm)
            have hs1 : K < (wo.setCell ⟨K, 1, none⟩ (.string mm)).heap.size := hK1.lt
            obtain ⟨W1, hW1⟩ : ∃ W1, wo.setCell ⟨K, 1, none⟩ (.string mm) = W1 := ⟨_, rfl⟩
            rw [hW1] at hK1 hX1 hB1 hs1
            change Blk W1 K [.int .i64 1, .string mm, .string ⟨#[]⟩, .slice none 0 0, .bool false, .string ⟨#[]⟩, .string ⟨#[]⟩, .int .i64 0] at hK1
            have HK1 := hide hK1
            have HX1 := hide hX1
            have HB1 := hide hB1
            have HO1 : Hid (W1.ownsRow (K + 1) 9 1 (.slice none 0 0) 0 (([] : List ByteArray).map Value.string)) := World.ownsRow_nil _ _ _ _
            clear hmm hmv hK1 hX1 hB1
            go_wp2_with fail
            clear x1 n2 d0 d1 d2 d3 d4 d5 d6 d7 f0 f1 f2 f3 f4 f5 f6 f7
            go_loopw [8] (fun vj w2 => ∃ (j : Nat) (ls : List ByteArray) (B' : Option Addr) (e' : Nat), vj = .int .i64 j ∧ j ≤ 1 + z3 % 3 ∧ Hid (ls.length = j) ∧ Hid (∀ s ∈ ls, isN s) ∧ Hid (Blk w2 K [.int .i64 1, .string mm, .string ⟨#[]⟩, .slice B' j e', .bool false, .string ⟨#[]⟩, .string ⟨#[]⟩, .int .i64 0]) ∧ Hid (w2.ownsRow (K + 1) 9 1 (.slice B' j e') j (ls.map Value.string)) ∧ Hid (Blk w2 wq.heap.size [.int .u16 (z0 : Int), .int .u16 (z1 : Int), .int .u16 (z2 : Int), .int .u16 (z3 : Int)]) ∧ Hid (Below wq.heap.size wq w2) ∧ K < w2.heap.size) (fun vj _ => 3 - (intOf vj).toNat)
            case atStart => exact ⟨0, [], none, 0, rfl, by omega, rfl, fun s h => (by cases h), HK1, HO1, HX1, HB1, hs1⟩
            case round =>
              clear HK1 HO1 HX1 HB1 hs1
              obtain ⟨j, ls, B', e', rfl, hj, HLS, HIS, HK2, HO2, HX2, HB2, hs2⟩ := hrel
              by_cases hlt : j < 1 + z3 % 3
              · have hX2 : wq.heap.size < wr.heap.size := by omega
                have hN2 : NB < wr.heap.size := by omega
                have x3 := HX2.out.cell (i := 3) rfl
                go_wp2_with fail
                have y2 := low_kin (B := K + 1) (by omega) (HX2.out.cell (i := 2) rfl)
                have c3 := low_kin (B := K + 1) (by omega) (HK2.out.cell (i := 3) rfl)
                rcases (by omega : j = 0 ∨ j = 1 ∨ j = 2) with rfl | rfl | rfl
                · obtain ⟨m, hm⟩ : ∃ m, z2 / 1 % 16 = m := ⟨_, rfl⟩
                  have hbm := and15 (z2 / 1) (by omega)
                  rw [hm] at hbm
                  have hbm' : bits BinOp.and IntKind.u16 ((z2 : Int)) 15 = (m : Int) := by rw [← hbm]; congr 1; omega
                  have hm15 : m ≤ 15 := by omega
                  obtain ⟨uu, huu, huv⟩ := name_of (m % 9) (by omega)
                  have HUU := hide huu
                  have n9 := low_kin (B := K + 1) (by omega) ((HN.out.keep HB2.out (by omega)).cell huv)
                  clear hm hbm huu huv
                  haveI : Nonempty (Qin.In (Below (K + 1) wr)) := ⟨⟨_, Below.refl _ _⟩⟩
                  refine Qmu.wp_region (C := Cls (Below (K + 1) wr)) 17 (by kernel_rfl) (by kernel_rfl) (by kernel_rfl) ?_
                  simp only [List.length_cons, List.length_nil]
                  refine Qmu.takes (s := 17) (cls (Qin.start (K + 1) wr)) [0, 1, 2, 3, 4, 5, 6, 7, 8, 9, 10, 11, 12, 13] 4 _ _ _ (fun _ => cls (Qin.start (K + 1) wr)) (by decide) (by kernel_rfl) ?_
                  simp only [List.filterMap_cons, List.filterMap_nil, List.getElem?_toArray, List.getElem?_cons_zero, List.getElem?_cons_succ]
                  change wpQuiet _ _ _ _ [_, _, _, _, _, _, _, _, _, _, _, _, _, _] _
                  repeat (go_big_quiet_step (fail))
                  refine wpQuiet_nil ?_
                  refine Qmu.fork [14] (fun _ => cls (Qin.start (K + 1) wr)) (by kernel_rfl) (by simp) ⟨?_, trivial⟩
                  refine Qmu.by_op rfl (by kernel_rfl) ?_
                  obtain ⟨V3, hV3⟩ : ∃ V3, (wr.alloc (.cells #[.string uu] 9)).drew = V3 := ⟨_, rfl⟩
                  have hb3 : Below wr.heap.size wr V3 := by rw [← hV3]; exact ((Below.refl _ _).alloc (Nat.le_refl _) _).drew
                  have hc3 := PqD.cell_one wr uu 9
                  change ∀ j u, _ → (wr.alloc (.cells #[.string uu] 9)).drew.cell? _ = _ at hc3
                  rw [hV3] at hc3
                  clear y2 c3 n9
                  go_wp2_with fail
                  refine ⟨rfl, ?_⟩
                  have HC3 := Lib.hid hc3
                  have HV3 := hide hV3
                  have HB3 := hide hb3
                  have HO3 := hide (LxD.own_below HO2.out hb3)
                  have HK3 := hide (HK2.out.below hb3)
                  have HX3 := hide (HX2.out.below hb3)
                  have hs3 := hb3.size
                  have hbl3 := hb3.mono (show K + 1 ≤ wr.heap.size by omega)
                  clear hc3 hV3 hb3
                  first | rw [HV3.out] | skip
                  refine Qmu.fork [15] (fun _ => cls hbl3) (by kernel_rfl) (by simp) ⟨?_, trivial⟩
                  refine Qmu.by_op rfl (by kernel_rfl) ?_
                  refine wpList_append_own _ rfl (.tmp 58) (.tmp 71) 41 rfl (K + 1) 9 s0 _ 1 16 Tryz.underlying41 hs hy0 hy1 hy2 rfl (by decide) _ _ _ rfl HO3.out ⟨wr.heap.size, 0, none⟩ 1 1 [.string uu] rfl rfl ?c1 ?c2 ?c3 ?c4 ?c5 ?_
                  case c1 => exact HC3.out
                  case c2 => simp [Value.oneCell']
                  case c3 => unfold maxLen; omega
                  case c4 => omega
                  case c5 => omega
                  intro v5 w5 hown5' hg5 _
                  have hown5 : w5.ownsRow (K + 1) 9 1 v5 1 ((ls ++ [uu]).map Value.string) := by rw [List.map_append]; exact hown5'
                  clear hown5'
                  obtain ⟨A5, c5, rfl⟩ := LxD.own_slice hown5
                  have hg5' : Below (K + 1) V3 w5 := (Below.refl _ _).grown hg5 (by omega) (fun g hg => (HO3.out.lt g hg).1)
                  have hbl5 := hbl3.trans hg5'
                  have HK5 := hide (HK3.out.keep hg5' (by omega))
                  have HX5 := hide (HX3.out.keep hg5' (by omega))
                  have HO5 := hide hown5
                  have HB5 := hide ((HB2.out.trans (HB3.out.mono HB2.out.size)).trans (hg5'.mono (by omega)))
                  have g3 := HK5.out.cell (i := 3) rfl
                  have f3 := HK5.out.frozen 3
                  clear hown5 hg5
                  go_wp2_with fail
                  refine ⟨rfl, ?_⟩
                  simp only [Act.put, List.getElem_toArray, List.getElem_cons_succ, List.getElem_cons_zero, List.setIfInBounds_toArray, List.set_cons_succ, List.set_cons_zero]
                  refine Qmu.takes (s := 17) (cls (Qin.start (K + 1) wr)) [16] 1 _ _ _ (fun _ => cls hbl5) (by decide) (by kernel_rfl) ?_
                  simp only [List.filterMap_cons, List.filterMap_nil, List.getElem?_toArray, List.getElem?_cons_zero, List.getElem?_cons_succ]
                  change wpQuiet _ _ _ _ [_] _
                  repeat (go_big_quiet_step (fail))
                  refine wpQuiet_nil ?_
                  refine Qmu.fork [17] (fun _ => cls hbl5) (by kernel_rfl) (by simp) ⟨?_, trivial⟩
                  refine Qmu.by_op rfl (by kernel_rfl) ?_
                  go_wp2_with fail
                  refine ⟨rfl, ?_⟩
                  refine Qmu.by_end (Qmu.past (by kernel_rfl)) (by kernel_rfl) ?_
                  have hK7 := HK5.out.set 3 (.slice A5 1 c5)
                  have hX7 := HX5.out.other (k := K) (by omega) 3 (.slice A5 1 c5)
                  have hO7 := ownsRow_setCell_below HO5.out (a := ⟨K, 3, none⟩) (by show K < K + 1; omega) (.slice A5 1 c5)
                  have hB7 := HB5.out.setCell (p := ⟨K, 3, none⟩) (Nat.le_of_lt hKw) (.slice A5 1 c5)
                  obtain ⟨w7, hw7⟩ : ∃ w7, w5.setCell ⟨K, 3, none⟩ (.slice A5 1 c5) = w7 := ⟨_, rfl⟩
                  rw [hw7] at hK7 hX7 hO7 hB7 ⊢
                  have HK7 := hide hK7
                  have HX7 := hide hX7
                  have HO7 := hide hO7
                  have HB7 := hide hB7
                  have hs7 := HK7.out.lt
                  clear hw7 hK7 hX7 hO7 hB7 g3 f3 hbl3 hbl5 hg5' HK5 HX5 HO5 HB5 HC3 HV3 HB3 HO3 HK3 HX3
                  go_wp2_with fail
                  go_roundw
                  case rel => exact ⟨1, ls ++ [uu], A5, c5, rfl, by omega, by show _ = _; rw [List.length_append, HLS.out]; rfl, fun s hs => (by rcases List.mem_append.1 hs with h | h; exact HIS.out s h; rw [List.mem_singleton] at h; subst h; exact HUU.out), HK7.out, HO7.out, HX7.out, HB7.out, hs7⟩
                  case measure => simp [intOf]
                · obtain ⟨m, hm⟩ : ∃ m, z2 / 16 % 16 = m := ⟨_, rfl⟩
                  have hbm := and15 (z2 / 16) (by omega)
                  rw [hm] at hbm
                  have hbm' : bits BinOp.and IntKind.u16 ((z2 : Int) / 16) 15 = (m : Int) := by rw [← hbm]; congr 1
                  have hm15 : m ≤ 15 := by omega
                  obtain ⟨uu, huu, huv⟩ := name_of (m % 9) (by omega)
                  have HUU := hide huu
                  have n9 := low_kin (B := K + 1) (by omega) ((HN.out.keep HB2.out (by omega)).cell huv)
                  clear hm hbm huu huv
                  haveI : Nonempty (Qin.In (Below (K + 1) wr)) := ⟨⟨_, Below.refl _ _⟩⟩
                  refine Qmu.wp_region (C := Cls (Below (K + 1) wr)) 17 (by kernel_rfl) (by kernel_rfl) (by kernel_rfl) ?_
                  simp only [List.length_cons, List.length_nil]
                  refine Qmu.takes (s := 17) (cls (Qin.start (K + 1) wr)) [0, 1, 2, 3, 4, 5, 6, 7, 8, 9, 10, 11, 12, 13] 4 _ _ _ (fun _ => cls (Qin.start (K + 1) wr)) (by decide) (by kernel_rfl) ?_
                  simp only [List.filterMap_cons, List.filterMap_nil, List.getElem?_toArray, List.getElem?_cons_zero, List.getElem?_cons_succ]
                  change wpQuiet _ _ _ _ [_, _, _, _, _, _, _, _, _, _, _, _, _, _] _
                  repeat (go_big_quiet_step (fail))
                  refine wpQuiet_nil ?_
                  refine Qmu.fork [14] (fun _ => cls (Qin.start (K + 1) wr)) (by kernel_rfl) (by simp) ⟨?_, trivial⟩
                  refine Qmu.by_op rfl (by kernel_rfl) ?_
                  obtain ⟨V3, hV3⟩ : ∃ V3, (wr.alloc (.cells #[.string uu] 9)).drew = V3 := ⟨_, rfl⟩
                  have hb3 : Below wr.heap.size wr V3 := by rw [← hV3]; exact ((Below.refl _ _).alloc (Nat.le_refl _) _).drew
                  have hc3 := PqD.cell_one wr uu 9
                  change ∀ j u, _ → (wr.alloc (.cells #[.string uu] 9)).drew.cell? _ = _ at hc3
                  rw [hV3] at hc3
                  clear y2 c3 n9
                  go_wp2_with fail
                  refine ⟨rfl, ?_⟩
                  have HC3 := Lib.hid hc3
                  have HV3 := hide hV3
                  have HB3 := hide hb3
                  have HO3 := hide (LxD.own_below HO2.out hb3)
                  have HK3 := hide (HK2.out.below hb3)
                  have HX3 := hide (HX2.out.below hb3)
                  have hs3 := hb3.size
                  have hbl3 := hb3.mono (show K + 1 ≤ wr.heap.size by omega)
                  clear hc3 hV3 hb3
                  first | rw [HV3.out] | skip
                  refine Qmu.fork [15] (fun _ => cls hbl3) (by kernel_rfl) (by simp) ⟨?_, trivial⟩
                  refine Qmu.by_op rfl (by kernel_rfl) ?_
                  refine wpList_append_own _ rfl (.tmp 58) (.tmp 71) 41 rfl (K + 1) 9 s0 _ 1 16 Tryz.underlying41 hs hy0 hy1 hy2 rfl (by decide) _ _ _ rfl HO3.out ⟨wr.heap.size, 0, none⟩ 1 1 [.string uu] rfl rfl ?c1 ?c2 ?c3 ?c4 ?c5 ?_
                  case c1 => exact HC3.out
                  case c2 => simp [Value.oneCell']
                  case c3 => unfold maxLen; omega
                  case c4 => omega
                  case c5 => omega
                  intro v5 w5 hown5' hg5 _
                  have hown5 : w5.ownsRow (K + 1) 9 1 v5 2 ((ls ++ [uu]).map Value.string) := by rw [List.map_append]; exact hown5'
                  clear hown5'
                  obtain ⟨A5, c5, rfl⟩ := LxD.own_slice hown5
                  have hg5' : Below (K + 1) V3 w5 := (Below.refl _ _).grown hg5 (by omega) (fun g hg => (HO3.out.lt g hg).1)
                  have hbl5 := hbl3.trans hg5'
                  have HK5 := hide (HK3.out.keep hg5' (by omega))
                  have HX5 := hide (HX3.out.keep hg5' (by omega))
                  have HO5 := hide hown5
                  have HB5 := hide ((HB2.out.trans (HB3.out.mono HB2.out.size)).trans (hg5'.mono (by omega)))
                  have g3 := HK5.out.cell (i := 3) rfl
                  have f3 := HK5.out.frozen 3
                  clear hown5 hg5
                  go_wp2_with fail
                  refine ⟨rfl, ?_⟩
                  simp only [Act.put, List.getElem_toArray, List.getElem_cons_succ, List.getElem_cons_zero, List.setIfInBounds_toArray, List.set_cons_succ, List.set_cons_zero]
                  refine Qmu.takes (s := 17) (cls (Qin.start (K + 1) wr)) [16] 1 _ _ _ (fun _ => cls hbl5) (by decide) (by kernel_rfl) ?_
                  simp only [List.filterMap_cons, List.filterMap_nil, List.getElem?_toArray, List.getElem?_cons_zero, List.getElem?_cons_succ]
                  change wpQuiet _ _ _ _ [_] _
                  repeat (go_big_quiet_step (fail))
                  refine wpQuiet_nil ?_
                  refine Qmu.fork [17] (fun _ => cls hbl5) (by kernel_rfl) (by simp) ⟨?_, trivial⟩
                  refine Qmu.by_op rfl (by kernel_rfl) ?_
                  go_wp2_with fail
                  refine ⟨rfl, ?_⟩
                  refine Qmu.by_end (Qmu.past (by kernel_rfl)) (by kernel_rfl) ?_
                  have hK7 := HK5.out.set 3 (.slice A5 2 c5)
                  have hX7 := HX5.out.other (k := K) (by omega) 3 (.slice A5 2 c5)
                  have hO7 := ownsRow_setCell_below HO5.out (a := ⟨K, 3, none⟩) (by show K < K + 1; omega) (.slice A5 2 c5)
                  have hB7 := HB5.out.setCell (p := ⟨K, 3, none⟩) (Nat.le_of_lt hKw) (.slice A5 2 c5)
                  obtain ⟨w7, hw7⟩ : ∃ w7, w5.setCell ⟨K, 3, none⟩ (.slice A5 2 c5) = w7 := ⟨_, rfl⟩
                  rw [hw7] at hK7 hX7 hO7 hB7 ⊢
                  have HK7 := hide hK7
                  have HX7 := hide hX7
                  have HO7 := hide hO7
                  have HB7 := hide hB7
                  have hs7 := HK7.out.lt
                  clear hw7 hK7 hX7 hO7 hB7 g3 f3 hbl3 hbl5 hg5' HK5 HX5 HO5 HB5 HC3 HV3 HB3 HO3 HK3 HX3
                  go_wp2_with fail
                  go_roundw
                  case rel => exact ⟨2, ls ++ [uu], A5, c5, rfl, by omega, by show _ = _; rw [List.length_append, HLS.out]; rfl, fun s hs => (by rcases List.mem_append.1 hs with h | h; exact HIS.out s h; rw [List.mem_singleton] at h; subst h; exact HUU.out), HK7.out, HO7.out, HX7.out, HB7.out, hs7⟩
                  case measure => simp [intOf]
                · obtain ⟨m, hm⟩ : ∃ m, z2 / 256 % 16 = m := ⟨_, rfl⟩
                  have hbm := and15 (z2 / 256) (by omega)
                  rw [hm] at hbm
                  have hbm' : bits BinOp.and IntKind.u16 ((z2 : Int) / 256) 15 = (m : Int) := by rw [← hbm]; congr 1
                  have hm15 : m ≤ 15 := by omega
                  obtain ⟨uu, huu, huv⟩ := name_of (m % 9) (by omega)
                  have HUU := hide huu
                  have n9 := low_kin (B := K + 1) (by omega) ((HN.out.keep HB2.out (by omega)).cell huv)
                  clear hm hbm huu huv
                  haveI : Nonempty (Qin.In (Below (K + 1) wr)) := ⟨⟨_, Below.refl _ _⟩⟩
                  refine Qmu.wp_region (C := Cls (Below (K + 1) wr)) 17 (by kernel_rfl) (by kernel_rfl) (by kernel_rfl) ?_
                  simp only [List.length_cons, List.length_nil]
                  refine Qmu.takes (s := 17) (cls (Qin.start (K + 1) wr)) [0, 1, 2, 3, 4, 5, 6, 7, 8, 9, 10, 11, 12, 13] 4 _ _ _ (fun _ => cls (Qin.start (K + 1) wr)) (by decide) (by kernel_rfl) ?_
                  simp only [List.filterMap_cons, List.filterMap_nil, List.getElem?_toArray, List.getElem?_cons_zero, List.getElem?_cons_succ]
                  change wpQuiet _ _ _ _ [_, _, _, _, _, _, _, _, _, _, _, _, _, _] _
                  repeat (go_big_quiet_step (fail))
                  refine wpQuiet_nil ?_
                  refine Qmu.fork [14] (fun _ => cls (Qin.start (K + 1) wr)) (by kernel_rfl) (by simp) ⟨?_, trivial⟩
                  refine Qmu.by_op rfl (by kernel_rfl) ?_
                  obtain ⟨V3, hV3⟩ : ∃ V3, (wr.alloc (.cells #[.string uu] 9)).drew = V3 := ⟨_, rfl⟩
                  have hb3 : Below wr.heap.size wr V3 := by rw [← hV3]; exact ((Below.refl _ _).alloc (Nat.le_refl _) _).drew
                  have hc3 := PqD.cell_one wr uu 9
                  change ∀ j u, _ → (wr.alloc (.cells #[.string uu] 9)).drew.cell? _ = _ at hc3
                  rw [hV3] at hc3
                  clear y2 c3 n9
                  go_wp2_with fail
                  refine ⟨rfl, ?_⟩
                  have HC3 := Lib.hid hc3
                  have HV3 := hide hV3
                  have HB3 := hide hb3
                  have HO3 := hide (LxD.own_below HO2.out hb3)
                  have HK3 := hide (HK2.out.below hb3)
                  have HX3 := hide (HX2.out.below hb3)
                  have hs3 := hb3.size
                  have hbl3 := hb3.mono (show K + 1 ≤ wr.heap.size by omega)
                  clear hc3 hV3 hb3
                  first | rw [HV3.out] | skip
                  refine Qmu.fork [15] (fun _ => cls hbl3) (by kernel_rfl) (by simp) ⟨?_, trivial⟩
                  refine Qmu.by_op rfl (by kernel_rfl) ?_
                  refine wpList_append_own _ rfl (.tmp 58) (.tmp 71) 41 rfl (K + 1) 9 s0 _ 1 16 Tryz.underlying41 hs hy0 hy1 hy2 rfl (by decide) _ _ _ rfl HO3.out ⟨wr.heap.size, 0, none⟩ 1 1 [.string uu] rfl rfl ?c1 ?c2 ?c3 ?c4 ?c5 ?_
                  case c1 => exact HC3.out
                  case c2 => simp [Value.oneCell']
                  case c3 => unfold maxLen; omega
                  case c4 => omega
                  case c5 => omega
                  intro v5 w5 hown5' hg5 _
                  have hown5 : w5.ownsRow (K + 1) 9 1 v5 3 ((ls ++ [uu]).map Value.string) := by rw [List.map_append]; exact hown5'
                  clear hown5'
                  obtain ⟨A5, c5, rfl⟩ := LxD.own_slice hown5
                  have hg5' : Below (K + 1) V3 w5 := (Below.refl _ _).grown hg5 (by omega) (fun g hg => (HO3.out.lt g hg).1)
                  have hbl5 := hbl3.trans hg5'
                  have HK5 := hide (HK3.out.keep hg5' (by omega))
                  have HX5 := hide (HX3.out.keep hg5' (by omega))
                  have HO5 := hide hown5
                  have HB5 := hide ((HB2.out.trans (HB3.out.mono HB2.out.size)).trans (hg5'.mono (by omega)))
                  have g3 := HK5.out.cell (i := 3) rfl
                  have f3 := HK5.out.frozen 3
                  clear hown5 hg5
                  go_wp2_with fail
                  refine ⟨rfl, ?_⟩
                  simp only [Act.put, List.getElem_toArray, List.getElem_cons_succ, List.getElem_cons_zero, List.setIfInBounds_toArray, List.set_cons_succ, List.set_cons_zero]
                  refine Qmu.takes (s := 17) (cls (Qin.start (K + 1) wr)) [16] 1 _ _ _ (fun _ => cls hbl5) (by decide) (by kernel_rfl) ?_
                  simp only [List.filterMap_cons, List.filterMap_nil, List.getElem?_toArray, List.getElem?_cons_zero, List.getElem?_cons_succ]
                  change wpQuiet _ _ _ _ [_] _
                  repeat (go_big_quiet_step (fail))
                  refine wpQuiet_nil ?_
                  refine Qmu.fork [17] (fun _ => cls hbl5) (by kernel_rfl) (by simp) ⟨?_, trivial⟩
                  refine Qmu.by_op rfl (by kernel_rfl) ?_
                  go_wp2_with fail
                  refine ⟨rfl, ?_⟩
                  refine Qmu.by_end (Qmu.past (by kernel_rfl)) (by kernel_rfl) ?_
                  have hK7 := HK5.out.set 3 (.slice A5 3 c5)
                  have hX7 := HX5.out.other (k := K) (by omega) 3 (.slice A5 3 c5)
                  have hO7 := ownsRow_setCell_below HO5.out (a := ⟨K, 3, none⟩) (by show K < K + 1; omega) (.slice A5 3 c5)
                  have hB7 := HB5.out.setCell (p := ⟨K, 3, none⟩) (Nat.le_of_lt hKw) (.slice A5 3 c5)
                  obtain ⟨w7, hw7⟩ : ∃ w7, w5.setCell ⟨K, 3, none⟩ (.slice A5 3 c5) = w7 := ⟨_, rfl⟩
                  rw [hw7] at hK7 hX7 hO7 hB7 ⊢
                  have HK7 := hide hK7
                  have HX7 := hide hX7
                  have HO7 := hide hO7
                  have HB7 := hide hB7
                  have hs7 := HK7.out.lt
                  clear hw7 hK7 hX7 hO7 hB7 g3 f3 hbl3 hbl5 hg5' HK5 HX5 HO5 HB5 HC3 HV3 HB3 HO3 HK3 HX3
                  go_wp2_with fail
                  go_roundw
                  case rel => exact ⟨3, ls ++ [uu], A5, c5, rfl, by omega, by show _ = _; rw [List.length_append, HLS.out]; rfl, fun s hs => (by rcases List.mem_append.1 hs with h | h; exact HIS.out s h; rw [List.mem_singleton] at h; subst h; exact HUU.out), HK7.out, HO7.out, HX7.out, HB7.out, hs7⟩
                  case measure => simp [intOf]
              · have hj1 : j = 1 + z3 % 3 := by omega
                have x3 := HX2.out.cell (i := 3) rfl
                have hlen := HLS.out
                obtain ⟨A9, c9, e9, hS9⟩ := Strs.own (l := ls) (P := fun b => K < b) (by rw [hlen]; exact HO2.out) (fun b hb => by omega) (by rw [hlen]; unfold maxLen; omega)
                rw [hlen] at e9
                injection e9 with e91 e92 e93
                subst e91; subst e93
                have HS9 := hide hS9
                clear e92 hS9 hlen
                go_wp2_with fail
                go_meet
                case rel => exact ⟨⟨1, mm, sNo, ls, false, sNo, sNo, 0⟩, B', e', gd1 HMM.out HIS.out (by rw [HLS.out]; omega) (by rw [HLS.out]; omega), (by show Blk wr K [.int .i64 1, .string mm, .string ⟨#[]⟩, .slice B' ls.length e', .bool false, .string ⟨#[]⟩, .string ⟨#[]⟩, .int .i64 0]; rw [HLS.out]; exact HK2.out), HS9.out, HB2.out⟩
          · obtain ⟨oo, hoo, hov⟩ := name_of (z2 % 9) (by omega)
            have HOO := hide hoo
            have x2 := HXc.out.cell (i := 2) rfl
            have n2 := HNc.out.cell hov
            obtain ⟨d0, d1, d2, d3, d4, d5, d6, d7⟩ := cells8 HKB.out
            obtain ⟨f0, f1, f2, f3, f4, f5, f6, f7⟩ := frozen8 HKB.out
            clear hoo hov
            go_wp2_with fail
            go_meet
            case rel => exact ⟨⟨2, nn, oo, [], false, sNo, sNo, 0⟩, none, 0, gd2 HNN.out HOO.out, HKB.out.set 2 (.string oo), Strs.nil _ _ _, HBc.out.setCell (p := ⟨K, 2, none⟩) (Nat.le_of_lt hKw) _⟩
          · obtain ⟨mm, hmm, hmv⟩ := name_of (z1 % 6) (by omega)
            have HMM := hide hmm
            have x1 := HXc.out.cell (i := 1) rfl
            have n2 := HNc.out.cell hmv
            obtain ⟨d0, d1, d2, d3, d4, d5, d6, d7⟩ := cells8 HKB.out
            obtain ⟨f0, f1, f2, f3, f4, f5, f6, f7⟩ := frozen8 HKB.out
            have HA := Lib.hid (fun w => amount_any z2 g2 w)
            unfold AmtP at HA
            have hK1 := HKB.out.set 1 (.string mm)
            have hX1 := HXc.out.other (k := K) (by omega) 1 (.string mm)
            have hB1 := HBc.out.setCell (p := ⟨K, 1, none⟩) (Nat.le_of_lt hKw) (.string mm)
            obtain ⟨W1, hW1⟩ : ∃ W1, wo.setCell ⟨K, 1, none⟩ (.string mm) = W1 := ⟨_, rfl⟩
            rw [hW1] at hK1 hX1 hB1
            have y2 := hX1.cell (i := 2) rfl
            have HK1 := hide hK1
            have HB1 := hide hB1
            clear hmm hmv hK1 hX1 hB1
            go_wp2_with fail
            refine (HA.out _).mono ?_
            rintro e w2 ⟨q, hq, rfl, hb2⟩
            have HQ := hide hq
            have HK2 := hide (HK1.out.below hb2)
            have HB2 := hide (HB1.out.trans (hb2.mono HB1.out.size))
            clear hb2 hq d0 d1 d2 d3 d4 d5 d6 d7 f0 f1 f2 f3 f4 f5 f6 f7
            obtain ⟨d0, d1, d2, d3, d4, d5, d6, d7⟩ := cells8 HK2.out
            obtain ⟨f0, f1, f2, f3, f4, f5, f6, f7⟩ := frozen8 HK2.out
            go_wp2_with fail
            go_meet
            case rel => exact ⟨⟨3, mm, sNo, [], negB q, bs (nm q), dstr q, 0⟩, none, 0, gd3 HMM.out HQ.out, ((HK2.out.set 4 (.bool (negB q))).set 5 (.string (bs (nm q)))).set 6 (.string (dstr q)), Strs.nil _ _ _, ((HB2.out.setCell (p := ⟨K, 4, none⟩) (Nat.le_of_lt hKw) _).setCell (p := ⟨K, 5, none⟩) (Nat.le_of_lt hKw) _).setCell (p := ⟨K, 6, none⟩) (Nat.le_of_lt hKw) _⟩
          · obtain ⟨d0, d1, d2, d3, d4, d5, d6, d7⟩ := cells8 HKB.out
            go_wp2_with fail
            go_meet
            case rel => exact ⟨⟨4, nn, sNo, [], false, sNo, sNo, 0⟩, none, 0, gd4 HNN.out, HKB.out, Strs.nil _ _ _, HBc.out⟩
        case rest =>
          have HOn := hide (HL.out)
          clear HKB HXc HNc HBc hKc hXc HKD HK4 d0
          obtain ⟨x, Ax, cx, hgx, hKx, hSx, hBx⟩ := hcut.out
          rw [hgx.vals] at hKx
          have hvx := hgx.vals Ax cx
          obtain ⟨d0, d1, d2, d3, d4, d5, d6, d7⟩ := cells8 hKx
          have HKX := hide hKx
          have HGX := hide hgx
          have hO1 := LxD.own_below HO.out hBx
          have hC1 := HC.out.map (P' := fun b => NB < b ∧ (Value.slice A' k c').ownBlock ≠ some b) (fun A c l h => h.below hBx)
          have hS1 : Strs (fun b => NB < b ∧ (Value.slice A' k c').ownBlock ≠ some b) wc Ax cx x.list := hSx.mono (fun b hb => ⟨by omega, fun e => by have := (HO.out.lt b e).2; omega⟩)
          have hN1 := HN.out.below hBx
          have hB1 := HB.out.trans (hBx.mono (by omega))
          have hsz := hBx.size
          obtain ⟨V2, hV2⟩ : ∃ V2, wc.alloc (.cells #[.int .i64 x.kind, .string x.name, .string x.other, .slice Ax x.list.length cx, .bool x.neg, .string x.num, .string x.den, .int .i64 0] 45) = V2 := ⟨_, rfl⟩
          have hbV : Below wc.heap.size wc V2 := by rw [← hV2]; exact (Below.refl _ _).alloc (Nat.le_refl _) _
          have hrd := reads_new wc (Cl.vals x Ax cx) 45 rfl
          rw [hvx] at hrd
          change Reads (wc.alloc (.cells #[.int .i64 x.kind, .string x.name, .string x.other, .slice Ax x.list.length cx, .bool x.neg, .string x.num, .string x.den, .int .i64 0] 45)) _ _ _ _ _ at hrd
          rw [hV2] at hrd
          have HRD := hide hrd
          have HOV := hide (LxD.own_below hO1 hbV)
          have hsn := (hC1.map (P' := fun b => NB < b ∧ (Value.slice A' k c').ownBlock ≠ some b) (fun A c l h => h.below hbV)).snoc (x := x) (hS1.below hbV) (c := cx)
          rw [hvx] at hsn
          have HCV := hide hsn
          have HVO := hide (vals_one x Ax cx)
          rw [hvx] at HVO
          have HNV := hide (hN1.below hbV)
          have HBV2 := hide (hB1.trans (hbV.mono (by omega)))
          have hVs := hbV.size
          clear hO1 hC1 hS1 hrd hbV hN1 hB1 hsn hvx HO HC HN HB hSx hBx hKx hgx hcut
          go_wp2_with (first
            | (at_builtin
               refine wpList_append_any _ rfl (.tmp 96) (.tmp 98) 23 rfl (NB + 1) 45 i0 _ 8 112 Tryz.underlying23 hi hz0 hz1 hz2 rfl (by decide) _ _ _ rfl HOV.out _ _ 1 1 _ rfl HRD.out HVO.out ?c3 ?c4 ?c5 ?_
               case c3 => unfold maxLen; omega
               case c4 => omega
               case c5 => omega
               intro v5 w5 hown5 hg5 hob5))
          obtain ⟨A5, c5, rfl⟩ := LxD.own_slice hown5
          have hgb : Below (NB + 1) V2 w5 := (Below.refl _ _).grown hg5 (by omega) (fun g hg => (HOV.out.lt g hg).1)
          have hC5 := HCV.out.map (P' := fun b => NB < b ∧ (Value.slice A5 (k + 1) c5).ownBlock ≠ some b) (fun A c l h => Strs.grown (Strs.mono' (Q := fun b => NB < b ∧ (Value.slice A' k c').ownBlock ≠ some b ∧ b < V2.heap.size) h (fun b hb hp => ⟨hp.1, hp.2, hb⟩)) hg5 (fun b hb => hb.2.1) |>.mono (fun b hb => ⟨hb.1, fun e => by
            rcases hob5 with h | h
            · rw [h] at e; exact hb.2.1 e
            · rw [h] at e; injection e with e; omega⟩))
          go_roundw
          case rel => exact ⟨k + 1, l ++ [x], A5, c5, _, by omega, rfl, by go_num, by show _ = _; rw [List.length_append, HL.out]; rfl, fun y hy => (by rcases List.mem_append.1 hy with h | h; exact HG.out y h; rw [List.mem_singleton] at h; subst h; exact HGX.out), HNV.out.keep hgb (by omega), hown5, hC5, HBV2.out.grown hg5 (by omega) (fun g hg => by have := (HOV.out.lt g hg).1; omega), by have := hgb.size; omega⟩
          case measure => simp [intOf]; omega
    · have hm := HL.out
      obtain ⟨A9, c9, e9, hcl⟩ := ClsAt.own (l := l) (by rw [hm]; exact HO.out) HC.out (by rw [hm]; unfold maxLen; omega)
      rw [hm] at e9
      injection e9 with e91 e92 e93
      subst e91; subst e93
      have HCL := hide hcl
      clear hcl hm e92
      have hfin : ∀ w', w' = wq → ∃ l0 A0 c0, Ending.returned (.slice A' k c') = .returned (.slice A0 l0.length c0) ∧ ClsAt w' A0 l0 ∧ l0.length ≤ 10 ∧ (∀ x ∈ l0, Gd x) ∧ Below w.heap.size w w' := by
        rintro w' rfl
        exact ⟨l, A', c', by rw [HL.out], HCL.out, by rw [HL.out]; exact hk, HG.out, by rw [HNB.out]; exact HB.out⟩
      have HFIN := Lib.hid hfin
      clear hfin
      by_cases hc1 : k < n
      · have hc2 : ¬ k < 10 := fun h => hc ⟨hc1, h⟩
        go_wp2_with fail
        go_ret
        exact HFIN.out _ rfl
      · go_wp2_with fail
        go_ret
        exact HFIN.out _ rfl
end Go.Proofs.YtnbdckfnohagbaaGreatDoor.PqZ
