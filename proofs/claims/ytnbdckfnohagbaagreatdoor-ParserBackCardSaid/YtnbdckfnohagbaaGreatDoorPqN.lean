/- Numbers for the laws' own clauses; the chapter's example: awake. -/
import Derived.Test.YtnbdckfnohagbaaGreatDoorPqM
namespace Go.Proofs.YtnbdckfnohagbaaGreatDoor.PqN
theorem here : True := trivial
open Go.RowKit Lx Wd RnA RnB RnW PqA PqB PqC PqD PqE PqG PqH PqM RnQ RnR RnP RtA RtC RpB RpC RpF RpH RsX RoA RoC RoL
set_option maxHeartbeats 2000000 in
set_option maxRecDepth 100000 in
theorem ratio_any (a b : Nat) (w : World) (ha : a ≤ 1000000) (hb : b ≤ 1000000) (h0 : b ≠ 0) :
    Calls Tryz.prog 19 #[.int .i64 (a : Int), .int .i64 (b : Int)] w (RPost (mk false a b) w) := by
  have HF := Lib.hid (fun w => rfraction_any (a : Int) (b : Int) w ⟨by omega, by omega⟩ ⟨by omega, by omega⟩)
  have hm : makeQ (decide ((a : Int) < 0) != decide ((b : Int) < 0)) (a : Int).natAbs (b : Int).natAbs = (mk false a b, true) := by
    rw [decide_eq_false (by omega), decide_eq_false (by omega)]
    unfold makeQ
    rw [if_neg (by omega)]
    rfl
  rw [hm] at HF
  unfold RBPost at HF
  unfold RPost
  generalize mk false a b = q at *
  simp only [enc_open] at HF
  rw [enc_open]
  obtain ⟨V0, hV0, HJ, hB0, hl0⟩ := box_new w (.bool false) (.string ⟨#[]⟩) (.string ⟨#[]⟩)
  have HB0 := hide hB0
  clear hm hB0
  go_enter Tryz.func19, Tryz.ntmps19
  go_wp2_with fail
  refine (HF.out _).mono ?_
  rintro e w1 ⟨rfl, hb1⟩
  obtain ⟨V2, hV2, HX, hB2, hl2⟩ := box_new w1 (.bool (negB q)) (.string (bs (nm q))) (.string (dstr q))
  have hj2 := hb1.trans (hB2.mono hb1.size)
  have HJ2 := hide (HJ.out.keep hj2 hl0)
  have HBF := hide (HB0.out.trans (hj2.mono (Nat.le_of_lt hl0)))
  obtain ⟨m0, m1, m2, _⟩ := HX.out
  obtain ⟨c0, c1, c2, f0, f1, f2⟩ := HJ2.out
  clear hj2 hb1 hB2 hl2
  go_wp2_with fail
  refine bodyPost_ret (results_rat rfl _ rfl (HJ2.out.set3 _ _ _)) rfl ?_
  exact ⟨rfl, below_set3 HBF.out (Nat.le_refl _) _ _ _⟩
def exText : ByteArray := ⟨#[99, 108, 97, 115, 115, 32, 115, 32, 61, 32, 97, 44, 32, 98, 59, 32, 115, 32, 98, 101, 102, 111, 114, 101, 32, 99, 59, 32, 108, 105, 109, 105, 116, 32, 97, 32, 53, 47, 50, 59]⟩
theorem ex_code : (parseOf exText).2 = (0, 0) := by decide +kernel
theorem ex_off : (parseOf exText).1.map (fun x => (x.off, x.list.length, x.other.data.toList)) = [(0, 2, []), (16, 0, [99]), (28, 0, [])] := by decide +kernel
theorem ex_amount : (parseOf exText).1.map (fun x => (x.neg, x.num.data.toList, x.den.data.toList)) = [(false, [], []), (false, [], []), (false, [5], [2])] := by decide +kernel
theorem ex_q : negB (mk false 5 2) = false ∧ bytesOf (nm (mk false 5 2)) = [5] ∧ encD (mk false 5 2) = [2] := by decide +kernel
theorem list3 {α : Type} {l : List α} (h : l.length = 3) : ∃ a b c, l = [a, b, c] := by
  match l, h with
  | [a, b, c], _ => exact ⟨a, b, c, rfl⟩
theorem ex_parts : ∃ x0 x1 x2, parseOf exText = ([x0, x1, x2], 0, 0) ∧ x0.off = 0 ∧ x0.list.length = 2 ∧ x1.off = 16 ∧ x1.other = ⟨#[99]⟩ ∧ x2.off = 28 ∧ x2.neg = false ∧ x2.num = ⟨#[5]⟩ ∧ x2.den = ⟨#[2]⟩ := by
  have h1 := ex_code
  have h2 := ex_off
  have h3 := ex_amount
  obtain ⟨⟨l, a, e⟩, hp⟩ : ∃ p, parseOf exText = p := ⟨_, rfl⟩
  rw [hp] at h1 h2 h3 ⊢
  dsimp only at h1 h2 h3
  obtain ⟨x0, x1, x2, rfl⟩ := list3 (by have := congrArg List.length h2; simpa using this)
  simp only [List.map_cons, List.map_nil, List.cons.injEq, Prod.mk.injEq, and_true] at h1 h2 h3
  obtain ⟨rfl, rfl⟩ := h1
  obtain ⟨⟨a1, a2, _⟩, ⟨b1, _, b3⟩, ⟨c1, _, _⟩⟩ := h2
  obtain ⟨_, _, ⟨d1, d2, d3⟩⟩ := h3
  exact ⟨x0, x1, x2, rfl, a1, a2, b1, ext_bytes b3, c1, d1, ext_bytes d2, ext_bytes d3⟩
theorem ratio_ex (W : World) (v : Qin.In (Below W.heap.size W)) : Calls Tryz.prog 19 #[.int .i64 5, .int .i64 2] v.val fun e w' => e = .returned (.agg #[.bool false, .string ⟨#[5]⟩, .string ⟨#[2]⟩]) ∧ ∃ y : Qin.In (Below W.heap.size W), w' = y.val := by
  refine Qin.call ((ratio_any 5 2 v.val (by decide) (by decide) (by decide)).mono fun e w' ⟨h1, h2⟩ => ⟨?_, v.ok.trans (h2.mono v.ok.size)⟩)
  obtain ⟨q1, q2, q3⟩ := ex_q
  rw [h1, enc_open, q1]
  have e1 : bs (nm (mk false 5 2)) = ⟨#[5]⟩ := ext_bytes q2
  have e2 : dstr (mk false 5 2) = ⟨#[2]⟩ := ext_bytes q3
  rw [e1, e2]
set_option maxHeartbeats 4000000 in
set_option maxRecDepth 100000 in
theorem awake_cl (w : World) (he : Env w) :
    Calls Tryz.prog 9 #[] w fun e w' => e = .returned (.bool true) ∧ Below w.heap.size w w' := by
  obtain ⟨x0, x1, x2, hp, a1, a2, b1, b2, c1, c2, c3, c4⟩ := ex_parts
  have HP := Lib.hid (parse_cl exText w (by decide) he)
  rw [hp] at HP
  unfold ParseP exText at HP
  have HRT := Lib.hid (fun W v => ratio_ex W v)
  have hrs := fun W => rat_same false ⟨#[5]⟩ ⟨#[2]⟩ W
  have hrg := rat_guard
  clear hp he
  go_enter Tryz.func9, Tryz.ntmps9
  go_wp2_with fail
  refine HP.out.mono ?_
  rintro e w2 ⟨A, c, rfl, hcl, hb2⟩
  obtain ⟨b, off, A0, k0, rfl, hb, _, _, _, p3, _, _, _, p7, hS0⟩ := ClsAt.at hcl (k := 0) (x := x0) rfl
  obtain ⟨b', off', A1, k1, hA1, _, _, _, q2, _, _, _, _, q7, _⟩ := ClsAt.at hcl (k := 1) (x := x1) rfl
  obtain ⟨b'', off'', A2, k2, hA2, _, _, _, _, _, r4, r5, r6, r7, _⟩ := ClsAt.at hcl (k := 2) (x := x2) rfl
  injection hA1 with hA1
  injection hA1 with e1 e2
  injection hA2 with hA2
  injection hA2 with e3 e4
  subst e1; subst e2; subst e3; subst e4
  rw [a1] at p7
  rw [a2] at p3
  rw [b1] at q7
  rw [b2] at q2
  rw [c1] at r7
  rw [c2] at r4
  rw [c3] at r5
  rw [c4] at r6
  have m0 := at_kin hb p7
  have m1 := at_kin hb p3
  have m2 := at_kin hb q7
  have m3 := at_kin hb q2
  have m4 := at_kin hb r7
  have m5 := at_kin hb r4
  have m6 := at_kin hb r5
  have m7 := at_kin hb r6
  have HB2 := hide hb2
  clear p3 p7 q2 q7 r4 r5 r6 r7 hS0 hcl a1 a2 b1 b2 c1 c2 c3 c4 hb2
  go_wp2_with fail
  refine Qin.region (I := Below w2.heap.size w2) (Qin.start _ w2) (by kernel_rfl) (by kernel_rfl) ?_
  repeat (go_big_quiet_step ((go_at_call 19; with_reducible exact HRT.out _ _)))
  refine wpQuiet_nil ?_
  intro v
  go_wp2_with fail
  go_ret
  exact ⟨rfl, HB2.out.trans (v.ok.mono HB2.out.size)⟩
end Go.Proofs.YtnbdckfnohagbaaGreatDoor.PqN
