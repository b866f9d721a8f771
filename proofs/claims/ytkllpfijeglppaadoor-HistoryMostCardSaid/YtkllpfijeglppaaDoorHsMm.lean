/- The walk of most, which calls itself. -/
import Derived.Test.YtkllpfijeglppaaDoorHsMl
import Derived.Laws.BitsAllLaws
namespace Go.Proofs.YtkllpfijeglppaaDoor.HsMm
open Go.RowKit Hs HsB HsC HsD HsF HsG HsH HsE HsI HsJ HsK HsL HsM HsN HsO HsP HsQ HsR HsS HsT HsU HsMa HsMb HsMc HsMd HsMe HsMf HsMe2 HsMg HsMh HsMi HsMl
theorem bit_test (u k : Nat) (hu : u < 512) : (bits BinOp.and IntKind.u64 ((u : Int) / 2 ^ k) 1 == 0) = !(u.testBit k) := by
  have hlt : u / 2 ^ k < 18446744073709551616 := Nat.lt_of_le_of_lt (Nat.div_le_self _ _) (by omega)
  have h := u64_and_nat (u / 2 ^ k) 1 hlt (by omega)
  have e : ((u : Int) / 2 ^ k) = ((u / 2 ^ k : Nat) : Int) := by simp
  rw [e]
  have e1 : ((1 : Nat) : Int) = 1 := rfl
  rw [e1] at h
  rw [h, Nat.and_one_is_mod, Nat.testBit_eq_decide_div_mod_eq]
  rcases Nat.mod_two_eq_zero_or_one (u / 2 ^ k) with h0 | h0 <;> rw [h0] <;> rfl
theorem bit_or (u k : Nat) (hu : u < 512) (hk : k < 9) : bits BinOp.or IntKind.u64 (u : Int) (2 ^ k) = ((u ||| 2 ^ k : Nat) : Int) ∧ (u ||| 2 ^ k) < 512 ∧ (u ||| 2 ^ k).testBit = upd u.testBit k := by
  have hp : 2 ^ k < 2 ^ 9 := Nat.pow_lt_pow_right (by omega) hk
  have hp' : (2 : Nat) ^ 9 = 512 := rfl
  have hor : u ||| 2 ^ k < 2 ^ 9 := Nat.or_lt_two_pow (by omega) hp
  have h := u64_or_nat u (2 ^ k) (by omega) (by omega)
  refine ⟨?_, by omega, ?_⟩
  · rw [← h]; congr 1
  · funext j
    rw [Nat.testBit_or, Nat.testBit_two_pow]
    unfold upd
    rw [Bool.or_comm]
    congr 1
    simp [eq_comm]
theorem corrs_any (a b : HRow) (s : Int) (w : World) (ha : DayIn a) (hb : DayIn b) :
    Calls Tryd.prog 32 #[.agg #[.int .i64 a.day, .int .i64 a.kind, .int .i64 a.src, .int .i64 a.dst, .int .i64 a.amount, .int .i64 a.worth], .agg #[.int .i64 b.day, .int .i64 b.kind, .int .i64 b.src, .int .i64 b.dst, .int .i64 b.amount, .int .i64 b.worth], .int .i64 s] w
      fun e w' => e = .returned (.bool (near s a b)) ∧ Below w.heap.size w w' := by
  go_enter Tryd.func32, Tryd.ntmps32
  go_wp2_with fail
  refine (near_any a b s _ ha hb).mono ?_
  rintro e w1 ⟨rfl, hb1⟩
  go_wp2_with fail
  go_ret
  exact ⟨rfl, (((Below.refl _ _).alloc (Nat.le_refl _) _).alloc (by simp) _).trans (hb1.mono (by simp; omega))⟩
theorem corrs_in (W : World) (a b : HRow) (s : Int) (x : Qin.In (Below W.heap.size W)) (ha : DayIn a) (hb : DayIn b) :
    Calls Tryd.prog 32 #[.agg #[.int .i64 a.day, .int .i64 a.kind, .int .i64 a.src, .int .i64 a.dst, .int .i64 a.amount, .int .i64 a.worth], .agg #[.int .i64 b.day, .int .i64 b.kind, .int .i64 b.src, .int .i64 b.dst, .int .i64 b.amount, .int .i64 b.worth], .int .i64 s] x.val
      fun e w' => e = .returned (.bool (near s a b)) ∧ ∃ y : Qin.In (Below W.heap.size W), w' = y.val :=
  Qin.call ((corrs_any a b s _ ha hb).mono fun _ _ ⟨h1, h2⟩ => ⟨h1, x.ok.trans (h2.mono x.ok.size)⟩)
set_option maxHeartbeats 4000000 in
set_option maxRecDepth 100000 in
theorem most_any (s : Int) (a b : List HRow) (A B : Option Addr) (c c' : Nat) (hal : a.length ≤ 9) (hbl : b.length ≤ 9) (dA : days a = true) (dB : days b = true) (n : Nat) :
    ∀ (i u : Nat) (iv uv : Int) (w : World), iv = (i : Int) → uv = (u : Int) → a.length - i = n → i ≤ a.length → u < 512 → RowsAt w w.heap.size A a → RowsAt w w.heap.size B b →
      Calls Tryd.prog 33 #[.slice A a.length c, .slice B b.length c', .int .i64 s, .int .i64 iv, .int .u64 uv] w fun e w' => e = .returned (.int .i64 (mostOf s b (a.drop i) u.testBit : Nat)) ∧ Below w.heap.size w w' := by
  have DA := hide dA
  have DB := hide dB
  clear dA dB
  induction n with
  | zero =>
    intro i u iv uv w hi hu hn hil hul ha hb
    subst hi hu
    have e : i = a.length := by omega
    subst e
    clear ha hb hn
    have hd : Hid (mostOf s b (a.drop a.length) u.testBit = 0) := by show _ = _; rw [List.drop_length]; rfl
    go_enter Tryd.func33, Tryd.ntmps33
    go_wp2_with fail
    go_ret
    rw [hd.out]
    exact ⟨rfl, Below.refl _ _⟩
  | succ n ih =>
    intro i u iv uv w hi hu hn hil hul ha hb
    subst hi hu
    obtain ⟨x, hx⟩ : ∃ r, a[i]? = some r := ⟨_, List.getElem?_eq_getElem (by omega)⟩
    have hdx : DayIn x := dayIn_of DA.out hx
    have hlt : i < a.length := by omega
    have hne : ((i : Int) == (a.length : Int)) = false := by simp; omega
    have HM : Hid (mostOf s b (a.drop i) u.testBit = mostLoop (mostOf s b (a.drop (i + 1))) s x b u.testBit b.length (mostOf s b (a.drop (i + 1)) u.testBit)) := by
      show _ = _
      rw [drop_get hx, most_cons]
    have hmb := most_le s b (a.drop (i + 1))
    have HMB := Lib.hid hmb
    have hm0 := hmb u.testBit
    have hdl : (a.drop (i + 1)).length ≤ 9 := by simp; omega
    have HX := hide hx
    have HA := hide ha
    have HB := hide hb
    clear hx hmb ha hb
    go_enter Tryd.func33, Tryd.ntmps33
    go_wp2_with fail
    refine (ih (i + 1) u _ _ _ (by omega) rfl (by omega) (by omega) hul HA.out HB.out).mono ?_
    rintro e w1 ⟨rfl, hb1⟩
    generalize hm : mostOf s b (a.drop (i + 1)) u.testBit = m0 at HM hm0 ⊢
    clear hm
    go_wp2_with fail
    go_loopw [11, 12] (fun vn vk wq => ∃ (k m : Nat), k ≤ b.length ∧ m ≤ 10 ∧ vk = .int .i64 k ∧ vn = .int .i64 m ∧ Hid (mostOf s b (a.drop i) u.testBit = mostLoop (mostOf s b (a.drop (i + 1))) s x b u.testBit (b.length - k) m) ∧ Below w.heap.size w wq) (fun _ vk _ => b.length - (intOf vk).toNat)
    case atStart => exact ⟨0, m0, by omega, by omega, rfl, rfl, HM, hb1⟩
    case round =>
      clear HM hm0 hb1
      obtain ⟨k, m, hk, hm, rfl, rfl, HK, hbr⟩ := hrel
      by_cases hkl : k < b.length
      · obtain ⟨y, hy⟩ : ∃ r, b[k]? = some r := ⟨_, List.getElem?_eq_getElem hkl⟩
        have hdy : DayIn y := dayIn_of DB.out hy
        obtain ⟨b1, o1, rfl, hbw1, hc1⟩ := (HA.out.below hbr).2 (by omega)
        obtain ⟨b2, o2, rfl, hbw2, hc2⟩ := (HB.out.below hbr).2 (by omega)
        have q1 := fun z => rows_in hc1 HX.out hbw1 hbr.size z
        have q2 := fun z => rows_in hc2 hy hbw2 hbr.size z
        haveI : Nonempty (Qin.In (Below wr.heap.size wr)) := ⟨⟨wr, Below.refl _ _⟩⟩
        have Q1 := Lib.hid q1
        have Q2 := Lib.hid q2
        have HY := hide hy
        clear hc1 hc2 hy q1 q2
        have hbt := bit_test u k hul
        cases hu : u.testBit k
        · rw [hu] at hbt
          have HU := hide hu
          clear hu
          have a0 := fun z => (Q1.out z).1
          have a1 := fun z => (Q1.out z).2.1
          have a2 := fun z => (Q1.out z).2.2.1
          have a3 := fun z => (Q1.out z).2.2.2.1
          have a4 := fun z => (Q1.out z).2.2.2.2.1
          have a5 := fun z => (Q1.out z).2.2.2.2.2
          have c0 := fun z => (Q2.out z).1
          have c1 := fun z => (Q2.out z).2.1
          have c2 := fun z => (Q2.out z).2.2.1
          have c3 := fun z => (Q2.out z).2.2.2.1
          have c4 := fun z => (Q2.out z).2.2.2.2.1
          have c5 := fun z => (Q2.out z).2.2.2.2.2
          go_wp2_with fail
          refine Qin.region (I := Below wr.heap.size wr) (Qin.start _ wr) (by kernel_rfl) (by kernel_rfl) ?_
          repeat (go_big_quiet_step ((go_at_call 32; exact corrs_in _ x y s _ hdx hdy)))
          refine wpQuiet_nil ?_
          intro z
          have hbz := hbr.trans (z.ok.mono hbr.size)
          clear a0 a1 a2 a3 a4 a5 c0 c1 c2 c3 c4 c5 Q1 Q2 hbt
          have hnat : Hid (nearAt s x b k = near s x y) := by show _ = _; unfold nearAt; rw [HY.out]
          have hstep : Hid (mostLoop (mostOf s b (a.drop (i + 1))) s x b u.testBit (b.length - k) m = mostLoop (mostOf s b (a.drop (i + 1))) s x b u.testBit (b.length - (k + 1)) (if near s x y = true then max m (1 + mostOf s b (a.drop (i + 1)) (upd u.testBit k)) else m)) := by
            show _ = _
            rw [show b.length - k = (b.length - (k + 1)) + 1 by omega, mostLoop, show b.length - (b.length - (k + 1) + 1) = k by omega, hnat.out, HU.out]
            simp
          cases hn : near s x y
          · have HN := Lib.hid hn
            go_wp2_with fail
            go_roundw
            case rel => exact ⟨k + 1, m, by omega, by omega, by go_num, rfl, by show _ = _; rw [HK.out, hstep.out, HN.out]; rfl, hbz⟩
            case measure => simp [intOf]; omega
          · have HN := Lib.hid hn
            clear hn
            obtain ⟨hor, hlt9, htb⟩ := bit_or u k hul (by omega)
            have huv : bits BinOp.or IntKind.u64 (u : Int) (IntKind.u64.wrap (2 ^ k)) = ((u ||| 2 ^ k : Nat) : Int) := by
              rw [← hor]; congr 1
              have hp : 2 ^ k < 2 ^ 9 := Nat.pow_lt_pow_right (by omega) (by omega)
              have e : ((2 : Int) ^ k) = ((2 ^ k : Nat) : Int) := by simp
              have hp9 : 2 ^ k < 512 := hp
              rw [e]
              clear e hp
              generalize 2 ^ k = P at hp9 ⊢
              exact IntWalk.u64_in _ (by omega)
            have HUV := Lib.hid huv
            have HTB := Lib.hid htb
            clear hor huv htb
            go_wp2_with fail
            refine (ih (i + 1) (u ||| 2 ^ k) _ _ _ (by omega) HUV.out (by omega) (by omega) hlt9 ((HA.out.below hbz).mono hbz.size) ((HB.out.below hbz).mono hbz.size)).mono ?_
            rintro e w2 ⟨rfl, hb2⟩
            rw [HTB.out]
            have hbw2 := hbz.trans (hb2.mono hbz.size)
            have hm1 := HMB.out (upd u.testBit k)
            generalize hm1e : mostOf s b (a.drop (i + 1)) (upd u.testBit k) = m1 at hm1 hstep ⊢
            clear hm1e hb2
            go_wp2_with fail
            go_roundw
            case rel => exact ⟨k + 1, max m (1 + m1), by omega, by omega, by go_num, by congr 1; omega, by show _ = _; rw [HK.out, hstep.out, HN.out]; rfl, hbw2⟩
            case measure => simp [intOf]; omega
        · rw [hu] at hbt
          have HU := hide hu
          clear hu
          go_wp2_with fail
          refine Qin.region (I := Below wr.heap.size wr) (Qin.start _ wr) (by kernel_rfl) (by kernel_rfl) ?_
          repeat (go_big_quiet_step (fail))
          refine wpQuiet_nil ?_
          intro z
          have hbz := hbr.trans (z.ok.mono hbr.size)
          clear Q1 Q2 hbt
          have hstep : Hid (mostLoop (mostOf s b (a.drop (i + 1))) s x b u.testBit (b.length - k) m = mostLoop (mostOf s b (a.drop (i + 1))) s x b u.testBit (b.length - (k + 1)) m) := by
            show _ = _
            rw [show b.length - k = (b.length - (k + 1)) + 1 by omega, mostLoop, show b.length - (b.length - (k + 1) + 1) = k by omega, HU.out]
            simp
          go_wp2_with fail
          go_roundw
          case rel => exact ⟨k + 1, m, by omega, by omega, by go_num, rfl, by show _ = _; rw [HK.out, hstep.out], hbz⟩
          case measure => simp [intOf]; omega
      · have HF : Hid (mostOf s b (a.drop i) u.testBit = m) := by
          show _ = _
          rw [HK.out, show b.length - k = 0 by omega]; rfl
        go_wp2_with fail
        go_ret
        rw [HF.out]
        exact ⟨rfl, hbr⟩
end Go.Proofs.YtkllpfijeglppaaDoor.HsMm
