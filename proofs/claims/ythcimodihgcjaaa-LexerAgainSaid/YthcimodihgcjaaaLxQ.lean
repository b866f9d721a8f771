/- The walk of the law LexerAgain. -/
import Derived.Test.YthcimodihgcjaaaLxK
import Derived.Test.YthcimodihgcjaaaLxP
namespace Go.Proofs.Ythcimodihgcjaaa.LxQ
open Go.RowKit Lx LxW LxB LxD LxF LxG LxI LxJ LxN LxM LxP
set_option maxHeartbeats 4000000 in
set_option maxRecDepth 100000 in
theorem again_law (a : Option Addr) (len cap : Nat) (zs : List Int) (w : World) (h : IsRow .u8 w a len cap zs) :
    Calls Try.prog 6 #[.slice a len cap] w fun e w' => e = .returned (.bool true) ∧ Below w.heap.size w w' := by
  have H := hide h
  clear h
  go_enter Try.func6, Try.ntmps6
  go_wp2_with fail
  refine (pieces_any _ _ _ _ _ H.out).mono ?_
  rintro e w0 ⟨s, rfl, hsz, hb0⟩
  obtain ⟨r, hr⟩ : ∃ r, lex s = r := ⟨_, rfl⟩
  obtain ⟨toks, p, er⟩ := r
  have HR := hide hr
  clear hr
  cases hE : (er == 0)
  · have hE2 : (er != 0) = true := by simp [bne, hE]
    have hE3 : er ≠ 0 := by simpa using hE
    obtain rfl : toks = [] := lex_err HR.out hE3
    go_wp2_with fail
    refine (split_all _ _ (by unfold maxLen; omega)).mono ?_
    rw [HR.out]
    rintro e w1 ⟨v1, rfl, hown1, hb1⟩
    obtain ⟨A, c, rfl⟩ := own_slice hown1
    go_wp2_with fail
    refine (awake_any _).mono ?_
    rintro e w3 ⟨rfl, hb3⟩
    go_wp2_with fail
    go_ret
    exact ⟨rfl, hb0.trans ((hb1.mono hb0.size).trans (hb3.mono (Nat.le_trans hb0.size hb1.size)))⟩
  · have hE2 : (er != 0) = false := by simp [bne, hE]
    have hE3 : er = 0 := by simpa using hE
    have h0 : Hid (lex s = (toks, p, 0)) := hE3 ▸ HR.out
    obtain ⟨hcov, hends⟩ := lex_cover h0.out
    have hj := joined_le toks 0 hcov (by omega)
    have htl : toks.length ≤ s.size + 1 := by
      obtain ⟨body, hb, _, _, hl, _⟩ := lex_again h0.out
      rw [hb]; simp; omega
    have hpos : 0 < toks.length := by
      obtain ⟨body, hb, _⟩ := hends
      rw [hb]; simp
    clear hE3 hends hcov
    go_wp2_with fail
    refine (split_all _ _ (by unfold maxLen; omega)).mono ?_
    rw [HR.out]
    rintro e w1 ⟨v1, rfl, hown1, hb1⟩
    obtain ⟨g, c, rfl, hg1, hg2⟩ := hown1.form hpos
    have hbel1 : Below w.heap.size w w1 := hb0.trans (hb1.mono hb0.size)
    dsimp only at hown1
    go_wp2_with fail
    go_loopw [6, 30] (fun vs vi wr => ∃ (k : Nat) (u : ByteArray), k ≤ toks.length ∧ vi = .int .i64 k ∧ vs = .string u ∧ u.data.toList = joined (toks.take k) ∧ Below w1.heap.size w1 wr) (fun _ vi _ => toks.length - (intOf vi).toNat)
    case atStart => exact ⟨0, ⟨#[]⟩, by omega, rfl, rfl, rfl, Below.refl _ _⟩
    case round =>
      obtain ⟨k, u, hk, rfl, rfl, hu, hbr⟩ := hrel
      have hul : u.size ≤ 1400 := by
        have e := congrArg List.length hu
        have := joined_take_le toks k
        rw [list_len] at e
        omega
      have HU := hide hu
      clear hu
      have hownr := own_below hown1 hbr
      by_cases hlt : k < toks.length
      · obtain ⟨t, ht⟩ : ∃ t, toks[k]? = some t := ⟨_, List.getElem?_eq_getElem hlt⟩
        obtain ⟨a0, a1, a2⟩ := own_tok hownr hlt ht
        have htk := take_snoc ht
        have hu2 : ∀ x : ByteArray, x.data.toList = t.text.data.toList ++ [32] → (u ++ x).data.toList = joined (toks.take (k + 1)) := by
          intro x hx
          rw [data_append, hx, htk, joined_snoc, HU.out]
        have hts : t.text.size ≤ 1400 := by
          have e := congrArg List.length (hu2 (t.text ++ ⟨#[32]⟩) (by rw [data_append]))
          have := joined_take_le toks (k + 1)
          rw [list_len, ByteArray.size_append, ByteArray.size_append] at e
          omega
        have HU2 := hide hu2
        clear hu2 htk ht
        obtain ⟨kd, tx, off⟩ := t
        dsimp only at hts a0 a1 a2
        go_wp2_with fail
        go_roundw
        case rel => exact ⟨k + 1, u ++ (tx ++ ⟨#[32]⟩), by omega, by go_num, rfl, HU2.out _ (by rw [data_append]), hbr.alloc hbr.size _⟩
        case measure => simp [intOf]; omega
      · have hku : u.data.toList = joined toks := by rw [HU.out, List.take_of_length_le (by omega)]
        obtain ⟨r2, hr2, hr2l, hr2t⟩ := again_all h0.out hsz hku
        have HR2 := hide hr2
        have HT2 := hide hr2t
        have HL2 := hide hr2l
        clear hr2 hr2t hr2l hku
        go_wp2_with fail
        refine (split_all _ _ (by unfold maxLen; omega)).mono ?_
        rw [HR2.out]
        rintro e w3 ⟨v3, rfl, hown3, hb3⟩
        dsimp only at hown3
        rw [HL2.out] at hown3
        have hown4 := own_below hownr hb3
        obtain ⟨g3, c3, rfl, _, _⟩ := hown3.form hpos
        go_wp2_with fail
        obtain ⟨wo, rfl⟩ : ∃ wo, wo = wr := ⟨_, rfl⟩
        go_loopw [57] (fun vi wq => ∃ (j n : Nat), j ≤ toks.length ∧ vi = .int .i64 j ∧ wq = w3.drewN n) (fun vi _ => toks.length - (intOf vi).toNat)
        case atStart => exact ⟨0, 0, by omega, rfl, rfl⟩
        case round =>
          obtain ⟨j, n, hj, rfl, rfl⟩ := hrel
          by_cases hjl : j < toks.length
          · obtain ⟨t, ht⟩ : ∃ t, toks[j]? = some t := ⟨_, List.getElem?_eq_getElem hjl⟩
            obtain ⟨q, hq⟩ := HT2.out j t ht
            obtain ⟨a0, a1, a2⟩ := own_tok hown4 hjl ht
            obtain ⟨b0, b1, b2⟩ := own_tok hown3 hjl hq
            dsimp only at b0 b1 b2
            obtain ⟨kd, tx, off⟩ := t
            dsimp only at a0 a1 a2 b0 b1 b2
            clear ht hq
            have g1 : (kd != kd) = false := by simp
            go_wp2_with fail
            go_quiet (fail)
            go_wp2_with fail
            go_roundw
            case rel => exact ⟨j + 1, n + nq, by omega, by go_num, rfl⟩
            case measure => simp [intOf]; omega
          · go_wp2_with fail
            refine (awake_any _).mono ?_
            rintro e w5 ⟨rfl, hb5⟩
            go_wp2_with fail
            go_ret
            have hbx : Below w.heap.size w w3 := hbel1.trans ((hbr.mono hbel1.size).trans (hb3.mono (Nat.le_trans hbel1.size hbr.size)))
            exact ⟨rfl, (below_drewN hbx n).trans (hb5.mono hbx.size)⟩
end Go.Proofs.Ythcimodihgcjaaa.LxQ
