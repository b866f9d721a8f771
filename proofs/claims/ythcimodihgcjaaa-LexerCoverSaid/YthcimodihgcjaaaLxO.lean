/- The walk of the law LexerCover. -/
import Derived.Test.YthcimodihgcjaaaLxK
import Derived.Test.YthcimodihgcjaaaLxN
namespace Go.Proofs.Ythcimodihgcjaaa.LxO
open Go.RowKit Lx LxW LxB LxD LxF LxG LxI LxJ LxN
set_option maxHeartbeats 4000000 in
set_option maxRecDepth 100000 in
theorem cover_law (a : Option Addr) (len cap : Nat) (zs : List Int) (w : World) (h : IsRow .u8 w a len cap zs) :
    Calls Try.prog 7 #[.slice a len cap] w fun e w' => e = .returned (.bool true) ∧ Below w.heap.size w w' := by
  have H := hide h
  clear h
  go_enter Try.func7, Try.ntmps7
  go_wp2_with fail
  refine (pieces_any _ _ _ _ _ H.out).mono ?_
  rintro e w0 ⟨s, rfl, hsz, hb0⟩
  obtain ⟨r, hr⟩ : ∃ r, lex s = r := ⟨_, rfl⟩
  obtain ⟨toks, p, er⟩ := r
  have HR := hide hr
  clear hr
  cases hE : (er == 0)
  · have hE2 : (er != 0) = true := by simp [bne, hE]
    go_wp2_with fail
    refine (split_all _ _ (by unfold maxLen; omega)).mono ?_
    rw [HR.out]
    rintro e w1 ⟨v1, rfl, hown1, hb1⟩
    go_wp2_with fail
    refine (awake_any _).mono ?_
    rintro e w3 ⟨rfl, hb3⟩
    go_wp2_with fail
    go_ret
    exact ⟨rfl, hb0.trans ((hb1.mono hb0.size).trans (hb3.mono (Nat.le_trans hb0.size hb1.size)))⟩
  · have hE2 : (er != 0) = false := by simp [bne, hE]
    have hE3 : er = 0 := by simpa using hE
    obtain ⟨hcov, hends⟩ := lex_cover (hE3 ▸ HR.out)
    have HE := hide hends
    have HC := hide hcov
    clear hE3 hends hcov
    go_wp2_with fail
    refine (split_all _ _ (by unfold maxLen; omega)).mono ?_
    rw [HR.out]
    rintro e w1 ⟨v1, rfl, hown1, hb1⟩
    have hpos : 0 < toks.length := by
      obtain ⟨body, hb, _⟩ := HE.out
      rw [hb]; simp
    have hlen := own_len hown1
    unfold maxLen at hlen
    obtain ⟨g, c, rfl, hg1, hg2⟩ := hown1.form hpos
    have hbel1 : Below w.heap.size w w1 := hb0.trans (hb1.mono hb0.size)
    dsimp only at hown1 hlen
    go_wp2_with fail
    go_loopw [7, 23] (fun vo vi wr => ∃ (k lo : Nat), k ≤ toks.length ∧ lo ≤ s.size ∧ vo = .int .i64 lo ∧ vi = .int .i64 k ∧ Cov s lo (toks.drop k) ∧ Below w1.heap.size w1 wr) (fun _ vi _ => toks.length - (intOf vi).toNat)
    case atStart => exact ⟨0, 0, by omega, by omega, rfl, rfl, HC.out, Below.refl _ _⟩
    case round =>
      obtain ⟨k, lo, hk, hlo, rfl, rfl, hcv, hbr⟩ := hrel
      have hownr := own_below hown1 hbr
      by_cases hlt : k < toks.length
      · obtain ⟨t, ht⟩ : ∃ t, toks[k]? = some t := ⟨_, List.getElem?_eq_getElem hlt⟩
        obtain ⟨i1, i2, hx, i4⟩ := cov_at hcv ht
        obtain ⟨j1, j2⟩ := ends_at HE.out ht
        obtain ⟨a0, a1, a2⟩ := own_tok hownr hlt ht
        obtain ⟨kd, tx, off⟩ := t
        dsimp only at i1 i2 hx i4 j1 j2 a0 a1 a2
        have HV := hide i4
        clear i4 ht hcv j2
        have g1 : decide ((off : Int) < (lo : Int)) = false := decide_eq_false (by omega)
        have g2 : decide ((s.size : Int) < (off : Int)) = false := decide_eq_false (by omega)
        have g3 : decide ((s.size : Int) < (off : Int) + (tx.size : Int)) = false := decide_eq_false (by omega)
        have g4 : decide (off < lo) = false := decide_eq_false (by omega)
        have g5 : decide (s.size < off) = false := decide_eq_false (by omega)
        have g6 : decide (s.size < off + tx.size) = false := decide_eq_false (by omega)
        by_cases hl : k + 1 = toks.length
        · have hkd : (kd == 5) = true := by simpa using j1.2 hl
          have hkl : ((k : Int) == (toks.length : Int) - 1) = true := by simp; omega
          clear j1
          have HL := hide hl
          clear hl
          go_wp2_with fail
          go_quiet (fail)
          go_wp2_with fail
          go_roundw
          case rel => exact ⟨k + 1, off + tx.size, by omega, by omega, by go_num, by go_num, HV.out, below_drewN (hbr.alloc hbr.size _) nq⟩
          case measure => simp [intOf]; omega
        · have hkd : (kd == 5) = false := by
            rw [beq_eq_false_iff_ne]; exact fun e => hl (j1.1 e)
          have hkl : ((k : Int) == (toks.length : Int) - 1) = false := by rw [beq_eq_false_iff_ne]; omega
          clear j1
          have HL := hide hl
          clear hl
          go_wp2_with fail
          go_quiet (fail)
          go_wp2_with fail
          go_roundw
          case rel => exact ⟨k + 1, off + tx.size, by omega, by omega, by go_num, by go_num, HV.out, below_drewN (hbr.alloc hbr.size _) nq⟩
          case measure => simp [intOf]; omega
      · have hcell : Hid (∃ t, toks[toks.length - 1]? = some t) := ⟨_, List.getElem?_eq_getElem (by omega)⟩
        obtain ⟨t, ht⟩ := hcell.out
        obtain ⟨j1, j2⟩ := ends_at HE.out ht
        have j3 := j2 (by omega)
        clear j1 j2
        go_wp2_with fail
        refine (awake_any _).mono ?_
        rintro e w3 ⟨rfl, hb3⟩
        have hown3 := own_below hownr hb3
        obtain ⟨a0, a1, a2⟩ := own_tok hown3 (by omega) ht
        rw [j3] at a2
        clear ht j3 hcell
        go_wp2_with fail
        go_ret
        exact ⟨rfl, hbel1.trans ((hbr.mono hbel1.size).trans (hb3.mono (Nat.le_trans hbel1.size hbr.size)))⟩
end Go.Proofs.Ythcimodihgcjaaa.LxO
