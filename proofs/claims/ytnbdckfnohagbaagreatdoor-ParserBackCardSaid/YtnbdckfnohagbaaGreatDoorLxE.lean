/- The walk of the reference's token. -/
import Derived.Test.YtnbdckfnohagbaaGreatDoorLxR
namespace Go.Proofs.YtnbdckfnohagbaaGreatDoor.LxE
theorem here : True := trivial
open Go.RowKit Lx LxW LxR
/-- a token as a value -/
def Tok.val (t : Tok) : Value := .agg #[.int .i64 t.kind, .string t.text, .int .i64 t.off]
def TokPost (r : Tok × Nat × Int) (w : World) (e : Ending) (w' : World) : Prop :=
  e = .returned (.tuple #[Tok.val r.1, .int .i64 r.2.1, .int .i64 r.2.2]) ∧ Below w.heap.size w w'
set_option maxHeartbeats 4000000 in
set_option maxRecDepth 100000 in
theorem token_any (s : ByteArray) (k : Nat) (w : World) (hs : s.size ≤ 8192) (hlt : k < s.size) :
    Calls Tryz.prog 52 #[.string s, .int .i64 k] w (TokPost (tokR s k) w) := by
  have hk : k ≤ s.size := by omega
  have hb := hide (bt_at s k hlt)
  cases h1 : ((s[k].toNat : Int) == 61) <;> cases h2 : ((s[k].toNat : Int) == 44) <;> cases h3 : ((s[k].toNat : Int) == 59)
  case false.false.false =>
    have hS : Hid (isSign (bt s k) = false) := by rw [← hb.out]; simp [Hid, isSign, h1, h2, h3]
    cases hD : isDigit (s[k].toNat : Int)
    · have HD := hide hD
      clear hD
      cases hL : isLetter (s[k].toNat : Int)
      · have HL := hide hL
        clear hL
        have hT : Hid (tokR s k = (zeroTok, k, 10)) := tokR_none (hb.out ▸ HL.out) (hb.out ▸ HD.out) hS.out
        go_enter Tryz.func52, Tryz.ntmps52
        go_wp2_with (first | (go_at_call 74; refine (digit_any _ _).mono ?_; rintro e w' ⟨rfl, rfl⟩; rw [HD.out]) | (go_at_call 76; refine (letter_any _ _).mono ?_; rintro e w' ⟨rfl, rfl⟩; rw [HL.out]))
        refine bodyPost_ret (v := .tuple #[Tok.val zeroTok, .int .i64 k, .int .i64 10]) (by simp [results, Tryz.results52, go_sem, Tok.val, zeroTok]) rfl ⟨by rw [hT.out], ?_⟩
        exact (Below.refl _ _).alloc (Nat.le_refl _) _
      · have HL := hide hL
        clear hL
        have hge : k + 1 ≤ skip inName s k := by rw [skip_go hlt (by simp [inName, ← hb.out, HL.out])]; exact skip_ge
        have hle : skip inName s k ≤ s.size := skip_le hk
        obtain ⟨n, hn⟩ : ∃ n, skip inName s k = n := ⟨_, rfl⟩
        rw [hn] at hge hle
        have HN := hide hn
        clear hn
        have hext : (s.extract k n).size = n - k := by simp; omega
        go_enter Tryz.func52, Tryz.ntmps52
        go_wp2_with (first | (go_at_call 74; refine (digit_any _ _).mono ?_; rintro e w' ⟨rfl, rfl⟩; rw [HD.out]) | (go_at_call 76; refine (letter_any _ _).mono ?_; rintro e w' ⟨rfl, rfl⟩; rw [HL.out]))
        go_loop [9] (fun v => ∃ j : Nat, k ≤ j ∧ j ≤ s.size ∧ v = .int .i64 j ∧ skip inName s k = skip inName s j) (fun v => s.size - (intOf v).toNat)
        case atStart => exact ⟨k, Nat.le_refl _, hk, rfl, rfl⟩
        case round =>
          obtain ⟨j, hkj, hj, rfl, hsj⟩ := hrel
          have HJ := hide (HN.out.symm.trans hsj)
          clear hsj
          by_cases hjs : j < s.size
          · have hbj := hide (bt_at s j hjs)
            cases hp : inName (s[j].toNat : Int)
            · have Hp := hide hp
              clear hp
              obtain rfl : n = j := by rw [HJ.out, skip_stop (hbj.out ▸ Hp.out)]
              by_cases h7 : 32 < n - k
              · have hT : Hid (tokR s k = (zeroTok, k, 2)) := tokR_long (hb.out ▸ HL.out) HN.out h7
                go_wp2_with (go_at_call 77; refine (within_any _ _).mono ?_; rintro e w' ⟨rfl, rfl⟩; rw [Hp.out])
                refine bodyPost_ret (v := .tuple #[Tok.val zeroTok, .int .i64 k, .int .i64 2]) (by simp [results, Tryz.results52, go_sem, Tok.val, zeroTok]) rfl ⟨by rw [hT.out], ?_⟩
                repeat (first | exact Below.refl _ _ | refine Below.alloc ?_ (by simp) _ | refine Below.setCell ?_ (by simp) _)
              · have hT : Hid (tokR s k = (⟨wordKind (s.extract k n), s.extract k n, k⟩, n, 0)) := tokR_word (hb.out ▸ HL.out) HN.out h7
                cases hR : resv (s.extract k n)
                all_goals
                  have hW : Hid (wordKind (s.extract k n) = if resv (s.extract k n) then 3 else 1) := rfl
                  rw [hR] at hW
                  have HRv := hide hR
                  clear hR
                  go_wp2_with (first | (go_at_call 77; refine (within_any _ _).mono ?_; rintro e w' ⟨rfl, rfl⟩; rw [Hp.out]) | (go_at_call 78; refine (reserved_any _ _).mono ?_; rintro e w' ⟨rfl, rfl⟩; rw [HRv.out]))
                  refine bodyPost_ret (v := .tuple #[Tok.val ⟨wordKind (s.extract k n), s.extract k n, k⟩, .int .i64 n, .int .i64 0]) (by rw [hW.out]; simp [results, Tryz.results52, go_sem, Tok.val]) rfl ⟨by rw [hT.out], ?_⟩
                  repeat (first | exact Below.refl _ _ | refine Below.alloc ?_ (by simp) _ | refine Below.setCell ?_ (by simp) _)
            · have Hp := hide hp
              clear hp
              go_wp2_with (go_at_call 77; refine (within_any _ _).mono ?_; rintro e w' ⟨rfl, rfl⟩; rw [Hp.out])
              go_round
              case rel => exact ⟨j + 1, by omega, by omega, by go_num, by rw [HN.out, HJ.out, skip_go hjs (hbj.out ▸ Hp.out)]⟩
              case measure => simp [intOf]; omega
          · obtain rfl : n = j := by rw [HJ.out, skip_end (by omega)]
            by_cases h7 : 32 < n - k
            · have hT : Hid (tokR s k = (zeroTok, k, 2)) := tokR_long (hb.out ▸ HL.out) HN.out h7
              go_wp2_with fail
              refine bodyPost_ret (v := .tuple #[Tok.val zeroTok, .int .i64 k, .int .i64 2]) (by simp [results, Tryz.results52, go_sem, Tok.val, zeroTok]) rfl ⟨by rw [hT.out], ?_⟩
              repeat (first | exact Below.refl _ _ | refine Below.alloc ?_ (by simp) _ | refine Below.setCell ?_ (by simp) _)
            · have hT : Hid (tokR s k = (⟨wordKind (s.extract k n), s.extract k n, k⟩, n, 0)) := tokR_word (hb.out ▸ HL.out) HN.out h7
              cases hR : resv (s.extract k n)
              all_goals
                have hW : Hid (wordKind (s.extract k n) = if resv (s.extract k n) then 3 else 1) := rfl
                rw [hR] at hW
                have HRv := hide hR
                clear hR
                go_wp2_with (first | (go_at_call 78; refine (reserved_any _ _).mono ?_; rintro e w' ⟨rfl, rfl⟩; rw [HRv.out]))
                refine bodyPost_ret (v := .tuple #[Tok.val ⟨wordKind (s.extract k n), s.extract k n, k⟩, .int .i64 n, .int .i64 0]) (by rw [hW.out]; simp [results, Tryz.results52, go_sem, Tok.val]) rfl ⟨by rw [hT.out], ?_⟩
                repeat (first | exact Below.refl _ _ | refine Below.alloc ?_ (by simp) _ | refine Below.setCell ?_ (by simp) _)
    · have HD := hide hD
      clear hD
      have hle : skip isDigit s k ≤ s.size := skip_le hk
      obtain ⟨n0, hn⟩ : ∃ n, skip isDigit s k = n := ⟨_, rfl⟩
      have hge : k + 1 ≤ n0 := by rw [← hn, skip_go hlt (hb.out ▸ HD.out)]; exact skip_ge
      rw [hn] at hle
      have HN := hide hn
      clear hn
      have hnle : number s k ≤ s.size := number_le hk
      have hnge : skip isDigit s k ≤ number s k := number_ge
      rw [HN.out] at hnge
      obtain ⟨n, hn⟩ : ∃ n, number s k = n := ⟨_, rfl⟩
      rw [hn] at hnge hnle
      have HM := hide hn
      clear hn
      go_enter Tryz.func52, Tryz.ntmps52
      go_upto_region 6 with ((first | (go_at_call 74; refine (digit_any _ _).mono ?_; rintro e w' ⟨rfl, rfl⟩; rw [HD.out]) | (go_at_call 75; refine (digits_any _ _ _ (by unfold maxLen; omega) (by omega)).mono ?_; rintro e w' ⟨rfl, rfl⟩; rw [HN.out])))
      go_cut [63] (fun b wx => b = .bool (moreB s n0) ∧ w.alloc (.cells #[.int .i64 0, .string ⟨#[]⟩, .int .i64 0] 66) = wx)
      case first =>
        by_cases h4 : n0 + 1 < s.size
        · have hb0 := hide (bt_at s n0 (by omega))
          have hb1 := hide (bt_at s (n0 + 1) h4)
          cases h5 : ((s[n0].toNat : Int) == 46) <;> cases h6 : ((s[n0].toNat : Int) == 47) <;> cases h7 : isDigit (s[n0 + 1].toNat : Int)
          all_goals
            have H7 := hide h7
            clear h7
            go_wp2_with (go_at_call 74; refine (digit_any _ _).mono ?_; rintro e w' ⟨rfl, rfl⟩; rw [H7.out])
            go_meet
            case rel => exact ⟨congrArg Value.bool (by unfold moreB; rw [← hb0.out, ← hb1.out, H7.out, h5, h6]; simp [h4]), rfl⟩
        · go_wp2_with fail
          go_meet
          case rel => exact ⟨congrArg Value.bool (by unfold moreB; simp [h4]), rfl⟩
      case rest =>
        obtain ⟨rfl, rfl⟩ := hcut
        cases hm : moreB s n0
        case' true =>
          have hlt1 := more_lt hm
          have hn1 : skip isDigit s (n0 + 1) = n := (number_more hk HN.out hm).symm.trans HM.out
          have HN1 := hide hn1
          clear hn1
        case' false =>
          obtain rfl : n = n0 := HM.out.symm.trans (number_less hk HN.out hm)
        all_goals
          go_upto_region 8 with ((go_at_call 75; refine (digits_any _ (n0 + 1) _ (by unfold maxLen; omega) (by omega)).mono ?_; rintro e w' ⟨rfl, rfl⟩; rw [HN1.out]))
          go_cut [89] (fun b wx => b = .bool (stops s n) ∧ w.alloc (.cells #[.int .i64 0, .string ⟨#[]⟩, .int .i64 0] 66) = wx)
          case first =>
            by_cases h3 : n < s.size
            · have hbn := hide (bt_at s n h3)
              cases h4 : isLetter (s[n].toNat : Int) <;> cases h5 : ((s[n].toNat : Int) == 46) <;> cases h6 : ((s[n].toNat : Int) == 47)
              all_goals
                have H4 := hide h4
                clear h4
                go_wp2_with (go_at_call 76; refine (letter_any _ _).mono ?_; rintro e w' ⟨rfl, rfl⟩; rw [H4.out])
                go_meet
                case rel => exact ⟨congrArg Value.bool (by unfold stops; rw [← hbn.out, H4.out, h5, h6]; simp [h3]), rfl⟩
            · go_wp2_with fail
              go_meet
              case rel => exact ⟨congrArg Value.bool (by unfold stops; simp [h3]), rfl⟩
          case rest =>
            obtain ⟨rfl, rfl⟩ := hcut
            cases h9 : stops s n
            · have hT : Hid (tokR s k = (⟨2, s.extract k n, k⟩, n, 0)) := tokR_num (hb.out ▸ HD.out) HM.out h9
              go_wp2_with fail
              refine bodyPost_ret (v := .tuple #[Tok.val ⟨2, s.extract k n, k⟩, .int .i64 n, .int .i64 0]) (by simp [results, Tryz.results52, go_sem, Tok.val]) rfl ⟨by rw [hT.out], ?_⟩
              exact (Below.refl _ _).alloc (Nat.le_refl _) _
            · have hT : Hid (tokR s k = (zeroTok, n, 10)) := tokR_stop (hb.out ▸ HD.out) HM.out h9
              go_wp2_with fail
              refine bodyPost_ret (v := .tuple #[Tok.val zeroTok, .int .i64 n, .int .i64 10]) (by simp [results, Tryz.results52, go_sem, Tok.val, zeroTok]) rfl ⟨by rw [hT.out], ?_⟩
              exact (Below.refl _ _).alloc (Nat.le_refl _) _
  all_goals
    have hS : Hid (isSign (bt s k) = true) := by rw [← hb.out]; simp [Hid, isSign, h1, h2, h3]
    have hT : Hid (tokR s k = (⟨4, s.extract k (k + 1), k⟩, k + 1, 0)) := tokR_sign hS.out
    go_enter Tryz.func52, Tryz.ntmps52
    go_wp2_with fail
    refine bodyPost_ret (v := .tuple #[Tok.val ⟨4, s.extract k (k + 1), k⟩, .int .i64 (k + 1 : Nat), .int .i64 0]) (by simp [results, Tryz.results52, go_sem, Tok.val]) rfl ⟨by rw [hT.out], ?_⟩
    exact (Below.refl _ _).alloc (Nat.le_refl _) _
end Go.Proofs.YtnbdckfnohagbaaGreatDoor.LxE
