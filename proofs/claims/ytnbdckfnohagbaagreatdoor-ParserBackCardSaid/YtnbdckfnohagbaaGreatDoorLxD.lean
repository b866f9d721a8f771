/- The walk of lexer.Split: it returns what lex says. -/
import Derived.Test.YtnbdckfnohagbaaGreatDoorLxC
import Derived.Deep.DeepCutAuto
import Derived.Deep.CutBlock
namespace Go.Proofs.YtnbdckfnohagbaaGreatDoor.LxD
theorem here : True := trivial
open Go.RowKit Lx LxW LxB LxC
/-- what is returned: the tokens in a row of the call's own -/
def SplitPost (r : Res) (w : World) (e : Ending) (w' : World) : Prop :=
  ∃ v, e = .returned (.tuple #[v, .int .i64 r.2.1, .int .i64 r.2.2]) ∧ w'.ownsRow w.heap.size 66 3 v r.1.length (vals r.1) ∧ Below w.heap.size w w'
theorem info : (Tryz.prog.info? 66).map (fun i => (i.zero, i.size, i.bytes)) = some (some (.agg #[.int .i64 0, .string ByteArray.empty, .int .i64 0]), 3, 32) := by kernel_rfl
theorem below_drewN {B : Nat} {a w : World} (h : Below B a w) (n : Nat) : Below B a (w.drewN n) := ⟨h.os, h.tape, h.output, h.size, h.block⟩
theorem post_err {r : Res} {p : Nat} {er : Int} {w w' : World} (h : r = ([], p, er)) (hb : Below w.heap.size w w') : SplitPost r w (.returned (.tuple #[.slice none 0 0, .int .i64 p, .int .i64 er])) w' := by
  subst h; exact ⟨_, rfl, World.ownsRow_nil _ _ _ _, hb⟩
theorem own_below {w w' : World} {B e size n : Nat} {v : Value} {xs : List Value} (h : w.ownsRow B e size v n xs) (hb : Below w.heap.size w w') : w'.ownsRow B e size v n xs := by
  obtain ⟨h1, h2⟩ := h
  refine ⟨h1, ?_⟩
  rcases h2 with h2 | ⟨g, cap, cur, hv, hg, hh, r⟩
  · exact .inl h2
  · refine .inr ⟨g, cap, cur, hv, hg, ?_, r⟩
    rw [hb.block g (by
      rcases Nat.lt_or_ge g w.heap.size with hlt | hge
      · exact hlt
      · rw [Array.getElem?_eq_none hge] at hh; cases hh)]
    exact hh
theorem cells_new (w : World) (l : List Value) (t : TypeId) : ∀ j u, l[j]? = some u → (w.alloc (.cells l.toArray t)).cell? ((⟨w.heap.size, 0, none⟩ : Addr).add j) = some u := by
  intro j u h
  have e : (⟨w.heap.size, 0, none⟩ : Addr).add j = ⟨w.heap.size, j, none⟩ := by
    unfold Addr.add
    by_cases hj : j = 0 <;> simp [hj]
  rw [e]
  simpa [World.cell?_alloc_new] using h
theorem cells_new2 (w : World) (o : Obj) (l : List Value) (t : TypeId) : ∀ j u, l[j]? = some u → ((w.alloc o).alloc (.cells l.toArray t)).cell? ((⟨w.heap.size + 1, 0, none⟩ : Addr).add j) = some u := by
  have h := cells_new (w.alloc o) l t
  simpa using h
theorem own_slice {w : World} {base e size n : Nat} {v : Value} {xs : List Value} (h : w.ownsRow base e size v n xs) : ∃ A c, v = .slice A n c := by
  rcases h.2 with ⟨rfl, rfl⟩ | ⟨g, cap, cur, rfl, _⟩
  · exact ⟨_, _, rfl⟩
  · exact ⟨_, _, rfl⟩
set_option maxHeartbeats 4000000 in
set_option maxRecDepth 100000 in
theorem split_any (s : ByteArray) (w : World) (hs : s.size ≤ 8192) :
    Calls Tryz.prog 20 #[.string s] w (SplitPost (lexF s (s.size + 1) (blanks s 0) []) w) := by
  have hb0 : blanks s 0 ≤ s.size := blank_le (by omega)
  obtain ⟨i0, hi, hz0, hz1, hz2⟩ := info_parts info
  go_enter Tryz.func20, Tryz.ntmps20
  go_wp2_with (go_at_call 39; refine (blank_any _ 0 _ (by unfold maxLen; omega) (by omega)).mono ?_; rintro e w' ⟨rfl, rfl⟩)
  go_loopw [5, 6] (fun v i wr => ∃ (k : Nat) (out : List Tok) (f : Nat), k ≤ s.size ∧ s.size < k + f ∧ out.length ≤ 2048 ∧ i = .int .i64 k ∧ lexF s (s.size + 1) (blanks s 0) [] = lexF s f k out ∧ wr.ownsRow w.heap.size 66 3 v out.length (vals out) ∧ Below w.heap.size w wr) (fun _ i _ => s.size - (intOf i).toNat)
  case atStart => exact ⟨blanks s 0, [], s.size + 1, hb0, by omega, by simp, rfl, rfl, World.ownsRow_nil _ _ _ _, Below.refl _ _⟩
  case round =>
    obtain ⟨k, out, f, hk, hf, hol, rfl, hres, hown, hbel⟩ := hrel
    have HR := hide hres
    clear hres
    obtain ⟨A, cp, rfl⟩ := own_slice hown
    by_cases hlt : k < s.size
    · have hb := hide (bt_at s k hlt)
      go_upto_block 2 with fail
      go_cut [8, 9] (fun e t wx => ∃ (n : Nat) (kd : Int), next s k = (n, kd) ∧ kd ≠ 0 ∧ k + 1 ≤ n ∧ n ≤ s.size ∧ e = .int .i64 n ∧ t = .pointer (some ⟨wr.heap.size, 0, none⟩) ∧ wr.heap.size < wx.heap.size ∧ Below wr.heap.size wr wx ∧
        wx.cell? ⟨wr.heap.size, 0, none⟩ = some (.int .i64 kd) ∧ wx.cell? ⟨wr.heap.size, 1, none⟩ = some (.string (s.extract k n)) ∧ wx.cell? ⟨wr.heap.size, 2, none⟩ = some (.int .i64 k))
      case first =>
        have hge : k + 1 ≤ (if isLetter (bt s k) then skip inName s k else if isDigit (bt s k) then number s k else k + 1) := by
          split
          · rename_i h; rw [skip_go hlt (by simp [inName, h])]; exact skip_ge
          · split
            · rename_i h; refine Nat.le_trans ?_ number_ge; rw [skip_go hlt h]; exact skip_ge
            · omega
        have hle : (if isLetter (bt s k) then skip inName s k else if isDigit (bt s k) then number s k else k + 1) ≤ s.size := by
          split
          · exact skip_le hk
          · split
            · exact number_le hk
            · omega
        obtain ⟨n, hn⟩ : ∃ n, (if isLetter (bt s k) then skip inName s k else if isDigit (bt s k) then number s k else k + 1) = n := ⟨_, rfl⟩
        rw [hn] at hge hle
        have hbd : (s[k].toNat : Int) < 256 := by have := s[k].toNat_lt; omega
        cases hL : isLetter (s[k].toNat : Int)
        · have HL := hide hL
          clear hL
          cases hD : isDigit (s[k].toNat : Int)
          · have HD := hide hD
            clear hD
            rw [← hb.out, HL.out, HD.out] at hn
            simp only [Bool.false_eq_true, if_false] at hn
            subst hn
            cases hS : isSign (s[k].toNat : Int)
            all_goals
              have HS := hide hS
              clear hS
              have hlo := hide (bt_lo s k)
              have hhi := hide (bt_hi s k)
              go_wp2_with (first | (go_at_call 40; refine (isLetter_any _ _).mono ?_; rintro e w' ⟨rfl, rfl⟩; rw [HL.out]) | (go_at_call 44; refine (isDigit_any _ _).mono ?_; rintro e w' ⟨rfl, rfl⟩; rw [HD.out]) | (go_at_call 46; refine (contains_any _ _ (by omega) (by rw [hb.out]; have := hhi.out; omega)).mono ?_; rintro e w' ⟨rfl, n, rfl⟩; rw [HS.out]))
            · go_ret3
              refine post_err (HR.out.trans (lex_bad hlt hf (by simp [next, ← hb.out, HL.out, HD.out, HS.out]))) (hbel.trans (Below.mono (B := wr.heap.size) ?_ hbel.size))
              repeat (first | exact Below.refl _ _ | refine below_drewN ?_ _ | refine Below.drew ?_ | refine Below.alloc ?_ (by simp) _ | refine Below.setCell ?_ (by simp) _)
            · go_meet
              case rel =>
                refine ⟨k + 1, 4, by simp [next, ← hb.out, HL.out, HD.out, HS.out], by omega, by omega, by omega, rfl, rfl, ?_, ?_, ?_, ?_, ?_⟩
                all_goals first | (simp; done) | (simp; omega) | (repeat (first | exact Below.refl _ _ | refine below_drewN ?_ _ | refine Below.drew ?_ | refine Below.alloc ?_ (by simp) _ | refine Below.setCell ?_ (by simp) _)) | skip
          · have HD := hide hD
            clear hD
            rw [← hb.out, HL.out, HD.out] at hn
            simp only [Bool.false_eq_true, if_false, if_true] at hn
            have HN := hide hn
            clear hn
            go_wp2_with (first | (go_at_call 40; refine (isLetter_any _ _).mono ?_; rintro e w' ⟨rfl, rfl⟩; rw [HL.out]) | (go_at_call 44; refine (isDigit_any _ _).mono ?_; rintro e w' ⟨rfl, rfl⟩; rw [HD.out]) | (go_at_call 45; refine (number_any _ _ _ (by unfold maxLen; omega) (by omega)).mono ?_; rintro e w' ⟨rfl, rfl⟩; rw [HN.out]))
            go_meet
            case rel =>
              refine ⟨n, 2, by simp [next, ← hb.out, HL.out, HD.out, HN.out], by omega, hge, hle, rfl, rfl, ?_, ?_, ?_, ?_, ?_⟩
              all_goals first | (simp; done) | (simp; omega) | (repeat (first | exact Below.refl _ _ | refine below_drewN ?_ _ | refine Below.drew ?_ | refine Below.alloc ?_ (by simp) _ | refine Below.setCell ?_ (by simp) _)) | skip
        · have HL := hide hL
          clear hL
          rw [← hb.out, HL.out] at hn
          simp only [if_true] at hn
          have HN := hide hn
          clear hn
          go_wp2_with (first | (go_at_call 40; refine (isLetter_any _ _).mono ?_; rintro e w' ⟨rfl, rfl⟩; rw [HL.out]) | (go_at_call 41; refine (skip_inName _ _ _ (by unfold maxLen; omega) (by omega)).mono ?_; rintro e w' ⟨rfl, rfl⟩; rw [HN.out]) | (go_at_call 43; refine (word_any _ _ _).mono ?_; rintro e w' ⟨rfl, rfl⟩))
          go_meet
          case rel =>
            refine ⟨n, wordKind (s.extract k n), by simp [next, ← hb.out, HL.out, HN.out], by unfold wordKind; split <;> omega, hge, hle, rfl, rfl, ?_, ?_, ?_, ?_, ?_⟩
            all_goals first | (simp; done) | (simp; omega) | (repeat (first | exact Below.refl _ _ | refine below_drewN ?_ _ | refine Below.drew ?_ | refine Below.alloc ?_ (by simp) _ | refine Below.setCell ?_ (by simp) _)) | skip
      case rest =>
        obtain ⟨n, kd, hnx, hkd, hge, hle, rfl, rfl, hsz, hbx, c0, c1, c2⟩ := hcut
        have hown2 := own_below hown hbx
        have hbel2 : Below w.heap.size w wc := hbel.trans (hbx.mono hbel.size)
        have HX := hide hnx
        clear hnx
        have hext : (s.extract k n).size = n - k := by simp; omega
        obtain ⟨wo, rfl⟩ : ∃ wo, wo = wc := ⟨_, rfl⟩
        go_upto_region 17 with fail
        go_cut [73] (fun b wx => b = .bool (longB out.length kd (n - k)) ∧ wo = wx)
        case first =>
          by_cases h1 : out.length < 2048
          · cases h2 : (kd == 1)
            · have h2' : ¬ kd = 1 := by simpa using h2
              go_wp2_with fail
              go_meet
              case rel => exact ⟨congrArg Value.bool (by unfold longB; rw [Bool.eq_iff_iff]; first | (simp; done) | (simp; omega)), rfl⟩
            · have h2' : kd = 1 := by simpa using h2
              have H2 := hide h2'
              clear h2'
              by_cases h3 : 32 < n - k
              all_goals
                go_wp2_with fail
                go_meet
                case rel => exact ⟨congrArg Value.bool (by have e2 := H2.out; unfold longB; rw [Bool.eq_iff_iff]; first | (simp; done) | (simp; omega)), rfl⟩
          · go_wp2_with fail
            go_meet
            case rel => exact ⟨congrArg Value.bool (by unfold longB; rw [Bool.eq_iff_iff]; first | (simp; done) | (simp; omega)), rfl⟩
        case rest =>
          obtain ⟨rfl, rfl⟩ := hcut
          cases hd : longB out.length kd (n - k)
          case true =>
            have h1 := of_decide_eq_true hd
            have hlong : Hid (lexF s f k out = ([], k, 2)) := lex_long hlt hf HX.out hkd h1
            clear h1
            go_wp2_with fail
            go_ret3
            exact post_err (HR.out.trans hlong.out) hbel2
          case false =>
            have H1 := hide (of_decide_eq_false hd)
            go_upto_region 19 with fail
            go_cut [101] (fun b wx => b = .bool (numB kd s n) ∧ wo = wx)
            case first =>
              cases h2 : (kd == 2)
              · have h2' : ¬ kd = 2 := by simpa using h2
                go_wp2_with fail
                go_meet
                case rel => exact ⟨congrArg Value.bool (decide_eq_false (p := kd = 2 ∧ stops s n = true) (fun h => h2' h.1)).symm, rfl⟩
              · have H2 := hide (show kd = 2 by simpa using h2)
                by_cases h3 : n < s.size
                · have hbn := hide (bt_at s n h3)
                  cases h4 : isLetter (s[n].toNat : Int) <;> cases h5 : ((s[n].toNat : Int) == 46) <;> cases h6 : ((s[n].toNat : Int) == 47)
                  all_goals
                    have HS : Hid (stops s n = (isLetter (s[n].toNat : Int) || (s[n].toNat : Int) == 46 || (s[n].toNat : Int) == 47)) := by
                      rw [hbn.out]; simp [Hid, stops, h3]
                    have H4 := hide h4
                    clear h4
                    go_wp2_with (go_at_call 40; refine (isLetter_any _ _).mono ?_; rintro e w' ⟨rfl, rfl⟩; rw [H4.out])
                    go_meet
                    case rel => exact ⟨congrArg Value.bool (by unfold numB; rw [HS.out, H4.out, h5, h6, H2.out]; rfl), rfl⟩
                · have HS : Hid (stops s n = false) := by simp [Hid, stops, h3]
                  go_wp2_with fail
                  go_meet
                  case rel => exact ⟨congrArg Value.bool (by unfold numB; rw [HS.out]; simp), rfl⟩
            case rest =>
              obtain ⟨rfl, rfl⟩ := hcut
              cases hd2 : numB kd s n
              case true =>
                have h2 := of_decide_eq_true hd2
                have hnum : Hid (lexF s f k out = ([], n, 10)) := lex_num hlt hf HX.out hkd H1.out h2
                clear h2
                go_wp2_with fail
                go_ret3
                exact post_err (HR.out.trans hnum.out) hbel2
              case false =>
                have h2 := of_decide_eq_false hd2
                have hstep : Hid (lexF s f k out = lexF s (f - 1) (blanks s n) (out ++ [⟨kd, s.extract k n, k⟩])) := lex_step hlt hf HX.out hkd H1.out h2
                clear h2
                have hol : out.length < 2048 := by have := H1.out; omega
                have hbn : blanks s n ≤ s.size := blank_le hle
                have hbn2 : n ≤ blanks s n := blank_ge hle
                go_wp2_with (first
                  | (at_builtin
                     refine wpList_append_own _ rfl (.tmp 103) (.tmp 105) 52 rfl w.heap.size 66 i0 _ 3 32 Tryz.underlying52 hi hz0 hz1 hz2 rfl (by decide) _ _ _ rfl (hown2.alloc _) ⟨wo.heap.size, 0, none⟩ 1 1 [.int .i64 kd, .string (s.extract k n), .int .i64 k] rfl rfl ?c1 ?c2 ?c3 ?c4 ?c5 ?_
                     case c1 => exact cells_new wo [.int .i64 kd, .string (s.extract k n), .int .i64 k] _
                     case c2 => simp [Value.oneCell']
                     case c3 => unfold maxLen; omega
                     case c4 => omega
                     case c5 => have := hbel2.size; simp; omega
                     intro v1 w1 hown1 hg1 _)
                  | (go_at_call 39; refine (blank_any _ _ _ (by unfold maxLen; omega) hle).mono ?_; rintro e w' ⟨rfl, rfl⟩))
                go_roundw
                case rel =>
                  refine ⟨blanks s n, out ++ [⟨kd, s.extract k n, k⟩], f - 1, hbn, by omega, by simp; omega, rfl, HR.out.trans hstep.out, ?_, ?_⟩
                  · rw [vals_snoc, List.length_append]; exact hown1
                  · refine (hbel2.alloc hbel2.size _).grown hg1 (by have := hbel2.size; simp; omega) ?_
                    intro g hg
                    exact (hown2.lt g hg).1
                case measure => simp [intOf]; omega
    · obtain rfl : k = s.size := by omega
      have hend : Hid (lexF s f s.size out = (out ++ [⟨5, ByteArray.empty, s.size⟩], 0, 0)) := lex_end (Nat.le_refl _) hf (Nat.le_refl _)
      go_wp2_with (first
                  | (at_builtin
                     refine wpList_append_own _ rfl (.tmp 110) (.tmp 114) 52 rfl w.heap.size 66 i0 _ 3 32 Tryz.underlying52 hi hz0 hz1 hz2 rfl (by decide) _ _ _ rfl (hown.alloc _) ⟨wr.heap.size, 0, none⟩ 1 1 [.int .i64 5, .string ByteArray.empty, .int .i64 s.size] rfl rfl ?c1 ?c2 ?c3 ?c4 ?c5 ?_
                     case c1 => exact cells_new wr [.int .i64 5, .string ByteArray.empty, .int .i64 s.size] _
                     case c2 => simp [Value.oneCell']
                     case c3 => unfold maxLen; omega
                     case c4 => omega
                     case c5 => have := hbel.size; simp; omega
                     intro v1 w1 hown1 hg1 _))
      go_ret3
      refine ⟨v1, ?_, ?_, ?_⟩
      · rw [HR.out, hend.out]; rfl
      · rw [HR.out, hend.out]
        show w1.ownsRow _ _ _ _ (out ++ [_]).length (vals (out ++ [_]))
        rw [vals_snoc, List.length_append]; exact hown1
      · refine (hbel.alloc hbel.size _).grown hg1 (by have := hbel.size; simp; omega) ?_
        intro g hg
        exact (hown.lt g hg).1
end Go.Proofs.YtnbdckfnohagbaaGreatDoor.LxD
