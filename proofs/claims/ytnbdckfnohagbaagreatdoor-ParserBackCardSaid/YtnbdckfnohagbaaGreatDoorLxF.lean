/- The walk of the reference's Split: it returns what lex says. -/
import Derived.Test.YtnbdckfnohagbaaGreatDoorLxD
import Derived.Test.YtnbdckfnohagbaaGreatDoorLxE
namespace Go.Proofs.YtnbdckfnohagbaaGreatDoor.LxF
theorem here : True := trivial
open Go.RowKit Lx LxW LxR LxD LxE
theorem token_at {s : ByteArray} {k n : Nat} {kd er : Int} {tx : ByteArray} {off : Nat} (h : tokR s k = (⟨kd, tx, off⟩, n, er)) (w : World) (hs : s.size ≤ 8192) (hlt : k < s.size) :
    Calls Tryz.prog 52 #[.string s, .int .i64 k] w fun e w' => e = .returned (.tuple #[.agg #[.int .i64 kd, .string tx, .int .i64 off], .int .i64 n, .int .i64 er]) ∧ Below w.heap.size w w' := by
  refine (token_any s k w hs hlt).mono ?_
  rintro e w' ⟨rfl, hb⟩
  rw [h]
  exact ⟨rfl, hb⟩
set_option maxHeartbeats 4000000 in
set_option maxRecDepth 100000 in
theorem rsplit_any (s : ByteArray) (w : World) (hs : s.size ≤ 8192) :
    Calls Tryz.prog 23 #[.string s] w (SplitPost (lexF s (s.size + 1) (blanks s 0) []) w) := by
  obtain ⟨i0, hi, hz0, hz1, hz2⟩ := info_parts info
  go_enter Tryz.func23, Tryz.ntmps23
  go_wp2_with fail
  go_loopw [5, 6] (fun v i wr => ∃ (k : Nat) (out : List Tok) (f : Nat), k ≤ s.size ∧ s.size < blanks s k + f ∧ out.length ≤ 2048 ∧ i = .int .i64 k ∧ lexF s (s.size + 1) (blanks s 0) [] = lexF s f (blanks s k) out ∧ wr.ownsRow w.heap.size 66 3 v out.length (vals out) ∧ Below w.heap.size w wr) (fun _ i _ => s.size - (intOf i).toNat)
  case atStart => exact ⟨0, [], s.size + 1, by omega, by omega, by simp, rfl, rfl, World.ownsRow_nil _ _ _ _, Below.refl _ _⟩
  case round =>
    obtain ⟨k, out, f, hk, hf, hol, rfl, hres, hown, hbel⟩ := hrel
    have HR := hide hres
    clear hres
    obtain ⟨A, cp, rfl⟩ := own_slice hown
    by_cases hlt : k < s.size
    · have hb := hide (bt_at s k hlt)
      cases hB : isBlank (s[k].toNat : Int)
      · have HB := hide hB
        clear hB
        cases hH : ((s[k].toNat : Int) == 35)
        · have hk0 : blanks s k = k := blank_stop (hb.out ▸ HB.out) (hb.out ▸ hH)
          rw [hk0] at hf
          have HK := hide hk0
          clear hk0
          obtain ⟨t, n, er, hT⟩ : ∃ t n er, tokR s k = (t, n, er) := ⟨_, _, _, rfl⟩
          obtain ⟨kd, tx, off⟩ := t
          have HT := hide hT
          clear hT
          go_upto_region 12 with ((first | (go_at_call 51; refine (blank1_any _ _).mono ?_; rintro e w' ⟨rfl, rfl⟩; rw [HB.out]) | (go_at_call 52; refine (token_at HT.out _ hs hlt).mono ?_; rintro e w1 ⟨rfl, hb1⟩)))
          have hown1 := own_below hown hb1
          have hbel1 : Below w.heap.size w w1 := hbel.trans (hb1.mono hbel.size)
          cases hE : (er == 0)
          · have hE' : er ≠ 0 := by simpa using hE
            have HE := hide hE'
            clear hE'
            have hE2 : (er != 0) = true := by simp [bne, hE]
            by_cases hc : 2048 ≤ out.length
            · by_cases hd : k < n
              · have hl : Hid (lexF s f k out = ([], k, 2)) := lexR_err1 hlt hf HT.out HE.out hc hd
                go_wp2_with fail
                go_ret3
                refine post_err (HR.out.trans (by rw [HK.out]; exact hl.out)) ?_
                repeat (first | exact hbel1 | refine Below.alloc ?_ (by have := hbel1.size; simp; omega) _ | refine Below.setCell ?_ (by simp) _)
              · have hl : Hid (lexF s f k out = ([], n, er)) := lexR_err2 hlt hf HT.out HE.out (by omega)
                go_wp2_with fail
                go_ret3
                refine post_err (HR.out.trans (by rw [HK.out]; exact hl.out)) ?_
                repeat (first | exact hbel1 | refine Below.alloc ?_ (by have := hbel1.size; simp; omega) _ | refine Below.setCell ?_ (by simp) _)
            · have hl : Hid (lexF s f k out = ([], n, er)) := lexR_err2 hlt hf HT.out HE.out (by omega)
              go_wp2_with fail
              go_ret3
              refine post_err (HR.out.trans (by rw [HK.out]; exact hl.out)) ?_
              repeat (first | exact hbel1 | refine Below.alloc ?_ (by have := hbel1.size; simp; omega) _ | refine Below.setCell ?_ (by simp) _)
          · have hE' : er = 0 := by simpa using hE
            have HE := hide hE'
            clear hE'
            have hE2 : (er != 0) = false := by simp [bne, hE]
            by_cases hc : 2048 ≤ out.length
            · have hl : Hid (lexF s f k out = ([], k, 2)) := lexR_ok1 hlt hf HT.out HE.out hc
              go_wp2_with fail
              go_ret3
              refine post_err (HR.out.trans (by rw [HK.out]; exact hl.out)) ?_
              repeat (first | exact hbel1 | refine Below.alloc ?_ (by have := hbel1.size; simp; omega) _ | refine Below.setCell ?_ (by simp) _)
            · obtain ⟨hl, hn1, hn2⟩ := lexR_ok2 hlt hf HT.out HE.out hc
              have HL := hide hl
              clear hl
              have hbn : n ≤ blanks s n := blank_ge hn2
              go_wp2_with (first
                | (at_builtin
                   refine wpList_append_own _ rfl (.tmp 63) (.tmp 65) 52 rfl w.heap.size 66 i0 _ 3 32 Tryz.underlying52 hi hz0 hz1 hz2 rfl (by decide) _ _ _ rfl ((hown1.alloc _).alloc _) ⟨w1.heap.size + 1, 0, none⟩ 1 1 [.int .i64 kd, .string tx, .int .i64 off] rfl rfl ?c1 ?c2 ?c3 ?c4 ?c5 ?_
                   case c1 => exact cells_new2 _ _ [.int .i64 kd, .string tx, .int .i64 off] _
                   case c2 => simp [Value.oneCell']
                   case c3 => unfold maxLen; omega
                   case c4 => omega
                   case c5 => have := hbel1.size; simp; omega
                   intro v1 w2 hown2 hg2 _))
              go_roundw
              case rel =>
                refine ⟨n, out ++ [⟨kd, tx, off⟩], f - 1, hn2, by omega, by simp; omega, rfl, HR.out.trans (by rw [HK.out]; exact HL.out), ?_, ?_⟩
                · rw [vals_snoc, List.length_append]; exact hown2
                · refine ((hbel1.alloc hbel1.size _).alloc (by have := hbel1.size; simp; omega) _).grown hg2 (by have := hbel1.size; simp; omega) ?_
                  intro g hg
                  exact (hown1.lt g hg).1
              case measure => simp [intOf]; omega
        · have hH' : (bt s k == 35) = true := hb.out ▸ hH
          have HH := hide hH'
          clear hH'
          have hne : skip notLf s k ≤ s.size := skip_le hk
          have hng : k + 1 ≤ skip notLf s k := skip_hash hlt HH.out
          go_wp2_with (first | (go_at_call 51; refine (blank1_any _ _).mono ?_; rintro e w' ⟨rfl, rfl⟩; rw [HB.out]))
          obtain ⟨wo, rfl⟩ : ∃ wo, wo = wr := ⟨_, rfl⟩
          go_loop [6] (fun v => ∃ j : Nat, k ≤ j ∧ j ≤ s.size ∧ v = .int .i64 j ∧ skip notLf s k = skip notLf s j) (fun v => s.size - (intOf v).toNat)
          case atStart => exact ⟨k, Nat.le_refl _, hk, rfl, rfl⟩
          case round =>
            obtain ⟨j, hkj, hj, rfl, hsj⟩ := hrel
            have HJ := hide hsj
            clear hsj
            by_cases hjs : j < s.size
            · have hbj := hide (bt_at s j hjs)
              cases hp : ((s[j].toNat : Int) == 10)
              · have hp2 : ((s[j].toNat : Int) != 10) = true := by simp [bne, hp]
                go_wp2_with fail
                go_round
                case rel => exact ⟨j + 1, by omega, by omega, by go_num, by rw [HJ.out, skip_go hjs (hbj.out ▸ hp2)]⟩
                case measure => simp [intOf]; omega
              · have hp2 : ((s[j].toNat : Int) != 10) = false := by simp [bne, hp]
                have hj2 : Hid (skip notLf s k = j) := HJ.out.trans (skip_stop (hbj.out ▸ hp2))
                go_wp2_with fail
                have he : blanks s k = blanks s j := by rw [blank_hash hlt HH.out, hj2.out]
                exact ⟨⟨j, out, f, hj, by rw [← he]; exact hf, hol, rfl, by rw [← he]; exact HR.out, hown, hbel⟩, by have := hj2.out; simp [intOf]; omega⟩
            · have hj2 : Hid (skip notLf s k = j) := HJ.out.trans (skip_end (by omega))
              go_wp2_with fail
              have he : blanks s k = blanks s j := by rw [blank_hash hlt HH.out, hj2.out]
              exact ⟨⟨j, out, f, hj, by rw [← he]; exact hf, hol, rfl, by rw [← he]; exact HR.out, hown, hbel⟩, by have := hj2.out; simp [intOf]; omega⟩
      · have HB := hide hB
        clear hB
        go_wp2_with (go_at_call 51; refine (blank1_any _ _).mono ?_; rintro e w' ⟨rfl, rfl⟩; rw [HB.out])
        go_roundw
        case rel =>
          refine ⟨k + 1, out, f, by omega, ?_, hol, by go_num, ?_, hown, hbel⟩
          · rw [← blank_sp hlt (hb.out ▸ HB.out)]; exact hf
          · rw [← blank_sp hlt (hb.out ▸ HB.out)]; exact HR.out
        case measure => simp [intOf]; omega
    · obtain rfl : k = s.size := by omega
      have hend : Hid (lexF s f (blanks s s.size) out = (out ++ [⟨5, ByteArray.empty, s.size⟩], 0, 0)) := by
        rw [blank_end (Nat.le_refl _)] at hf ⊢
        exact lex_end (Nat.le_refl _) hf (Nat.le_refl _)
      go_wp2_with (first
                  | (at_builtin
                     refine wpList_append_own _ rfl (.tmp 68) (.tmp 72) 52 rfl w.heap.size 66 i0 _ 3 32 Tryz.underlying52 hi hz0 hz1 hz2 rfl (by decide) _ _ _ rfl (hown.alloc _) ⟨wr.heap.size, 0, none⟩ 1 1 [.int .i64 5, .string ByteArray.empty, .int .i64 s.size] rfl rfl ?c1 ?c2 ?c3 ?c4 ?c5 ?_
                     case c1 => exact cells_new wr [.int .i64 5, .string ByteArray.empty, .int .i64 s.size] _
                     case c2 => simp [Value.oneCell']
                     case c3 => unfold maxLen; omega
                     case c4 => omega
                     case c5 => have := hbel.size; simp; omega
                     intro v1 w1 hown1 hg1 _))
      go_ret3
      refine ⟨v1, ?_, ?_, ?_⟩
      · rw [HR.out, hend.out]; rfl
      · rw [HR.out, hend.out]
        show w1.ownsRow _ _ _ _ (out ++ [_]).length (vals (out ++ [_]))
        rw [vals_snoc, List.length_append]; exact hown1
      · refine (hbel.alloc hbel.size _).grown hg1 (by have := hbel.size; simp; omega) ?_
        intro g hg
        exact (hown.lt g hg).1
theorem size_small (s : ByteArray) (h : ¬ 8192 < s.size) : s.size ≤ 8192 := by omega
theorem split_all (s : ByteArray) (w : World) (hs : s.size ≤ maxLen) :
    Calls Tryz.prog 20 #[.string s] w (SplitPost (lex s) w) := by
  by_cases h : 8192 < s.size
  · have hl : Hid (lex s = ([], 0, 2)) := by unfold lex; exact if_pos h
    unfold maxLen at hs
    go_enter Tryz.func20, Tryz.ntmps20
    go_wp2_with fail
    go_ret3
    exact post_err hl.out (Below.refl _ _)
  · have e : lex s = lexF s (s.size + 1) (blanks s 0) [] := by unfold lex; exact if_neg h
    rw [e]
    exact split_any s w (by omega)
theorem rsplit_all (s : ByteArray) (w : World) (hs : s.size ≤ maxLen) :
    Calls Tryz.prog 23 #[.string s] w (SplitPost (lex s) w) := by
  by_cases h : 8192 < s.size
  · have hl : Hid (lex s = ([], 0, 2)) := by unfold lex; exact if_pos h
    unfold maxLen at hs
    go_enter Tryz.func23, Tryz.ntmps23
    go_wp2_with fail
    go_ret3
    exact post_err hl.out (Below.refl _ _)
  · have e : lex s = lexF s (s.size + 1) (blanks s 0) [] := by unfold lex; exact if_neg h
    rw [e]
    exact rsplit_any s w (by omega)
end Go.Proofs.YtnbdckfnohagbaaGreatDoor.LxF
