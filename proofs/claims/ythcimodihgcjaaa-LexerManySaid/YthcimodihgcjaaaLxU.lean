/- The walk of the law LexerMany. -/
import Derived.Test.YthcimodihgcjaaaLxK
import Derived.Test.YthcimodihgcjaaaLxP
import Derived.Test.YthcimodihgcjaaaLxS
import Derived.Lib.SlBytesRow
namespace Go.Proofs.Ythcimodihgcjaaa.LxU
open Go.RowKit Lx LxW LxB LxD LxF LxG LxI LxJ LxN LxM LxP LxS
def fill (c : Int) (i n : Nat) : List Value := List.replicate i (.int .u8 c) ++ List.replicate (n - i) (.int .u8 0)
theorem fill_zero (c : Int) (n : Nat) : fill c 0 n = List.replicate n (.int .u8 0) := by simp [fill]
theorem fill_set (c : Int) {i n : Nat} (h : i < n) : (fill c i n).set i (.int .u8 c) = fill c (i + 1) n := by
  unfold fill
  rw [List.set_append_right _ _ (by simp), List.length_replicate, Nat.sub_self, show n - i = (n - (i + 1)) + 1 by omega, List.replicate_succ, List.set_cons_zero, List.replicate_succ', List.append_assoc]
  rfl
theorem fill_get (c : Int) {n j : Nat} (h : j < n) : (fill c n n)[j]? = some (.int .u8 c) := by
  simp [fill, h]
theorem fill_some (c : Int) {i n j : Nat} (h : j < n) (hi : i ≤ n) : ∃ z, (fill c i n)[j]? = some (.int .u8 z) := by
  unfold fill
  rcases Nat.lt_or_ge j i with hj | hj
  · exact ⟨c, by rw [List.getElem?_append_left (by simpa using hj)]; simp [hj]⟩
  · exact ⟨0, by rw [List.getElem?_append_right (by simpa using hj), List.length_replicate, List.getElem?_replicate, if_pos (by omega)]⟩
theorem fill_bytes {w : World} {base e g n : Nat} (c : UInt8) (h : w.ownsRow base e 1 (.slice (some ⟨g, 0, none⟩) n n) n (fill (c.toNat : Int) n n)) : Lib.Bytes w g 0 (rep c n) := by
  intro i hi
  have hi' : i < n := by rw [rep_size] at hi; exact hi
  have e1 : ((rep c n)[i]'hi).toNat = c.toNat := by
    have := bt_at (rep c n) i hi
    rw [rep_bt c hi'] at this
    omega
  rw [Nat.zero_add, h.cellAt i (by omega), fill_get _ hi', e1]
theorem infoB : (Try.prog.info? 5).map (fun i => (i.zero, i.size, i.bytes)) = some (some (.int .u8 0), 1, 1) := by kernel_rfl
set_option maxHeartbeats 4000000 in
set_option maxRecDepth 100000 in
theorem many_law (a0 a1 : Int) (w : World) (w0 : (Lit.int .u16 a0).wf = true) (w1 : (Lit.int .u8 a1).wf = true) :
    Calls Try.prog 8 #[.int .u16 a0, .int .u8 a1] w fun e w' => e = .returned (.bool true) ∧ Below w.heap.size w w' := by
  obtain ⟨p0, p1⟩ := bounds_u16 w0
  obtain ⟨q0, q1⟩ := bounds_u8 w1
  obtain ⟨m, rfl⟩ := Int.eq_ofNat_of_zero_le p0
  obtain ⟨l, rfl⟩ := Int.eq_ofNat_of_zero_le q0
  clear w0 w1
  obtain ⟨i0, hi, hz0, hz1, hz2⟩ := info_parts infoB
  obtain ⟨n, hn⟩ : ∃ n, 2045 + m % 6 = n := ⟨_, rfl⟩
  have HN := hide hn
  have hn1 : 2045 ≤ n := by omega
  have hn2 : n ≤ 2050 := by omega
  clear hn
  go_enter Try.func8, Try.ntmps8
  go_wp2_with (first
    | (at_make
       refine wpList_make_full _ rfl (.tmp 23) (.tmp 23) 31 rfl w.heap.size 5 i0 _ 1 Try.underlying31 hi hz0 hz1 .i64 .i64 _ _ n rfl rfl ?c1 ?c2 ?c3 ?c4 ?c5 ?_
       case c1 => have := HN.out; omega
       case c2 => have := HN.out; omega
       case c3 => rw [hz2]; omega
       case c4 => unfold maxLen; omega
       case c5 => exact Nat.le_refl _
       intro w1 hown hg))
  have e5 : (2045 + (m : Int) % 6) = (n : Int) := by have := HN.out; omega
  rw [e5]
  have hlt1 : w.heap.size < w1.heap.size := (hown.lt w.heap.size rfl).2
  have hf1 : w1.ownsRow w.heap.size 5 1 (.slice (some ⟨w.heap.size, 0, none⟩) n n) n (fill 59 0 n) := by
    rw [fill_zero, ← toList_madeCells_one]
    have h := hown
    rw [Nat.mul_one] at h
    exact h
  have hbel1 : Below w.heap.size w w1 := (Below.refl w.heap.size w).grown hg (Below.refl w.heap.size w).size (fun _ h => by cases h)
  clear hown hg
  go_loopw [27] (fun vi wr => ∃ i : Nat, i ≤ n ∧ vi = .int .i64 i ∧ wr.ownsRow w.heap.size 5 1 (.slice (some ⟨w.heap.size, 0, none⟩) n n) n (fill 59 i n) ∧ Below w.heap.size w wr) (fun vi _ => n - (intOf vi).toNat)
  case atStart => exact ⟨0, by omega, rfl, hf1, hbel1⟩
  case round =>
    obtain ⟨i, hin, rfl, hf, hbr⟩ := hrel
    by_cases hlt : i < n
    · obtain ⟨z, hz⟩ := fill_some 59 hlt hin
      have hc : wr.cell? ⟨w.heap.size, i, none⟩ = some (.int .u8 z) := (hf.cellAt i (by omega)).trans hz
      have hfz := hf.frozenAt i
      have hst := (hf.stored i (.int .u8 59)).1
      rw [fill_set 59 hlt] at hst
      clear hz
      have hgw : w.heap.size ≤ w.heap.size := by exact Nat.le_refl _
      go_wp2_with fail
      go_roundw
      case rel => exact ⟨i + 1, by omega, by go_num, hst, hbr.setCell hgw _⟩
      case measure => simp [intOf]; omega
    · obtain rfl : i = n := by omega
      have hcv := Lib.run_convert_whole (P := Try.prog) wr 31 5 9 Try.underlying31 Try.underlying5 Try.underlying9 w.heap.size 0 (rep 59 i) (fill_bytes 59 hf) i
      rw [rep_size] at hcv
      obtain ⟨r, p, er, hr, hre⟩ : ∃ r p er, lex (rep 59 i) = (r, p, er) ∧ (2048 < i ∧ r = [] ∧ p = 2048 ∧ er = 2 ∨ i ≤ 2048 ∧ r.length = i + 1 ∧ er = 0) := by
        rcases Nat.lt_or_ge 2048 i with h | h
        · exact ⟨_, _, _, semi_many h (by omega), .inl ⟨h, rfl, rfl, rfl⟩⟩
        · obtain ⟨r, h1, h2⟩ := semi_few h
          exact ⟨_, _, _, h1, .inr ⟨h, h2, rfl⟩⟩
      have HR := hide hr
      have HRE := hide hre
      clear hr hre
      go_wp2_with fail
      refine (split_all _ _ (by rw [rep_size]; unfold maxLen; omega)).mono ?_
      rw [HR.out]
      rintro e w2 ⟨v2, rfl, hown2, hb2⟩
      have hbel2 : Below w.heap.size w w2 := hbr.trans (hb2.mono hbr.size)
      obtain ⟨A2, c2, rfl⟩ := own_slice hown2
      clear hown2 hf hcv hf1
      dsimp only
      go_upto_if 42 with fail
      go_cut [4] (fun b wx => b = .bool false ∧ w2 = wx)
      case first =>
        rcases HRE.out with ⟨h1, rfl, rfl, rfl⟩ | ⟨h1, h2, rfl⟩
        · go_wp2_with fail
          go_meet
          case rel => exact ⟨rfl, rfl⟩
        · have h3 : ((r.length : Int) != (i : Int) + 1) = false := by rw [bne_eq_false_iff_eq]; omega
          clear h2
          go_wp2_with fail
          go_meet
          case rel => exact ⟨rfl, rfl⟩
      case rest =>
        obtain ⟨rfl, rfl⟩ := hcut
        obtain ⟨n2, hn⟩ : ∃ n2, 1 + l % 64 = n2 := ⟨_, rfl⟩
        have HN2 := hide hn
        have hn3 : 1 ≤ n2 := by omega
        have hn4 : n2 ≤ 64 := by omega
        clear hn
        go_wp2_with (first
          | (at_make
             refine wpList_make_full _ rfl (.tmp 66) (.tmp 66) 31 rfl w.heap.size 5 i0 _ 1 Try.underlying31 hi hz0 hz1 .i64 .i64 _ _ n2 rfl rfl ?c1 ?c2 ?c3 ?c4 ?c5 ?_
             case c1 => have := HN2.out; omega
             case c2 => have := HN2.out; omega
             case c3 => rw [hz2]; omega
             case c4 => unfold maxLen; omega
             case c5 => exact hbel2.size
             intro w3 hown hg))
        have e6 : (1 + (l : Int) % 64) = (n2 : Int) := by have := HN2.out; omega
        rw [e6]
        have hlt3 : w2.heap.size < w3.heap.size := (hown.lt w2.heap.size rfl).2
        have hf3 : w3.ownsRow w.heap.size 5 1 (.slice (some ⟨w2.heap.size, 0, none⟩) n2 n2) n2 (fill 120 0 n2) := by
          rw [fill_zero, ← toList_madeCells_one]
          have h := hown
          rw [Nat.mul_one] at h
          exact h
        have hbel3 : Below w.heap.size w w3 := hbel2.grown hg hbel2.size (fun _ h => by cases h)
        clear hown hg
        go_loopw [70] (fun vi wr => ∃ j : Nat, j ≤ n2 ∧ vi = .int .i64 j ∧ wr.ownsRow w.heap.size 5 1 (.slice (some ⟨w2.heap.size, 0, none⟩) n2 n2) n2 (fill 120 j n2) ∧ Below w.heap.size w wr) (fun vi _ => n2 - (intOf vi).toNat)
        case atStart => exact ⟨0, by omega, rfl, hf3, hbel3⟩
        case round =>
          obtain ⟨j, hin, rfl, hf, hbr⟩ := hrel
          by_cases hlt : j < n2
          · obtain ⟨z, hz⟩ := fill_some 120 hlt hin
            have hc : wr.cell? ⟨w2.heap.size, j, none⟩ = some (.int .u8 z) := (hf.cellAt j (by omega)).trans hz
            have hfz := hf.frozenAt j
            have hst := (hf.stored j (.int .u8 120)).1
            rw [fill_set 120 hlt] at hst
            clear hz
            have hgw : w.heap.size ≤ w2.heap.size := hbel2.size
            go_wp2_with fail
            go_roundw
            case rel => exact ⟨j + 1, by omega, by go_num, hst, hbr.setCell hgw _⟩
            case measure => simp [intOf]; omega
          · obtain rfl : j = n2 := by omega
            have hcv := Lib.run_convert_whole (P := Try.prog) wr 31 5 9 Try.underlying31 Try.underlying5 Try.underlying9 w2.heap.size 0 (rep 120 j) (fill_bytes 120 hf) j
            rw [rep_size] at hcv
            have hun : (⟨#[32]⟩ ++ rep 120 j : ByteArray).data.toList = 32 :: List.replicate j 120 := by rw [data_append, rep_list]; rfl
            have husz : (⟨#[32]⟩ ++ rep 120 j : ByteArray).size ≤ 65 := by rw [name_size hun]; omega
            have hrs : (rep 120 j).size ≤ 64 := by rw [rep_size]; omega
            by_cases h32 : 32 < j
            · have HR3 := hide (name_long hun h32 hn4)
              clear hun
              go_wp2_with fail
              refine (split_all _ _ (by unfold maxLen; omega)).mono ?_
              rw [HR3.out]
              rintro e w4 ⟨v4, rfl, hown4, hb4⟩
              have hbel4 : Below w.heap.size w w4 := hbr.trans (hb4.mono hbr.size)
              clear hown4 hf hcv hf3
              dsimp only
              go_wp2_with fail
              refine (awake_any _).mono ?_
              rintro e w5 ⟨rfl, hb5⟩
              go_wp2_with fail
              go_ret
              exact ⟨rfl, hbel4.trans (hb5.mono hbel4.size)⟩
            · obtain ⟨r3, hr3⟩ := name_short hun (by omega) (by omega)
              have HR3 := hide hr3
              clear hun hr3
              obtain ⟨n5, hn⟩ : ∃ n5, 8193 - m % 2 = n5 := ⟨_, rfl⟩
              have HN5 := hide hn
              have hn6 : 8192 ≤ n5 := by omega
              have hn7 : n5 ≤ 8193 := by omega
              clear hn
              go_wp2_with fail
              refine (split_all _ _ (by unfold maxLen; omega)).mono ?_
              rw [HR3.out]
              rintro e w4 ⟨v4, rfl, hown4, hb4⟩
              have hbel4 : Below w.heap.size w w4 := hbr.trans (hb4.mono hbr.size)
              obtain ⟨A4, c4, rfl⟩ := own_slice hown4
              clear hown4 hf hcv hf3
              dsimp only
              obtain ⟨wo, rfl⟩ : ∃ wo, wo = wr := ⟨_, rfl⟩
              go_wp2_with (first
                | (at_make
                   refine wpList_make_full _ rfl (.tmp 100) (.tmp 100) 31 rfl w.heap.size 5 i0 _ 1 Try.underlying31 hi hz0 hz1 .i64 .i64 _ _ n5 rfl rfl ?c1 ?c2 ?c3 ?c4 ?c5 ?_
                   case c1 => have := HN5.out; omega
                   case c2 => have := HN5.out; omega
                   case c3 => rw [hz2]; omega
                   case c4 => unfold maxLen; omega
                   case c5 => exact hbel4.size
                   intro w5 hown hg))
              have e7 : (8193 - (m : Int) % 2) = (n5 : Int) := by have := HN5.out; omega
              rw [e7]
              have hlt5 : w4.heap.size < w5.heap.size := (hown.lt w4.heap.size rfl).2
              have hf5 : w5.ownsRow w.heap.size 5 1 (.slice (some ⟨w4.heap.size, 0, none⟩) n5 n5) n5 (fill 32 0 n5) := by
                rw [fill_zero, ← toList_madeCells_one]
                have h := hown
                rw [Nat.mul_one] at h
                exact h
              have hbel5 : Below w.heap.size w w5 := hbel4.grown hg hbel4.size (fun _ h => by cases h)
              clear hown hg
              go_loopw [104] (fun vi wr => ∃ q : Nat, q ≤ n5 ∧ vi = .int .i64 q ∧ wr.ownsRow w.heap.size 5 1 (.slice (some ⟨w4.heap.size, 0, none⟩) n5 n5) n5 (fill 32 q n5) ∧ Below w.heap.size w wr) (fun vi _ => n5 - (intOf vi).toNat)
              case atStart => exact ⟨0, by omega, rfl, hf5, hbel5⟩
              case round =>
                obtain ⟨q, hin, rfl, hf, hbr⟩ := hrel
                by_cases hlt : q < n5
                · obtain ⟨z, hz⟩ := fill_some 32 hlt hin
                  have hc : wr.cell? ⟨w4.heap.size, q, none⟩ = some (.int .u8 z) := (hf.cellAt q (by omega)).trans hz
                  have hfz := hf.frozenAt q
                  have hst := (hf.stored q (.int .u8 32)).1
                  rw [fill_set 32 hlt] at hst
                  clear hz
                  have hgw : w.heap.size ≤ w4.heap.size := hbel4.size
                  go_wp2_with fail
                  go_roundw
                  case rel => exact ⟨q + 1, by omega, by go_num, hst, hbr.setCell hgw _⟩
                  case measure => simp [intOf]; omega
                · obtain rfl : q = n5 := by omega
                  have hcv := Lib.run_convert_whole (P := Try.prog) wr 31 5 9 Try.underlying31 Try.underlying5 Try.underlying9 w4.heap.size 0 (rep 32 q) (fill_bytes 32 hf) q
                  rw [rep_size] at hcv
                  obtain ⟨r7, er7, hr7, hm7⟩ : ∃ r7 er7, lex (rep 32 q) = (r7, 0, er7) ∧ ((er7 == 2) = ((m : Int) % 2 == 0)) := by
                    have h8 := HN5.out
                    rcases Nat.mod_two_eq_zero_or_one m with h | h
                    · refine ⟨_, _, blank_lex_long (by omega), ?_⟩
                      have : (m : Int) % 2 = 0 := by omega
                      rw [this]; rfl
                    · obtain ⟨r7, h9⟩ := blank_lex (n := q) (by omega)
                      refine ⟨_, _, h9, ?_⟩
                      have : (m : Int) % 2 = 1 := by omega
                      rw [this]; rfl
                  have HR7 := hide hr7
                  have HM7 := hide hm7
                  clear hr7 hm7
                  go_wp2_with fail
                  refine (split_all _ _ (by rw [rep_size]; unfold maxLen; omega)).mono ?_
                  rw [HR7.out]
                  rintro e w6 ⟨v6, rfl, hown6, hb6⟩
                  have hbel6 : Below w.heap.size w w6 := hbr.trans (hb6.mono hbr.size)
                  clear hown6 hf hcv hf5
                  dsimp only
                  go_wp2_with fail
                  refine (awake_any _).mono ?_
                  rintro e w7 ⟨rfl, hb7⟩
                  have hmm : ((er7 == 2) == ((m : Int) % 2 == 0)) = true := by rw [HM7.out]; simp
                  go_wp2_with fail
                  go_ret
                  exact ⟨rfl, hbel6.trans (hb7.mono hbel6.size)⟩
end Go.Proofs.Ythcimodihgcjaaa.LxU
