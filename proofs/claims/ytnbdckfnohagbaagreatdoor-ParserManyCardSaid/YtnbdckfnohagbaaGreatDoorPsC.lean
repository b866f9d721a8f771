/- The walk of the law ParserMany. -/
import Derived.Test.YtnbdckfnohagbaaGreatDoorPsA
import Derived.Test.YtnbdckfnohagbaaGreatDoorPsD
namespace Go.Proofs.YtnbdckfnohagbaaGreatDoor.PsC
open Go.RowKit Lx LxD Wd RnW PqA PqB PqC PqD PqE PqG PqH PqL PqM PqN PqS PqT PqU PqW PqY PqZ PsA PsD RtA RpF RoL
def vx : List Value := [.int .i64 4, .string ⟨#[97]⟩, .string ⟨#[]⟩, .slice none 0 0, .bool false, .string ⟨#[]⟩, .string ⟨#[]⟩, .int .i64 0]
def repV (i : Nat) : List Value := (List.replicate i vx).flatten
theorem repT_succ (i : Nat) : repT (i + 1) = repT i ++ unitL := by unfold repT; rw [List.replicate_succ', List.flatten_append]; simp
theorem repV_succ (i : Nat) : repV (i + 1) = repV i ++ vx := by unfold repV; rw [List.replicate_succ', List.flatten_append]; simp
theorem repT_len (i : Nat) : (repT i).length = 14 * i := by
  induction i with
  | zero => rfl
  | succ i ih => rw [repT_succ, List.length_append, ih]; show _ + 14 = _; omega
theorem clsin_rep (P : Nat → Prop) (w : World) : ∀ i, ClsIn P w (List.replicate i x0) (repV i)
  | 0 => rfl
  | i + 1 => by
    rw [List.replicate_succ]
    refine ⟨none, 0, repV i, ?_, Strs.nil _ _ _, clsin_rep P w i⟩
    unfold repV
    rw [List.replicate_succ, List.flatten_cons]
    rfl
def clsP (j : Nat) : List UInt8 := [99, 108, 97, 115, 115, 32, 112, 32, 61, 32, 97] ++ (List.replicate j [44, 97]).flatten
theorem clsP_succ (j : Nat) : clsP (j + 1) = clsP j ++ [44, 97] := by unfold clsP; rw [List.replicate_succ', List.flatten_append, List.append_assoc]; simp
theorem clsP_len (j : Nat) : (clsP j).length = 11 + 2 * j := by
  induction j with
  | zero => rfl
  | succ j ih => rw [clsP_succ, List.length_append, ih]; show _ + 2 = _; omega
theorem many_few (k : Nat) (h : k < 65) (h1 : 61 ≤ k) : (parseOf (st (repT k))).2 = (0, 0) ∧ (parseOf (st (repT k))).1.length = k ∧ (fmtOf (List.replicate k x0)).2 = 0 := by
  rw [parse_quick]
  obtain ⟨a, b⟩ := quick_few k h h1
  refine ⟨a, b, ?_⟩
  rw [quick_fmt k (by omega) h1, if_neg (by omega)]
theorem many_more (k : Nat) (h : k < 67) (h1 : 65 ≤ k) : (parseOf (st (repT k))).2 = (896, 2) ∧ (fmtOf (List.replicate k x0)).2 = 2 := by
  rw [parse_quick]
  refine ⟨quick_more k h h1, ?_⟩
  rw [quick_fmt k h (by omega), if_pos (by omega)]
theorem class_many (m : Nat) (h : m < 65) (h1 : 1 ≤ m) : (parseOf (st (clsT m))).2 = if 32 < m then (74, 2) else (0, 0) := by
  rw [parse_quick]
  exact quick_class m h h1
theorem fit0 : Fit x0 := ⟨by decide, by decide, (fun s hs => by cases hs), by decide, by decide⟩
set_option maxHeartbeats 8000000 in
set_option maxRecDepth 100000 in
theorem many_law (x1 x2 : Int) (w : World) (hx1 : 0 ≤ x1 ∧ x1 ≤ 255) (hx2 : 0 ≤ x2 ∧ x2 ≤ 255) (he : Env w) :
    Calls Tryz.prog 8 #[.int .u8 x1, .int .u8 x2] w fun e w' => e = .returned (.bool true) ∧ Below w.heap.size w w' := by
  obtain ⟨a1, a2⟩ := hx1
  obtain ⟨b1, b2⟩ := hx2
  obtain ⟨n, rfl⟩ := Int.eq_ofNat_of_zero_le a1
  obtain ⟨mb, rfl⟩ := Int.eq_ofNat_of_zero_le b1
  obtain ⟨i0, hi, hz0, hz1, hz2⟩ := info_parts PqD.cl_info
  have HAW := Lib.hid (fun w (h : Env w) => awake_cl w h)
  have HE := hide he
  obtain ⟨k, hk⟩ : ∃ k, 61 + n % 6 = k := ⟨_, rfl⟩
  have e5 : ((61 : Int) + (n : Int) % 6) = (k : Int) := by omega
  have E5 := hide e5
  have hk1 : 61 ≤ k := by omega
  have hk2 : k < 67 := by omega
  obtain ⟨m, hm⟩ : ∃ m, 1 + mb % 64 = m := ⟨_, rfl⟩
  have E6 := hide (show ((1 : Int) + (mb : Int) % 64) = (m : Int) by omega)
  have hm1 : 1 ≤ m := by omega
  have hm2 : m < 65 := by omega
  clear hk hm e5 a1 b1 he
  go_enter Tryz.func8, Tryz.ntmps8
  go_wp2_with fail
  rw [E5.out]
  go_loopw [6, 7, 8] (fun vt vl vi wr => ∃ (i : Nat) (A' : Option Addr) (c' : Nat), i ≤ k ∧ vt = .string (st (repT i)) ∧ vl = .slice A' i c' ∧ vi = .int .i64 i ∧ Hid (wr.ownsRow w.heap.size 45 8 (.slice A' i c') i (repV i)) ∧ Hid (Below w.heap.size w wr)) (fun _ _ vi _ => k - (intOf vi).toNat)
  case atStart => exact ⟨0, none, 0, by omega, rfl, rfl, rfl, World.ownsRow_nil _ _ _ _, Below.refl _ _⟩
  case round =>
    obtain ⟨i, A', c', hik, rfl, rfl, rfl, HO, HB⟩ := hrel
    by_cases hlt : i < k
    · have hsz : (st (repT i)).size ≤ 1000 := by rw [st_size, repT_len]; omega
      have HT := hide (show st (repT i) ++ ⟨#[115, 117, 98, 111, 114, 100, 105, 110, 97, 116, 101, 32, 97, 59]⟩ = st (repT (i + 1)) by rw [repT_succ, ← RpE.st_app]; rfl)
      generalize st (repT i) = T at *
      obtain ⟨V2, hV2⟩ : ∃ V2, wr.alloc (.cells #[.int .i64 4, .string ⟨#[97]⟩, .string ⟨#[]⟩, .slice none 0 0, .bool false, .string ⟨#[]⟩, .string ⟨#[]⟩, .int .i64 0] 45) = V2 := ⟨_, rfl⟩
      have hbV : Below wr.heap.size wr V2 := by rw [← hV2]; exact (Below.refl _ _).alloc (Nat.le_refl _) _
      have hrd := reads_new wr vx 45 rfl
      change Reads (wr.alloc (.cells #[.int .i64 4, .string ⟨#[97]⟩, .string ⟨#[]⟩, .slice none 0 0, .bool false, .string ⟨#[]⟩, .string ⟨#[]⟩, .int .i64 0] 45)) _ _ _ _ _ at hrd
      rw [hV2] at hrd
      have HRD := hide hrd
      have HOV := hide (LxD.own_below HO.out hbV)
      have HBV := hide (HB.out.trans (hbV.mono HB.out.size))
      have HVO := Lib.hid (vals_one x0 none 0)
      have hsV := HBV.out.size
      clear hrd hbV HO HB
      go_wp2_with (first
        | (at_builtin
           refine wpList_append_any _ rfl (.tmp 30) (.tmp 32) 23 rfl w.heap.size 45 i0 _ 8 112 Tryz.underlying23 hi hz0 hz1 hz2 rfl (by decide) _ _ _ rfl HOV.out _ _ 1 1 _ rfl HRD.out HVO.out ?c3 ?c4 ?c5 ?_
           case c3 => unfold maxLen; omega
           case c4 => omega
           case c5 => omega
           intro v5 w5 hown5 hg5 hob5))
      obtain ⟨A5, c5, rfl⟩ := LxD.own_slice hown5
      rw [← repV_succ] at hown5
      go_roundw
      case rel => exact ⟨i + 1, A5, c5, by omega, by rw [HT.out], rfl, by go_num, hown5, HBV.out.grown hg5 (by omega) (fun g hg => by have := (HOV.out.lt g hg).1; omega)⟩
      case measure => simp [intOf]; omega
    · obtain rfl : i = k := by omega
      obtain ⟨A9, c9, e9, hcl⟩ := ClsAt.own (l := List.replicate i x0) (by rw [List.length_replicate]; exact HO.out) (clsin_rep (fun _ => True) wr i) (by rw [List.length_replicate]; unfold maxLen; omega)
      rw [List.length_replicate] at e9
      injection e9 with e91 e92 e93
      subst e91; subst e93
      have HCL := hide hcl
      have HE1 := hide (HE.out.below HB.out)
      have hsz : (st (repT i)).size ≤ 1000 := by rw [st_size, repT_len]; omega
      have HP := Lib.hid (parse_cl (st (repT i)) wr (by omega) HE1.out)
      have HF := Lib.hid (fun w' (hb : Below wr.heap.size wr w') => format_cl (List.replicate i x0) A' c' w' (HCL.out.below hb) (fun x hx => by rw [List.eq_of_mem_replicate hx]; exact fit0))
      rw [List.length_replicate] at HF
      clear hcl e92 HO
      have hend : ∃ er aa : Nat, (64 < i → er = 2 ∧ aa = 896) ∧ (¬ 64 < i → er = 0) ∧ ∃ (lp : List Cl) (ft : List UInt8), parseOf (st (repT i)) = (lp, aa, er) ∧ (¬ 64 < i → lp.length = i) ∧ fmtOf (List.replicate i x0) = (ft, er) := by
        by_cases h : 64 < i
        · obtain ⟨h1, h3⟩ := many_more i hk2 (by omega)
          exact ⟨2, 896, fun _ => ⟨rfl, rfl⟩, fun h' => absurd h h', (parseOf (st (repT i))).1, (fmtOf (List.replicate i x0)).1, by rw [← h1], fun h' => absurd h h', by rw [← h3]⟩
        · obtain ⟨h1, h2, h3⟩ := many_few i (by omega) hk1
          exact ⟨0, 0, fun h' => absurd h' h, fun _ => rfl, (parseOf (st (repT i))).1, (fmtOf (List.replicate i x0)).1, by rw [← h1], fun _ => h2, by rw [← h3]⟩
      obtain ⟨er, aa, her1, her2, lp, ft, hp, hlp, hf⟩ := hend
      rw [hp] at HP
      rw [hf] at HF
      unfold ParseP at HP
      unfold FmtP at HF
      dsimp only at HP HF
      have HR1 := Lib.hid her1
      have HR2 := Lib.hid her2
      have HLP := Lib.hid hlp
      clear hp hf HCL her1 her2 hlp
      generalize st ft = FT at *
      generalize st (repT i) = T at *
      go_wp2_with fail
      refine HP.out.mono ?_
      rintro e w3 ⟨A3, c3, rfl, _, hb3⟩
      have HB3 := hide hb3
      clear hb3
      go_wp2_with fail
      refine (HF.out _ HB3.out).mono ?_
      rintro e w4 ⟨rfl, hb4⟩
      have HB4 := hide (HB.out.trans ((HB3.out.trans (hb4.mono HB3.out.size)).mono HB.out.size))
      clear hb4 HP HF HB3
      go_upto_if 46 with fail
      go_cut [] (fun wx => w4 = wx)
      case first =>
        by_cases h : 64 < i
        · obtain ⟨rfl, rfl⟩ := HR1.out h
          clear HR1 HR2 HLP
          go_wp2_with fail
          go_meet
          case rel => rfl
        · obtain rfl := HR2.out h
          have hll : ((lp.length : Int) != (i : Int)) = false := by rw [HLP.out h]; simp
          clear HR1 HR2 HLP
          go_wp2_with fail
          go_meet
          case rel => rfl
      case rest =>
        subst hcut
        clear HR1 HR2 HLP
        have HE4 := hide (HE.out.below HB4.out)
        go_wp2_with fail
        rw [E6.out]
        obtain ⟨wo, rfl⟩ : ∃ wo : World, wo = w4 := ⟨_, rfl⟩
        go_loop [15, 16] (fun vs vj => ∃ j : Nat, 1 ≤ j ∧ j ≤ m ∧ vs = .string (st (clsP (j - 1))) ∧ vj = .int .i64 j) (fun _ vj => m - (intOf vj).toNat)
        case atStart => exact ⟨1, by omega, hm1, rfl, rfl⟩
        case round =>
          obtain ⟨j, hj1, hjm, rfl, rfl⟩ := hrel
          by_cases hlt2 : j < m
          · have hsz2 : (st (clsP (j - 1))).size ≤ 1000 := by rw [st_size, clsP_len]; omega
            have HT := hide (show st (clsP (j - 1)) ++ ⟨#[44, 97]⟩ = st (clsP (j + 1 - 1)) by rw [show j + 1 - 1 = (j - 1) + 1 by omega, clsP_succ, ← RpE.st_app]; rfl)
            generalize st (clsP (j - 1)) = U at *
            go_wp2_with fail
            go_round
            case rel => exact ⟨j + 1, by omega, by omega, by rw [HT.out], by go_num⟩
            case measure => simp [intOf]; omega
          · obtain rfl : j = m := by omega
            have hsz2 : (st (clsP (j - 1))).size ≤ 1000 := by rw [st_size, clsP_len]; omega
            have HT := hide (show st (clsP (j - 1)) ++ ⟨#[59]⟩ = st (clsT j) by unfold clsT; rw [← RpE.st_app]; rfl)
            have hsz3 : (st (clsT j)).size ≤ 2000 := by rw [← HT.out, ByteArray.size_append]; show _ + 1 ≤ _; omega
            have HP := Lib.hid (parse_cl (st (clsT j)) wo (by omega) HE4.out)
            have hcm := class_many j hm2 hm1
            obtain ⟨⟨lp2, aa2, er2⟩, hpp⟩ : ∃ p, parseOf (st (clsT j)) = p := ⟨_, rfl⟩
            rw [hpp] at hcm HP
            dsimp only at hcm
            unfold ParseP at HP
            dsimp only at HP
            rw [← HT.out] at HP
            clear hpp hsz3 HT
            generalize st (clsP (j - 1)) = U at *
            by_cases h : 32 < j
            · rw [if_pos h] at hcm
              injection hcm with h1 h2
              subst h1; subst h2
              go_wp2_with fail
              refine HP.out.mono ?_
              rintro e w5 ⟨A5, c5, rfl, _, hb5⟩
              have HB5 := hide (HB4.out.trans (hb5.mono HB4.out.size))
              have HE5 := hide (HE.out.below HB5.out)
              clear hb5 HP
              go_wp2_with fail
              refine (HAW.out _ HE5.out).mono ?_
              rintro e w6 ⟨rfl, hb6⟩
              go_wp2_with fail
              go_ret
              exact ⟨rfl, HB5.out.trans (hb6.mono HB5.out.size)⟩
            · rw [if_neg h] at hcm
              injection hcm with h1 h2
              subst h1; subst h2
              go_wp2_with fail
              refine HP.out.mono ?_
              rintro e w5 ⟨A5, c5, rfl, _, hb5⟩
              have HB5 := hide (HB4.out.trans (hb5.mono HB4.out.size))
              have HE5 := hide (HE.out.below HB5.out)
              clear hb5 HP
              go_wp2_with fail
              refine (HAW.out _ HE5.out).mono ?_
              rintro e w6 ⟨rfl, hb6⟩
              go_wp2_with fail
              go_ret
              exact ⟨rfl, HB5.out.trans (hb6.mono HB5.out.size)⟩
end Go.Proofs.YtnbdckfnohagbaaGreatDoor.PsC
