/- The walk of the law ProofJoined. -/
import Derived.Test.YtghbhchkdomfhaaGreatDoorPgQ
namespace Go.Proofs.YtghbhchkdomfhaaGreatDoor.PgS
open Go.RowKit Wd RoL RoA RnB RnW RnQ RnR RtA RpE RpF PqB PfS PfB PfA PfD PfE PfG PfH PfI PfL PfN PfO PfQ PfU PgA PgF PgG PgH PgK PgP PgQ
theorem textD_app (a b : List Dc) : textD (a ++ b) = textD a ++ textD b := by simp [textD]
theorem st_app2 (a b : List UInt8) : st a ++ st b = st (a ++ b) := by
  apply ext_bytes
  rw [PfP.app_data]
  rfl
theorem parse_again {l : List Dc} {i : Nat} (h : ∀ x ∈ l, PfV.Good x) (hu : (l.map (·.id)).Nodup) (hl : l.length ≤ 10) (h0 : 0 < i) (h1 : i ≤ l.length) :
    parseOf (textD (l ++ l.take i)) = ([], (l.flatMap PfV.docWs).length + 1, 12) := by
  obtain ⟨d, m, hdm⟩ : ∃ d m, l.take i = d :: m := by
    have hh : 0 < (l.take i).length := by rw [List.length_take]; omega
    cases ht : l.take i with
    | nil => rw [ht] at hh; exact absurd hh (by simp)
    | cons d m => exact ⟨d, m, rfl⟩
  have hd : d ∈ l := List.mem_of_mem_take (i := i) (by rw [hdm]; simp)
  have hall : ∀ x ∈ l ++ d :: m, PfV.Good x := fun x hx => by
    rcases List.mem_append.1 hx with hx | hx
    · exact h x hx
    · exact h x (List.mem_of_mem_take (i := i) (by rw [hdm]; exact hx))
  have hts := PfV.text_short _ hall
  have hlen : (l ++ d :: m).length ≤ 20 := by
    have := congrArg List.length hdm
    rw [List.length_take] at this
    rw [List.length_append]
    omega
  have hnm : NmA.nmB d.id = true := (PfV.check_all (h d hd).chk).1
  rw [hdm]
  exact PfV.parse_stop hall hu (by omega) (by omega) (by omega) (fun a ha => PfV.first_twice hnm ha ⟨d, hd, rfl⟩) (by decide)
theorem DocsAt.drop {w : World} {b off : Nat} {l : List Dc} (h : DocsAt w (some ⟨b, off, none⟩) l) (i : Nat) : DocsAt w (some ⟨b, off + i * 14, none⟩) (l.drop i) := by
  refine ⟨by have := h.1; rw [List.length_drop]; omega, fun hp => ?_⟩
  rw [List.length_drop] at hp
  obtain ⟨b', off', e, hb, hc⟩ := h.2 (by omega)
  injection e with e
  injection e with e1 e2
  subst e1; subst e2
  refine ⟨b, off + i * 14, rfl, hb, fun k x hx j v hv => ?_⟩
  rw [List.getElem?_drop] at hx
  have := hc (i + k) x hx j v hv
  rw [show off + (i + k) * 14 + j = off + i * 14 + k * 14 + j by omega] at this
  exact this
theorem DocsAt.take {w : World} {A : Option Addr} {l : List Dc} (h : DocsAt w A l) (i : Nat) : DocsAt w A (l.take i) := by
  refine ⟨by have := h.1; rw [List.length_take]; omega, fun hp => ?_⟩
  rw [List.length_take] at hp
  obtain ⟨b', off', e, hb, hc⟩ := h.2 (by omega)
  refine ⟨b', off', e, hb, fun k x hx j v hv => ?_⟩
  rw [List.getElem?_take] at hx
  split at hx
  · exact hc k x hx j v hv
  · cases hx
theorem good_take {l : List Dc} (h : ∀ x ∈ l, PfV.Good x) (i : Nat) : ∀ x ∈ l.take i, PfV.Good x := fun x hx => h x (List.mem_of_mem_take hx)
theorem good_drop {l : List Dc} (h : ∀ x ∈ l, PfV.Good x) (i : Nat) : ∀ x ∈ l.drop i, PfV.Good x := fun x hx => h x (List.mem_of_mem_drop hx)
theorem dup_take {l : List Dc} (h : (l.map (·.id)).Nodup) (i : Nat) : ((l.take i).map (·.id)).Nodup := h.sublist ((List.take_sublist i l).map _)
theorem dup_drop {l : List Dc} (h : (l.map (·.id)).Nodup) (i : Nat) : ((l.drop i).map (·.id)).Nodup := h.sublist ((List.drop_sublist i l).map _)
set_option maxHeartbeats 16000000 in
set_option maxRecDepth 100000 in
theorem joined_law (A : Option Addr) (n c : Nat) (x1 : Int) (w : World) (h : PgO.SixesAt w w.heap.size A n) (hx1 : 0 ≤ x1 ∧ x1 ≤ 255) (he : EnvT w) :
    Calls Tryz.prog 9 #[.slice A n c, .int .u8 x1] w fun e w' => e = .returned (.bool true) ∧ Below w.heap.size w w' := by
  obtain ⟨a1, a2⟩ := hx1
  obtain ⟨a, rfl⟩ := Int.eq_ofNat_of_zero_le a1
  have HAW := Lib.hid (fun w (h : EnvT w) => awake_docs w h)
  have HBU := Lib.hid (built_any A n c w h)
  have HE := hide he
  clear h he a1
  go_enter Tryz.func9, Tryz.ntmps9
  go_wp2_with fail
  refine HBU.out.mono ?_
  rintro e w1 ⟨l, A1, c1, rfl, ⟨hd, hcap, hA⟩, hl10, hg, hu, hb1⟩
  have HB1 := hide hb1
  have HE1 := hide (HE.out.below hb1)
  have HD1 := hide hd
  have HG := hide hg
  have HU := hide hu
  have HPK : Hid (∀ w, Calls Tryz.prog 24 #[.int .i64 (a : Int), .int .i64 ((l.length : Int) + 1)] w (fun e w' => ∃ i : Nat, i ≤ l.length ∧ e = .returned (.int .i64 (i : Int)) ∧ Below w.heap.size w w')) := fun w => (pick_any a (l.length + 1) w (by omega) (by omega)).mono (by
    rintro e w' ⟨i, ⟨_, h⟩, rfl, hb⟩
    exact ⟨i, by have := h (by omega); omega, rfl, hb⟩)
  clear hb1 hd hg hu
  go_wp2_with fail
  refine (HPK.out _).mono ?_
  rintro e w2 ⟨i, hil, rfl, hb2⟩
  have HB2 := hide (HB1.out.trans (hb2.mono HB1.out.size))
  have HE2 := hide (HE1.out.below hb2)
  have HD2 := hide (HD1.out.below hb2)
  clear hb2
  rcases hA with ⟨rfl, rfl, rfl⟩ | ⟨g, rfl⟩
  · obtain rfl : i = 0 := Nat.le_zero.1 hil
    go_wp2_with fail
    have hl10t : ((([] : List Dc)).take 0).length ≤ 10 := Nat.zero_le _
    have hl10d : ((([] : List Dc)).drop 0).length ≤ 10 := Nat.zero_le _
    have HF1 := Lib.hid (format_docs ((([] : List Dc)).take 0) none 0 w2 (DocsAt.take HD2.out 0) (fun x hx => good_wr (good_take HG.out 0 x hx)) HE2.out)
    rw [fmt_good (good_take HG.out 0) (dup_take HU.out 0) hl10t, show ((([] : List Dc)).take 0).length = 0 by rfl] at HF1
    unfold FmtP at HF1
    dsimp only at HF1
    have HF2 := Lib.hid (fun w3 (hb : Below w2.heap.size w2 w3) => format_docs ((([] : List Dc)).drop 0) none 0 w3 ((DocsAt.take HD2.out 0).below hb) (fun x hx => good_wr (good_drop HG.out 0 x hx)) (HE2.out.below hb))
    rw [fmt_good (good_drop HG.out 0) (dup_drop HU.out 0) hl10d, show ((([] : List Dc)).drop 0).length = 0 by rfl] at HF2
    unfold FmtP at HF2
    dsimp only at HF2
    have hta := text_size (good_take HG.out 0) hl10t
    have htb := text_size (good_drop HG.out 0) hl10d
    have htl := text_size HG.out hl10
    have hab : st (textD ([] : List Dc)) = st (textD ((([] : List Dc)).take 0)) ++ st (textD ((([] : List Dc)).drop 0)) := by rw [st_app2, ← textD_app, List.take_append_drop]
    have HP := Lib.hid (fun w (he : Env w) => parse_docs (st (textD ([] : List Dc))) w (by omega) he)
    rw [show (st (textD ([] : List Dc))).data.toList = textD ([] : List Dc) from rfl, parse_good HG.out HU.out hl10, hab] at HP
    unfold ParseP at HP
    dsimp only at HP
    clear hab htl
    generalize st (textD ((([] : List Dc)).take 0)) = TA at *
    generalize st (textD ((([] : List Dc)).drop 0)) = TB at *
    refine HF1.out.mono ?_
    rintro e w3 ⟨rfl, hb3⟩
    have HF2w := hide (HF2.out w3 hb3)
    have HB3 := hide (HB2.out.trans (hb3.mono HB2.out.size))
    have HE3 := hide (HE2.out.below hb3)
    have HD3 := hide (HD2.out.below hb3)
    clear hb3
    go_wp2_with fail
    refine HF2w.out.mono ?_
    rintro e w4 ⟨rfl, hb4⟩
    have HB4 := hide (HB3.out.trans (hb4.mono HB3.out.size))
    have HE4 := hide (HE3.out.below hb4)
    have HD4 := hide (HD3.out.below hb4)
    clear hb4
    go_wp2_with fail
    refine (HP.out _ HE4.out.2.1).mono ?_
    rintro e w5 ⟨A5, c5, rfl, hd5, hb5⟩
    have HB5 := hide (HB4.out.trans (hb5.mono HB4.out.size))
    have HE5 := hide (HE4.out.below hb5)
    have HD5 := hide (HD4.out.below hb5)
    have HM5 := hide hd5
    clear hb5 hd5
    go_wp2_with fail
    refine (same_docs ([] : List Dc) none A5 0 c5 _ HD5.out HM5.out).mono ?_
    rintro e w6 ⟨rfl, hb6⟩
    have HB6 := hide (HB5.out.trans (hb6.mono HB5.out.size))
    have HE6 := hide (HE5.out.below hb6)
    clear hb6
    go_wp2_with fail
    refine (HAW.out _ HE6.out).mono ?_
    rintro e w7 ⟨rfl, hb7⟩
    have HB7 := hide (HB6.out.trans (hb7.mono HB6.out.size))
    clear hb7
    go_wp2_with fail
    go_ret
    exact ⟨rfl, HB7.out⟩
  · go_wp2_with fail
    have hl10t : ((l).take i).length ≤ 10 := by rw [List.length_take]; omega
    have hl10d : ((l).drop i).length ≤ 10 := by rw [List.length_drop]; omega
    have HF1 := Lib.hid (format_docs ((l).take i) (some ⟨g, 0, none⟩) c1 w2 (DocsAt.take HD2.out i) (fun x hx => good_wr (good_take HG.out i x hx)) HE2.out)
    rw [fmt_good (good_take HG.out i) (dup_take HU.out i) hl10t, show ((l).take i).length = i by rw [List.length_take]; omega] at HF1
    unfold FmtP at HF1
    dsimp only at HF1
    have HF2 := Lib.hid (fun w3 (hb : Below w2.heap.size w2 w3) => format_docs ((l).drop i) (some ⟨g, i * 14, none⟩) (c1 - i) w3 ((show DocsAt w2 (some ⟨g, i * 14, none⟩) (l.drop i) by have := DocsAt.drop HD2.out i; rwa [Nat.zero_add] at this).below hb) (fun x hx => good_wr (good_drop HG.out i x hx)) (HE2.out.below hb))
    rw [fmt_good (good_drop HG.out i) (dup_drop HU.out i) hl10d, show ((l).drop i).length = l.length - i by rw [List.length_drop]] at HF2
    unfold FmtP at HF2
    dsimp only at HF2
    have HF3 := Lib.hid (fun w3 (hb : Below w2.heap.size w2 w3) (hz : c1 = i) => format_docs ((l).drop i) (some ⟨g, 0, none⟩) 0 w3 (show DocsAt w3 (some ⟨g, 0, none⟩) (l.drop i) by rw [List.drop_eq_nil_of_le (by omega)]; exact ⟨Nat.zero_le _, fun h => absurd h (by simp)⟩) (fun x hx => good_wr (good_drop HG.out i x hx)) (HE2.out.below hb))
    rw [fmt_good (good_drop HG.out i) (dup_drop HU.out i) hl10d, show ((l).drop i).length = l.length - i by rw [List.length_drop]] at HF3
    unfold FmtP at HF3
    dsimp only at HF3
    have hta := text_size (good_take HG.out i) hl10t
    have htb := text_size (good_drop HG.out i) hl10d
    have htl := text_size HG.out hl10
    have hab : st (textD l) = st (textD ((l).take i)) ++ st (textD ((l).drop i)) := by rw [st_app2, ← textD_app, List.take_append_drop]
    have HP := Lib.hid (fun w (he : Env w) => parse_docs (st (textD l)) w (by omega) he)
    rw [show (st (textD l)).data.toList = textD l from rfl, parse_good HG.out HU.out hl10, hab] at HP
    unfold ParseP at HP
    dsimp only at HP
    have HLN := Lib.hid (fun w => lines_any (st (textD l)) w (by omega))
    unfold LinesP at HLN
    have hnl : (linesL (textD l)).length = ((l).flatMap PfV.docWs).length := by rw [lines_len (text_end _), PfV.count_docs HG.out]
    rw [show (st (textD l)).data.toList = textD l from rfl, hab] at HLN
    have haba : st (textD ((l) ++ ((l).take i))) = st (textD ((l).take i)) ++ st (textD ((l).drop i)) ++ st (textD ((l).take i)) := by rw [← hab, st_app2, ← textD_app]
    have HPA := Lib.hid (fun w (he : Env w) => parse_docs (st (textD ((l) ++ ((l).take i)))) w (by rw [haba, ByteArray.size_append, ByteArray.size_append]; omega) he)
    rw [haba, show (st (textD ((l).take i)) ++ st (textD ((l).drop i)) ++ st (textD ((l).take i))).data.toList = textD ((l) ++ ((l).take i)) by rw [← haba]; rfl] at HPA
    have HAG : Hid (0 < i → parseOf (textD ((l) ++ ((l).take i))) = ([], (linesL (textD l)).length + 1, 12)) := fun h0 => by rw [hnl]; exact parse_again HG.out HU.out hl10 h0 hil
    have hnlt : (linesL (textD l)).length ≤ 200 := by rw [lines_len (text_end _), PfV.count_docs HG.out]; have := (PfV.text_short _ HG.out).2; omega
    generalize textD ((l) ++ ((l).take i)) = TAA at *
    generalize linesL (textD l) = LL at *
    generalize endedL (textD l) = en at *
    clear haba hnl
    clear hab htl
    generalize st (textD ((l).take i)) = TA at *
    generalize st (textD ((l).drop i)) = TB at *
    refine HF1.out.mono ?_
    rintro e w3 ⟨rfl, hb3⟩
    have HF2w := hide (HF2.out w3 hb3)
    have HF3w := Lib.hid (HF3.out w3 hb3)
    have HB3 := hide (HB2.out.trans (hb3.mono HB2.out.size))
    have HE3 := hide (HE2.out.below hb3)
    have HD3 := hide (HD2.out.below hb3)
    clear hb3
    go_wp2_with fail
    all_goals
      first
        | ((with_reducible refine HF2w.out.mono ?_))
        | ((with_reducible refine (HF3w.out (by assumption)).mono ?_))
      rintro e w4 ⟨rfl, hb4⟩
      have HB4 := hide (HB3.out.trans (hb4.mono HB3.out.size))
      have HE4 := hide (HE3.out.below hb4)
      have HD4 := hide (HD3.out.below hb4)
      clear hb4
      go_wp2_with fail
      refine (HP.out _ HE4.out.2.1).mono ?_
      rintro e w5 ⟨A5, c5, rfl, hd5, hb5⟩
      have HB5 := hide (HB4.out.trans (hb5.mono HB4.out.size))
      have HE5 := hide (HE4.out.below hb5)
      have HD5 := hide (HD4.out.below hb5)
      have HM5 := hide hd5
      clear hb5 hd5
      go_wp2_with fail
      refine (same_docs l (some ⟨g, 0, none⟩) A5 _ c5 _ HD5.out HM5.out).mono ?_
      rintro e w6 ⟨rfl, hb6⟩
      have HB6 := hide (HB5.out.trans (hb6.mono HB5.out.size))
      have HE6 := hide (HE5.out.below hb6)
      clear hb6
      by_cases h0 : i = 0
      · subst h0
        go_wp2_with fail
        refine (HAW.out _ HE6.out).mono ?_
        rintro e w7 ⟨rfl, hb7⟩
        have HB7 := hide (HB6.out.trans (hb7.mono HB6.out.size))
        clear hb7
        go_wp2_with fail
        go_ret
        exact ⟨rfl, HB7.out⟩
      · have HAG2 := HAG.out (by omega)
        rw [HAG2] at HPA
        unfold ParseP at HPA
        dsimp only at HPA
        clear HAG2
        go_wp2_with fail
        refine (HLN.out _).mono ?_
        rintro e w7 ⟨A7, c7, rfl, hs7, hb7⟩
        have HB7 := hide (HB6.out.trans (hb7.mono HB6.out.size))
        have HE7 := hide (HE6.out.below hb7)
        clear hb7 hs7
        go_wp2_with fail
        refine (HPA.out _ HE7.out.2.1).mono ?_
        rintro e w8 ⟨A8, c8, rfl, hd8, hb8⟩
        have HB8 := hide (HB7.out.trans (hb8.mono HB7.out.size))
        have HE8 := hide (HE7.out.below hb8)
        clear hb8 hd8
        go_wp2_with fail
        refine (HAW.out _ HE8.out).mono ?_
        rintro e w9 ⟨rfl, hb9⟩
        have HB9 := hide (HB8.out.trans (hb9.mono HB8.out.size))
        clear hb9
        go_wp2_with fail
        go_ret
        exact ⟨rfl, HB9.out⟩
end Go.Proofs.YtghbhchkdomfhaaGreatDoor.PgS
