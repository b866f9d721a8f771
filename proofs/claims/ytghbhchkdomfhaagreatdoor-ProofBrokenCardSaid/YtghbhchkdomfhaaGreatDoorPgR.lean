/- The walk of the law ProofBroken. -/
import Derived.Test.YtghbhchkdomfhaaGreatDoorPgQ
import Derived.BigQuiet
import Derived.Lib.SlBytesRow
namespace Go.Proofs.YtghbhchkdomfhaaGreatDoor.PgR
open Go.RowKit Wd RoL RnB RnW RnQ RnR RtA RpE RpF PqB PfS PfB PfA PfD PfE PfG PfH PfI PfL PfN PfO PfQ PfU PgA PgF PgG PgH PgK PgP PgQ
theorem lines_mem {s x : List UInt8} (h : x ∈ linesL s) : x.length ≤ s.length := by
  have h2 : x ∈ splA 10 [] s := by
    unfold linesL at h
    split at h
    · exact List.dropLast_subset _ h
    · exact h
  have := splA_mem 10 s [] x h2
  simpa using this
theorem byte_of (j : Nat) (hj : j < 8) : ∃ z : Nat, z < 256 ∧ (#[.int .u8 32, .int .u8 10, .int .u8 48, .int .u8 57, .int .u8 45, .int .u8 120, .int .u8 47, .int .u8 46] : Array Value)[j]? = some (.int .u8 (z : Int)) := by
  match j, hj with
  | 0, _ => exact ⟨32, by decide, rfl⟩
  | 1, _ => exact ⟨10, by decide, rfl⟩
  | 2, _ => exact ⟨48, by decide, rfl⟩
  | 3, _ => exact ⟨57, by decide, rfl⟩
  | 4, _ => exact ⟨45, by decide, rfl⟩
  | 5, _ => exact ⟨120, by decide, rfl⟩
  | 6, _ => exact ⟨47, by decide, rfl⟩
  | 7, _ => exact ⟨46, by decide, rfl⟩
  | n + 8, h => exact absurd h (by omega)
theorem byte_at (W : World) (j : Nat) (hj : j < 8) : ∃ z : Nat, z < 256 ∧ (W.alloc (.cells #[.int .u8 32, .int .u8 10, .int .u8 48, .int .u8 57, .int .u8 45, .int .u8 120, .int .u8 47, .int .u8 46] 5)).cell? ⟨W.heap.size, j, none⟩ = some (.int .u8 (z : Int)) := by
  obtain ⟨z, h1, h2⟩ := byte_of j hj
  exact ⟨z, h1, by rw [World.cell?_alloc_new]; exact h2⟩
theorem conv_one (w : World) (z : Nat) (hz : z < 256) : (convert 51 9 (.slice (some ⟨w.heap.size, 0, none⟩) 1 1)).run Tryz.prog (w.alloc (.cells #[.int .u8 (z : Int)] 5)) = .ok (.string ⟨#[UInt8.ofNat z]⟩) (w.alloc (.cells #[.int .u8 (z : Int)] 5)) := by
  refine Lib.run_convert_whole (P := Tryz.prog) _ 51 5 9 Tryz.underlying51 Tryz.underlying5 Tryz.underlying9 w.heap.size 0 ⟨#[UInt8.ofNat z]⟩ (fun k hk => ?_) 1
  have hk0 : k = 0 := by
    have h1 : (⟨#[UInt8.ofNat z]⟩ : ByteArray).size = 1 := rfl
    omega
  subst hk0
  rw [World.cell?_alloc_new]
  show some (Value.int .u8 (z : Int)) = some (.int .u8 ((UInt8.ofNat z).toNat : Int))
  rw [UInt8.toNat_ofNat', Nat.mod_eq_of_lt (by omega)]
set_option maxHeartbeats 16000000 in
set_option maxRecDepth 100000 in
theorem broken_law (A : Option Addr) (n c : Nat) (x1 x2 x3 : Int) (w : World) (h : PgO.SixesAt w w.heap.size A n) (hx1 : 0 ≤ x1 ∧ x1 ≤ 65535) (hx2 : 0 ≤ x2 ∧ x2 ≤ 255) (hx3 : 0 ≤ x3 ∧ x3 ≤ 255) (he : EnvT w) :
    Calls Tryz.prog 8 #[.slice A n c, .int .u16 x1, .int .u8 x2, .int .u8 x3] w fun e w' => e = .returned (.bool true) ∧ Below w.heap.size w w' := by
  obtain ⟨a1, a2⟩ := hx1
  obtain ⟨b1, b2⟩ := hx2
  obtain ⟨d1, d2⟩ := hx3
  obtain ⟨a, rfl⟩ := Int.eq_ofNat_of_zero_le a1
  obtain ⟨hw, rfl⟩ := Int.eq_ofNat_of_zero_le b1
  obtain ⟨bb, rfl⟩ := Int.eq_ofNat_of_zero_le d1
  have HAW := Lib.hid (fun w (h : EnvT w) => awake_docs w h)
  have HBU := Lib.hid (built_any A n c w h)
  have HE := hide he
  clear h he a1 b1 d1
  go_enter Tryz.func8, Tryz.ntmps8
  go_wp2_with fail
  refine HBU.out.mono ?_
  rintro e w1 ⟨l, A1, c1, rfl, ⟨hd, _⟩, hl10, hg, hu, hb1⟩
  have HB1 := hide hb1
  have HE1 := hide (HE.out.below hb1)
  have HF := Lib.hid (format_docs l A1 c1 w1 hd (fun x hx => good_wr (hg x hx)) HE1.out)
  rw [fmt_good hg hu hl10] at HF
  unfold FmtP at HF
  dsimp only at HF
  have hts := text_size hg hl10
  have HLN := Lib.hid (fun w => lines_any (st (textD l)) w (by omega))
  unfold LinesP at HLN
  rw [show (st (textD l)).data.toList = textD l from rfl] at HLN
  have hnl : (linesL (textD l)).length ≤ 80 := by
    rw [lines_len (text_end l), PfV.count_docs hg]
    have := (PfV.text_short l hg).2
    omega
  have hml : ∀ x ∈ linesL (textD l), x.length ≤ 2500 := fun x hx => by
    have := lines_mem hx
    rw [st_size] at hts
    omega
  generalize linesL (textD l) = LL at *
  generalize endedL (textD l) = en at *
  generalize st (textD l) = S at *
  obtain ⟨nl, hnl2⟩ : ∃ nl, LL.length = nl := ⟨_, rfl⟩
  rw [hnl2] at HLN hnl
  have HNL := hide hnl2
  have HML := Lib.hid hml
  clear hd hg hu hb1 hml hnl2
  go_wp2_with fail
  refine HF.out.mono ?_
  rintro e w2 ⟨rfl, hb2⟩
  have HB2 := hide (HB1.out.trans (hb2.mono HB1.out.size))
  have HE2 := hide (HE1.out.below hb2)
  clear hb2
  go_wp2_with fail
  refine (HLN.out _).mono ?_
  rintro e w3 ⟨A3, c3, rfl, hs3, hb3⟩
  have HB3 := hide (HB2.out.trans (hb3.mono HB2.out.size))
  have HE3 := hide (HE2.out.below hb3)
  have HS3 := hide hs3
  clear hb3 hs3
  go_wp2_with fail
  refine (pick_any a nl _ (by omega) (by omega)).mono ?_
  rintro e w4 ⟨kk, ⟨hkk, _⟩, rfl, hb4⟩
  have HB4 := hide (HB3.out.trans (hb4.mono HB3.out.size))
  have HE4 := hide (HE3.out.below hb4)
  have HS4 := hide (HS3.out.below hb4)
  clear hb4
  go_wp2_with fail
  have h1s : (⟨#[10]⟩ : ByteArray).size = 1 := rfl
  go_loopw [45, 14, 15, 16] (fun vj vt _ _ wr => ∃ (j : Nat) (T : ByteArray), j ≤ nl ∧ vj = .int .i64 j ∧ vt = .string T ∧ T.size ≤ j * 5002 ∧ Hid (Below w4.heap.size w4 wr)) (fun vj _ _ _ _ => nl - (intOf vj).toNat)
  case atStart => exact ⟨0, ⟨#[]⟩, by omega, rfl, rfl, Nat.zero_le _, Below.refl _ _⟩
  case round =>
    obtain ⟨j, T, hj, rfl, rfl, hT, HBI⟩ := hrel
    by_cases hlt : j < nl
    · have hTn : T.size ≤ 400160 := by omega
      obtain ⟨x, hx⟩ : ∃ x, LL[j]? = some x := ⟨_, List.getElem?_eq_getElem (by rw [HNL.out]; exact hlt)⟩
      have hxs : (str x).size ≤ 2500 := by rw [str_size]; exact HML.out x (List.mem_of_getElem? hx)
      obtain ⟨B, off, rfl, hB, _, hc⟩ := (HS4.out.below HBI.out).2 (by rw [List.length_map, HNL.out]; omega)
      have a0 := hc j (str x) (by rw [List.getElem?_map, hx]; rfl)
      obtain ⟨y, hys, a1⟩ : ∃ y : ByteArray, y.size ≤ 2500 ∧ (0 < j → wr.cell? ⟨B, off + (j - 1), none⟩ = some (.string y)) := by
        by_cases h0 : 0 < j
        · obtain ⟨y, hy⟩ : ∃ y, LL[j - 1]? = some y := ⟨_, List.getElem?_eq_getElem (by rw [HNL.out]; omega)⟩
          exact ⟨str y, by rw [str_size]; exact HML.out y (List.mem_of_getElem? hy), fun _ => hc (j - 1) (str y) (by rw [List.getElem?_map, hy]; rfl)⟩
        · exact ⟨⟨#[]⟩, by decide, fun h => absurd h h0⟩
      generalize str x = sx at *
      have HA1 := Lib.hid a1
      clear hc hx a1
      cases e : ((j : Int) == (kk : Int))
      · go_wp2_with fail
        go_roundw
        case rel => exact ⟨j + 1, _, by omega, by go_num, rfl, by simp only [ByteArray.size_append]; omega, HBI⟩
        case measure => simp [intOf]; omega
      · cases q0 : (((hw : Int) % 5) == 0)
        · cases q1 : (((hw : Int) % 5) == 1)
          · cases q2 : (((hw : Int) % 5) == 2)
            · go_wp2_with fail
              go_roundw
              case rel => exact ⟨j + 1, _, by omega, by go_num, rfl, by simp only [ByteArray.size_append]; omega, HBI⟩
              case measure => simp [intOf]; omega
            · by_cases h0 : 0 < j
              · have a1 := HA1.out h0
                go_wp2_with fail
                go_roundw
                case rel => exact ⟨j + 1, _, by omega, by go_num, rfl, by simp only [ByteArray.size_append]; omega, HBI⟩
                case measure => simp [intOf]; omega
              · go_wp2_with fail
                go_roundw
                case rel => exact ⟨j + 1, _, by omega, by go_num, rfl, by simp only [ByteArray.size_append]; omega, HBI⟩
                case measure => simp [intOf]; omega
          · go_wp2_with fail
            go_roundw
            case rel => exact ⟨j + 1, _, by omega, by go_num, rfl, by simp only [ByteArray.size_append]; omega, HBI⟩
            case measure => simp [intOf]; omega
        · go_wp2_with fail
          go_roundw
          case rel => exact ⟨j + 1, _, by omega, by go_num, rfl, by omega, HBI⟩
          case measure => simp [intOf]; omega
    · obtain rfl : j = nl := by omega
      have hTn : T.size ≤ 400160 := by omega
      have HBX := hide (HB4.out.trans (HBI.out.mono HB4.out.size))
      clear hT
      by_cases h3 : 2 < (hw : Int) % 5
      · go_upto_if 108 with fail
        go_cut [14] (fun v wx => ∃ T : ByteArray, v = .string T ∧ T.size ≤ 410000 ∧ Hid (Below w.heap.size w wx))
        case first =>
          by_cases h0 : 0 < T.size
          · obtain ⟨i, hi⟩ : ∃ i, a % T.size = i := ⟨_, rfl⟩
            have hil : i < T.size := by rw [← hi]; exact Nat.mod_lt _ h0
            have hi' : ((a : Int) % (T.size : Int)) = (i : Int) := by omega
            obtain ⟨z, hz, hzc⟩ := byte_at wr (bb % 8) (by omega)
            obtain ⟨W1, hW1, HBW⟩ : ∃ W1, wr.alloc (.cells #[.int .u8 32, .int .u8 10, .int .u8 48, .int .u8 57, .int .u8 45, .int .u8 120, .int .u8 47, .int .u8 46] 5) = W1 ∧ Hid (Below wr.heap.size wr W1) := ⟨_, rfl, (Below.refl _ _).alloc (Nat.le_refl _) _⟩
            rw [hW1] at hzc
            have hcv := conv_one W1 z hz
            have hbs : (⟨#[UInt8.ofNat z]⟩ : ByteArray).size = 1 := rfl
            generalize (⟨#[UInt8.ofNat z]⟩ : ByteArray) = C at *
            have HB5 := hide ((HBX.out.trans (HBW.out.mono HBX.out.size)))
            have hle : i ≤ T.size := by omega
            clear hi
            by_cases h4 : (hw : Int) % 5 = 3
            · have h4b : (((hw : Int) % 5) == 3) = true := by rw [beq_iff_eq]; exact h4
              clear h4
              go_wp2_with fail
              go_quiet (fail)
              go_wp2_with fail
              go_meet
              case rel => exact ⟨_, rfl, by simp only [ByteArray.size_append, ByteArray.size_extract]; omega, below_drewN (HB5.out.alloc HB5.out.size _) _⟩
            · have h4b : (((hw : Int) % 5) == 3) = false := by rw [beq_eq_false_iff_ne]; exact h4
              clear h4
              go_wp2_with fail
              go_quiet (fail)
              go_wp2_with fail
              go_meet
              case rel => exact ⟨_, rfl, by simp only [ByteArray.size_append, ByteArray.size_extract]; omega, below_drewN (HB5.out.alloc HB5.out.size _) _⟩
          · go_wp2_with fail
            go_meet
            case rel => exact ⟨T, rfl, by omega, HBX⟩
        case rest =>
          obtain ⟨s, rfl, hsz, HB0⟩ := hcut
          have HE0 := hide (HE.out.below HB0.out)
          have P1 := Lib.hid (fun w (h : Env w) => parse_docs s w (by omega) h)
          have R1 := Lib.hid (fun w => rparse_docs s w (by omega))
          generalize parseOf s.data.toList = p at *
          obtain ⟨lp, ap, er⟩ := p
          unfold ParseP at P1 R1
          dsimp only at P1 R1
          go_wp2_with fail
          refine (P1.out _ HE0.out.2.1).mono ?_
          rintro e w5 ⟨A5, c5, rfl, hc5, hb5⟩
          have HE5 := hide (HE0.out.below hb5)
          have HC5 := hide hc5
          have HB5 := hide (HB0.out.trans (hb5.mono HB0.out.size))
          clear hc5 hb5
          go_wp2_with fail
          refine (R1.out _).mono ?_
          rintro e w6 ⟨A6, c6, rfl, hc6, hb6⟩
          have HE6 := hide (HE5.out.below hb6)
          have HC6 := hide (HC5.out.below hb6)
          have HD6 := hide hc6
          have HB6 := hide (HB5.out.trans (hb6.mono HB5.out.size))
          clear hc6 hb6
          go_wp2_with fail
          refine (HAW.out _ HE6.out).mono ?_
          rintro e w7 ⟨rfl, hb7⟩
          have HC7 := hide (HC6.out.below hb7)
          have HD7 := hide (HD6.out.below hb7)
          have HB7 := hide (HB6.out.trans (hb7.mono HB6.out.size))
          clear hb7
          go_wp2_with fail
          refine (same_docs lp A5 A6 c5 c6 _ HC7.out HD7.out).mono ?_
          rintro e w8 ⟨rfl, hb8⟩
          have HB8 := hide (HB7.out.trans (hb8.mono HB7.out.size))
          clear hb8
          go_wp2_with fail
          go_ret
          exact ⟨rfl, HB8.out⟩
      · obtain ⟨s, hs⟩ : ∃ s, s = T := ⟨_, rfl⟩
        subst hs
        have hsz : s.size ≤ 410000 := by omega
        have HB0 := HBX
        have HE0 := hide (HE.out.below HB0.out)
        have P1 := Lib.hid (fun w (h : Env w) => parse_docs s w (by omega) h)
        have R1 := Lib.hid (fun w => rparse_docs s w (by omega))
        generalize parseOf s.data.toList = p at *
        obtain ⟨lp, ap, er⟩ := p
        unfold ParseP at P1 R1
        dsimp only at P1 R1
        go_wp2_with fail
        refine (P1.out _ HE0.out.2.1).mono ?_
        rintro e w5 ⟨A5, c5, rfl, hc5, hb5⟩
        have HE5 := hide (HE0.out.below hb5)
        have HC5 := hide hc5
        have HB5 := hide (HB0.out.trans (hb5.mono HB0.out.size))
        clear hc5 hb5
        go_wp2_with fail
        refine (R1.out _).mono ?_
        rintro e w6 ⟨A6, c6, rfl, hc6, hb6⟩
        have HE6 := hide (HE5.out.below hb6)
        have HC6 := hide (HC5.out.below hb6)
        have HD6 := hide hc6
        have HB6 := hide (HB5.out.trans (hb6.mono HB5.out.size))
        clear hc6 hb6
        go_wp2_with fail
        refine (HAW.out _ HE6.out).mono ?_
        rintro e w7 ⟨rfl, hb7⟩
        have HC7 := hide (HC6.out.below hb7)
        have HD7 := hide (HD6.out.below hb7)
        have HB7 := hide (HB6.out.trans (hb7.mono HB6.out.size))
        clear hb7
        go_wp2_with fail
        refine (same_docs lp A5 A6 c5 c6 _ HC7.out HD7.out).mono ?_
        rintro e w8 ⟨rfl, hb8⟩
        have HB8 := hide (HB7.out.trans (hb8.mono HB7.out.size))
        clear hb8
        go_wp2_with fail
        go_ret
        exact ⟨rfl, HB8.out⟩
end Go.Proofs.YtghbhchkdomfhaaGreatDoor.PgR
