/- The walk of the law ProofMany. -/
import Derived.Test.YtghbhchkdomfhaaGreatDoorPgQ
import Derived.Test.YtghbhchkdomfhaaGreatDoorPgT
import Derived.Lib.SlBytesRow
namespace Go.Proofs.YtghbhchkdomfhaaGreatDoor.PgU
open Go.RowKit Wd RoL RoA RnB RnW RnQ RnR RtA RpE RpF PqB PfS PfB PfA PfD PfE PfG PfH PfI PfJ PfL PfN PfO PfQ PfU PgG PgH PgP PgQ PgT
theorem conv_two (w : World) (y z : Nat) (hy : y < 256) (hz : z < 256) : (convert 51 9 (.slice (some ⟨w.heap.size, 0, none⟩) 2 2)).run Tryz.prog (w.alloc (.cells #[.int .u8 (y : Int), .int .u8 (z : Int)] 5)) = .ok (.string ⟨#[UInt8.ofNat y, UInt8.ofNat z]⟩) (w.alloc (.cells #[.int .u8 (y : Int), .int .u8 (z : Int)] 5)) := by
  refine Lib.run_convert_whole (P := Tryz.prog) _ 51 5 9 Tryz.underlying51 Tryz.underlying5 Tryz.underlying9 w.heap.size 0 ⟨#[UInt8.ofNat y, UInt8.ofNat z]⟩ (fun k hk => ?_) 2
  have h1 : (⟨#[UInt8.ofNat y, UInt8.ofNat z]⟩ : ByteArray).size = 2 := rfl
  rw [World.cell?_alloc_new]
  rcases (by omega : k = 0 ∨ k = 1) with rfl | rfl
  · show some (Value.int .u8 (y : Int)) = some (.int .u8 ((UInt8.ofNat y).toNat : Int))
    rw [UInt8.toNat_ofNat', Nat.mod_eq_of_lt (by omega)]
  · show some (Value.int .u8 (z : Int)) = some (.int .u8 ((UInt8.ofNat z).toNat : Int))
    rw [UInt8.toNat_ofNat', Nat.mod_eq_of_lt (by omega)]
theorem one_fmt {i : Nat} (h : i < 70) : fmtD [manyD i] = (textD [manyD i], 0) := by
  have hg := many_good h
  have := PfV.text_short [manyD i] (fun d hd => by rw [List.mem_singleton.1 hd]; exact hg)
  simp only [List.length_singleton] at this
  exact PfV.fmt_text (fun d hd => by rw [List.mem_singleton.1 hd]; exact hg) (by simp) (by simp) (by omega) (by omega)
theorem text_add (i : Nat) : st (textD (manyL i)) ++ st (textD [manyD i]) = st (textD (manyL (i + 1))) := by
  apply ext_bytes
  rw [PfP.app_data, many_succ, textD_snoc]
  show textD (manyL i) ++ textD [manyD i] = textD (manyL i) ++ docL (manyD i)
  simp [textD]
/-- the new document -/
theorem many_new (w : World) (i : Nat) (I : ByteArray) (hI : nid i = I) : ∃ V, w.alloc (.cells #[.string I, .int .i64 0, .int .i64 0, .string ⟨#[69, 85, 82]⟩, .bool false, .string ⟨#[]⟩, .string ⟨#[]⟩, .int .i64 0, .int .i64 0, .bool false, .string ⟨#[]⟩, .string ⟨#[]⟩, .int .i64 0, .int .i64 (-1)] 27) = V ∧ Hid (BlkT V w.heap.size 27 (manyD i).vals) ∧ Hid (Below w.heap.size w V) ∧ V.heap.size = w.heap.size + 1 := by
  subst hI
  exact ⟨_, rfl, heap_alloc_new w _, (Below.refl _ _).alloc (Nat.le_refl _) _, by simp⟩
theorem one_docs {w : World} {b : Nat} {T : TypeId} {d : Dc} (h : BlkT w b T d.vals) : DocsAt w (some ⟨b, 0, none⟩) [d] := by
  refine ⟨by unfold maxLen; simp, fun _ => ⟨b, 0, rfl, h.lt, fun k x hk j v hv => ?_⟩⟩
  match k, hk with
  | 0, hk =>
    simp only [List.getElem?_cons_zero, Option.some.injEq] at hk
    subst hk
    rw [show 0 + 0 * 14 + j = j by omega]
    exact h.cell hv
  | k + 1, hk => simp at hk
theorem DV_many (i : Nat) : DV (manyL (i + 1)) = DV (manyL i) ++ (manyD i).vals := by rw [many_succ, DV_snoc]
theorem many_end {k : Nat} (hk : k ≤ 70) : (64 < k → fmtD (manyL k) = ([], 2) ∧ parseOf (textD (manyL k)) = ([], 385, 2)) ∧ (k ≤ 64 → fmtD (manyL k) = (textD (manyL k), 0) ∧ parseOf (textD (manyL k)) = (manyL k, 0, 0)) :=
  ⟨fun h => many_more h hk, fun h => many_few h⟩
set_option maxHeartbeats 16000000 in
set_option maxRecDepth 100000 in
theorem many_law (x0 : Int) (w : World) (hx0 : 0 ≤ x0 ∧ x0 ≤ 255) (he : EnvT w) :
    Calls Tryz.prog 10 #[.int .u8 x0] w fun e w' => e = .returned (.bool true) ∧ Below w.heap.size w w' := by
  obtain ⟨a1, a2⟩ := hx0
  obtain ⟨n, rfl⟩ := Int.eq_ofNat_of_zero_le a1
  obtain ⟨i0, hi, hz0, hz1, hz2⟩ := info_parts pr_info
  have HAW := Lib.hid (fun w (h : EnvT w) => awake_docs w h)
  have HE := hide he
  obtain ⟨k, hk⟩ : ∃ k, 50 + n % 20 = k := ⟨_, rfl⟩
  have E5 := hide (show ((50 : Int) + (n : Int) % 20) = (k : Int) by omega)
  have hk2 : k < 70 := by omega
  have HEND := Lib.hid (many_end (k := k) (by omega))
  have HTX := Lib.hid (fun i (h : i ≤ 70) => (many_text i h).1)
  clear hk a1 he
  go_enter Tryz.func10, Tryz.ntmps10
  go_wp2_with fail
  go_loopw [3, 4, 5, 6, 7, 8] (fun vl vt vi _ _ _ wr => ∃ (i : Nat) (A' : Option Addr) (c' : Nat), i ≤ k ∧ vl = .slice A' i c' ∧ vt = .string (st (textD (manyL i))) ∧ vi = .int .i64 i ∧ Hid (wr.ownsRow w.heap.size 27 14 (.slice A' i c') i (DV (manyL i))) ∧ Hid (Below w.heap.size w wr)) (fun _ _ vi _ _ _ _ => k - (intOf vi).toNat)
  case atStart => exact ⟨0, none, 0, by omega, rfl, rfl, rfl, World.ownsRow_nil _ _ _ _, Below.refl _ _⟩
  case round =>
    obtain ⟨i, A', c', hik, rfl, rfl, rfl, HO, HB⟩ := hrel
    have e5 := E5.out
    by_cases hlt : i < k
    · have hsz : (st (textD (manyL i))).size ≤ 5000 := by rw [st_size, HTX.out i (by omega)]; omega
      have HT := hide (text_add i)
      have HFM := hide (one_fmt (i := i) (by omega))
      have hs1 : (st (textD [manyD i])).size ≤ 100 := by
        have h1 := (many_len i (by omega)).1
        rw [st_size]
        show (docL (manyD i) ++ []).length ≤ 100
        rw [List.append_nil, h1]; omega
      have HF := Lib.hid (fun A c w' h he => format_docs [manyD i] A c w' h (fun x hx => by rw [List.mem_singleton.1 hx]; exact good_wr (many_good (by omega))) he)
      rw [HFM.out] at HF
      unfold FmtP at HF
      dsimp only at HF
      change Hid (∀ A c w' (h : DocsAt w' A [manyD i]) (he : EnvT w'), Calls _ _ #[.slice A 1 c] w' _) at HF
      have hy : 97 + i / 26 < 256 := by omega
      have hz : 97 + i % 26 < 256 := by omega
      have hcv := conv_two wr (97 + i / 26) (97 + i % 26) hy hz
      obtain ⟨W1, hW1, HBW⟩ : ∃ W1, wr.alloc (.cells #[.int .u8 ((97 + i / 26 : Nat) : Int), .int .u8 ((97 + i % 26 : Nat) : Int)] 5) = W1 ∧ Hid (Below wr.heap.size wr W1) := ⟨_, rfl, (Below.refl _ _).alloc (Nat.le_refl _) _⟩
      rw [hW1] at hcv
      obtain ⟨I, hI⟩ : ∃ I, nid i = I := ⟨_, rfl⟩
      have hIC : (⟨#[110]⟩ : ByteArray) ++ ⟨#[UInt8.ofNat (97 + i / 26), UInt8.ofNat (97 + i % 26)]⟩ = I := by rw [← hI]; rfl
      obtain ⟨V, hV, HX, HBV, hsV⟩ := many_new W1 i I hI
      have hvals : (manyD i).vals = [.string I, .int .i64 0, .int .i64 0, .string ⟨#[69, 85, 82]⟩, .bool false, .string ⟨#[]⟩, .string ⟨#[]⟩, .int .i64 0, .int .i64 0, .bool false, .string ⟨#[]⟩, .string ⟨#[]⟩, .int .i64 0, .int .i64 (-1)] := by rw [← hI]; rfl
      have hbs : (⟨#[UInt8.ofNat (97 + i / 26), UInt8.ofNat (97 + i % 26)]⟩ : ByteArray).size = 2 := rfl
      generalize (⟨#[UInt8.ofNat (97 + i / 26), UInt8.ofNat (97 + i % 26)]⟩ : ByteArray) = C at *
      rw [show ((97 + i / 26 : Nat) : Int) = 97 + (i : Int) / 26 by omega, show ((97 + i % 26 : Nat) : Int) = 97 + (i : Int) % 26 by omega] at hW1
      have HVL := hide hvals
      obtain ⟨b0, b1, b2, b3, b4, b5, b6, b7, b8, b9, b10, b11, b12, b13⟩ := doc_at HX.out
      have HWV := hide (HBW.out.trans (HBV.out.mono HBW.out.size))
      obtain ⟨V2, hV2, HX2, HBV3, hsV2⟩ := doc_new V (manyD i)
      have HW2 := hide (HWV.out.trans (HBV3.out.mono HWV.out.size))
      have HE2 := hide (HE.out.below (HB.out.trans (HW2.out.mono HB.out.size)))
      have HD2 := hide (one_docs HX2.out)
      have hTs : (st (textD (manyL i))).size + (st (textD [manyD i])).size ≤ 6000 := by omega
      clear hI hvals hy hz hsV hsV2 e5
      have e5b : (i : Int) < 50 + (n : Int) % 20 := by have := E5.out; omega
      generalize st (textD (manyL i)) = T at *
      generalize st (textD [manyD i]) = S1 at *
      go_wp2_with fail
      refine (HF.out _ _ _ HD2.out HE2.out).mono ?_
      rintro e w3 ⟨rfl, hb3⟩
      have HV3 := hide (HBV3.out.trans (hb3.mono HBV3.out.size))
      have HX3 := hide (HX.out.below HV3.out)
      have HW3 := hide (HW2.out.trans (hb3.mono HW2.out.size))
      clear hb3 hV2 hV hW1 b0 b1 b2 b3 b4 b5 b6 b7 b8 b9 b10 b11 b12 b13
      obtain ⟨b0, b1, b2, b3, b4, b5, b6, b7, b8, b9, b10, b11, b12, b13⟩ := doc_at HX3.out
      obtain ⟨V4, hV4, HX4, HBV4, hsV4⟩ := doc_new w3 (manyD i)
      have hrd : Reads V4 (w3.heap.size + 1) 14 (some ⟨w3.heap.size, 0, none⟩) 1 (manyD i).vals := by rw [← hV4]; exact reads_new w3 (manyD i).vals 27 rfl
      have HRD := hide hrd
      have HW4 := hide (HW3.out.trans (HBV4.out.mono HW3.out.size))
      have HO4 := hide (own_below HO.out HW4.out)
      have HB4 := hide (HB.out.trans (HW4.out.mono HB.out.size))
      have hs4 := HB4.out.size
      clear hrd hsV4
      go_wp2_with (first
        | (at_builtin
           refine wpList_append_any _ rfl (.tmp 45) (.tmp 47) 29 rfl w.heap.size 27 i0 _ 14 160 Tryz.underlying29 hi hz0 hz1 hz2 rfl (by decide) _ _ _ rfl HO4.out _ _ 1 1 _ rfl HRD.out (DV_one _) ?c3 ?c4 ?c5 ?_
           case c3 => unfold maxLen; omega
           case c4 => omega
           case c5 => omega
           intro v5 w5 hown5 hg5 hob5))
      obtain ⟨A5, c5, rfl⟩ := PfJ.own_slice hown5
      rw [← DV_many] at hown5
      go_roundw
      case rel => exact ⟨i + 1, A5, c5, by omega, rfl, by rw [HT.out], by go_num, hown5, HB4.out.grown hg5 (by omega) (fun g hg => by have := (HO4.out.lt g hg).1; omega)⟩
      case measure => simp [intOf]; omega
    · have e5b : ¬ (i : Int) < 50 + (n : Int) % 20 := by have := E5.out; omega
      obtain rfl : i = k := by omega
      have HOD := hide (own_docs (l := manyL i) (by rw [many_length]; exact HO.out) (by rw [many_length]; unfold maxLen; omega))
      have HE9 := hide (HE.out.below HB.out)
      have hsz : (st (textD (manyL i))).size ≤ 5000 := by rw [st_size, HTX.out i (by omega)]; omega
      have HF := Lib.hid (format_docs (manyL i) A' c' wr HOD.out (fun x hx => good_wr (many_all (by omega) x hx)) HE9.out)
      have HP := Lib.hid (fun w3 (hb : Below wr.heap.size wr w3) => parse_docs (st (textD (manyL i))) w3 (by omega) (HE9.out.below hb).2.1)
      have HSD := Lib.hid (fun A5 c5 w3 h h' => same_docs (manyL i) A' A5 c' c5 w3 h h')
      rw [many_length] at HF HSD
      rw [show (st (textD (manyL i))).data.toList = textD (manyL i) from rfl] at HP
      have hlm := many_length i
      clear e5 HTX HO
      by_cases h64 : 64 < i
      · obtain ⟨q1, q2⟩ := HEND.out.1 h64
        rw [q1] at HF
        rw [q2] at HP
        unfold FmtP at HF
        unfold ParseP at HP
        dsimp only at HF HP
        generalize st [] = E0 at *
        generalize st (textD (manyL i)) = T at *
        clear q1 q2 HEND HSD hlm
        go_wp2_with fail
        refine HF.out.mono ?_
        rintro e w3 ⟨rfl, hb3⟩
        have HW3 := hide hb3
        clear hb3
        go_wp2_with fail
        refine (HP.out _ HW3.out).mono ?_
        rintro e w4 ⟨A4, c4, rfl, _, hb4⟩
        have HW4 := hide (HW3.out.trans (hb4.mono HW3.out.size))
        have HE4 := hide (HE9.out.below HW4.out)
        clear hb4
        go_wp2_with fail
        refine (HAW.out _ HE4.out).mono ?_
        rintro e w5 ⟨rfl, hb5⟩
        have HW5 := hide (HW4.out.trans (hb5.mono HW4.out.size))
        clear hb5
        go_wp2_with fail
        go_ret
        exact ⟨rfl, HB.out.trans (HW5.out.mono HB.out.size)⟩
      · obtain ⟨q1, q2⟩ := HEND.out.2 (by omega)
        rw [q1] at HF
        rw [q2] at HP
        unfold FmtP at HF
        unfold ParseP at HP
        dsimp only at HF HP
        rw [hlm] at HP
        generalize st (textD (manyL i)) = T at *
        clear q1 q2 HEND hlm
        go_wp2_with fail
        refine HF.out.mono ?_
        rintro e w3 ⟨rfl, hb3⟩
        have HW3 := hide hb3
        clear hb3
        go_wp2_with fail
        refine (HP.out _ HW3.out).mono ?_
        rintro e w4 ⟨A4, c4, rfl, hd4, hb4⟩
        have HD4 := hide hd4
        have HW4 := hide (HW3.out.trans (hb4.mono HW3.out.size))
        have HE4 := hide (HE9.out.below HW4.out)
        clear hb4 hd4
        go_wp2_with fail
        refine (HAW.out _ HE4.out).mono ?_
        rintro e w5 ⟨rfl, hb5⟩
        have HW5 := hide (HW4.out.trans (hb5.mono HW4.out.size))
        have HD5 := hide (HD4.out.below hb5)
        have HO5 := hide (HOD.out.below HW5.out)
        clear hb5
        go_wp2_with fail
        refine (HSD.out _ _ _ HO5.out HD5.out).mono ?_
        rintro e w6 ⟨rfl, hb6⟩
        have HW6 := hide (HW5.out.trans (hb6.mono HW5.out.size))
        clear hb6
        go_wp2_with fail
        go_ret
        exact ⟨rfl, HB.out.trans (HW6.out.mono HB.out.size)⟩
end Go.Proofs.YtghbhchkdomfhaaGreatDoor.PgU
