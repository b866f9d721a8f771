/- The walk of the program's Format. -/
import Derived.Test.YtkllpfijeglppaaDoorHsI
namespace Go.Proofs.YtkllpfijeglppaaDoor.HsJ
open Go.RowKit Hs HsB HsC HsD HsF HsG HsH HsE HsI
theorem all_take_succ {l : List HRow} {k : Nat} {r : HRow} (h : l[k]? = some r) : l.take (k + 1) = l.take k ++ [r] := by
  rw [List.take_add_one, h]; rfl
theorem allLines_bad {l : List HRow} {k : Nat} {r : HRow} (h : l[k]? = some r) (hb : (lineOf r).2 = false) : allLines l = false := by
  unfold allLines
  rw [List.all_eq_false]
  exact ⟨r, List.mem_of_getElem? h, by simp [hb]⟩
theorem allLines_snoc (l : List HRow) (r : HRow) : allLines (l ++ [r]) = (allLines l && (lineOf r).2) := by simp [allLines]
set_option maxHeartbeats 2000000 in
set_option maxRecDepth 100000 in
theorem format_any (l : List HRow) (A : Option Addr) (c : Nat) (w : World) (h : RowsAt w w.heap.size A l) (hin : ∀ r ∈ l, RowIn r) (he : Env w) :
    Calls Tryd.prog 15 #[.slice A l.length c] w fun e w' => e = .returned (.string ⟨(formatOf l).toArray⟩) ∧ Below w.heap.size w w' := by
  have hlen := h.1
  unfold maxLen at hlen
  have H := hide h
  clear h
  by_cases hbig : 256 < l.length
  · have hout : Hid (formatOf l = []) := by
      show formatOf l = []
      rw [formatOf, if_pos (.inl hbig)]
    go_enter Tryd.func15, Tryd.ntmps15
    go_wp2_with fail
    go_ret
    refine ⟨?_, Below.refl _ _⟩
    rw [hout.out]; rfl
  · go_enter Tryd.func15, Tryd.ntmps15
    go_wp2_with fail
    go_loopw [13] (fun vi wr => ∃ k : Nat, k ≤ l.length ∧ vi = .int .i64 k ∧ allLines (l.take k) = true ∧ Lib.IsBuilder 70 5 w.heap.size w.heap.size (Lib.byteCells (fmtText (l.take k))) wr ∧ Below w.heap.size w wr) (fun vi _ => l.length - (intOf vi).toNat)
    case atStart => exact ⟨0, by omega, rfl, rfl, Lib.fresh_isBuilder _ _ w, (Below.refl _ _).alloc (Nat.le_refl _) _⟩
    case round =>
      obtain ⟨k, hk, rfl, hal, hib, hbr⟩ := hrel
      have HAL := hide hal
      clear hal
      have hszr := hbr.size
      by_cases hlt : k < l.length
      · obtain ⟨r, hr⟩ : ∃ r, l[k]? = some r := ⟨_, List.getElem?_eq_getElem hlt⟩
        obtain ⟨b, off, rfl, hbw, hc⟩ := (H.out.below hbr).2 (by omega)
        obtain ⟨c0, c1, c2, c3, c4, c5⟩ := hc k r hr
        have hd := hide hr
        have hrin : RowIn r := hin r (List.mem_of_getElem? hr)
        have hbadd := fun e => hide (allLines_bad hr e)
        have htk := hide (all_take_succ hr)
        have htl := fmtText_le (l.take k) (fun x hx => hin x (List.mem_of_mem_take hx))
        rw [List.length_take] at htl
        have hll := lineOf_le hrin
        clear hr hc
        cases hok : (lineOf r).2
        · have hbad := hbadd hok
          clear hbadd
          have HOK := hide hok
          clear hok
          go_wp2_with (first
            | (go_at_call 34; refine (line_any r _ hrin (he.below (hbr.alloc hbr.size _))).mono ?_; rintro e w2 ⟨rfl, hb2⟩; rw [HOK.out]))
          go_ret
          refine ⟨?_, (hbr.alloc hbr.size _).trans (hb2.mono (by simp; omega))⟩
          rw [formatOf, if_pos (.inr (.inl hbad.out))]; rfl
        · clear hbadd
          have HOK := hide hok
          clear hok
          have hib1 := builder_below hib ((Below.refl wr.heap.size wr).alloc (Nat.le_refl _) (.cells #[.int .i64 r.day, .int .i64 r.kind, .int .i64 r.src, .int .i64 r.dst, .int .i64 r.amount, .int .i64 r.worth] 39))
          have HIB := Lib.hid hib1
          clear hib hib1
          go_wp2_with (first
            | (go_at_call 34; refine (line_any r _ hrin (he.below (hbr.alloc hbr.size _))).mono ?_; rintro e w2 ⟨rfl, hb2⟩; rw [HOK.out])
            | (go_at_call 35; refine (writeString_any w.heap.size w.heap.size _ (lineOf r).1 _ (builder_below HIB.out hb2) (by rw [Lib.byteCells_length]; omega) (by have := hb2.size; simp at this; omega)).mono ?_; rintro e w3 ⟨rfl, hib3, hb3⟩))
          go_roundw
          case rel =>
            refine ⟨k + 1, by omega, by go_num, ?_, .inr ?_, ((hbr.alloc hbr.size _).trans (hb2.mono (by simp; omega))).trans hb3⟩
            · rw [htk.out, allLines_snoc, HAL.out, HOK.out]; rfl
            · rw [htk.out, fmtText_snoc, Lib.byteCells_append]; exact hib3
          case measure => simp [intOf]; omega
      · obtain rfl : k = l.length := by omega
        rw [List.take_length] at hib
        have hal2 : Hid (allLines l = true) := by
          have := HAL.out
          rw [List.take_length] at this
          exact this
        have hlb := Lib.byteCells_length (fmtText l)
        cases hlong : decide (8192 < (fmtText l).length)
        · have hl2 : ¬ 8192 < (fmtText l).length := of_decide_eq_false hlong
          clear hlong
          go_wp2_with (first
            | (go_at_call 36; refine (Tryd.Builder_Len _ _ _ _ hib).mono ?_; rintro e w2 ⟨rfl, rfl⟩; rw [hlb])
            | (go_at_call 37; refine (Tryd.Builder_String_any _ _ _ _ hib hszr).mono ?_; rintro e w3 ⟨rfl, hb3⟩))
          go_ret
          refine ⟨?_, hbr.trans hb3⟩
          rw [formatOf, if_neg (by rw [hal2.out]; simp; omega)]; rfl
        · have hl2 : 8192 < (fmtText l).length := of_decide_eq_true hlong
          clear hlong
          go_wp2_with (first
            | (go_at_call 36; refine (Tryd.Builder_Len _ _ _ _ hib).mono ?_; rintro e w2 ⟨rfl, rfl⟩; rw [hlb]))
          go_ret
          refine ⟨?_, hbr⟩
          rw [formatOf, if_pos (.inr (.inr hl2))]; rfl
end Go.Proofs.YtkllpfijeglppaaDoor.HsJ
