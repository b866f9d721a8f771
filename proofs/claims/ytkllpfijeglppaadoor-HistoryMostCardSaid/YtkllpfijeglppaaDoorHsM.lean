/- The walk of the reference's Format. -/
import Derived.Test.YtkllpfijeglppaaDoorHsL
namespace Go.Proofs.YtkllpfijeglppaaDoor.HsM
open Go.RowKit Hs HsB HsC HsD HsF HsG HsH HsE HsI HsJ HsK HsL
theorem rlineOf_bad {r : HRow} (h : (lineOf r).2 = false) : rlineOf r = (⟨#[]⟩, false) := by
  unfold rlineOf; rw [← ok_eq, h]; rfl
theorem rlineOf_good {r : HRow} (h : (lineOf r).2 = true) : rlineOf r = ((lineOf r).1, true) := by
  unfold rlineOf; rw [← ok_eq, h, if_pos rfl, ← h]
theorem mk_add (l : List UInt8) (b : ByteArray) : (⟨l.toArray⟩ : ByteArray) ++ b = ⟨(l ++ b.data.toList).toArray⟩ := by
  apply bytes_ext
  simp [ByteArray.data_append]
set_option maxHeartbeats 2000000 in
set_option maxRecDepth 100000 in
theorem rformat_any (l : List HRow) (A : Option Addr) (c : Nat) (w : World) (h : RowsAt w w.heap.size A l) (hin : ∀ r ∈ l, RowIn r) :
    Calls Tryd.prog 16 #[.slice A l.length c] w fun e w' => e = .returned (.string ⟨(formatOf l).toArray⟩) ∧ Below w.heap.size w w' := by
  have hlen := h.1
  unfold maxLen at hlen
  have H := hide h
  clear h
  by_cases hbig : 256 < l.length
  · have hout : Hid (formatOf l = []) := by
      show formatOf l = []
      rw [formatOf, if_pos (.inl hbig)]
    go_enter Tryd.func16, Tryd.ntmps16
    go_wp2_with fail
    go_ret
    refine ⟨?_, Below.refl _ _⟩
    rw [hout.out]; rfl
  · go_enter Tryd.func16, Tryd.ntmps16
    go_wp2_with fail
    go_loopw [3, 4] (fun vs vi wr => ∃ (k : Nat), k ≤ l.length ∧ vi = .int .i64 k ∧ vs = .string ⟨(fmtText (l.take k)).toArray⟩ ∧ allLines (l.take k) = true ∧ Below w.heap.size w wr) (fun _ vi _ => l.length - (intOf vi).toNat)
    case atStart => exact ⟨0, by omega, rfl, by rfl, rfl, Below.refl _ _⟩
    case round =>
      obtain ⟨k, hk, rfl, rfl, hal, hbr⟩ := hrel
      have HAL := hide hal
      clear hal
      have htl := fmtText_le (l.take k) (fun x hx => hin x (List.mem_of_mem_take hx))
      rw [List.length_take] at htl
      have hsz := mk_size (fmtText (l.take k))
      have hsz2 : (⟨(fmtText (l.take k)).toArray⟩ : ByteArray).size ≤ 300000 := by omega
      by_cases hlt : k < l.length
      · obtain ⟨r, hr⟩ : ∃ r, l[k]? = some r := ⟨_, List.getElem?_eq_getElem hlt⟩
        obtain ⟨b, off, rfl, hbw, hc⟩ := (H.out.below hbr).2 (by omega)
        obtain ⟨c0, c1, c2, c3, c4, c5⟩ := hc k r hr
        have hrin : RowIn r := hin r (List.mem_of_getElem? hr)
        have hbadd := fun e => hide (allLines_bad hr e)
        have htk := hide (all_take_succ hr)
        have hll := lineOf_le hrin
        clear hr hc hsz
        cases hok : (lineOf r).2
        · have hbad := hbadd hok
          have hrl := hide (rlineOf_bad hok)
          clear hbadd hok
          go_wp2_with (first
            | (go_at_call 38; refine (rline_any r _ hrin).mono ?_; rw [hrl.out]; rintro e w2 ⟨rfl, hb2⟩))
          go_ret
          refine ⟨?_, hbr.trans (hb2.mono hbr.size)⟩
          rw [formatOf, if_pos (.inr (.inl hbad.out))]; rfl
        · have hrl := hide (rlineOf_good hok)
          have HOK := hide hok
          clear hbadd hok
          go_wp2_with (first
            | (go_at_call 38; refine (rline_any r _ hrin).mono ?_; rw [hrl.out]; rintro e w2 ⟨rfl, hb2⟩))
          go_roundw
          case rel =>
            refine ⟨k + 1, by omega, by go_num, ?_, ?_, hbr.trans (hb2.mono hbr.size)⟩
            · rw [htk.out, fmtText_snoc, ← mk_add]
            · rw [htk.out, allLines_snoc, HAL.out, HOK.out]; rfl
          case measure => simp [intOf]; omega
      · obtain rfl : k = l.length := by omega
        rw [List.take_length] at HAL hsz hsz2 htl ⊢
        have hfin : Hid (formatOf l = if 8192 < (fmtText l).length then [] else fmtText l) := by
          show formatOf l = _
          unfold formatOf
          rw [HAL.out]
          have : ¬ 256 < l.length := hbig
          simp [this]
        cases hlong : decide (8192 < (fmtText l).length)
        · have hl2 : ¬ 8192 < (fmtText l).length := of_decide_eq_false hlong
          clear hlong
          rw [if_neg hl2] at hfin
          clear hsz
          go_wp2_with fail
          go_ret
          refine ⟨?_, hbr⟩
          rw [hfin.out]; rfl
        · have hl2 : 8192 < (fmtText l).length := of_decide_eq_true hlong
          clear hlong
          rw [if_pos hl2] at hfin
          clear hsz
          go_wp2_with fail
          go_ret
          refine ⟨?_, hbr⟩
          rw [hfin.out]; rfl
end Go.Proofs.YtkllpfijeglppaaDoor.HsM
