/- Lists of rational numbers in memory; FewRats and few. -/
import Derived.Test.YthppojbabkljpaaGreatDoorRsY
namespace Go.Proofs.YthppojbabkljpaaGreatDoor.RsW
open Go.RowKit RnA RnW RtA RtB RpF RpH RsX RsY
/-- a number as it came: sign, numerator, denominator -/
abbrev Raw := Bool × ByteArray × ByteArray
/-- a list of numbers in memory -/
def RatsAt (w : World) (B : Nat) (A : Option Addr) (l : List Raw) : Prop :=
  l.length ≤ maxLen ∧ (0 < l.length → ∃ b off, A = some ⟨b, off, none⟩ ∧ b < B ∧ ∀ (k : Nat) (n : Bool) (a d : ByteArray), l[k]? = some (n, a, d) →
    a.size ≤ maxLen ∧ d.size ≤ maxLen ∧ w.cell? ⟨b, off + k * 3, none⟩ = some (.bool n) ∧ w.cell? ⟨b, off + k * 3 + 1, none⟩ = some (.string a) ∧ w.cell? ⟨b, off + k * 3 + 2, none⟩ = some (.string d))
theorem RatsAt.below {w w' : World} {B : Nat} {A : Option Addr} {l : List Raw} (h : RatsAt w B A l) (hb : Below B w w') : RatsAt w' B A l :=
  ⟨h.1, fun hp => by
    obtain ⟨b, off, e, hlt, hc⟩ := h.2 hp
    refine ⟨b, off, e, hlt, fun k n a d hk => ?_⟩
    obtain ⟨q1, q2, q3, q4, q5⟩ := hc k n a d hk
    exact ⟨q1, q2, (hb.cell (p := ⟨b, off + k * 3, none⟩) hlt).trans q3, (hb.cell (p := ⟨b, off + k * 3 + 1, none⟩) hlt).trans q4, (hb.cell (p := ⟨b, off + k * 3 + 2, none⟩) hlt).trans q5⟩⟩
/-- all are short enough -/
def fewL (l : List Raw) : Bool := l.all fun r => fewB r.2.1 r.2.2
theorem fewL_cons (r : Raw) (l : List Raw) : fewL (r :: l) = (fewB r.2.1 r.2.2 && fewL l) := by simp [fewL]
theorem drop_at {α : Type} {l : List α} {k : Nat} {x : α} (h : l[k]? = some x) : l.drop k = x :: l.drop (k + 1) := by
  obtain ⟨h1, h2⟩ := List.getElem?_eq_some_iff.1 h
  rw [List.drop_eq_getElem_cons h1, h2]
set_option maxHeartbeats 2000000 in
set_option maxRecDepth 100000 in
theorem fewrats_any (l : List Raw) (m : Nat) (A : Option Addr) (c : Nat) (w : World) (h : RatsAt w w.heap.size A l) (hm : m ≤ 100) :
    Calls Tryz.prog 33 #[.slice A l.length c, .int .i64 (m : Int)] w fun e w' => e = .returned (.bool (decide (l.length ≤ m) && fewL l)) ∧ Below w.heap.size w w' := by
  have hlen := h.1
  unfold maxLen at hlen
  have H := hide h
  clear h
  by_cases hgt : m < l.length
  · have hr : Hid ((decide (l.length ≤ m) && fewL l) = false) := by show _ = _; rw [decide_eq_false (by omega)]; rfl
    go_enter Tryz.func33, Tryz.ntmps33
    go_wp2_with fail
    go_ret
    exact ⟨by rw [hr.out]; rfl, Below.refl _ _⟩
  · have hr : Hid ((decide (l.length ≤ m) && fewL l) = fewL l) := by show _ = _; rw [decide_eq_true (by omega)]; rfl
    go_enter Tryz.func33, Tryz.ntmps33
    go_wp2_with fail
    go_loopw [13] (fun vi wr => ∃ (k : Nat), k ≤ l.length ∧ vi = .int .i64 k ∧ Hid (fewL l = fewL (l.drop k)) ∧ Below w.heap.size w wr) (fun vi _ => l.length - (intOf vi).toNat)
    case atStart => exact ⟨0, by omega, rfl, rfl, Below.refl _ _⟩
    case round =>
      obtain ⟨k, hk, rfl, HB, hbr⟩ := hrel
      by_cases hlt : k < l.length
      · obtain ⟨⟨n, a, d⟩, hx⟩ : ∃ r, l[k]? = some r := ⟨_, List.getElem?_eq_getElem hlt⟩
        obtain ⟨b, off, rfl, hbw, hc⟩ := (H.out.below hbr).2 (by omega)
        obtain ⟨q1, q2, c0, c1, c2⟩ := hc k n a d hx
        have hd := hide (drop_at hx)
        have HF := Lib.hid (fun w => few0_any n a d w q1 q2)
        obtain ⟨V, hV, HX, hcv, hlv⟩ := box_new wr (.bool n) (.string a) (.string d)
        have HV := hide hV
        obtain ⟨d0, d1, d2, _⟩ := HX.out
        have hbv := hbr.trans (hcv.mono hbr.size)
        clear hx hc q1 q2
        cases hf : fewB a d
        · rw [hf] at HF
          go_wp2_with fail
          refine (HF.out _).mono ?_
          rintro e w2 ⟨rfl, hb2⟩
          go_wp2_with fail
          go_ret
          exact ⟨ret_bool (by rw [hr.out, HB.out, hd.out, fewL_cons, hf]; rfl), hbv.trans (hb2.mono hbv.size)⟩
        · rw [hf] at HF
          go_wp2_with fail
          refine (HF.out _).mono ?_
          rintro e w2 ⟨rfl, hb2⟩
          have hbf := hbv.trans (hb2.mono hbv.size)
          go_wp2_with fail
          go_roundw
          case rel => exact ⟨k + 1, by omega, by go_num, by show _ = _; rw [HB.out, hd.out, fewL_cons, hf]; rfl, hbf⟩
          case measure => simp [intOf]; omega
      · go_wp2_with fail
        go_ret
        exact ⟨ret_bool (by rw [hr.out, HB.out, List.drop_eq_nil_of_le (by omega)]; rfl), hbr⟩
set_option maxHeartbeats 2000000 in
set_option maxRecDepth 100000 in
theorem few_any (l : List Raw) (A : Option Addr) (c : Nat) (w : World) (h : RatsAt w w.heap.size A l) :
    Calls Tryz.prog 19 #[.slice A l.length c] w fun e w' => e = .returned (.bool (decide (l.length ≤ 8) && fewL l)) ∧ Below w.heap.size w w' := by
  have HF := hide (fewrats_any l 8 A c w h (by decide))
  have hlen := h.1
  unfold maxLen at hlen
  generalize (decide (l.length ≤ 8) && fewL l) = b at *
  clear h
  generalize l.length = n at *
  go_enter Tryz.func19, Tryz.ntmps19
  go_wp2_with fail
  refine HF.out.mono ?_
  rintro e w2 ⟨rfl, hb2⟩
  go_wp2_with fail
  go_ret
  exact ⟨rfl, hb2⟩
end Go.Proofs.YthppojbabkljpaaGreatDoor.RsW
