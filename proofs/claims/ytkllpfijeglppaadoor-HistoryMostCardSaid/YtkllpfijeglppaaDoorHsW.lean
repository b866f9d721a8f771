/- The walk of awake. -/
import Derived.Test.YtkllpfijeglppaaDoorHsV
namespace Go.Proofs.YtkllpfijeglppaaDoor.HsW
open Go.RowKit Hs HsB HsC HsD HsF HsG HsH HsE HsI HsJ HsK HsL HsM HsN HsO HsP HsQ HsR HsS HsT HsU HsV
def exT : ByteArray := ⟨#[51, 32, 116, 114, 97, 110, 115, 102, 101, 114, 32, 48, 32, 49, 32, 53, 48, 48, 32, 57, 48, 48, 10]⟩
def exR : HRow := ⟨3, 3, 0, 1, 500, 900⟩
theorem ex_parse : parseOf exT.data.toList = ([exR], 0, 0) := by kernel_rfl
theorem ex_money0 : money exR 0 = 500 := by simp [money, flow, exR, wrap64]
theorem ex_money1 : money exR 1 = -500 := by simp [money, flow, exR, wrap64]
theorem ex_line : (lineOf exR).1 = exT := by
  apply bytes_ext
  unfold lineOf wordsOf exR
  simp [outOf, tx, Lib.itoa, Lib.decDigits, Lib.join, key3, exT]
theorem ex_ok : (lineOf exR).2 = true := by
  rw [ok_eq]
  unfold okB
  simp [five, exR, fits_iff]
theorem ex_format : (⟨(formatOf [exR]).toArray⟩ : ByteArray) = exT := by
  have h1 : fmtText [exR] = exT.data.toList := by simp [fmtText, ex_line]
  have h2 : allLines [exR] = true := by simp [allLines, ex_ok]
  unfold formatOf
  rw [h1, h2, if_neg (by decide)]
theorem ex_in : ∀ r ∈ [exR], RowIn r := by
  intro r hr
  obtain rfl := List.mem_singleton.1 hr
  simp [RowIn, In64, exR]
set_option maxHeartbeats 2000000 in
set_option maxRecDepth 100000 in
theorem awake_any (w : World) (he : Env w) :
    Calls Tryd.prog 13 #[] w fun e w' => e = .returned (.bool true) ∧ Below w.heap.size w w' := by
  go_enter Tryd.func13, Tryd.ntmps13
  go_wp2_with fail
  have hp := parse_any exT w (by decide) he
  rw [ex_parse] at hp
  refine hp.mono ?_
  rintro e w1 ⟨v1, rfl, hown1, hb1⟩
  obtain ⟨A, c, rfl⟩ := own_slice hown1
  have hr := rows_of_own hown1 (own_len hown1)
  obtain ⟨b, off, rfl, hbw, hc⟩ := hr.2 (by decide)
  obtain ⟨c0, c1, c2, c3, c4, c5⟩ := hc 0 exR rfl
  have HR := Lib.hid hr
  clear hr hc hp hown1
  simp only [Nat.zero_mul, Nat.add_zero, exR] at c0 c1 c2 c3 c4 c5
  have M0 : Hid (∀ W, Calls Tryd.prog 20 #[.agg #[.int .i64 3, .int .i64 3, .int .i64 0, .int .i64 1, .int .i64 500, .int .i64 900], .int .i64 0] W fun e w' => e = .returned (.int .i64 500) ∧ W.alloc (.cells #[.int .i64 3, .int .i64 3, .int .i64 0, .int .i64 1, .int .i64 500, .int .i64 900] 39) = w') := fun W => by
    have := money_any exR 0 W
    rw [ex_money0] at this
    exact this
  have M1 : Hid (∀ W, Calls Tryd.prog 20 #[.agg #[.int .i64 3, .int .i64 3, .int .i64 0, .int .i64 1, .int .i64 500, .int .i64 900], .int .i64 1] W fun e w' => e = .returned (.int .i64 (-500)) ∧ W.alloc (.cells #[.int .i64 3, .int .i64 3, .int .i64 0, .int .i64 1, .int .i64 500, .int .i64 900] 39) = w') := fun W => by
    have := money_any exR 1 W
    rw [ex_money1] at this
    exact this
  have hbb : Below w.heap.size w ((w1.alloc (.cells #[.int .i64 3, .int .i64 3, .int .i64 0, .int .i64 1, .int .i64 500, .int .i64 900] 39)).alloc (.cells #[.int .i64 3, .int .i64 3, .int .i64 0, .int .i64 1, .int .i64 500, .int .i64 900] 39)) := (hb1.alloc hb1.size _).alloc (by have := hb1.size; simp; omega) _
  have F : Hid (Calls Tryd.prog 15 #[.slice (some ⟨b, off, none⟩) 1 c] ((w1.alloc (.cells #[.int .i64 3, .int .i64 3, .int .i64 0, .int .i64 1, .int .i64 500, .int .i64 900] 39)).alloc (.cells #[.int .i64 3, .int .i64 3, .int .i64 0, .int .i64 1, .int .i64 500, .int .i64 900] 39)) fun e w' => e = .returned (.string exT) ∧ Below w.heap.size w w') := by
    have hr2 : RowsAt ((w1.alloc (.cells #[.int .i64 3, .int .i64 3, .int .i64 0, .int .i64 1, .int .i64 500, .int .i64 900] 39)).alloc (.cells #[.int .i64 3, .int .i64 3, .int .i64 0, .int .i64 1, .int .i64 500, .int .i64 900] 39)) ((w1.alloc (.cells #[.int .i64 3, .int .i64 3, .int .i64 0, .int .i64 1, .int .i64 500, .int .i64 900] 39)).alloc (.cells #[.int .i64 3, .int .i64 3, .int .i64 0, .int .i64 1, .int .i64 500, .int .i64 900] 39)).heap.size (some ⟨b, off, none⟩) [exR] :=
      (HR.out.below (((Below.refl _ _).alloc (Nat.le_refl _) _).alloc (by simp) _)).mono (by simp; omega)
    refine (format_any [exR] _ c _ hr2 ex_in (he.below hbb)).mono ?_
    rintro e w3 ⟨rfl, hb3⟩
    exact ⟨by rw [ex_format], hbb.trans (hb3.mono (by have := hb1.size; simp; omega))⟩
  go_wp2_with (first
    | (go_at_call 20; (with_reducible refine (M0.out _).mono ?_); rintro e w2 ⟨rfl, rfl⟩)
    | (go_at_call 20; (with_reducible refine (M1.out _).mono ?_); rintro e w2 ⟨rfl, rfl⟩)
    | (go_at_call 15; (with_reducible refine F.out.mono ?_); unfold exT; rintro e w2 ⟨rfl, hb2⟩))
  go_ret
  exact ⟨rfl, hb2⟩
end Go.Proofs.YtkllpfijeglppaaDoor.HsW
