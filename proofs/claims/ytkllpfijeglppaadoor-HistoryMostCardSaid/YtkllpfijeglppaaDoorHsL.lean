/- The walk of the reference's line. -/
import Derived.Test.YtkllpfijeglppaaDoorHsK
import Derived.Test.YtkllpfijeglppaaDoorQin
namespace Go.Proofs.YtkllpfijeglppaaDoor.HsL
open Go.RowKit Hs HsB HsC HsD HsF HsG HsH HsE HsI HsK
theorem nDigits_le : ∀ (k u : Nat), Lib.nDigits u ≤ k + 1 ↔ u < 10 ^ (k + 1)
  | 0, u => by
    by_cases h : u < 10
    · rw [Lib.nDigits_small h]; simp; omega
    · rw [Lib.nDigits_big h]; have := Lib.nDigits_pos (u / 10); simp; omega
  | k + 1, u => by
    by_cases h : u < 10
    · rw [Lib.nDigits_small h]
      have : 10 ≤ 10 ^ (k + 1 + 1) := by
        have : 1 ≤ 10 ^ (k + 1) := Nat.one_le_pow _ _ (by omega)
        rw [Nat.pow_succ]; omega
      constructor <;> intro _ <;> omega
    · have ih := nDigits_le k (u / 10)
      rw [Lib.nDigits_big h, Nat.pow_succ 10 (k + 1)]
      constructor
      · intro h1
        have h2 := ih.1 (by omega)
        have := Nat.div_lt_iff_lt_mul (x := u) (y := 10 ^ (k + 1)) (show 0 < 10 by omega)
        exact this.1 h2
      · intro h1
        have := Nat.div_lt_iff_lt_mul (x := u) (y := 10 ^ (k + 1)) (show 0 < 10 by omega)
        have h2 := ih.2 (this.2 h1)
        omega
theorem lt_pow_of_digits (u : Nat) : (Lib.decDigits u).length ≤ 18 ↔ u ≤ 999999999999999999 := by
  rw [Lib.decDigits_length, nDigits_le 17 u]
  omega
theorem fits_iff (n : Int) : fits n = (decide (0 ≤ n) && decide (n ≤ 999999999999999999)) := by
  unfold fits
  by_cases h : 0 ≤ n
  · obtain ⟨u, rfl⟩ := Int.eq_ofNat_of_zero_le h
    have h1 := lt_pow_of_digits u
    rw [tx_size, Lib.itoa_nonneg]
    simp only [decide_eq_true h, Bool.true_and]
    rw [Bool.eq_iff_iff]
    simp only [decide_eq_true_eq]
    omega
  · simp [h]
def five (r : HRow) : List Int := [r.day, r.src, r.dst, r.amount, r.worth]
/-- does a row have a line? -/
def okB (r : HRow) : Bool := (five r).all fits && ((r.kind == 3) || ((r.kind == 1 || r.kind == 2) && r.worth == 0))
theorem ok_eq (r : HRow) : (lineOf r).2 = okB r := by
  show ((wordsOf r).2.2 && (wordsOf r).2.1.all fits) = okB r
  unfold okB wordsOf five
  have h0 : fits 0 = true := by rw [fits_iff]; decide
  by_cases h1 : r.kind = 1
  · by_cases hw : r.worth = 0
    · simp [h1, hw, h0]
    · have hwb : (r.worth == 0) = false := by simpa using hw
      simp [h1, hwb]
  · by_cases h2 : r.kind = 2
    · by_cases hw : r.worth = 0
      · simp [h2, hw, h0]
      · have hwb : (r.worth == 0) = false := by simpa using hw
        simp [h2, hwb]
    · by_cases h3 : r.kind = 3
      · simp [h3]
      · simp [h1, h2, h3]
/-- what the reference's line returns -/
def rlineOf (r : HRow) : ByteArray × Bool := if okB r = true then lineOf r else (⟨#[]⟩, false)
theorem five_get {r : HRow} {k : Nat} {n : Int} (h : (five r)[k]? = some n) (hf : fits n = false) : okB r = false := by
  unfold okB
  rw [Bool.and_eq_false_iff]
  left
  rw [List.all_eq_false]
  exact ⟨n, List.mem_of_getElem? h, by simp [hf]⟩
theorem all_of {r : HRow} (h : ∀ n ∈ five r, fits n = true) : (five r).all fits = true := by
  rw [List.all_eq_true]; exact h
theorem five_cell (r : HRow) (w : World) (o : Obj) {k : Nat} {n : Int} (h : (five r)[k]? = some n) :
    ((w.alloc o).alloc (.cells #[.int .i64 r.day, .int .i64 r.src, .int .i64 r.dst, .int .i64 r.amount, .int .i64 r.worth] 2)).cell? ⟨w.heap.size + 1, k, none⟩ = some (.int .i64 n) := by
  have h1 := World.cell?_alloc_new (w.alloc o) #[.int .i64 r.day, .int .i64 r.src, .int .i64 r.dst, .int .i64 r.amount, .int .i64 r.worth] 2 k
  have e : (w.alloc o).heap.size = w.heap.size + 1 := by simp
  rw [e] at h1
  rw [h1]
  have : (five r).map (Value.int .i64) = [.int .i64 r.day, .int .i64 r.src, .int .i64 r.dst, .int .i64 r.amount, .int .i64 r.worth] := rfl
  have h2 : ((five r).map (Value.int .i64))[k]? = some (.int .i64 n) := by rw [List.getElem?_map, h]; rfl
  rw [this] at h2
  simpa using h2
/-- the text of a line that has no sixth word -/
def text5 (key : ByteArray) (r : HRow) : ByteArray := tx r.day ++ ⟨#[32]⟩ ++ key ++ ⟨#[32]⟩ ++ tx r.src ++ ⟨#[32]⟩ ++ tx r.dst ++ ⟨#[32]⟩ ++ tx r.amount
theorem bytes_ext {a b : ByteArray} (h : a.data.toList = b.data.toList) : a = b := by
  apply ByteArray.ext
  exact Array.toList_inj.1 h
theorem line_text1 {r : HRow} (h : r.kind = 1) : (lineOf r).1 = text5 key1 r ++ ⟨#[10]⟩ := by
  apply bytes_ext
  unfold lineOf wordsOf text5
  rw [if_pos h]
  simp [outOf, Lib.join, ByteArray.data_append]
theorem line_text2 {r : HRow} (h : r.kind = 2) : (lineOf r).1 = text5 key2 r ++ ⟨#[10]⟩ := by
  apply bytes_ext
  unfold lineOf wordsOf text5
  rw [if_neg (by omega), if_pos h]
  simp [outOf, Lib.join, ByteArray.data_append]
theorem line_text3 {r : HRow} (h : r.kind = 3) : (lineOf r).1 = text5 key3 r ++ ⟨#[32]⟩ ++ tx r.worth ++ ⟨#[10]⟩ := by
  apply bytes_ext
  unfold lineOf wordsOf text5
  rw [if_neg (by omega), if_neg (by omega), if_pos h]
  simp [outOf, Lib.join, ByteArray.data_append]
def base (r : HRow) (w : World) : World := (w.alloc (.cells #[.int .i64 r.day, .int .i64 r.kind, .int .i64 r.src, .int .i64 r.dst, .int .i64 r.amount, .int .i64 r.worth] 39)).alloc (.cells #[.int .i64 r.day, .int .i64 r.src, .int .i64 r.dst, .int .i64 r.amount, .int .i64 r.worth] 2)
theorem base_size (r : HRow) (w : World) : (base r w).heap.size = w.heap.size + 2 := by simp [base]
theorem base_below (r : HRow) (w : World) : Below w.heap.size w (base r w) := ((Below.refl _ _).alloc (Nat.le_refl _) _).alloc (by simp) _
theorem in_cell (r : HRow) (w : World) (x : Qin.In (Below (base r w).heap.size (base r w))) {k : Nat} {n : Int} (h : (five r)[k]? = some n) : x.val.cell? ⟨w.heap.size + 1, k, none⟩ = some (.int .i64 n) :=
  (x.ok.cell (p := ⟨w.heap.size + 1, k, none⟩) (by rw [base_size]; show w.heap.size + 1 < w.heap.size + 2; omega)).trans (five_cell r w _ h)
theorem rdigits_in (W : World) (n : Int) (x : Qin.In (Below W.heap.size W)) (h : fits n = true) : Calls Tryd.prog 54 #[.int .i64 n] x.val fun e w' => e = .returned (.string (tx n)) ∧ ∃ y : Qin.In (Below W.heap.size W), w' = y.val := by
  rw [fits_iff] at h
  simp at h
  obtain ⟨u, rfl⟩ := Int.eq_ofNat_of_zero_le h.1
  refine Qin.call ((rdigits_any u _ (by omega)).mono ?_)
  rintro e w' ⟨rfl, hb⟩
  exact ⟨rfl, x.ok.trans (hb.mono x.ok.size)⟩
theorem base_kind (r : HRow) (w : World) : (base r w).cell? ⟨w.heap.size, 1, none⟩ = some (.int .i64 r.kind) := by
  unfold base
  rw [World.cell?_alloc_lt _ _ _ (by simp)]
  rw [World.cell?_alloc_new]; rfl
set_option maxHeartbeats 4000000 in
set_option maxRecDepth 100000 in
theorem rline_any (r : HRow) (w : World) (hin : RowIn r) :
    Calls Tryd.prog 38 #[.agg #[.int .i64 r.day, .int .i64 r.kind, .int .i64 r.src, .int .i64 r.dst, .int .i64 r.amount, .int .i64 r.worth]] w
      fun e w' => e = .returned (.tuple #[.string (rlineOf r).1, .bool (rlineOf r).2]) ∧ Below w.heap.size w w' := by
  have hb0 := base_below r w
  obtain ⟨d, kd, s, t, a, x⟩ := r
  dsimp only
  go_enter Tryd.func38, Tryd.ntmps38
  go_wp2_with fail
  go_loop [5] (fun vi => ∃ (k : Nat), k ≤ 5 ∧ vi = .int .i64 k ∧ ∀ n ∈ (five ⟨d, kd, s, t, a, x⟩).take k, fits n = true) (fun vi => 5 - (intOf vi).toNat)
  case atStart => exact ⟨0, by omega, rfl, by simp⟩
  case round =>
    obtain ⟨k, hk, rfl, hall⟩ := hrel
    have HA := hide hall
    clear hall
    by_cases hlt : k < 5
    · obtain ⟨n, hn⟩ : ∃ n, (five ⟨d, kd, s, t, a, x⟩)[k]? = some n := ⟨_, List.getElem?_eq_getElem (by simpa [five] using hlt)⟩
      have hcell := five_cell ⟨d, kd, s, t, a, x⟩ w (.cells #[.int .i64 d, .int .i64 kd, .int .i64 s, .int .i64 t, .int .i64 a, .int .i64 x] 39) hn
      have HN := hide hn
      clear hn
      by_cases h1 : n < 0
      · have hbad : Hid (okB ⟨d, kd, s, t, a, x⟩ = false) := five_get HN.out (by rw [fits_iff]; simp; omega)
        go_wp2_with fail
        go_ret2
        refine ⟨?_, hb0⟩
        unfold rlineOf
        rw [hbad.out]; rfl
      · by_cases h2 : 999999999999999999 < n
        · have hbad : Hid (okB ⟨d, kd, s, t, a, x⟩ = false) := five_get HN.out (by rw [fits_iff]; simp; omega)
          go_wp2_with fail
          go_ret2
          refine ⟨?_, hb0⟩
          unfold rlineOf
          rw [hbad.out]; rfl
        · go_wp2_with fail
          go_round
          case rel =>
            refine ⟨k + 1, by omega, by go_num, fun m hm => ?_⟩
            rw [List.take_add_one, HN.out] at hm
            rcases List.mem_append.1 hm with hm | hm
            · exact HA.out m hm
            · obtain rfl : m = n := by simpa using hm
              rw [fits_iff]; simp; omega
          case measure => simp [intOf]; omega
    · obtain rfl : k = 5 := by omega
      have hall : Hid ((five ⟨d, kd, s, t, a, x⟩).all fits = true) := all_of (by have := HA.out; simpa [five] using this)
      have f0 : Hid (fits d = true) := HA.out _ (by simp [five])
      have f1 : Hid (fits s = true) := HA.out _ (by simp [five])
      have f2 : Hid (fits t = true) := HA.out _ (by simp [five])
      have f3 : Hid (fits a = true) := HA.out _ (by simp [five])
      have f4 : Hid (fits x = true) := HA.out _ (by simp [five])
      clear HA
      have s0 := tx_le hin.1
      have s1 := tx_le hin.2.1
      have s2 := tx_le hin.2.2.1
      have s3 := tx_le hin.2.2.2.1
      have s4 := tx_le hin.2.2.2.2
      dsimp only at s0 s1 s2 s3 s4
      rcases (by omega : kd = 3 ∨ (kd = 1 ∧ x = 0) ∨ (kd = 2 ∧ x = 0) ∨ (kd = 1 ∧ x ≠ 0) ∨ (kd = 2 ∧ x ≠ 0) ∨ (kd ≠ 1 ∧ kd ≠ 2 ∧ kd ≠ 3)) with rfl | ⟨rfl, rfl⟩ | ⟨rfl, rfl⟩ | ⟨rfl, hx⟩ | ⟨rfl, hx⟩ | ⟨hx1, hx2, hx3⟩
      · have hok : Hid (okB ⟨d, 3, s, t, a, x⟩ = true) := by
          show okB _ = true
          unfold okB; rw [hall.out]; rfl
        have HT := hide (line_text3 (r := ⟨d, 3, s, t, a, x⟩) rfl)
        have c0 := fun y => in_cell ⟨d, 3, s, t, a, x⟩ w y (k := 0) rfl
        have c1 := fun y => in_cell ⟨d, 3, s, t, a, x⟩ w y (k := 1) rfl
        have c2 := fun y => in_cell ⟨d, 3, s, t, a, x⟩ w y (k := 2) rfl
        have c3 := fun y => in_cell ⟨d, 3, s, t, a, x⟩ w y (k := 3) rfl
        have c4 := fun y => in_cell ⟨d, 3, s, t, a, x⟩ w y (k := 4) rfl
        have b0 := fun y : Qin.In (Below (base ⟨d, 3, s, t, a, x⟩ w).heap.size (base ⟨d, 3, s, t, a, x⟩ w)) => y.ok.cell (p := ⟨w.heap.size, 1, none⟩) (by rw [base_size]; show w.heap.size < w.heap.size + 2; omega) |>.trans (base_kind _ w)
        have C0 := Lib.hid c0
        have C1 := Lib.hid c1
        have C2 := Lib.hid c2
        have C3 := Lib.hid c3
        have C4 := Lib.hid c4
        have B0 := Lib.hid b0
        clear c0 c1 c2 c3 c4 b0
        haveI : Nonempty (Qin.In (Below (base ⟨d, 3, s, t, a, x⟩ w).heap.size (base ⟨d, 3, s, t, a, x⟩ w))) := ⟨⟨_, Below.refl _ _⟩⟩
        go_wp2_with fail
        have c0 := C0.out
        have c1 := C1.out
        have c2 := C2.out
        have c3 := C3.out
        refine Qin.region (I := Below (base ⟨d, 3, s, t, a, x⟩ w).heap.size (base ⟨d, 3, s, t, a, x⟩ w)) (Qin.start _ (base ⟨d, 3, s, t, a, x⟩ w)) (by kernel_rfl) (by kernel_rfl) ?_
        repeat (go_big_quiet_step ((go_at_call 54; refine rdigits_in _ _ _ ?_; first | exact f0.out | exact f1.out | exact f2.out | exact f3.out)))
        refine wpQuiet_nil ?_
        intro y
        have c4 := C4.out y
        have b0 := B0.out y
        have hy := hb0.trans (y.ok.mono (by rw [base_size]; omega))
        clear c0 c1 c2 c3
        go_wp2_with (go_at_call 54; refine (rdigits_in _ _ y f4.out).mono ?_; rintro e w' ⟨rfl, z, rfl⟩)
        go_ret2
        refine ⟨?_, hb0.trans (z.ok.mono (by rw [base_size]; omega))⟩
        unfold rlineOf
        rw [hok.out, if_pos rfl, HT.out, ok_eq, hok.out]
        rfl
      · have hok : Hid (okB ⟨d, 1, s, t, a, 0⟩ = true) := by
          show okB _ = true
          unfold okB; rw [hall.out]; rfl
        have HT := hide (line_text1 (r := ⟨d, 1, s, t, a, 0⟩) rfl)
        have c0 := fun y => in_cell ⟨d, 1, s, t, a, 0⟩ w y (k := 0) rfl
        have c1 := fun y => in_cell ⟨d, 1, s, t, a, 0⟩ w y (k := 1) rfl
        have c2 := fun y => in_cell ⟨d, 1, s, t, a, 0⟩ w y (k := 2) rfl
        have c3 := fun y => in_cell ⟨d, 1, s, t, a, 0⟩ w y (k := 3) rfl
        have c4 := fun y => in_cell ⟨d, 1, s, t, a, 0⟩ w y (k := 4) rfl
        have b0 := fun y : Qin.In (Below (base ⟨d, 1, s, t, a, 0⟩ w).heap.size (base ⟨d, 1, s, t, a, 0⟩ w)) => y.ok.cell (p := ⟨w.heap.size, 1, none⟩) (by rw [base_size]; show w.heap.size < w.heap.size + 2; omega) |>.trans (base_kind _ w)
        have C0 := Lib.hid c0
        have C1 := Lib.hid c1
        have C2 := Lib.hid c2
        have C3 := Lib.hid c3
        have C4 := Lib.hid c4
        have B0 := Lib.hid b0
        clear c0 c1 c2 c3 c4 b0
        haveI : Nonempty (Qin.In (Below (base ⟨d, 1, s, t, a, 0⟩ w).heap.size (base ⟨d, 1, s, t, a, 0⟩ w))) := ⟨⟨_, Below.refl _ _⟩⟩
        go_wp2_with fail
        have c0 := C0.out
        have c1 := C1.out
        have c2 := C2.out
        have c3 := C3.out
        refine Qin.region (I := Below (base ⟨d, 1, s, t, a, 0⟩ w).heap.size (base ⟨d, 1, s, t, a, 0⟩ w)) (Qin.start _ (base ⟨d, 1, s, t, a, 0⟩ w)) (by kernel_rfl) (by kernel_rfl) ?_
        repeat (go_big_quiet_step ((go_at_call 54; refine rdigits_in _ _ _ ?_; first | exact f0.out | exact f1.out | exact f2.out | exact f3.out)))
        refine wpQuiet_nil ?_
        intro y
        have c4 := C4.out y
        have b0 := B0.out y
        have hy := hb0.trans (y.ok.mono (by rw [base_size]; omega))
        clear c0 c1 c2 c3
        go_wp2_with fail
        go_ret2
        refine ⟨?_, hy⟩
        unfold rlineOf
        rw [hok.out, if_pos rfl, HT.out, ok_eq, hok.out]
        rfl
      · have hok : Hid (okB ⟨d, 2, s, t, a, 0⟩ = true) := by
          show okB _ = true
          unfold okB; rw [hall.out]; rfl
        have HT := hide (line_text2 (r := ⟨d, 2, s, t, a, 0⟩) rfl)
        have c0 := fun y => in_cell ⟨d, 2, s, t, a, 0⟩ w y (k := 0) rfl
        have c1 := fun y => in_cell ⟨d, 2, s, t, a, 0⟩ w y (k := 1) rfl
        have c2 := fun y => in_cell ⟨d, 2, s, t, a, 0⟩ w y (k := 2) rfl
        have c3 := fun y => in_cell ⟨d, 2, s, t, a, 0⟩ w y (k := 3) rfl
        have c4 := fun y => in_cell ⟨d, 2, s, t, a, 0⟩ w y (k := 4) rfl
        have b0 := fun y : Qin.In (Below (base ⟨d, 2, s, t, a, 0⟩ w).heap.size (base ⟨d, 2, s, t, a, 0⟩ w)) => y.ok.cell (p := ⟨w.heap.size, 1, none⟩) (by rw [base_size]; show w.heap.size < w.heap.size + 2; omega) |>.trans (base_kind _ w)
        have C0 := Lib.hid c0
        have C1 := Lib.hid c1
        have C2 := Lib.hid c2
        have C3 := Lib.hid c3
        have C4 := Lib.hid c4
        have B0 := Lib.hid b0
        clear c0 c1 c2 c3 c4 b0
        haveI : Nonempty (Qin.In (Below (base ⟨d, 2, s, t, a, 0⟩ w).heap.size (base ⟨d, 2, s, t, a, 0⟩ w))) := ⟨⟨_, Below.refl _ _⟩⟩
        go_wp2_with fail
        have c0 := C0.out
        have c1 := C1.out
        have c2 := C2.out
        have c3 := C3.out
        refine Qin.region (I := Below (base ⟨d, 2, s, t, a, 0⟩ w).heap.size (base ⟨d, 2, s, t, a, 0⟩ w)) (Qin.start _ (base ⟨d, 2, s, t, a, 0⟩ w)) (by kernel_rfl) (by kernel_rfl) ?_
        repeat (go_big_quiet_step ((go_at_call 54; refine rdigits_in _ _ _ ?_; first | exact f0.out | exact f1.out | exact f2.out | exact f3.out)))
        refine wpQuiet_nil ?_
        intro y
        have c4 := C4.out y
        have b0 := B0.out y
        have hy := hb0.trans (y.ok.mono (by rw [base_size]; omega))
        clear c0 c1 c2 c3
        go_wp2_with fail
        go_ret2
        refine ⟨?_, hy⟩
        unfold rlineOf
        rw [hok.out, if_pos rfl, HT.out, ok_eq, hok.out]
        rfl
      · have hok : Hid (okB ⟨d, 1, s, t, a, x⟩ = false) := by
          show okB _ = false
          unfold okB; rw [hall.out]; simp [hx]
        have hx1 : (x != 0) = true := by simpa using hx
        go_wp2_with fail
        go_ret2
        refine ⟨?_, hb0⟩
        unfold rlineOf
        rw [hok.out]; rfl
      · have hok : Hid (okB ⟨d, 2, s, t, a, x⟩ = false) := by
          show okB _ = false
          unfold okB; rw [hall.out]; simp [hx]
        have hx1 : (x != 0) = true := by simpa using hx
        go_wp2_with fail
        go_ret2
        refine ⟨?_, hb0⟩
        unfold rlineOf
        rw [hok.out]; rfl
      · have hok : Hid (okB ⟨d, kd, s, t, a, x⟩ = false) := by
          show okB _ = false
          unfold okB; rw [hall.out]; simp [hx1, hx2, hx3]
        have hy1 : (kd == 1) = false := by simpa using hx1
        have hy2 : (kd == 2) = false := by simpa using hx2
        have hy3 : (kd == 3) = false := by simpa using hx3
        go_wp2_with fail
        go_ret2
        refine ⟨?_, hb0⟩
        unfold rlineOf
        rw [hok.out]; rfl
end Go.Proofs.YtkllpfijeglppaaDoor.HsL
