/- The walks of Balance and Lowest, the program's and the reference's, over rows that can be read. -/
import Derived.Test.YtkllpfijeglppaaDoorHsB
import Derived.Deep.AppendLies
import Derived.Laws.OwnMore
namespace Go.Proofs.YtkllpfijeglppaaDoor.HsC
open Go.RowKit Hs HsB
/-- the six cells of a row from an address on -/
def RowCells (w : World) (b o : Nat) (r : HRow) : Prop :=
  w.cell? ⟨b, o, none⟩ = some (.int .i64 r.day) ∧ w.cell? ⟨b, o + 1, none⟩ = some (.int .i64 r.kind) ∧ w.cell? ⟨b, o + 2, none⟩ = some (.int .i64 r.src) ∧
  w.cell? ⟨b, o + 3, none⟩ = some (.int .i64 r.dst) ∧ w.cell? ⟨b, o + 4, none⟩ = some (.int .i64 r.amount) ∧ w.cell? ⟨b, o + 5, none⟩ = some (.int .i64 r.worth)
/-- a slice reads as a list of rows -/
def RowsAt (w : World) (B : Nat) (A : Option Addr) (l : List HRow) : Prop :=
  l.length ≤ maxLen ∧ (0 < l.length → ∃ b off, A = some ⟨b, off, none⟩ ∧ b < B ∧ ∀ k r, l[k]? = some r → RowCells w b (off + k * 6) r)
theorem RowCells.keep {w w' : World} {b o : Nat} {r : HRow} (h : RowCells w b o r) (hk : ∀ j, w'.cell? ⟨b, j, none⟩ = w.cell? ⟨b, j, none⟩) : RowCells w' b o r := by
  obtain ⟨h0, h1, h2, h3, h4, h5⟩ := h
  exact ⟨(hk _).trans h0, (hk _).trans h1, (hk _).trans h2, (hk _).trans h3, (hk _).trans h4, (hk _).trans h5⟩
theorem RowsAt.below {w w' : World} {B : Nat} {A : Option Addr} {l : List HRow} (h : RowsAt w B A l) (hb : Below B w w') : RowsAt w' B A l :=
  ⟨h.1, fun hp => by
    obtain ⟨b, off, e, hlt, hc⟩ := h.2 hp
    exact ⟨b, off, e, hlt, fun k r hk => (hc k r hk).keep fun j => hb.cell (p := ⟨b, j, none⟩) hlt⟩⟩
theorem RowsAt.mono {w : World} {B B' : Nat} {A : Option Addr} {l : List HRow} (h : RowsAt w B A l) (hb : B ≤ B') : RowsAt w B' A l :=
  ⟨h.1, fun hp => by
    obtain ⟨b, off, e, hlt, hc⟩ := h.2 hp
    exact ⟨b, off, e, by omega, hc⟩⟩
theorem drop_get {α : Type} {l : List α} {k : Nat} {r : α} (h : l[k]? = some r) : l.drop k = r :: l.drop (k + 1) := by
  obtain ⟨hk, rfl⟩ := List.getElem?_eq_some_iff.1 h
  exact List.drop_eq_getElem_cons hk
set_option maxHeartbeats 2000000 in
theorem balance_any (l : List HRow) (A : Option Addr) (c : Nat) (p o d : Int) (w : World) (h : RowsAt w w.heap.size A l) :
    Calls Tryd.prog 22 #[.slice A l.length c, .int .i64 p, .int .i64 o, .int .i64 d] w fun e w' => e = .returned (.int .i64 (balance p d o l)) ∧ Below w.heap.size w w' := by
  have hlen := h.1
  unfold maxLen at hlen
  have H := hide h
  clear h
  go_enter Tryd.func22, Tryd.ntmps22
  go_wp2_with fail
  go_loopw [2, 13] (fun vo vi wr => ∃ (k : Nat) (a : Int), k ≤ l.length ∧ vi = .int .i64 k ∧ vo = .int .i64 a ∧ balance p d o l = balance p d a (l.drop k) ∧ Below w.heap.size w wr) (fun _ vi _ => l.length - (intOf vi).toNat)
  case atStart => exact ⟨0, o, by omega, rfl, rfl, rfl, Below.refl _ _⟩
  case round =>
    obtain ⟨k, a, hk, rfl, rfl, hb, hbr⟩ := hrel
    have HB := hide hb
    clear hb
    by_cases hlt : k < l.length
    · obtain ⟨r, hr⟩ : ∃ r, l[k]? = some r := ⟨_, List.getElem?_eq_getElem hlt⟩
      obtain ⟨b, off, rfl, hbw, hc⟩ := (H.out.below hbr).2 (by omega)
      obtain ⟨c0, c1, c2, c3, c4, c5⟩ := hc k r hr
      have hd := hide (drop_get hr)
      clear hr hc
      by_cases ht : r.day ≤ d
      · go_wp2_with (go_at_call 20; refine (money_any r _ _).mono ?_; rintro e w' ⟨rfl, rfl⟩)
        go_roundw
        case rel => exact ⟨k + 1, wrap64 (a + money r p), by omega, by go_num, rfl, by rw [HB.out, hd.out, balance, if_pos ht], (hbr.alloc hbr.size _).alloc (by have := hbr.size; simp; omega) _⟩
        case measure => simp [intOf]; omega
      · go_wp2_with fail
        go_roundw
        case rel => exact ⟨k + 1, a, by omega, by go_num, rfl, by rw [HB.out, hd.out, balance, if_neg ht], hbr.alloc hbr.size _⟩
        case measure => simp [intOf]; omega
    · go_wp2_with fail
      go_ret
      exact ⟨ret_int (by rw [HB.out, List.drop_eq_nil_of_le (by omega)]; rfl), hbr⟩
set_option maxHeartbeats 2000000 in
theorem rbalance_any (l : List HRow) (A : Option Addr) (c : Nat) (p o d : Int) (w : World) (h : RowsAt w w.heap.size A l) :
    Calls Tryd.prog 23 #[.slice A l.length c, .int .i64 p, .int .i64 o, .int .i64 d] w fun e w' => e = .returned (.int .i64 (balance p d o l)) ∧ Below w.heap.size w w' := by
  have hlen := h.1
  unfold maxLen at hlen
  have H := hide h
  clear h
  go_enter Tryd.func23, Tryd.ntmps23
  go_wp2_with fail
  go_loopw [2, 9] (fun vo vi wr => ∃ (k : Nat) (a : Int), k ≤ l.length ∧ vi = .int .i64 k ∧ vo = .int .i64 a ∧ balance p d o l = balance p d a (l.drop k) ∧ Below w.heap.size w wr) (fun _ vi _ => l.length - (intOf vi).toNat)
  case atStart => exact ⟨0, o, by omega, rfl, rfl, rfl, Below.refl _ _⟩
  case round =>
    obtain ⟨k, a, hk, rfl, rfl, hb, hbr⟩ := hrel
    have HB := hide hb
    clear hb
    by_cases hlt : k < l.length
    · obtain ⟨r, hr⟩ : ∃ r, l[k]? = some r := ⟨_, List.getElem?_eq_getElem hlt⟩
      obtain ⟨b, off, rfl, hbw, hc⟩ := (H.out.below hbr).2 (by omega)
      obtain ⟨c0, c1, c2, c3, c4, c5⟩ := hc k r hr
      have hd := hide (drop_get hr)
      clear hr hc
      by_cases ht : r.day ≤ d
      · go_wp2_with (go_at_call 21; refine (rmoney_any r _ _).mono ?_; rintro e w' ⟨rfl, rfl⟩)
        go_roundw
        case rel => exact ⟨k + 1, wrap64 (a + money r p), by omega, by go_num, rfl, by rw [HB.out, hd.out, balance, if_pos ht], hbr.alloc hbr.size _⟩
        case measure => simp [intOf]; omega
      · go_wp2_with fail
        go_roundw
        case rel => exact ⟨k + 1, a, by omega, by go_num, rfl, by rw [HB.out, hd.out, balance, if_neg ht], hbr⟩
        case measure => simp [intOf]; omega
    · go_wp2_with fail
      go_ret
      exact ⟨ret_int (by rw [HB.out, List.drop_eq_nil_of_le (by omega)]; rfl), hbr⟩
set_option maxHeartbeats 4000000 in
theorem lowest_any (l : List HRow) (A : Option Addr) (c : Nat) (p o f t : Int) (w : World) (h : RowsAt w w.heap.size A l) :
    Calls Tryd.prog 24 #[.slice A l.length c, .int .i64 p, .int .i64 o, .int .i64 f, .int .i64 t] w fun e w' => e = .returned (.int .i64 (lowest p f t o l)) ∧ Below w.heap.size w w' := by
  have hlen := h.1
  unfold maxLen at hlen
  have H := hide h
  clear h
  go_enter Tryd.func24, Tryd.ntmps24
  go_wp2_with fail
  go_loopw [11, 20] (fun vo vi wr => ∃ (k : Nat) (a : Int), k ≤ l.length ∧ vi = .int .i64 k ∧ vo = .int .i64 a ∧ before p f o l = before p f a (l.drop k) ∧ Below w.heap.size w wr) (fun _ vi _ => l.length - (intOf vi).toNat)
  case atStart => exact ⟨0, o, by omega, rfl, rfl, rfl, Below.refl _ _⟩
  case round =>
    obtain ⟨k, a, hk, rfl, rfl, hb, hbr⟩ := hrel
    have HB := hide hb
    clear hb
    by_cases hlt : k < l.length
    · obtain ⟨r, hr⟩ : ∃ r, l[k]? = some r := ⟨_, List.getElem?_eq_getElem hlt⟩
      obtain ⟨b, off, rfl, hbw, hc⟩ := (H.out.below hbr).2 (by omega)
      obtain ⟨c0, c1, c2, c3, c4, c5⟩ := hc k r hr
      have hd := hide (drop_get hr)
      clear hr hc
      by_cases ht : r.day < f
      · go_wp2_with (go_at_call 20; refine (money_any r _ _).mono ?_; rintro e w' ⟨rfl, rfl⟩)
        go_roundw
        case rel => exact ⟨k + 1, wrap64 (a + money r p), by omega, by go_num, rfl, by rw [HB.out, hd.out, before, if_pos ht], (hbr.alloc hbr.size _).alloc (by have := hbr.size; simp; omega) _⟩
        case measure => simp [intOf]; omega
      · go_wp2_with fail
        go_roundw
        case rel => exact ⟨k + 1, a, by omega, by go_num, rfl, by rw [HB.out, hd.out, before, if_neg ht], hbr.alloc hbr.size _⟩
        case measure => simp [intOf]; omega
    · have hfin : Hid (before p f o l = a) := HB.out.trans (by rw [List.drop_eq_nil_of_le (by omega)]; rfl)
      obtain ⟨wo, rfl⟩ : ∃ wo, wo = wr := ⟨_, rfl⟩
      have hbo := hbr
      clear hbr
      go_wp2_with fail
      go_loopw [11, 14, 37] (fun vo vm vi wr => ∃ (j : Nat) (x m : Int), j ≤ l.length ∧ vi = .int .i64 j ∧ vo = .int .i64 x ∧ vm = .int .i64 m ∧ during p f t a a l = during p f t x m (l.drop j) ∧ Below w.heap.size w wr) (fun _ _ vi _ => l.length - (intOf vi).toNat)
      case atStart => exact ⟨0, a, a, by omega, rfl, rfl, rfl, rfl, hbo⟩
      case round =>
        obtain ⟨j, x, m, hj, rfl, rfl, rfl, hb, hbr⟩ := hrel
        have HD := hide hb
        clear hb
        by_cases hjl : j < l.length
        · obtain ⟨r, hr⟩ : ∃ r, l[j]? = some r := ⟨_, List.getElem?_eq_getElem hjl⟩
          obtain ⟨b, off, rfl, hbw, hc⟩ := (H.out.below hbr).2 (by omega)
          obtain ⟨c0, c1, c2, c3, c4, c5⟩ := hc j r hr
          have hd := hide (drop_get hr)
          clear hr hc
          by_cases h1 : f ≤ r.day
          · by_cases h2 : r.day ≤ t
            · go_wp2_with (go_at_call 20; refine (money_any r _ _).mono ?_; rintro e w' ⟨rfl, rfl⟩)
              go_roundw
              case rel => exact ⟨j + 1, wrap64 (x + money r p), _, by omega, by go_num, rfl, rfl, by rw [HD.out, hd.out, during, if_pos ⟨h1, h2⟩], (hbr.alloc hbr.size _).alloc (by have := hbr.size; simp; omega) _⟩
              case measure => simp [intOf]; omega
            · go_wp2_with fail
              go_roundw
              case rel => exact ⟨j + 1, x, m, by omega, by go_num, rfl, rfl, by rw [HD.out, hd.out, during, if_neg (fun h => h2 h.2)], hbr.alloc hbr.size _⟩
              case measure => simp [intOf]; omega
          · go_wp2_with fail
            go_roundw
            case rel => exact ⟨j + 1, x, m, by omega, by go_num, rfl, rfl, by rw [HD.out, hd.out, during, if_neg (fun h => h1 h.1)], hbr.alloc hbr.size _⟩
            case measure => simp [intOf]; omega
        · go_wp2_with fail
          go_ret
          exact ⟨ret_int (by unfold lowest; rw [hfin.out, HD.out, List.drop_eq_nil_of_le (by omega)]; rfl), hbr⟩
set_option maxHeartbeats 4000000 in
theorem rlowest_any (l : List HRow) (A : Option Addr) (c : Nat) (p o f t : Int) (w : World) (h : RowsAt w w.heap.size A l) :
    Calls Tryd.prog 25 #[.slice A l.length c, .int .i64 p, .int .i64 o, .int .i64 f, .int .i64 t] w fun e w' => e = .returned (.int .i64 (lowest p f t o l)) ∧ Below w.heap.size w w' := by
  have hlen := h.1
  unfold maxLen at hlen
  have H := hide h
  clear h
  go_enter Tryd.func25, Tryd.ntmps25
  go_wp2_with fail
  go_loopw [2, 11] (fun vo vi wr => ∃ (k : Nat) (a : Int), k ≤ l.length ∧ vi = .int .i64 k ∧ vo = .int .i64 a ∧ before p f o l = before p f a (l.drop k) ∧ Below w.heap.size w wr) (fun _ vi _ => l.length - (intOf vi).toNat)
  case atStart => exact ⟨0, o, by omega, rfl, rfl, rfl, Below.refl _ _⟩
  case round =>
    obtain ⟨k, a, hk, rfl, rfl, hb, hbr⟩ := hrel
    have HB := hide hb
    clear hb
    by_cases hlt : k < l.length
    · obtain ⟨r, hr⟩ : ∃ r, l[k]? = some r := ⟨_, List.getElem?_eq_getElem hlt⟩
      obtain ⟨b, off, rfl, hbw, hc⟩ := (H.out.below hbr).2 (by omega)
      obtain ⟨c0, c1, c2, c3, c4, c5⟩ := hc k r hr
      have hd := hide (drop_get hr)
      clear hr hc
      by_cases ht : r.day < f
      · go_wp2_with (go_at_call 21; refine (rmoney_any r _ _).mono ?_; rintro e w' ⟨rfl, rfl⟩)
        go_roundw
        case rel => exact ⟨k + 1, wrap64 (a + money r p), by omega, by go_num, rfl, by rw [HB.out, hd.out, before, if_pos ht], hbr.alloc hbr.size _⟩
        case measure => simp [intOf]; omega
      · go_wp2_with fail
        go_roundw
        case rel => exact ⟨k + 1, a, by omega, by go_num, rfl, by rw [HB.out, hd.out, before, if_neg ht], hbr⟩
        case measure => simp [intOf]; omega
    · have hfin : Hid (before p f o l = a) := HB.out.trans (by rw [List.drop_eq_nil_of_le (by omega)]; rfl)
      obtain ⟨wo, rfl⟩ : ∃ wo, wo = wr := ⟨_, rfl⟩
      have hbo := hbr
      clear hbr
      go_wp2_with fail
      go_loopw [2, 12, 13] (fun vo vm vi wr => ∃ (j : Nat) (x m : Int), j ≤ l.length ∧ vi = .int .i64 j ∧ vo = .int .i64 x ∧ vm = .int .i64 m ∧ during p f t a a l = during p f t x m (l.drop j) ∧ Below w.heap.size w wr) (fun _ _ vi _ => l.length - (intOf vi).toNat)
      case atStart => exact ⟨0, a, a, by omega, rfl, rfl, rfl, rfl, hbo⟩
      case round =>
        obtain ⟨j, x, m, hj, rfl, rfl, rfl, hb, hbr⟩ := hrel
        have HD := hide hb
        clear hb
        by_cases hjl : j < l.length
        · obtain ⟨r, hr⟩ : ∃ r, l[j]? = some r := ⟨_, List.getElem?_eq_getElem hjl⟩
          obtain ⟨b, off, rfl, hbw, hc⟩ := (H.out.below hbr).2 (by omega)
          obtain ⟨c0, c1, c2, c3, c4, c5⟩ := hc j r hr
          have hd := hide (drop_get hr)
          clear hr hc
          by_cases h1 : f ≤ r.day
          · by_cases h2 : r.day ≤ t
            · go_wp2_with (go_at_call 21; refine (rmoney_any r _ _).mono ?_; rintro e w' ⟨rfl, rfl⟩)
              go_roundw
              case rel => exact ⟨j + 1, wrap64 (x + money r p), _, by omega, by go_num, rfl, rfl, by rw [HD.out, hd.out, during, if_pos ⟨h1, h2⟩], hbr.alloc hbr.size _⟩
              case measure => simp [intOf]; omega
            · go_wp2_with fail
              go_roundw
              case rel => exact ⟨j + 1, x, m, by omega, by go_num, rfl, rfl, by rw [HD.out, hd.out, during, if_neg (fun h => h2 h.2)], hbr⟩
              case measure => simp [intOf]; omega
          · go_wp2_with fail
            go_roundw
            case rel => exact ⟨j + 1, x, m, by omega, by go_num, rfl, rfl, by rw [HD.out, hd.out, during, if_neg (fun h => h1 h.1)], hbr⟩
            case measure => simp [intOf]; omega
        · go_wp2_with fail
          go_ret
          exact ⟨ret_int (by unfold lowest; rw [hfin.out, HD.out, List.drop_eq_nil_of_le (by omega)]; rfl), hbr⟩
end Go.Proofs.YtkllpfijeglppaaDoor.HsC
