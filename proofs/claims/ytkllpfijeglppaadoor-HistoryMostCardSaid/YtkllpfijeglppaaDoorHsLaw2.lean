/- The walks of the laws HistoryLong, HistoryText, HistoryBalance. -/
import Derived.Test.YtkllpfijeglppaaDoorHsLaw1
import Derived.Test.YtkllpfijeglppaaDoorHsPa
namespace Go.Proofs.YtkllpfijeglppaaDoor.HsLaw2
open Go.RowKit Hs HsB HsC HsD HsF HsG HsH HsE HsI HsJ HsK HsL HsM HsN HsO HsP HsQ HsR HsS HsT HsU HsV HsW HsLaw1 HsPa
theorem app_le {s t : ByteArray} {n m : Nat} (h : s.size ≤ n) (ht : t.size ≤ m) : (s ++ t).size ≤ n + m := by rw [ByteArray.size_append]; omega
set_option maxHeartbeats 4000000 in
set_option maxRecDepth 100000 in
theorem long_law (a b : Int) (bad : Bool) (w : World) (ha : 0 ≤ a ∧ a ≤ 65535) (hb : 0 ≤ b ∧ b ≤ 255) (he : Env w) :
    Calls Tryd.prog 5 #[.int .u16 a, .int .u8 b, .bool bad] w fun e w' => e = .returned (.bool true) ∧ Below w.heap.size w w' := by
  obtain ⟨ha0, ha1⟩ := ha
  obtain ⟨hb0, hb1⟩ := hb
  go_enter Tryd.func5, Tryd.ntmps5
  go_wp2_with fail
  go_loop [8, 9] (fun vs vi => ∃ (s : ByteArray) (i : Nat), vs = .string s ∧ vi = .int .i64 i ∧ i ≤ 270 ∧ s.size ≤ 15 * i) (fun _ vi => 270 - (intOf vi).toNat)
  case atStart => exact ⟨⟨#[]⟩, 0, rfl, rfl, by omega, by decide⟩
  case round =>
    obtain ⟨s, i, rfl, rfl, hi, hs⟩ := hrel
    by_cases hlt : (i : Int) < 240 + a % 30
    · go_wp2_with fail
      go_round
      case rel => exact ⟨_, i + 1, rfl, by go_num, by omega, Nat.le_trans (app_le (m := 15) hs (by decide)) (by omega)⟩
      case measure => simp [intOf]; omega
    · go_wp2_with fail
      go_loop [8, 10] (fun vs vi => ∃ (s : ByteArray) (i : Nat), vs = .string s ∧ vi = .int .i64 i ∧ i ≤ 3 ∧ s.size ≤ 5000 + 100 * i) (fun _ vi => 3 - (intOf vi).toNat)
      case atStart => exact ⟨s, 0, rfl, rfl, by omega, by omega⟩
      case round =>
        clear hs hlt
        obtain ⟨s, j, rfl, rfl, hj, hs⟩ := hrel
        by_cases hlt : (j : Int) < b % 3
        · go_wp2_with fail
          go_round
          case rel => exact ⟨_, j + 1, rfl, by go_num, by omega, Nat.le_trans (app_le (m := 100) hs (by decide)) (by omega)⟩
          case measure => simp [intOf]; omega
        · cases bad
          all_goals
            go_wp2_with fail
            go_loop [11] (fun vs => ∃ (s : ByteArray), vs = .string s ∧ s.size ≤ 9000) (fun vs => 9000 - strLen vs)
            case atStart => exact ⟨_, rfl, by first | omega | exact Nat.le_trans (app_le (m := 2) hs (by decide)) (by omega)⟩
            case round =>
              obtain ⟨t, rfl, ht⟩ := hrel
              by_cases hle : t.size ≤ 8192
              · go_wp2_with fail
                go_round
                case rel => exact ⟨_, rfl, Nat.le_trans (app_le (m := 2) (Nat.le_refl _) (by decide)) (by omega)⟩
                case measure => simp [strLen]; have h2 : (⟨#[35, 32]⟩ : ByteArray).size = 2 := rfl; omega
              · go_wp2_with (first
                  | (go_at_call 13; refine (awake_any _ he).mono ?_; rintro e w2 ⟨rfl, hb2⟩)
                  | (go_at_call 17; (with_reducible refine (same_any _ w2 ?_ (he.below hb2)).mono ?_); (· first | omega | exact Nat.le_trans (app_le (m := 2) hs (by decide)) (by omega)); rintro e w3 ⟨rfl, hb3⟩; have hbb3 := hb2.trans (hb3.mono hb2.size))
                  | (go_at_call 17; (with_reducible refine (same_any t w3 ?_ (he.below hbb3)).mono ?_); (· omega); rintro e w4 ⟨rfl, hb4⟩; have hbb4 := hbb3.trans (hb4.mono hbb3.size)))
                go_ret
                exact ⟨rfl, hbb4⟩
theorem tx3 {n : Int} (h0 : 0 ≤ n) (h : n ≤ 999) : (tx n).data.toList.length ≤ 3 := by
  obtain ⟨u, rfl⟩ := Int.eq_ofNat_of_zero_le h0
  rw [tx_list, Lib.itoa_nonneg, Lib.decDigits_length]
  have := (nDigits_le 2 u).2 (by omega)
  omega
theorem ok_of {r : HRow} (h : RowOK 4 r) (hd : r.day ≤ 200) : okB r = true := by
  obtain ⟨h0, h1, h2, h3, h4, h5, h6, h7, h8, h9, h10, h11, h12⟩ := h
  have hw := h12
  unfold okB five
  simp only [List.all_cons, List.all_nil, Bool.and_true, fits_iff, Bool.and_eq_true, Bool.or_eq_true, decide_eq_true_eq, beq_iff_eq]
  refine ⟨⟨⟨?_, ?_⟩, ⟨?_, ?_⟩, ⟨?_, ?_⟩, ⟨?_, ?_⟩, ⟨?_, ?_⟩⟩, ?_⟩
  all_goals omega
theorem line_short {r : HRow} (h : RowOK 4 r) (hd : r.day ≤ 200) : (lineOf r).1.data.toList.length ≤ 30 := by
  have hok := ok_of h hd
  obtain ⟨h0, h1, h2, h3, h4, h5, h6, h7, h8, h9, h10, h11, _⟩ := h
  have a := tx3 (n := r.day) (by omega) (by omega)
  have b := tx3 (n := r.src) (by omega) (by omega)
  have c := tx3 (n := r.dst) (by omega) (by omega)
  have d := tx3 (n := r.amount) (by omega) (by omega)
  have e := tx3 (n := r.worth) (by omega) (by omega)
  have hk : (if r.kind = 1 then k1L else if r.kind = 2 then k2L else k3L).length ≤ 8 := by
    split
    · decide
    · split <;> decide
  have hx : (if r.kind = 3 then 32 :: (tx r.worth).data.toList else []).length ≤ 4 := by
    split
    · simp only [List.length_cons]; omega
    · simp
  rw [line_body hok]
  unfold bodyOf
  simp only [List.length_append, List.length_cons, List.length_nil] at hx ⊢
  omega
theorem built_text {x : List HRow} (h : Built 4 (5 * (x.length : Int)) x) (hl : x.length ≤ 40) : (∀ r ∈ x, okB r = true) ∧ (fmtText x).length ≤ 1200 := by
  have hr : ∀ r ∈ x, RowOK 4 r ∧ r.day ≤ 200 := fun r hr => ⟨(h.1 r hr).1, by have := (h.1 r hr).2; omega⟩
  refine ⟨fun r hx => ok_of (hr r hx).1 (hr r hx).2, ?_⟩
  have key : ∀ y : List HRow, (∀ r ∈ y, RowOK 4 r ∧ r.day ≤ 200) → (fmtText y).length ≤ 30 * y.length := by
    intro y
    induction y with
    | nil => intro _; simp [fmtText]
    | cons r y ih =>
      intro hy
      have h1 := line_short (hy r (by simp)).1 (hy r (by simp)).2
      have h2 := ih (fun z hz => hy z (by simp [hz]))
      have e : (fmtText (r :: y)).length = ((lineOf r).1.data.toList).length + (fmtText y).length := by simp [fmtText]
      rw [e, List.length_cons]
      omega
  have := key x hr
  omega
set_option maxHeartbeats 4000000 in
set_option maxRecDepth 100000 in
theorem text_law (A : Option Addr) (n c : Nat) (w : World) (hf : FivesAt w w.heap.size A n) (he : Env w) :
    Calls Tryd.prog 6 #[.slice A n c] w fun e w' => e = .returned (.bool true) ∧ Below w.heap.size w w' := by
  have HF := hide hf
  clear hf
  go_enter Tryd.func6, Tryd.ntmps6
  go_wp2_with fail
  refine (rows4_any A n c 40 w HF.out (by omega)).mono ?_
  rintro e w1 ⟨v, x, rfl, hbu, hxm, hown, hb1⟩
  obtain ⟨B, cp, rfl⟩ := own_slice hown
  have hx := rows_of_own hown (own_len hown)
  have hxin := built_in hbu (by omega) (by omega)
  obtain ⟨hok, hsz⟩ := built_text hbu hxm
  obtain ⟨hp1, hp2⟩ := parse_text hok (by omega) (by omega)
  have hts : (⟨(formatOf x).toArray⟩ : ByteArray).size ≤ 1000000 := by rw [mk_size, hp2]; omega
  clear hown hbu hok hsz hp2
  have hpp := fun W hW => parse_any ⟨(formatOf x).toArray⟩ W hts hW
  have e0 : (⟨(formatOf x).toArray⟩ : ByteArray).data.toList = formatOf x := rfl
  rw [e0, hp1] at hpp
  have HPP := Lib.hid hpp
  clear hpp e0 hp1 hts
  go_wp2_with (first
    | (go_at_call 15; (with_reducible refine (format_any x B cp _ hx hxin (he.below hb1)).mono ?_); rintro e w2 ⟨rfl, hb2⟩; have hbb2 := hb1.trans (hb2.mono hb1.size))
    | (go_at_call 18; refine (HPP.out _ (he.below hbb2)).mono ?_; rintro e w3 ⟨v3, rfl, hown3, hb3⟩; obtain ⟨A3, c3, rfl⟩ := own_slice hown3; have hbb3 := hbb2.trans (hb3.mono hbb2.size); have hx3 := (hx.below (hb2.trans (hb3.mono hb2.size))).mono (Nat.le_trans hb2.size hb3.size); have hy3 := rows_of_own hown3 (own_len hown3))
    | (go_at_call 13; refine (awake_any _ (he.below hbb3)).mono ?_; rintro e w4 ⟨rfl, hb4⟩; have hbb4 := hbb3.trans (hb4.mono hbb3.size))
    | (go_at_call 19; refine (sameRows_yes x B A3 cp c3 w4 ((hx3.below hb4).mono hb4.size) ((hy3.below hb4).mono hb4.size)).mono ?_; rintro e w5 ⟨rfl, hb5⟩; have hbb5 := hbb4.trans (hb5.mono hbb4.size)))
  go_ret
  exact ⟨rfl, hbb5⟩
set_option maxHeartbeats 4000000 in
set_option maxRecDepth 100000 in
theorem balance_law (A : Option Addr) (l : List HRow) (c : Nat) (A' : Option Addr) (n c' : Nat) (p o f t : Int) (w : World) (hl : RowsAt w w.heap.size A l) (hf : FivesAt w w.heap.size A' n) (hp : -128 ≤ p ∧ p ≤ 127) (hff : 0 ≤ f ∧ f ≤ 255) (htt : 0 ≤ t ∧ t ≤ 255) (he : Env w) :
    Calls Tryd.prog 8 #[.slice A l.length c, .slice A' n c', .int .i8 p, .int .i64 o, .int .u8 f, .int .u8 t] w fun e w' => e = .returned (.bool true) ∧ Below w.heap.size w w' := by
  obtain ⟨hp0, hp1⟩ := hp
  obtain ⟨hf0, hf1⟩ := hff
  obtain ⟨ht0, ht1⟩ := htt
  have hlen := hl.1
  have hn := hf.1
  unfold maxLen at hlen hn
  have HL := hide hl
  have HF := hide hf
  clear hl hf
  by_cases h12 : 12 < l.length
  · go_enter Tryd.func8, Tryd.ntmps8
    go_wp2_with (go_at_call 13; refine (awake_any _ he).mono ?_; rintro e w1 ⟨rfl, hb⟩)
    go_ret
    exact ⟨rfl, hb⟩
  · by_cases h24 : 24 < n
    · go_enter Tryd.func8, Tryd.ntmps8
      go_wp2_with (go_at_call 13; refine (awake_any _ he).mono ?_; rintro e w1 ⟨rfl, hb⟩)
      go_ret
      exact ⟨rfl, hb⟩
    · go_enter Tryd.func8, Tryd.ntmps8
      go_wp2_with fail
      refine (rows4_any A' n c' 20 w HF.out (by omega)).mono ?_
      rintro e w1 ⟨v, x, rfl, hbu, hxm, hown, hb1⟩
      obtain ⟨B, cp, rfl⟩ := own_slice hown
      have hx := rows_of_own hown (own_len hown)
      clear hown hbu
      go_wp2_with (first
        | (go_at_call 13; refine (awake_any _ (he.below hb1)).mono ?_; rintro e w2 ⟨rfl, hb2⟩; have hbb2 := hb1.trans (hb2.mono hb1.size); have hx2 := (hx.below hb2).mono hb2.size)
        | (go_at_call 22; (with_reducible refine (balance_any x B cp _ _ _ w2 hx2).mono ?_); rintro e w3 ⟨rfl, hb3⟩; have hbb3 := hbb2.trans (hb3.mono hbb2.size); have hx3 := (hx2.below hb3).mono hb3.size)
        | (go_at_call 23; (with_reducible refine (rbalance_any x B cp _ _ _ w3 hx3).mono ?_); rintro e w4 ⟨rfl, hb4⟩; have hbb4 := hbb3.trans (hb4.mono hbb3.size); have hx4 := (hx3.below hb4).mono hb4.size)
        | (go_at_call 24; (with_reducible refine (lowest_any x B cp _ _ _ _ w4 hx4).mono ?_); rintro e w5 ⟨rfl, hb5⟩; have hbb5 := hbb4.trans (hb5.mono hbb4.size); have hx5 := (hx4.below hb5).mono hb5.size)
        | (go_at_call 25; (with_reducible refine (rlowest_any x B cp _ _ _ _ w5 hx5).mono ?_); rintro e w6 ⟨rfl, hb6⟩; have hbb6 := hbb5.trans (hb6.mono hbb5.size); have hl6 := (HL.out.below hbb6).mono hbb6.size)
        | (go_at_call 22; (with_reducible refine (balance_any l A c _ _ _ w6 hl6).mono ?_); rintro e w7 ⟨rfl, hb7⟩; have hbb7 := hbb6.trans (hb7.mono hbb6.size); have hl7 := (hl6.below hb7).mono hb7.size)
        | (go_at_call 23; (with_reducible refine (rbalance_any l A c _ _ _ w7 hl7).mono ?_); rintro e w8 ⟨rfl, hb8⟩; have hbb8 := hbb7.trans (hb8.mono hbb7.size); have hl8 := (hl7.below hb8).mono hb8.size)
        | (go_at_call 24; (with_reducible refine (lowest_any l A c _ _ _ _ w8 hl8).mono ?_); rintro e w9 ⟨rfl, hb9⟩; have hbb9 := hbb8.trans (hb9.mono hbb8.size); have hl9 := (hl8.below hb9).mono hb9.size)
        | (go_at_call 25; (with_reducible refine (rlowest_any l A c _ _ _ _ w9 hl9).mono ?_); rintro e w10 ⟨rfl, hb10⟩; have hbb10 := hbb9.trans (hb10.mono hbb9.size)))
      go_ret
      exact ⟨rfl, hbb10⟩
end Go.Proofs.YtkllpfijeglppaaDoor.HsLaw2
