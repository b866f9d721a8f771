/- The walk of the law ParserBroken. -/
import Derived.Test.YtnbdckfnohagbaaGreatDoorPW
namespace Go.Proofs.YtnbdckfnohagbaaGreatDoor.PsA
theorem here : True := trivial
open Go.RowKit Lx Wd RnW PqA PqB PqC PqD PqE PqG PqH PqL PqM PqN PqS PqT PqU PqW PqY PqZ RtA RpF RoL
theorem good_ok {l : List Cl} (h : ∀ x ∈ l, Gd x) : okAll l = true := List.all_eq_true.2 fun x hx => by simpa using (h x hx).code
theorem text_small : ∀ {l : List Cl}, (∀ x ∈ l, Gd x) → (textOf l).length ≤ 200 * l.length
  | [], _ => by simp [textOf]
  | x :: l, h => by
    have h1 := text_small (l := l) (fun y hy => h y (by simp [hy]))
    have h2 := (h x (by simp)).line
    unfold textOf at h1 ⊢
    rw [List.flatMap_cons, List.length_append, List.length_cons]
    omega
theorem items_small : ∀ {l : List Cl}, (∀ x ∈ l, Gd x) → (itemsAll l).length ≤ 20 * l.length
  | [], _ => by simp [itemsAll]
  | x :: l, h => by
    have h1 := items_small (l := l) (fun y hy => h y (by simp [hy]))
    have h2 := (h x (by simp)).items
    unfold itemsAll at h1 ⊢
    rw [List.flatMap_cons, List.length_append, List.length_cons]
    omega
/-- what Format returns for clauses of the generator -/
theorem fmt_good {l : List Cl} (h : ∀ x ∈ l, Gd x) (hl : l.length ≤ 10) : fmtOf l = (textOf l, 0) := by
  have := text_small h
  exact fmt_ok (by omega) (err_ok (good_ok h)) (by omega)
theorem mark_of (j : Nat) (hj : j < 8) : ∃ p : ByteArray, p.size ≤ 1 ∧ (#[.string ⟨#[]⟩, .string ⟨#[59]⟩, .string ⟨#[44]⟩, .string ⟨#[61]⟩, .string ⟨#[32]⟩, .string ⟨#[49]⟩, .string ⟨#[122]⟩, .string ⟨#[47]⟩] : Array Value)[j]? = some (.string p) := by
  match j, hj with
  | 0, _ => exact ⟨⟨#[]⟩, by decide, rfl⟩
  | 1, _ => exact ⟨⟨#[59]⟩, by decide, rfl⟩
  | 2, _ => exact ⟨⟨#[44]⟩, by decide, rfl⟩
  | 3, _ => exact ⟨⟨#[61]⟩, by decide, rfl⟩
  | 4, _ => exact ⟨⟨#[32]⟩, by decide, rfl⟩
  | 5, _ => exact ⟨⟨#[49]⟩, by decide, rfl⟩
  | 6, _ => exact ⟨⟨#[122]⟩, by decide, rfl⟩
  | 7, _ => exact ⟨⟨#[47]⟩, by decide, rfl⟩
  | n + 8, h => exact absurd h (by omega)
theorem mark_at (W : World) (j : Nat) (hj : j < 8) : ∃ p : ByteArray, p.size ≤ 1 ∧ (W.alloc (.cells #[.string ⟨#[]⟩, .string ⟨#[59]⟩, .string ⟨#[44]⟩, .string ⟨#[61]⟩, .string ⟨#[32]⟩, .string ⟨#[49]⟩, .string ⟨#[122]⟩, .string ⟨#[47]⟩] 9)).cell? ⟨W.heap.size, j, none⟩ = some (.string p) := by
  obtain ⟨p, h1, h2⟩ := mark_of j hj
  exact ⟨p, h1, by rw [World.cell?_alloc_new]; exact h2⟩
set_option maxHeartbeats 8000000 in
set_option maxRecDepth 100000 in
theorem broken_law (A : Option Addr) (n c : Nat) (x1 x2 x3 : Int) (w : World) (h : FoursAt w w.heap.size A n) (hx1 : 0 ≤ x1 ∧ x1 ≤ 65535) (hx2 : 0 ≤ x2 ∧ x2 ≤ 255) (hx3 : 0 ≤ x3 ∧ x3 ≤ 255) (he : Env w) :
    Calls Tryz.prog 7 #[.slice A n c, .int .u16 x1, .int .u8 x2, .int .u8 x3] w fun e w' => e = .returned (.bool true) ∧ Below w.heap.size w w' := by
  obtain ⟨a1, a2⟩ := hx1
  obtain ⟨b1, b2⟩ := hx2
  obtain ⟨d1, d2⟩ := hx3
  obtain ⟨a, rfl⟩ := Int.eq_ofNat_of_zero_le a1
  obtain ⟨hw, rfl⟩ := Int.eq_ofNat_of_zero_le b1
  obtain ⟨bb, rfl⟩ := Int.eq_ofNat_of_zero_le d1
  have HAW := Lib.hid (fun w (h : Env w) => awake_cl w h)
  have HCA := Lib.hid (clauses_any A n c w h)
  have HE := hide he
  clear h he a1 b1 d1
  go_enter Tryz.func7, Tryz.ntmps7
  go_wp2_with fail
  refine HCA.out.mono ?_
  rintro e w1 ⟨l, A1, c1, rfl, hcl, hl10, hgd, hb1⟩
  have HF := Lib.hid (format_cl l A1 c1 w1 hcl (fun x hx => (hgd x hx).fit))
  rw [fmt_good hgd hl10] at HF
  unfold FmtP at HF
  have hts := text_small hgd
  have hss : (st (textOf l)).size ≤ 2000 := by rw [st_size]; omega
  have HB1 := hide hb1
  clear hcl hgd hts hb1
  dsimp only at HF
  generalize st (textOf l) = S at *
  go_wp2_with fail
  refine HF.out.mono ?_
  rintro e w2 ⟨rfl, hb2⟩
  have HB2 := hide (HB1.out.trans (hb2.mono HB1.out.size))
  clear hb2 HF HB1
  go_upto_if 29 with fail
  go_cut [9] (fun v wx => ∃ T : ByteArray, v = .string T ∧ T.size ≤ 2100 ∧ Hid (Below w.heap.size w wx))
  case first =>
    by_cases h0 : 0 < S.size
    · obtain ⟨i, hi⟩ : ∃ i, a % S.size = i := ⟨_, rfl⟩
      have hil : i < S.size := by rw [← hi]; exact Nat.mod_lt _ h0
      have hi' : ((a : Int) % (S.size : Int)) = (i : Int) := by omega
      obtain ⟨p, hp1, hp2⟩ := mark_at w2 (bb % 8) (by omega)
      have hle : i ≤ S.size := by omega
      clear hi
      by_cases hev : hw % 2 = 0
      · have hev' : (((hw : Int) % 2) == 0) = true := by rw [beq_iff_eq]; omega
        clear hev
        go_wp2_with fail
        go_quiet (fail)
        go_wp2_with fail
        go_meet
        case rel => exact ⟨_, rfl, by simp only [ByteArray.size_append, ByteArray.size_extract]; omega, LxD.below_drewN (HB2.out.alloc HB2.out.size _) _⟩
      · have hev' : (((hw : Int) % 2) == 0) = false := by rw [beq_eq_false_iff_ne]; omega
        clear hev
        go_wp2_with fail
        go_quiet (fail)
        go_wp2_with fail
        go_meet
        case rel => exact ⟨_, rfl, by simp only [ByteArray.size_append, ByteArray.size_extract]; omega, LxD.below_drewN (HB2.out.alloc HB2.out.size _) _⟩
    · go_wp2_with fail
      go_meet
      case rel => exact ⟨S, rfl, by omega, HB2.out⟩
  case rest =>
    obtain ⟨s, rfl, hsz, HB3⟩ := hcut
    have HE0 := hide (HE.out.below HB3.out)
    have HB0 := HB3
    have P1 := Lib.hid (fun w (h : Env w) => parse_cl s w (by omega) h)
    have R1 := Lib.hid (fun w (h : Env w) => rparse_cl s w (by omega) h)
    generalize parseOf s = p at *
    obtain ⟨l, a, er⟩ := p
    unfold ParseP at P1 R1
    dsimp only at P1 R1
    clear HB2
    go_wp2_with fail
    refine (P1.out _ HE0.out).mono ?_
    rintro e w5 ⟨A, c, rfl, hc5, hb5⟩
    have HE5 := hide (HE0.out.below hb5)
    have HC5 := hide hc5
    have HB5 := hide (HB0.out.trans (hb5.mono HB0.out.size))
    clear hc5 hb5
    go_wp2_with fail
    refine (R1.out _ HE5.out).mono ?_
    rintro e w6 ⟨A', c', rfl, hc6, hb6⟩
    have HE6 := hide (HE5.out.below hb6)
    have HC6 := hide (HC5.out.below hb6)
    have HD6 := hide hc6
    have HB6 := hide (HB5.out.trans (hb6.mono HB5.out.size))
    clear hc6 hb6 R1
    go_wp2_with fail
    refine (HAW.out _ HE6.out).mono ?_
    rintro e w7 ⟨rfl, hb7⟩
    have HC7 := hide (HC6.out.below hb7)
    have HD7 := hide (HD6.out.below hb7)
    have HB7 := hide (HB6.out.trans (hb7.mono HB6.out.size))
    clear hb7
    go_wp2_with fail
    refine (same_cls l A A' c c' _ HC7.out HD7.out).mono ?_
    rintro e w8 ⟨rfl, hb8⟩
    have HB8 := hide (HB7.out.trans (hb8.mono HB7.out.size))
    clear hb8
    go_wp2_with fail
    go_ret
    exact ⟨rfl, HB8.out⟩
end Go.Proofs.YtnbdckfnohagbaaGreatDoor.PsA
