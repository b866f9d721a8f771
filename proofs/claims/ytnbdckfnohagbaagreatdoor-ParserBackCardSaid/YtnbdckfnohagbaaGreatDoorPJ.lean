/- PqO, PqP, PqR, in one text. -/
import Derived.Test.YtnbdckfnohagbaaGreatDoorPqN
import Derived.OpenShut
import Derived.Deep.Slices
import Derived.ProofKit
import Derived.SliceStrings
import Derived.Deep.Fields
namespace Go.Proofs.YtnbdckfnohagbaaGreatDoor.PqO
theorem here : True := trivial
open Go.RowKit Lx Wd RnW PqA PqB PqC PqD PqE PqG PqH PqL PqM PqN RtA RpF
set_option maxHeartbeats 8000000 in
set_option maxRecDepth 100000 in
theorem parse_law (s : ByteArray) (w : World) (hs : s.size ≤ maxLen) (he : Env w) :
    Calls Tryz.prog 3 #[.string s] w fun e w' => e = .returned (.bool true) ∧ Below w.heap.size w w' := by
  unfold maxLen at hs
  have HAW := Lib.hid (fun w (h : Env w) => awake_cl w h)
  by_cases h2 : 1200 < s.size
  · have HA := hide (HAW.out w he)
    clear he
    go_enter Tryz.func3, Tryz.ntmps3
    go_wp2_with fail
    refine HA.out.mono ?_
    rintro e w3 ⟨rfl, hb3⟩
    go_wp2_with fail
    go_ret
    exact ⟨rfl, hb3⟩
  · have P1 := hide (parse_cl s w (by omega) he)
    have HE := hide he
    have R1 := Lib.hid (fun w (h : Env w) => rparse_cl s w (by omega) h)
    generalize parseOf s = p at *
    obtain ⟨l, a, er⟩ := p
    unfold ParseP at P1 R1
    dsimp only at P1 R1
    clear he
    go_enter Tryz.func3, Tryz.ntmps3
    go_wp2_with fail
    refine P1.out.mono ?_
    rintro e w5 ⟨A, c, rfl, hc5, hb5⟩
    have HE5 := hide (HE.out.below hb5)
    have HC5 := hide hc5
    have HB5 := hide hb5
    clear hc5 hb5 P1
    go_wp2_with fail
    refine (R1.out _ HE5.out).mono ?_
    rintro e w6 ⟨A', c', rfl, hc6, hb6⟩
    have HE6 := hide (HE5.out.below hb6)
    have HC6 := hide (HC5.out.below hb6)
    have HD6 := hide hc6
    have HB6 := hide (HB5.out.trans (hb6.mono HB5.out.size))
    clear hc6 hb6 R1
    go_wp2_with fail
    refine (HAW.out _ HE6.out).mono ?_
    rintro e w7 ⟨rfl, hb7⟩
    have HC7 := hide (HC6.out.below hb7)
    have HD7 := hide (HD6.out.below hb7)
    have HB7 := hide (HB6.out.trans (hb7.mono HB6.out.size))
    clear hb7
    go_wp2_with fail
    refine (same_cls l A A' c c' _ HC7.out HD7.out).mono ?_
    rintro e w8 ⟨rfl, hb8⟩
    have HB8 := hide (HB7.out.trans (hb8.mono HB7.out.size))
    clear hb8
    go_wp2_with fail
    go_ret
    exact ⟨rfl, HB8.out⟩
end Go.Proofs.YtnbdckfnohagbaaGreatDoor.PqO
namespace Go.Proofs.YtnbdckfnohagbaaGreatDoor.PqP
theorem here : True := trivial
open Go.RowKit Go.ChangeShapes Go.WideShapes Go.ChangeAt Go.Deep Lx Wd RnW PqA PqB PqC PqD PqE PqG PqH PqL PqM PqN RtA RpF
/-- a slice of bytes -/
def ByteAt (w : World) (B : Nat) (A : Option Addr) (n : Nat) : Prop := n ≤ maxLen ∧ (0 < n → ∃ b off, A = some ⟨b, off, none⟩ ∧ b < B ∧ ∀ k, k < n → ∃ z : Nat, z < 256 ∧ w.cell? ⟨b, off + k, none⟩ = some (.int .u8 z))
theorem ByteAt.below {w w' : World} {B n : Nat} {A : Option Addr} (h : ByteAt w B A n) (hb : Below B w w') : ByteAt w' B A n :=
  ⟨h.1, fun hp => by
    obtain ⟨b, off, e, hlt, hc⟩ := h.2 hp
    refine ⟨b, off, e, hlt, fun k hk => ?_⟩
    obtain ⟨z, hz, hcell⟩ := hc k hk
    exact ⟨z, hz, (hb.cell (p := ⟨b, off + k, none⟩) hlt).trans hcell⟩⟩
theorem plain_of {w : World} {a : Addr} {v : Value} (h : w.cell? (a.add 0) = some v) : ∃ b off, a = ⟨b, off, none⟩ ∧ b < w.heap.size := by
  obtain ⟨b, off, spot⟩ := a
  have hspot : spot = none := by simpa [Addr.add] using World.cell?_spot h
  subst hspot
  exact ⟨b, off, rfl, by simpa [Addr.add] using World.block_lt_of_cell? w _ h⟩
section
variable {H : Type} {enc : TypeId × Value → H} {W : World} {base : Nat}
set_option maxRecDepth 100000 in
theorem u8_cells : Tryz.prog.cellsOf 5 = 1 := by kernel_rfl
set_option maxRecDepth 100000 in
theorem open_bytes {v : Value} {d : DataW H} {p : List MemPlace} (hv : Value.okWide Tryz.prog W .any base 31 v) (h : DataW.Trod enc Tryz.prog W 0 (fun _ => true) true 31 v d p) :
    ∃ (A : Option Addr) (n : Nat) (c : Nat), v = .slice A n c ∧ ByteAt W W.heap.size A n := by
  obtain ⟨a0, len, cap, rfl⟩ := okWide_slice Tryz.underlying31 hv
  obtain ⟨fuel, hf⟩ := h
  rcases open_slice Tryz.underlying31 hf with ⟨hcs, _⟩ | ⟨a, len', cap', m, n, D, Pl, hcs, _, hl, hm, hmm, _, hi⟩
  · have e : Value.slice a0 len cap = .slice none 0 0 := by simpa [Value.cells] using hcs
    injection e with e1 e2 e3
    subst e1; subst e2; subst e3
    exact ⟨none, 0, 0, rfl, Nat.zero_le _, fun h => by cases h⟩
  · have e : Value.slice a0 len cap = .slice (some a) len' cap' := by simpa [Value.cells] using hcs
    injection e with e1 e2 e3
    subst e1; subst e2; subst e3
    simp only [if_true] at hmm
    rw [u8_cells] at hi
    have key0 : ∀ i, i < len → ∃ z : Nat, z < 256 ∧ W.cell? (a.add (i * 1)) = some (.int .u8 z) := by
      intro i hilt
      obtain ⟨cs', hc, ht⟩ := hi i (by omega)
      obtain ⟨_, hcl, hat⟩ := World.cells?_some hc
      obtain ⟨z, hz, _, hwf⟩ := DataW.trod_int Tryz.underlying5 ht
      have hb := bounds_u8 hwf
      have hcell := hat 0 (by omega)
      refine ⟨z.toNat, by omega, ?_⟩
      have e0 : (a.add (i * 1)).add 0 = a.add (i * 1) := by unfold Addr.add; simp
      rw [e0] at hcell
      rw [hcell, hz]
      simp only [List.getElem?_cons_zero]
      congr 2
      omega
    refine ⟨some a, len, cap, rfl, by omega, fun hp => ?_⟩
    obtain ⟨_, _, h0⟩ := key0 0 hp
    obtain ⟨b, off, rfl, hb⟩ := plain_of h0
    refine ⟨b, off, rfl, hb, fun k hk => ?_⟩
    obtain ⟨z, g, c⟩ := key0 k hk
    rw [Go.WideShapes.add_plain, Nat.mul_one] at c
    exact ⟨z, g, c⟩
end
theorem piece_of (j : Nat) (hj : j < 19) : ∃ p : ByteArray, p.size ≤ 14 ∧ (#[.string ⟨#[99, 108, 97, 115, 115, 32]⟩, .string ⟨#[97, 32, 98, 101, 102, 111, 114, 101, 32, 98, 59]⟩, .string ⟨#[108, 105, 109, 105, 116, 32]⟩, .string ⟨#[115, 117, 98, 111, 114, 100, 105, 110, 97, 116, 101, 32]⟩, .string ⟨#[97]⟩, .string ⟨#[98, 32]⟩, .string ⟨#[99]⟩, .string ⟨#[49, 50]⟩, .string ⟨#[32, 51, 46, 53]⟩, .string ⟨#[32, 55, 47, 50]⟩, .string ⟨#[32, 49, 47, 48]⟩, .string ⟨#[61]⟩, .string ⟨#[44]⟩, .string ⟨#[59]⟩, .string ⟨#[59, 10]⟩, .string ⟨#[99, 108, 97, 115, 115, 32, 112, 32, 61, 32, 97, 59]⟩, .string ⟨#[108, 105, 109, 105, 116, 32, 97, 32, 51, 59]⟩, .string ⟨#[115, 117, 98, 111, 114, 100, 105, 110, 97, 116, 101, 32, 99, 59]⟩, .string ⟨#[98, 101, 102, 111, 114, 101, 32]⟩] : Array Value)[j]? = some (.string p) := by
  match j, hj with
  | 0, _ => exact ⟨⟨#[99, 108, 97, 115, 115, 32]⟩, by decide, rfl⟩
  | 1, _ => exact ⟨⟨#[97, 32, 98, 101, 102, 111, 114, 101, 32, 98, 59]⟩, by decide, rfl⟩
  | 2, _ => exact ⟨⟨#[108, 105, 109, 105, 116, 32]⟩, by decide, rfl⟩
  | 3, _ => exact ⟨⟨#[115, 117, 98, 111, 114, 100, 105, 110, 97, 116, 101, 32]⟩, by decide, rfl⟩
  | 4, _ => exact ⟨⟨#[97]⟩, by decide, rfl⟩
  | 5, _ => exact ⟨⟨#[98, 32]⟩, by decide, rfl⟩
  | 6, _ => exact ⟨⟨#[99]⟩, by decide, rfl⟩
  | 7, _ => exact ⟨⟨#[49, 50]⟩, by decide, rfl⟩
  | 8, _ => exact ⟨⟨#[32, 51, 46, 53]⟩, by decide, rfl⟩
  | 9, _ => exact ⟨⟨#[32, 55, 47, 50]⟩, by decide, rfl⟩
  | 10, _ => exact ⟨⟨#[32, 49, 47, 48]⟩, by decide, rfl⟩
  | 11, _ => exact ⟨⟨#[61]⟩, by decide, rfl⟩
  | 12, _ => exact ⟨⟨#[44]⟩, by decide, rfl⟩
  | 13, _ => exact ⟨⟨#[59]⟩, by decide, rfl⟩
  | 14, _ => exact ⟨⟨#[59, 10]⟩, by decide, rfl⟩
  | 15, _ => exact ⟨⟨#[99, 108, 97, 115, 115, 32, 112, 32, 61, 32, 97, 59]⟩, by decide, rfl⟩
  | 16, _ => exact ⟨⟨#[108, 105, 109, 105, 116, 32, 97, 32, 51, 59]⟩, by decide, rfl⟩
  | 17, _ => exact ⟨⟨#[115, 117, 98, 111, 114, 100, 105, 110, 97, 116, 101, 32, 99, 59]⟩, by decide, rfl⟩
  | 18, _ => exact ⟨⟨#[98, 101, 102, 111, 114, 101, 32]⟩, by decide, rfl⟩
  | n + 19, h => exact absurd h (by omega)
theorem piece_at (W : World) (j : Nat) (hj : j < 19) : ∃ p : ByteArray, p.size ≤ 14 ∧ (W.alloc (.cells #[.string ⟨#[99, 108, 97, 115, 115, 32]⟩, .string ⟨#[97, 32, 98, 101, 102, 111, 114, 101, 32, 98, 59]⟩, .string ⟨#[108, 105, 109, 105, 116, 32]⟩, .string ⟨#[115, 117, 98, 111, 114, 100, 105, 110, 97, 116, 101, 32]⟩, .string ⟨#[97]⟩, .string ⟨#[98, 32]⟩, .string ⟨#[99]⟩, .string ⟨#[49, 50]⟩, .string ⟨#[32, 51, 46, 53]⟩, .string ⟨#[32, 55, 47, 50]⟩, .string ⟨#[32, 49, 47, 48]⟩, .string ⟨#[61]⟩, .string ⟨#[44]⟩, .string ⟨#[59]⟩, .string ⟨#[59, 10]⟩, .string ⟨#[99, 108, 97, 115, 115, 32, 112, 32, 61, 32, 97, 59]⟩, .string ⟨#[108, 105, 109, 105, 116, 32, 97, 32, 51, 59]⟩, .string ⟨#[115, 117, 98, 111, 114, 100, 105, 110, 97, 116, 101, 32, 99, 59]⟩, .string ⟨#[98, 101, 102, 111, 114, 101, 32]⟩] 9)).cell? ⟨W.heap.size, j, none⟩ = some (.string p) := by
  obtain ⟨p, h1, h2⟩ := piece_of j hj
  exact ⟨p, h1, by rw [World.cell?_alloc_new]; exact h2⟩
set_option maxHeartbeats 2000000 in
theorem pieces_row (b off len cap : Nat) (w : World) (hlen : len ≤ maxLen) (hbw : b < w.heap.size) (h : ∀ k, k < len → ∃ z : Nat, z < 256 ∧ w.cell? ⟨b, off + k, none⟩ = some (.int .u8 z)) :
    Calls Tryz.prog 13 #[.slice (some ⟨b, off, none⟩) len cap] w fun e w' => ∃ s : ByteArray, e = .returned (.string s) ∧ s.size ≤ 900 ∧ Below w.heap.size w w' := by
  unfold maxLen at hlen
  have H := hide h
  clear h
  go_enter Tryz.func13, Tryz.ntmps13
  go_wp2_with fail
  go_loopw [3, 4] (fun v i wr => ∃ (k : Nat) (s : ByteArray), k ≤ 60 ∧ k ≤ len ∧ i = .int .i64 k ∧ v = .string s ∧ s.size ≤ 14 * k ∧ Below w.heap.size w wr) (fun _ i _ => 60 - (intOf i).toNat)
  case atStart => exact ⟨0, _, by omega, by omega, rfl, rfl, by decide, Below.refl _ _⟩
  case round =>
    obtain ⟨k, s, hk, hkl, rfl, rfl, hsz, hbel⟩ := hrel
    by_cases hc : k < len ∧ k < 60
    · obtain ⟨hc1, hc2⟩ := hc
      obtain ⟨z, hz1, hz⟩ := H.out k hc1
      have hbr : b < wr.heap.size := Nat.lt_of_lt_of_le hbw hbel.size
      have hz' : ∀ o, (wr.alloc o).cell? ⟨b, off + k, none⟩ = some (.int .u8 z) := fun o => (World.cell?_alloc_lt wr o ⟨b, off + k, none⟩ hbr).trans ((hbel.cell (p := ⟨b, off + k, none⟩) hbw).trans hz)
      clear hz
      obtain ⟨p, hp1, hp2⟩ := piece_at wr (z % 19) (by omega)
      have hsp : s.size + p.size ≤ 900 := by omega
      go_wp2_with fail
      go_roundw
      case rel => exact ⟨k + 1, s ++ p, by omega, by omega, by go_num, rfl, by rw [ByteArray.size_append]; omega, hbel.alloc hbel.size _⟩
      case measure => simp [intOf]; omega
    · by_cases hc1 : k < len
      all_goals
        go_wp2_with fail
        go_ret
        exact ⟨s, rfl, by omega, hbel⟩
set_option maxHeartbeats 2000000 in
theorem pieces_nil (a : Option Addr) (cap : Nat) (w : World) :
    Calls Tryz.prog 13 #[.slice a 0 cap] w fun e w' => ∃ s : ByteArray, e = .returned (.string s) ∧ s.size ≤ 900 ∧ Below w.heap.size w w' := by
  go_enter Tryz.func13, Tryz.ntmps13
  go_wp2_with fail
  go_loopw [3, 4] (fun v i wr => v = .string ⟨#[]⟩ ∧ i = .int .i64 0 ∧ wr = w) (fun _ _ _ => 0)
  case atStart => exact ⟨rfl, rfl, rfl⟩
  case round =>
    obtain ⟨rfl, rfl, rfl⟩ := hrel
    go_wp2_with fail
    go_ret
    exact ⟨_, rfl, by decide, Below.refl _ _⟩
theorem pieces_any (a : Option Addr) (len cap : Nat) (w : World) (h : ByteAt w w.heap.size a len) :
    Calls Tryz.prog 13 #[.slice a len cap] w fun e w' => ∃ s : ByteArray, e = .returned (.string s) ∧ s.size ≤ 900 ∧ Below w.heap.size w w' := by
  rcases Nat.eq_zero_or_pos len with rfl | hp
  · exact pieces_nil a cap w
  · obtain ⟨b, off, rfl, hb, hc⟩ := h.2 hp
    exact pieces_row b off len cap w h.1 hb hc
set_option maxHeartbeats 8000000 in
set_option maxRecDepth 100000 in
theorem pieces_law (a : Option Addr) (len cap : Nat) (w : World) (h : ByteAt w w.heap.size a len) (he : Env w) :
    Calls Tryz.prog 4 #[.slice a len cap] w fun e w' => e = .returned (.bool true) ∧ Below w.heap.size w w' := by
  have HAW := Lib.hid (fun w (h : Env w) => awake_cl w h)
  have H := hide h
  have HE := hide he
  clear h he
  go_enter Tryz.func4, Tryz.ntmps4
  go_wp2_with fail
  refine (pieces_any _ _ _ _ H.out).mono ?_
  rintro e w0 ⟨s, rfl, hsz, hb0⟩
  have P1 := Lib.hid (fun w (h : Env w) => parse_cl s w (by omega) h)
  have R1 := Lib.hid (fun w (h : Env w) => rparse_cl s w (by omega) h)
  generalize parseOf s = p at *
  obtain ⟨l, a, er⟩ := p
  unfold ParseP at P1 R1
  dsimp only at P1 R1
  have HE0 := hide (HE.out.below hb0)
  have HB0 := hide hb0
  clear hb0
  go_wp2_with fail
  refine (P1.out _ HE0.out).mono ?_
  rintro e w5 ⟨A, c, rfl, hc5, hb5⟩
  have HE5 := hide (HE0.out.below hb5)
  have HC5 := hide hc5
  have HB5 := hide (HB0.out.trans (hb5.mono HB0.out.size))
  clear hc5 hb5
  go_wp2_with fail
  refine (R1.out _ HE5.out).mono ?_
  rintro e w6 ⟨A', c', rfl, hc6, hb6⟩
  have HE6 := hide (HE5.out.below hb6)
  have HC6 := hide (HC5.out.below hb6)
  have HD6 := hide hc6
  have HB6 := hide (HB5.out.trans (hb6.mono HB5.out.size))
  clear hc6 hb6 R1
  go_wp2_with fail
  refine (HAW.out _ HE6.out).mono ?_
  rintro e w7 ⟨rfl, hb7⟩
  have HC7 := hide (HC6.out.below hb7)
  have HD7 := hide (HD6.out.below hb7)
  have HB7 := hide (HB6.out.trans (hb7.mono HB6.out.size))
  clear hb7
  go_wp2_with fail
  refine (same_cls l A A' c c' _ HC7.out HD7.out).mono ?_
  rintro e w8 ⟨rfl, hb8⟩
  have HB8 := hide (HB7.out.trans (hb8.mono HB7.out.size))
  clear hb8
  go_wp2_with fail
  go_ret
  exact ⟨rfl, HB8.out⟩
end Go.Proofs.YtnbdckfnohagbaaGreatDoor.PqP
namespace Go.Proofs.YtnbdckfnohagbaaGreatDoor.PqR
theorem here : True := trivial
open Go.RowKit Go.ChangeShapes Go.WideShapes Go.ChangeAt Go.Deep Lx Wd RnW PqA PqB PqG PqP RsX
section
variable {H : Type} {enc : TypeId × Value → H} {W : World} {base : Nat}
theorem cl_und : Tryz.prog.underlying 45 = some (.struct (Tryz.prog.fieldsOf 45)) := by kernel_rfl
theorem cl_size : (Tryz.prog.fieldsOf 45).size = 6 := by kernel_rfl
theorem cl_cells : Tryz.prog.cellsOf 45 = 8 := by kernel_rfl
theorem rat_size : (Tryz.prog.fieldsOf 43).size = 3 := by kernel_rfl
theorem rat_cells : Tryz.prog.cellsOf 43 = 3 := by kernel_rfl
set_option maxRecDepth 100000 in
theorem und_str : Tryz.prog.underlying 9 = some .string := by kernel_rfl
set_option maxRecDepth 100000 in
theorem und_bool : Tryz.prog.underlying 4 = some .bool := by kernel_rfl
set_option maxRecDepth 100000 in
theorem und_int : Tryz.prog.underlying 3 = some (.int .i64) := by kernel_rfl
theorem one_str : Tryz.prog.cellsOf 9 = 1 := by kernel_rfl
theorem one_int : Tryz.prog.cellsOf 3 = 1 := by kernel_rfl
theorem one_bool : Tryz.prog.cellsOf 4 = 1 := by kernel_rfl
theorem one_strs : Tryz.prog.cellsOf 41 = 1 := by kernel_rfl
theorem split3 {α β γ δ : Type} {p : δ → α} {q : δ → β} {r : δ → γ} {o : Option δ} {a : α} {b : β} {c : γ} (h : o.map (fun f => (p f, q f, r f)) = some (a, b, c)) : ∃ f, o = some f ∧ p f = a ∧ q f = b ∧ r f = c := by
  obtain ⟨f, h1, h2⟩ := Option.map_eq_some_iff.1 h
  injection h2 with h2 h3
  injection h3 with h3 h4
  exact ⟨f, h1, h2, h3, h4⟩
set_option maxRecDepth 100000 in
theorem cl_f0 : ∃ f, (Tryz.prog.fieldsOf 45)[0]? = some f ∧ f.type = 3 ∧ f.offset = 0 ∧ () = () := split3 (r := fun _ => ()) (show ((Tryz.prog.fieldsOf 45)[0]?).map (fun f => (f.type, f.offset, ())) = some (3, 0, ()) by kernel_rfl)
set_option maxRecDepth 100000 in
theorem cl_f1 : ∃ f, (Tryz.prog.fieldsOf 45)[1]? = some f ∧ f.type = 9 ∧ f.offset = 1 ∧ () = () := split3 (r := fun _ => ()) (show ((Tryz.prog.fieldsOf 45)[1]?).map (fun f => (f.type, f.offset, ())) = some (9, 1, ()) by kernel_rfl)
set_option maxRecDepth 100000 in
theorem cl_f2 : ∃ f, (Tryz.prog.fieldsOf 45)[2]? = some f ∧ f.type = 9 ∧ f.offset = 2 ∧ () = () := split3 (r := fun _ => ()) (show ((Tryz.prog.fieldsOf 45)[2]?).map (fun f => (f.type, f.offset, ())) = some (9, 2, ()) by kernel_rfl)
set_option maxRecDepth 100000 in
theorem cl_f3 : ∃ f, (Tryz.prog.fieldsOf 45)[3]? = some f ∧ f.type = 41 ∧ f.offset = 3 ∧ () = () := split3 (r := fun _ => ()) (show ((Tryz.prog.fieldsOf 45)[3]?).map (fun f => (f.type, f.offset, ())) = some (41, 3, ()) by kernel_rfl)
set_option maxRecDepth 100000 in
theorem cl_f4 : ∃ f, (Tryz.prog.fieldsOf 45)[4]? = some f ∧ f.type = 43 ∧ f.offset = 4 ∧ () = () := split3 (r := fun _ => ()) (show ((Tryz.prog.fieldsOf 45)[4]?).map (fun f => (f.type, f.offset, ())) = some (43, 4, ()) by kernel_rfl)
set_option maxRecDepth 100000 in
theorem cl_f5 : ∃ f, (Tryz.prog.fieldsOf 45)[5]? = some f ∧ f.type = 3 ∧ f.offset = 7 ∧ () = () := split3 (r := fun _ => ()) (show ((Tryz.prog.fieldsOf 45)[5]?).map (fun f => (f.type, f.offset, ())) = some (3, 7, ()) by kernel_rfl)
set_option maxRecDepth 100000 in
theorem rat_g0 : ∃ f, (Tryz.prog.fieldsOf 43)[0]? = some f ∧ f.type = 4 ∧ f.offset = 0 ∧ () = () := split3 (r := fun _ => ()) (show ((Tryz.prog.fieldsOf 43)[0]?).map (fun f => (f.type, f.offset, ())) = some (4, 0, ()) by kernel_rfl)
set_option maxRecDepth 100000 in
theorem rat_g1 : ∃ f, (Tryz.prog.fieldsOf 43)[1]? = some f ∧ f.type = 9 ∧ f.offset = 1 ∧ () = () := split3 (r := fun _ => ()) (show ((Tryz.prog.fieldsOf 43)[1]?).map (fun f => (f.type, f.offset, ())) = some (9, 1, ()) by kernel_rfl)
set_option maxRecDepth 100000 in
theorem rat_g2 : ∃ f, (Tryz.prog.fieldsOf 43)[2]? = some f ∧ f.type = 9 ∧ f.offset = 2 ∧ () = () := split3 (r := fun _ => ()) (show ((Tryz.prog.fieldsOf 43)[2]?).map (fun f => (f.type, f.offset, ())) = some (9, 2, ()) by kernel_rfl)
/-- the sizes of a clause's strings, the range of its numbers -/
structure ClIn (x : Cl) : Prop where
  kind : -9223372036854775808 ≤ x.kind ∧ x.kind ≤ 9223372036854775807
  name : x.name.size ≤ maxLen
  other : x.other.size ≤ maxLen
  list : ∀ s ∈ x.list, s.size ≤ maxLen
  num : x.num.size ≤ maxLen
  den : x.den.size ≤ maxLen
  off : -9223372036854775808 ≤ x.off ∧ x.off ≤ 9223372036854775807
  len : x.list.length ≤ maxLen
theorem trod_rat {n : Nat} {v0 v1 v2 : Value} {y : DataW H × List MemPlace} (h : DataW.trod enc Tryz.prog W 0 (fun _ => true) true n 43 [v0, v1, v2] = some y) :
    ∃ (b : Bool) (s t : ByteArray), v0 = .bool b ∧ v1 = .string s ∧ v2 = .string t ∧ s.size ≤ maxLen ∧ t.size ≤ maxLen := by
  obtain ⟨xs, n', _, _, _, hlen, hg⟩ := DataW.trod_struct rat_und h
  rw [rat_size] at hlen
  obtain ⟨f0, a0, b0, o0, _⟩ := rat_g0
  obtain ⟨f1, a1, b1, o1, _⟩ := rat_g1
  obtain ⟨f2, a2, b2, o2, _⟩ := rat_g2
  have t0 := hg 0 f0 a0
  have t1 := hg 1 f1 a1
  have t2 := hg 2 f2 a2
  rw [b0, o0, one_bool, List.getElem?_eq_getElem (by omega)] at t0
  rw [b1, o1, one_str, List.getElem?_eq_getElem (by omega)] at t1
  rw [b2, o2, one_str, List.getElem?_eq_getElem (by omega)] at t2
  obtain ⟨b, hb, _⟩ := DataW.trod_bool und_bool t0
  obtain ⟨s, hs, _, hs2⟩ := DataW.trod_string und_str t1
  obtain ⟨t, ht, _, ht2⟩ := DataW.trod_string und_str t2
  exact ⟨b, s, t, by simpa using hb, by simpa using hs, by simpa using ht, hs2, ht2⟩
theorem trod_strs {n : Nat} {v : Value} {y : DataW H × List MemPlace} (h : DataW.trod enc Tryz.prog W 0 (fun _ => true) true n 41 [v] = some y) :
    ∃ (A : Option Addr) (l : List ByteArray) (c : Nat), v = .slice A l.length c ∧ Strs (fun _ => True) W A c l ∧ ∀ s ∈ l, s.size ≤ maxLen := by
  rcases open_strings Tryz.underlying41 und_str one_str h with ⟨hcs, _⟩ | ⟨a, len, cap, ss, hcs, _, hl, hm, hss, _, hc, hs⟩
  · exact ⟨none, [], 0, by simpa using hcs, Strs.nil _ _ _, fun s h => by cases h⟩
  · simp only [if_true] at hss
    have hlen : (ss.take len).length = len := by rw [List.length_take]; omega
    refine ⟨some a, ss.take len, cap, by rw [hlen]; simpa using hcs, ⟨by omega, fun hp => ?_⟩, fun s h => hs s (List.mem_of_mem_take h)⟩
    rw [hlen] at hp
    have h0 := hc 0 (by omega)
    obtain ⟨b, off, rfl, hb⟩ := plain_of h0
    refine ⟨b, off, rfl, hb, ⟨trivial, by omega⟩, fun k s hk => ?_⟩
    obtain ⟨hk1, hk2⟩ := List.getElem?_eq_some_iff.1 hk
    have hk3 : k < ss.length := by rw [hlen] at hk1; omega
    have := hc k hk3
    rw [Go.WideShapes.add_plain] at this
    rw [this]
    congr 2
    rw [← hk2, List.getElem_take, List.getD_eq_getElem?_getD, List.getElem?_eq_getElem hk3]
    rfl
theorem gather {α : Type} {Q : Nat → α → Prop} : ∀ (n : Nat), (∀ i, i < n → ∃ r, Q i r) → ∃ l : List α, l.length = n ∧ ∀ k r, l[k]? = some r → Q k r
  | 0, _ => ⟨[], rfl, fun k r h => by simp at h⟩
  | n + 1, h => by
    obtain ⟨l, hl, hq⟩ := gather n (fun i hi => h i (by omega))
    obtain ⟨r, hr⟩ := h n (by omega)
    refine ⟨l ++ [r], by simp [hl], fun k x hx => ?_⟩
    rcases Nat.lt_or_ge k l.length with hk | hk
    · rw [List.getElem?_append_left hk] at hx; exact hq k x hx
    · rw [List.getElem?_append_right hk] at hx
      obtain ⟨h1, h2⟩ := List.getElem?_eq_some_iff.1 hx
      have hk' : k = n := by simp at h1; omega
      subst hk'
      have : x = r := by simpa using h2.symm
      subst this; exact hr
theorem eight {α : Type} {l : List α} (h : l.length = 8) : ∃ a b c d e f g i, l = [a, b, c, d, e, f, g, i] := by
  match l, h with
  | [a, b, c, d, e, f, g, i], _ => exact ⟨a, b, c, d, e, f, g, i, rfl⟩
set_option maxRecDepth 100000 in
theorem open_clauses {v : Value} {d : DataW H} {p : List MemPlace} (hv : Value.okWide Tryz.prog W .any base 23 v) (h : DataW.Trod enc Tryz.prog W 0 (fun _ => true) true 23 v d p) :
    ∃ (A : Option Addr) (l : List Cl) (c : Nat), v = .slice A l.length c ∧ ClsAt W A l ∧ ∀ x ∈ l, ClIn x := by
  obtain ⟨a0, len, cap, rfl⟩ := okWide_slice Tryz.underlying23 hv
  obtain ⟨fuel, hf⟩ := h
  rcases open_slice Tryz.underlying23 hf with ⟨hcs, _⟩ | ⟨a, len', cap', m, n, D, Pl, hcs, _, hl, hm, hmm, _, hi⟩
  · have e : Value.slice a0 len cap = .slice none 0 0 := by simpa [Value.cells] using hcs
    injection e with e1 e2 e3
    subst e1; subst e2; subst e3
    exact ⟨none, [], 0, rfl, ClsAt.nil _ _, fun x h => by cases h⟩
  · have e : Value.slice a0 len cap = .slice (some a) len' cap' := by simpa [Value.cells] using hcs
    injection e with e1 e2 e3
    subst e1; subst e2; subst e3
    simp only [if_true] at hmm
    rw [cl_cells] at hi
    have key0 : ∀ i, i < len → ∃ x : Cl, ClIn x ∧ ∃ A' c', (∀ j v, (Cl.vals x A' c')[j]? = some v → W.cell? ((a.add (i * 8)).add j) = some v) ∧ Strs (fun _ => True) W A' c' x.list := by
      intro i hilt
      obtain ⟨cs', hc, ht⟩ := hi i (by omega)
      obtain ⟨_, hcl, hat⟩ := World.cells?_some hc
      obtain ⟨v0, v1, v2, v3, v4, v5, v6, v7, rfl⟩ := eight hcl
      obtain ⟨xs, n', _, _, _, hlen, hg⟩ := DataW.trod_struct cl_und ht
      rw [cl_size] at hlen
      obtain ⟨f0, a0, b0, o0, _⟩ := cl_f0
      obtain ⟨f1, a1, b1, o1, _⟩ := cl_f1
      obtain ⟨f2, a2, b2, o2, _⟩ := cl_f2
      obtain ⟨f3, a3, b3, o3, _⟩ := cl_f3
      obtain ⟨f4, a4, b4, o4, _⟩ := cl_f4
      obtain ⟨f5, a5, b5, o5, _⟩ := cl_f5
      have t0 := hg 0 f0 a0
      have t1 := hg 1 f1 a1
      have t2 := hg 2 f2 a2
      have t3 := hg 3 f3 a3
      have t4 := hg 4 f4 a4
      have t5 := hg 5 f5 a5
      rw [b0, o0, one_int, List.getElem?_eq_getElem (by omega)] at t0
      rw [b1, o1, one_str, List.getElem?_eq_getElem (by omega)] at t1
      rw [b2, o2, one_str, List.getElem?_eq_getElem (by omega)] at t2
      rw [b3, o3, one_strs, List.getElem?_eq_getElem (by omega)] at t3
      rw [b4, o4, rat_cells, List.getElem?_eq_getElem (by omega)] at t4
      rw [b5, o5, one_int, List.getElem?_eq_getElem (by omega)] at t5
      obtain ⟨k, hk, _, hk2⟩ := DataW.trod_int und_int t0
      obtain ⟨s, hs, _, hs2⟩ := DataW.trod_string und_str t1
      obtain ⟨o, ho, _, ho2⟩ := DataW.trod_string und_str t2
      obtain ⟨A', l, c', hl1, hl2, hl3⟩ := trod_strs t3
      obtain ⟨b, x, y, hb, hx, hy, hx2, hy2⟩ := trod_rat t4
      obtain ⟨z, hz, _, hz2⟩ := DataW.trod_int und_int t5
      have e0 : v0 = .int .i64 k := by simpa using hk
      have e1 : v1 = .string s := by simpa using hs
      have e2 : v2 = .string o := by simpa using ho
      have e7 : v7 = .int .i64 z := by simpa using hz
      subst e0; subst e1; subst e2; subst e7; subst hl1; subst hb; subst hx; subst hy
      refine ⟨⟨k, s, o, l, b, x, y, z⟩, ⟨bounds_i64 hk2, hs2, ho2, hl3, hx2, hy2, bounds_i64 hz2, hl2.1⟩, A', c', fun j v hj => ?_, hl2⟩
      have hj8 : j < 8 := by
        have := (List.getElem?_eq_some_iff.1 hj).1
        simpa [Cl.vals] using this
      rw [hat j hj8]
      exact hj
    have key : ∀ i, i < len → ∃ x : Cl, ClIn x ∧ ∃ b off, a = ⟨b, off, none⟩ ∧ b < W.heap.size ∧ ∃ A' c', (∀ j v, (Cl.vals x A' c')[j]? = some v → W.cell? ⟨b, off + i * 8 + j, none⟩ = some v) ∧ Strs (fun _ => True) W A' c' x.list := by
      intro i hilt
      obtain ⟨_, _, _, _, h0, _⟩ := key0 0 (by omega)
      have h00 := h0 0 _ rfl
      have e0 : (a.add (0 * 8)).add 0 = a.add 0 := by unfold Addr.add; simp
      rw [e0] at h00
      obtain ⟨b, off, rfl, hb⟩ := plain_of h00
      obtain ⟨x, hx, A', c', hj, hs⟩ := key0 i hilt
      refine ⟨x, hx, b, off, rfl, hb, A', c', fun j v hv => ?_, hs⟩
      have := hj j v hv
      rw [Go.WideShapes.add_plain, Go.WideShapes.add_plain] at this
      exact this
    obtain ⟨l, hll, hq⟩ := gather len key
    subst hll
    refine ⟨some a, l, cap, rfl, ⟨by omega, fun hp => ?_⟩, fun x hx => ?_⟩
    · obtain ⟨_, b, off, ha, hb, _⟩ := hq 0 _ (List.getElem?_eq_getElem hp)
      refine ⟨b, off, by rw [ha], hb, fun k x hk => ?_⟩
      obtain ⟨_, b', off', ha', _, hc⟩ := hq k _ hk
      rw [ha] at ha'
      injection ha' with e1 e2
      subst e1; subst e2
      exact hc
    · obtain ⟨k, hk⟩ := List.getElem?_of_mem hx
      exact (hq k x hk).1
end
end Go.Proofs.YtnbdckfnohagbaaGreatDoor.PqR
