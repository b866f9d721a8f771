/- The pieces of ParserPieces and the walk of the law. -/
import Derived.Test.YtnbdckfnohagbaaGreatDoorPqO
import Derived.OpenShut
import Derived.Deep.Slices
import Derived.ProofKit
namespace Go.Proofs.YtnbdckfnohagbaaGreatDoor.PqP
theorem here : True := trivial
open Go.RowKit Go.ChangeShapes Go.WideShapes Go.ChangeAt Go.Deep Lx Wd RnW PqA PqB PqC PqD PqE PqG PqH PqL PqM PqN RtA RpF
/-- a slice of bytes -/
def ByteAt (w : World) (B : Nat) (A : Option Addr) (n : Nat) : Prop := n ≤ maxLen ∧ (0 < n → ∃ b off, A = some ⟨b, off, none⟩ ∧ b < B ∧ ∀ k, k < n → ∃ z : Nat, z < 256 ∧ w.cell? ⟨b, off + k, none⟩ = some (.int .u8 z))
theorem ByteAt.below {w w' : World} {B n : Nat} {A : Option Addr} (h : ByteAt w B A n) (hb : Below B w w') : ByteAt w' B A n :=
  ⟨h.1, fun hp => by
    obtain ⟨b, off, e, hlt, hc⟩ := h.2 hp
    refine ⟨b, off, e, hlt, fun k hk => ?_⟩
    obtain ⟨z, hz, hcell⟩ := hc k hk
    exact ⟨z, hz, (hb.cell (p := ⟨b, off + k, none⟩) hlt).trans hcell⟩⟩
theorem plain_of {w : World} {a : Addr} {v : Value} (h : w.cell? (a.add 0) = some v) : ∃ b off, a = ⟨b, off, none⟩ ∧ b < w.heap.size := by
  obtain ⟨b, off, spot⟩ := a
  have hspot : spot = none := by simpa [Addr.add] using World.cell?_spot h
  subst hspot
  exact ⟨b, off, rfl, by simpa [Addr.add] using World.block_lt_of_cell? w _ h⟩
section
variable {H : Type} {enc : TypeId × Value → H} {W : World} {base : Nat}
set_option maxRecDepth 100000 in
theorem u8_cells : Tryz.prog.cellsOf 5 = 1 := by kernel_rfl
set_option maxRecDepth 100000 in
theorem open_bytes {v : Value} {d : DataW H} {p : List MemPlace} (hv : Value.okWide Tryz.prog W .any base 31 v) (h : DataW.Trod enc Tryz.prog W 0 (fun _ => true) true 31 v d p) :
    ∃ (A : Option Addr) (n : Nat) (c : Nat), v = .slice A n c ∧ ByteAt W W.heap.size A n := by
  obtain ⟨a0, len, cap, rfl⟩ := okWide_slice Tryz.underlying31 hv
  obtain ⟨fuel, hf⟩ := h
  rcases open_slice Tryz.underlying31 hf with ⟨hcs, _⟩ | ⟨a, len', cap', m, n, D, Pl, hcs, _, hl, hm, hmm, _, hi⟩
  · have e : Value.slice a0 len cap = .slice none 0 0 := by simpa [Value.cells] using hcs
    injection e with e1 e2 e3
    subst e1; subst e2; subst e3
    exact ⟨none, 0, 0, rfl, Nat.zero_le _, fun h => by cases h⟩
  · have e : Value.slice a0 len cap = .slice (some a) len' cap' := by simpa [Value.cells] using hcs
    injection e with e1 e2 e3
    subst e1; subst e2; subst e3
    simp only [if_true] at hmm
    rw [u8_cells] at hi
    have key0 : ∀ i, i < len → ∃ z : Nat, z < 256 ∧ W.cell? (a.add (i * 1)) = some (.int .u8 z) := by
      intro i hilt
      obtain ⟨cs', hc, ht⟩ := hi i (by omega)
      obtain ⟨_, hcl, hat⟩ := World.cells?_some hc
      obtain ⟨z, hz, _, hwf⟩ := DataW.trod_int Tryz.underlying5 ht
      have hb := bounds_u8 hwf
      have hcell := hat 0 (by omega)
      refine ⟨z.toNat, by omega, ?_⟩
      have e0 : (a.add (i * 1)).add 0 = a.add (i * 1) := by unfold Addr.add; simp
      rw [e0] at hcell
      rw [hcell, hz]
      simp only [List.getElem?_cons_zero]
      congr 2
      omega
    refine ⟨some a, len, cap, rfl, by omega, fun hp => ?_⟩
    obtain ⟨_, _, h0⟩ := key0 0 hp
    obtain ⟨b, off, rfl, hb⟩ := plain_of h0
    refine ⟨b, off, rfl, hb, fun k hk => ?_⟩
    obtain ⟨z, g, c⟩ := key0 k hk
    rw [Go.WideShapes.add_plain, Nat.mul_one] at c
    exact ⟨z, g, c⟩
end
theorem piece_of (j : Nat) (hj : j < 19) : ∃ p : ByteArray, p.size ≤ 14 ∧ (#[.string ⟨#[99, 108, 97, 115, 115, 32]⟩, .string ⟨#[97, 32, 98, 101, 102, 111, 114, 101, 32, 98, 59]⟩, .string ⟨#[108, 105, 109, 105, 116, 32]⟩, .string ⟨#[115, 117, 98, 111, 114, 100, 105, 110, 97, 116, 101, 32]⟩, .string ⟨#[97]⟩, .string ⟨#[98, 32]⟩, .string ⟨#[99]⟩, .string ⟨#[49, 50]⟩, .string ⟨#[32, 51, 46, 53]⟩, .string ⟨#[32, 55, 47, 50]⟩, .string ⟨#[32, 49, 47, 48]⟩, .string ⟨#[61]⟩, .string ⟨#[44]⟩, .string ⟨#[59]⟩, .string ⟨#[59, 10]⟩, .string ⟨#[99, 108, 97, 115, 115, 32, 112, 32, 61, 32, 97, 59]⟩, .string ⟨#[108, 105, 109, 105, 116, 32, 97, 32, 51, 59]⟩, .string ⟨#[115, 117, 98, 111, 114, 100, 105, 110, 97, 116, 101, 32, 99, 59]⟩, .string ⟨#[98, 101, 102, 111, 114, 101, 32]⟩] : Array Value)[j]? = some (.string p) := by
  match j, hj with
  | 0, _ => exact ⟨⟨#[99, 108, 97, 115, 115, 32]⟩, by decide, rfl⟩
  | 1, _ => exact ⟨⟨#[97, 32, 98, 101, 102, 111, 114, 101, 32, 98, 59]⟩, by decide, rfl⟩
  | 2, _ => exact ⟨⟨#[108, 105, 109, 105, 116, 32]⟩, by decide, rfl⟩
  | 3, _ => exact ⟨⟨#[115, 117, 98, 111, 114, 100, 105, 110, 97, 116, 101, 32]⟩, by decide, rfl⟩
  | 4, _ => exact ⟨⟨#[97]⟩, by decide, rfl⟩
  | 5, _ => exact ⟨⟨#[98, 32]⟩, by decide, rfl⟩
  | 6, _ => exact ⟨⟨#[99]⟩, by decide, rfl⟩
  | 7, _ => exact ⟨⟨#[49, 50]⟩, by decide, rfl⟩
  | 8, _ => exact ⟨⟨#[32, 51, 46, 53]⟩, by decide, rfl⟩
  | 9, _ => exact ⟨⟨#[32, 55, 47, 50]⟩, by decide, rfl⟩
  | 10, _ => exact ⟨⟨#[32, 49, 47, 48]⟩, by decide, rfl⟩
  | 11, _ => exact ⟨⟨#[61]⟩, by decide, rfl⟩
  | 12, _ => exact ⟨⟨#[44]⟩, by decide, rfl⟩
  | 13, _ => exact ⟨⟨#[59]⟩, by decide, rfl⟩
  | 14, _ => exact ⟨⟨#[59, 10]⟩, by decide, rfl⟩
  | 15, _ => exact ⟨⟨#[99, 108, 97, 115, 115, 32, 112, 32, 61, 32, 97, 59]⟩, by decide, rfl⟩
  | 16, _ => exact ⟨⟨#[108, 105, 109, 105, 116, 32, 97, 32, 51, 59]⟩, by decide, rfl⟩
  | 17, _ => exact ⟨⟨#[115, 117, 98, 111, 114, 100, 105, 110, 97, 116, 101, 32, 99, 59]⟩, by decide, rfl⟩
  | 18, _ => exact ⟨⟨#[98, 101, 102, 111, 114, 101, 32]⟩, by decide, rfl⟩
  | n + 19, h => exact absurd h (by omega)
theorem piece_at (W : World) (j : Nat) (hj : j < 19) : ∃ p : ByteArray, p.size ≤ 14 ∧ (W.alloc (.cells #[.string ⟨#[99, 108, 97, 115, 115, 32]⟩, .string ⟨#[97, 32, 98, 101, 102, 111, 114, 101, 32, 98, 59]⟩, .string ⟨#[108, 105, 109, 105, 116, 32]⟩, .string ⟨#[115, 117, 98, 111, 114, 100, 105, 110, 97, 116, 101, 32]⟩, .string ⟨#[97]⟩, .string ⟨#[98, 32]⟩, .string ⟨#[99]⟩, .string ⟨#[49, 50]⟩, .string ⟨#[32, 51, 46, 53]⟩, .string ⟨#[32, 55, 47, 50]⟩, .string ⟨#[32, 49, 47, 48]⟩, .string ⟨#[61]⟩, .string ⟨#[44]⟩, .string ⟨#[59]⟩, .string ⟨#[59, 10]⟩, .string ⟨#[99, 108, 97, 115, 115, 32, 112, 32, 61, 32, 97, 59]⟩, .string ⟨#[108, 105, 109, 105, 116, 32, 97, 32, 51, 59]⟩, .string ⟨#[115, 117, 98, 111, 114, 100, 105, 110, 97, 116, 101, 32, 99, 59]⟩, .string ⟨#[98, 101, 102, 111, 114, 101, 32]⟩] 9)).cell? ⟨W.heap.size, j, none⟩ = some (.string p) := by
  obtain ⟨p, h1, h2⟩ := piece_of j hj
  exact ⟨p, h1, by rw [World.cell?_alloc_new]; exact h2⟩
set_option maxHeartbeats 2000000 in
theorem pieces_row (b off len cap : Nat) (w : World) (hlen : len ≤ maxLen) (hbw : b < w.heap.size) (h : ∀ k, k < len → ∃ z : Nat, z < 256 ∧ w.cell? ⟨b, off + k, none⟩ = some (.int .u8 z)) :
    Calls Tryz.prog 13 #[.slice (some ⟨b, off, none⟩) len cap] w fun e w' => ∃ s : ByteArray, e = .returned (.string s) ∧ s.size ≤ 900 ∧ Below w.heap.size w w' := by
  unfold maxLen at hlen
  have H := hide h
  clear h
  go_enter Tryz.func13, Tryz.ntmps13
  go_wp2_with fail
  go_loopw [3, 4] (fun v i wr => ∃ (k : Nat) (s : ByteArray), k ≤ 60 ∧ k ≤ len ∧ i = .int .i64 k ∧ v = .string s ∧ s.size ≤ 14 * k ∧ Below w.heap.size w wr) (fun _ i _ => 60 - (intOf i).toNat)
  case atStart => exact ⟨0, _, by omega, by omega, rfl, rfl, by decide, Below.refl _ _⟩
  case round =>
    obtain ⟨k, s, hk, hkl, rfl, rfl, hsz, hbel⟩ := hrel
    by_cases hc : k < len ∧ k < 60
    · obtain ⟨hc1, hc2⟩ := hc
      obtain ⟨z, hz1, hz⟩ := H.out k hc1
      have hbr : b < wr.heap.size := Nat.lt_of_lt_of_le hbw hbel.size
      have hz' : ∀ o, (wr.alloc o).cell? ⟨b, off + k, none⟩ = some (.int .u8 z) := fun o => (World.cell?_alloc_lt wr o ⟨b, off + k, none⟩ hbr).trans ((hbel.cell (p := ⟨b, off + k, none⟩) hbw).trans hz)
      clear hz
      obtain ⟨p, hp1, hp2⟩ := piece_at wr (z % 19) (by omega)
      have hsp : s.size + p.size ≤ 900 := by omega
      go_wp2_with fail
      go_roundw
      case rel => exact ⟨k + 1, s ++ p, by omega, by omega, by go_num, rfl, by rw [ByteArray.size_append]; omega, hbel.alloc hbel.size _⟩
      case measure => simp [intOf]; omega
    · by_cases hc1 : k < len
      all_goals
        go_wp2_with fail
        go_ret
        exact ⟨s, rfl, by omega, hbel⟩
set_option maxHeartbeats 2000000 in
theorem pieces_nil (a : Option Addr) (cap : Nat) (w : World) :
    Calls Tryz.prog 13 #[.slice a 0 cap] w fun e w' => ∃ s : ByteArray, e = .returned (.string s) ∧ s.size ≤ 900 ∧ Below w.heap.size w w' := by
  go_enter Tryz.func13, Tryz.ntmps13
  go_wp2_with fail
  go_loopw [3, 4] (fun v i wr => v = .string ⟨#[]⟩ ∧ i = .int .i64 0 ∧ wr = w) (fun _ _ _ => 0)
  case atStart => exact ⟨rfl, rfl, rfl⟩
  case round =>
    obtain ⟨rfl, rfl, rfl⟩ := hrel
    go_wp2_with fail
    go_ret
    exact ⟨_, rfl, by decide, Below.refl _ _⟩
theorem pieces_any (a : Option Addr) (len cap : Nat) (w : World) (h : ByteAt w w.heap.size a len) :
    Calls Tryz.prog 13 #[.slice a len cap] w fun e w' => ∃ s : ByteArray, e = .returned (.string s) ∧ s.size ≤ 900 ∧ Below w.heap.size w w' := by
  rcases Nat.eq_zero_or_pos len with rfl | hp
  · exact pieces_nil a cap w
  · obtain ⟨b, off, rfl, hb, hc⟩ := h.2 hp
    exact pieces_row b off len cap w h.1 hb hc
set_option maxHeartbeats 8000000 in
set_option maxRecDepth 100000 in
theorem pieces_law (a : Option Addr) (len cap : Nat) (w : World) (h : ByteAt w w.heap.size a len) (he : Env w) :
    Calls Tryz.prog 4 #[.slice a len cap] w fun e w' => e = .returned (.bool true) ∧ Below w.heap.size w w' := by
  have HAW := Lib.hid (fun w (h : Env w) => awake_cl w h)
  have H := hide h
  have HE := hide he
  clear h he
  go_enter Tryz.func4, Tryz.ntmps4
  go_wp2_with fail
  refine (pieces_any _ _ _ _ H.out).mono ?_
  rintro e w0 ⟨s, rfl, hsz, hb0⟩
  have P1 := Lib.hid (fun w (h : Env w) => parse_cl s w (by omega) h)
  have R1 := Lib.hid (fun w (h : Env w) => rparse_cl s w (by omega) h)
  generalize parseOf s = p at *
  obtain ⟨l, a, er⟩ := p
  unfold ParseP at P1 R1
  dsimp only at P1 R1
  have HE0 := hide (HE.out.below hb0)
  have HB0 := hide hb0
  clear hb0
  go_wp2_with fail
  refine (P1.out _ HE0.out).mono ?_
  rintro e w5 ⟨A, c, rfl, hc5, hb5⟩
  have HE5 := hide (HE0.out.below hb5)
  have HC5 := hide hc5
  have HB5 := hide (HB0.out.trans (hb5.mono HB0.out.size))
  clear hc5 hb5
  go_wp2_with fail
  refine (R1.out _ HE5.out).mono ?_
  rintro e w6 ⟨A', c', rfl, hc6, hb6⟩
  have HE6 := hide (HE5.out.below hb6)
  have HC6 := hide (HC5.out.below hb6)
  have HD6 := hide hc6
  have HB6 := hide (HB5.out.trans (hb6.mono HB5.out.size))
  clear hc6 hb6 R1
  go_wp2_with fail
  refine (HAW.out _ HE6.out).mono ?_
  rintro e w7 ⟨rfl, hb7⟩
  have HC7 := hide (HC6.out.below hb7)
  have HD7 := hide (HD6.out.below hb7)
  have HB7 := hide (HB6.out.trans (hb7.mono HB6.out.size))
  clear hb7
  go_wp2_with fail
  refine (same_cls l A A' c c' _ HC7.out HD7.out).mono ?_
  rintro e w8 ⟨rfl, hb8⟩
  have HB8 := hide (HB7.out.trans (hb8.mono HB7.out.size))
  clear hb8
  go_wp2_with fail
  go_ret
  exact ⟨rfl, HB8.out⟩
end Go.Proofs.YtnbdckfnohagbaaGreatDoor.PqP
