/- The walk of pieces: a text of at most 660 bytes. -/
import Derived.Test.YthcimodihgcjaaaLxI
import Derived.OpenShut
namespace Go.Proofs.Ythcimodihgcjaaa.LxJ
open Go.RowKit Lx LxW LxD LxI
/-- what is known of a slice of integers that came in: nil, or a row of cells -/
def IsRow (k : IntKind) (w : World) (a : Option Addr) (len cap : Nat) (zs : List Int) : Prop :=
  (a = none ∧ len = 0 ∧ cap = 0 ∧ zs = []) ∨
  ∃ x, a = some x ∧ len ≤ cap ∧ cap ≤ maxLen ∧ zs.length = cap ∧ (∀ i, i < zs.length → w.cell? (x.add i) = some (.int k (zs.getD i 0))) ∧ ∀ n ∈ zs, (Lit.int k n).wf = true
theorem row_at {w : World} {a : Option Addr} {len cap : Nat} {zs : List Int} (h : IsRow .u8 w a len cap zs) (hp : 0 < len) :
    ∃ b off, a = some ⟨b, off, none⟩ ∧ b < w.heap.size ∧ ∀ k, k < len → ∃ z : Nat, z < 256 ∧ w.cell? ⟨b, off + k, none⟩ = some (.int .u8 z) := by
  rcases h with ⟨_, h, _⟩ | ⟨x, rfl, h1, h2, h3, h4, h5⟩
  · omega
  · obtain ⟨b, off, rfl, hc⟩ := ints_at h4 (by omega)
    refine ⟨b, off, rfl, World.block_lt_of_cell? w _ (hc 0 (by omega)), fun k hk => ?_⟩
    have hz : k < zs.length := by omega
    have hw := h5 (zs.getD k 0) (by rw [List.getD_eq_getElem?_getD, List.getElem?_eq_getElem hz]; simp)
    have hcc := hc k hz
    generalize zs.getD k 0 = z at hw hcc
    obtain ⟨h0, h9⟩ := bounds_u8 hw
    obtain ⟨m, rfl⟩ := Int.eq_ofNat_of_zero_le h0
    exact ⟨m, by omega, hcc⟩
theorem piece_of (j : Nat) (hj : j < 23) : ∃ p : ByteArray, p.size ≤ 11 ∧ (#[.string ⟨#[99, 108, 97, 115, 115]⟩, .string ⟨#[98, 101, 102, 111, 114, 101]⟩, .string ⟨#[108, 105, 109, 105, 116]⟩, .string ⟨#[115, 117, 98, 111, 114, 100, 105, 110, 97, 116, 101]⟩, .string ⟨#[97]⟩, .string ⟨#[98, 45, 49]⟩, .string ⟨#[99, 95, 50]⟩, .string ⟨#[49, 50]⟩, .string ⟨#[51, 46, 53]⟩, .string ⟨#[55, 47, 50]⟩, .string ⟨#[48]⟩, .string ⟨#[61]⟩, .string ⟨#[44]⟩, .string ⟨#[59]⟩, .string ⟨#[32]⟩, .string ⟨#[32]⟩, .string ⟨#[10]⟩, .string ⟨#[9]⟩, .string ⟨#[35, 120]⟩, .string ⟨#[46]⟩, .string ⟨#[47]⟩, .string ⟨#[45]⟩, .string ⟨#[99, 108, 97, 115, 115, 121]⟩] : Array Value)[j]? = some (.string p) := by
  match j, hj with
  | 0, _ => exact ⟨⟨#[99, 108, 97, 115, 115]⟩, by decide, rfl⟩
  | 1, _ => exact ⟨⟨#[98, 101, 102, 111, 114, 101]⟩, by decide, rfl⟩
  | 2, _ => exact ⟨⟨#[108, 105, 109, 105, 116]⟩, by decide, rfl⟩
  | 3, _ => exact ⟨⟨#[115, 117, 98, 111, 114, 100, 105, 110, 97, 116, 101]⟩, by decide, rfl⟩
  | 4, _ => exact ⟨⟨#[97]⟩, by decide, rfl⟩
  | 5, _ => exact ⟨⟨#[98, 45, 49]⟩, by decide, rfl⟩
  | 6, _ => exact ⟨⟨#[99, 95, 50]⟩, by decide, rfl⟩
  | 7, _ => exact ⟨⟨#[49, 50]⟩, by decide, rfl⟩
  | 8, _ => exact ⟨⟨#[51, 46, 53]⟩, by decide, rfl⟩
  | 9, _ => exact ⟨⟨#[55, 47, 50]⟩, by decide, rfl⟩
  | 10, _ => exact ⟨⟨#[48]⟩, by decide, rfl⟩
  | 11, _ => exact ⟨⟨#[61]⟩, by decide, rfl⟩
  | 12, _ => exact ⟨⟨#[44]⟩, by decide, rfl⟩
  | 13, _ => exact ⟨⟨#[59]⟩, by decide, rfl⟩
  | 14, _ => exact ⟨⟨#[32]⟩, by decide, rfl⟩
  | 15, _ => exact ⟨⟨#[32]⟩, by decide, rfl⟩
  | 16, _ => exact ⟨⟨#[10]⟩, by decide, rfl⟩
  | 17, _ => exact ⟨⟨#[9]⟩, by decide, rfl⟩
  | 18, _ => exact ⟨⟨#[35, 120]⟩, by decide, rfl⟩
  | 19, _ => exact ⟨⟨#[46]⟩, by decide, rfl⟩
  | 20, _ => exact ⟨⟨#[47]⟩, by decide, rfl⟩
  | 21, _ => exact ⟨⟨#[45]⟩, by decide, rfl⟩
  | 22, _ => exact ⟨⟨#[99, 108, 97, 115, 115, 121]⟩, by decide, rfl⟩
  | n + 23, h => exact absurd h (by omega)
theorem piece_at (W : World) (j : Nat) (hj : j < 23) : ∃ p : ByteArray, p.size ≤ 11 ∧ (W.alloc (.cells #[.string ⟨#[99, 108, 97, 115, 115]⟩, .string ⟨#[98, 101, 102, 111, 114, 101]⟩, .string ⟨#[108, 105, 109, 105, 116]⟩, .string ⟨#[115, 117, 98, 111, 114, 100, 105, 110, 97, 116, 101]⟩, .string ⟨#[97]⟩, .string ⟨#[98, 45, 49]⟩, .string ⟨#[99, 95, 50]⟩, .string ⟨#[49, 50]⟩, .string ⟨#[51, 46, 53]⟩, .string ⟨#[55, 47, 50]⟩, .string ⟨#[48]⟩, .string ⟨#[61]⟩, .string ⟨#[44]⟩, .string ⟨#[59]⟩, .string ⟨#[32]⟩, .string ⟨#[32]⟩, .string ⟨#[10]⟩, .string ⟨#[9]⟩, .string ⟨#[35, 120]⟩, .string ⟨#[46]⟩, .string ⟨#[47]⟩, .string ⟨#[45]⟩, .string ⟨#[99, 108, 97, 115, 115, 121]⟩] 9)).cell? ⟨W.heap.size, j, none⟩ = some (.string p) := by
  obtain ⟨p, h1, h2⟩ := piece_of j hj
  exact ⟨p, h1, by rw [World.cell?_alloc_new]; exact h2⟩
set_option maxHeartbeats 1000000 in
theorem pieces_row (b off len cap : Nat) (w : World) (hlen : len ≤ maxLen) (hbw : b < w.heap.size) (h : ∀ k, k < len → ∃ z : Nat, z < 256 ∧ w.cell? ⟨b, off + k, none⟩ = some (.int .u8 z)) :
    Calls Try.prog 15 #[.slice (some ⟨b, off, none⟩) len cap] w fun e w' => ∃ s : ByteArray, e = .returned (.string s) ∧ s.size ≤ 660 ∧ Below w.heap.size w w' := by
  unfold maxLen at hlen
  have H := hide h
  clear h
  go_enter Try.func15, Try.ntmps15
  go_wp2_with fail
  go_loopw [3, 4] (fun v i wr => ∃ (k : Nat) (s : ByteArray), k ≤ 60 ∧ k ≤ len ∧ i = .int .i64 k ∧ v = .string s ∧ s.size ≤ 11 * k ∧ Below w.heap.size w wr) (fun _ i _ => 60 - (intOf i).toNat)
  case atStart => exact ⟨0, _, by omega, by omega, rfl, rfl, by decide, Below.refl _ _⟩
  case round =>
    obtain ⟨k, s, hk, hkl, rfl, rfl, hsz, hbel⟩ := hrel
    by_cases hc : k < len ∧ k < 60
    · obtain ⟨hc1, hc2⟩ := hc
      obtain ⟨z, hz1, hz⟩ := H.out k hc1
      have hbr : b < wr.heap.size := Nat.lt_of_lt_of_le hbw hbel.size
      have hz' : ∀ o, (wr.alloc o).cell? ⟨b, off + k, none⟩ = some (.int .u8 z) := fun o => (World.cell?_alloc_lt wr o ⟨b, off + k, none⟩ hbr).trans ((hbel.cell (p := ⟨b, off + k, none⟩) hbw).trans hz)
      clear hz
      obtain ⟨p, hp1, hp2⟩ := piece_at wr (z % 23) (by omega)
      have hsp : s.size + p.size ≤ 660 := by omega
      go_wp2_with fail
      go_roundw
      case rel => exact ⟨k + 1, s ++ p, by omega, by omega, by go_num, rfl, by rw [ByteArray.size_append]; omega, hbel.alloc hbel.size _⟩
      case measure => simp [intOf]; omega
    · by_cases hc1 : k < len
      all_goals
        go_wp2_with fail
        go_ret
        exact ⟨s, rfl, by omega, hbel⟩
set_option maxHeartbeats 1000000 in
theorem pieces_nil (a : Option Addr) (cap : Nat) (w : World) :
    Calls Try.prog 15 #[.slice a 0 cap] w fun e w' => ∃ s : ByteArray, e = .returned (.string s) ∧ s.size ≤ 660 ∧ Below w.heap.size w w' := by
  go_enter Try.func15, Try.ntmps15
  go_wp2_with fail
  go_loopw [3, 4] (fun v i wr => v = .string ⟨#[]⟩ ∧ i = .int .i64 0 ∧ wr = w) (fun _ _ _ => 0)
  case atStart => exact ⟨rfl, rfl, rfl⟩
  case round =>
    obtain ⟨rfl, rfl, rfl⟩ := hrel
    go_wp2_with fail
    go_ret
    exact ⟨_, rfl, by decide, Below.refl _ _⟩
theorem pieces_any (a : Option Addr) (len cap : Nat) (zs : List Int) (w : World) (h : IsRow .u8 w a len cap zs) :
    Calls Try.prog 15 #[.slice a len cap] w fun e w' => ∃ s : ByteArray, e = .returned (.string s) ∧ s.size ≤ 660 ∧ Below w.heap.size w w' := by
  rcases Nat.eq_zero_or_pos len with rfl | hp
  · exact pieces_nil a cap w
  · have hlen : len ≤ maxLen := by
      rcases h with ⟨_, h, _⟩ | ⟨_, _, h1, h2, _⟩
      · omega
      · omega
    obtain ⟨b, off, rfl, hb, hc⟩ := row_at h hp
    exact pieces_row b off len cap w hlen hb hc
end Go.Proofs.Ythcimodihgcjaaa.LxJ
