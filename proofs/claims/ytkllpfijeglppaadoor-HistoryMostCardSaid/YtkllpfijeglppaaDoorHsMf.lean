/- samePairs. -/
import Derived.Test.YtkllpfijeglppaaDoorHsMe
import Derived.ChangeKeysEq
namespace Go.Proofs.YtkllpfijeglppaaDoor.HsMf
open Go.RowKit Hs HsB HsC HsD HsE HsV HsMa HsMb HsMc HsMe
theorem arr_guard : Tryd.prog.eqGuardType Tryd.prog.depth 62 = false := by kernel_rfl
theorem arr_und2 : Tryd.prog.underlying 62 = some (.array 2 3) := by kernel_rfl
theorem int_und : Tryd.prog.underlying 3 = some (.int .i64) := by kernel_rfl
theorem pair_neq (a b c d : Int) (W : World) (i0 : TypeInfo) (hi : Tryd.prog.info? 3 = some i0) (hz : Tryd.prog.cellsOf 3 = 1) : (binOp .neq 62 (.agg #[.int .i64 a, .int .i64 b]) (.agg #[.int .i64 c, .int .i64 d])).run Tryd.prog W = .ok (.bool (!(a == c && b == d))) W := by
  rw [run_neq_struct, run_equalIn_array (w := W) 9999 _ _ arr_und2 hi, hz]
  simp [go_sem, Op.eqItems, List.range, List.range.loop]
  repeat' split
  all_goals simp_all
/-- a slice reads as a list of pairs -/
def PairsAt (w : World) (B : Nat) (A : Option Addr) (l : List (Nat × Nat)) : Prop :=
  l.length ≤ maxLen ∧ (0 < l.length → ∃ b off, A = some ⟨b, off, none⟩ ∧ b < B ∧ ∀ k r, l[k]? = some r → w.cell? ⟨b, off + k * 2, none⟩ = some (.int .i64 (r.1 : Int)) ∧ w.cell? ⟨b, off + k * 2 + 1, none⟩ = some (.int .i64 (r.2 : Int)))
theorem PairsAt.below {w w' : World} {B : Nat} {A : Option Addr} {l : List (Nat × Nat)} (h : PairsAt w B A l) (hb : Below B w w') : PairsAt w' B A l :=
  ⟨h.1, fun hp => by
    obtain ⟨b, off, e, hlt, hc⟩ := h.2 hp
    exact ⟨b, off, e, hlt, fun k r hk => ⟨(hb.cell (p := ⟨b, off + k * 2, none⟩) hlt).trans (hc k r hk).1, (hb.cell (p := ⟨b, off + k * 2 + 1, none⟩) hlt).trans (hc k r hk).2⟩⟩⟩
set_option maxHeartbeats 2000000 in
set_option maxRecDepth 100000 in
theorem samePairs_yes (l : List (Nat × Nat)) (A A' : Option Addr) (c c' : Nat) (w : World) (i0 : TypeInfo) (hi : Tryd.prog.info? 3 = some i0) (hz : Tryd.prog.cellsOf 3 = 1) (h : PairsAt w w.heap.size A l) (h' : PairsAt w w.heap.size A' l) :
    Calls Tryd.prog 31 #[.slice A l.length c, .slice A' l.length c'] w fun e w' => e = .returned (.bool true) ∧ Below w.heap.size w w' := by
  have hlen := h.1
  unfold maxLen at hlen
  have H := hide h
  have H' := hide h'
  have hrn := fun (a b : Int) W => (pair_neq a b a b W i0 hi hz).trans (by simp : (Result.ok (Value.bool (!(a == a && b == b))) W : Result Value) = .ok (.bool false) W)
  have HRN := Lib.hid hrn
  have hrg := arr_guard
  have hn : ((l.length : Int) != (l.length : Int)) = false := by simp
  clear h h' hrn hi hz
  go_enter Tryd.func31, Tryd.ntmps31
  go_wp2_with fail
  go_loopw [5] (fun vi wr => ∃ (k : Nat), k ≤ l.length ∧ vi = .int .i64 k ∧ Below w.heap.size w wr) (fun vi _ => l.length - (intOf vi).toNat)
  case atStart => exact ⟨0, by omega, rfl, Below.refl _ _⟩
  case round =>
    obtain ⟨k, hk, rfl, hbr⟩ := hrel
    by_cases hlt : k < l.length
    · obtain ⟨r, hr⟩ : ∃ r, l[k]? = some r := ⟨_, List.getElem?_eq_getElem hlt⟩
      obtain ⟨b, off, rfl, hbw, hc⟩ := (H.out.below hbr).2 (by omega)
      obtain ⟨b', off', rfl, hbw', hc'⟩ := (H'.out.below hbr).2 (by omega)
      obtain ⟨c0, c1⟩ := hc k r hr
      obtain ⟨d0, d1⟩ := hc' k r hr
      clear hr hc hc'
      have hrn := HRN.out
      go_wp2_with fail
      go_quiet (fail)
      go_wp2_with fail
      go_roundw
      case rel => exact ⟨k + 1, by omega, by go_num, below_drewN hbr _⟩
      case measure => simp [intOf]; omega
    · go_wp2_with fail
      go_ret
      exact ⟨rfl, hbr⟩
end Go.Proofs.YtkllpfijeglppaaDoor.HsMf
