/- The walk of the reference's short. -/
import Derived.Test.YthppojbabkljpaaGreatDoorRoF
namespace Go.Proofs.YthppojbabkljpaaGreatDoor.RoG
open Go.RowKit RnA RnB RnS RnC RnM RnL RnN RnW RoA RoB RoC RoD RoE RoF
/-- what a division by one limb answers -/
def DPost (q r : Nat) (w : World) (e : Ending) (w' : World) : Prop :=
  ∃ A c, e = .returned (.tuple #[.slice A (limbs q).length c, .int .u32 (r : Int)]) ∧ (limbs q).length ≤ c ∧ c ≤ maxLen ∧ LAt w' w'.heap.size A (limbs q) ∧ Below w.heap.size w w' ∧ (∀ a, A = some a → w.heap.size ≤ a.block)
/-- a list of limbs reads as before where another block was written -/
theorem LAt.grown {w w' : World} {B : Nat} {A : Option Addr} {l : List Nat} {row : Option Nat} (h : LAt w B A l) (hB : B ≤ w.heap.size) (hg : w.grownBy w' row) (hne : ∀ a, A = some a → some a.block ≠ row) : LAt w' w'.heap.size A l :=
  ⟨h.1, h.2.1, fun hp => by
    obtain ⟨b, off, e, hlt, hc⟩ := h.2.2 hp
    refine ⟨b, off, e, by have := hg.size; omega, fun k x hk => ?_⟩
    exact (World.cell?_of_block (a := ⟨b, off + k, none⟩) (hg.block b (by omega) (hne _ e))).trans (hc k x hk)⟩
theorem drop_set_self {l : List Nat} {j q : Nat} (h : j < l.length) : (l.set j q).drop j = q :: l.drop (j + 1) := by
  rw [drop_at (x := q) (by rw [List.getElem?_set_self h]), drop_set_succ]
theorem or_hi {r x : Nat} (hr : r < 4294967296) (hx : x < 4294967296) : bits BinOp.or IntKind.u64 ((r : Int) * 4294967296) (x : Int) = ((r * 4294967296 + x : Nat) : Int) := by
  have e : (r : Int) * 4294967296 = ((r * 4294967296 : Nat) : Int) := by omega
  rw [e, u64_or_nat _ _ (by omega) (by omega), Nat.or_comm, Nat.mul_comm r, show (4294967296 : Nat) = 2 ^ 32 from rfl, or_low hx, Nat.add_comm]
theorem quo_eq {T d : Nat} (h : T / d < 4294967296) : IntKind.u64.wrap ((T : Int) / (d : Int)) % 4294967296 = ((T / d : Nat) : Int) := by
  rw [← Int.natCast_ediv]
  generalize T / d = q at h ⊢
  rw [IntWalk.u64_in _ (by omega)]
  omega
set_option maxHeartbeats 4000000 in
set_option maxRecDepth 100000 in
theorem rshort_any (x d : Nat) (A : Option Addr) (c : Nat) (w : World) (ha : LAt w w.heap.size A (limbs x)) (hx : sz x ≤ 1000000) (hd0 : 0 < d) (hd : d < 4294967296) :
    Calls Tryz.prog 128 #[.slice A (limbs x).length c, .int .u32 (d : Int)] w (DPost (x / d) (x % d) w) := by
  obtain ⟨i0, hi0, hz0, hz1, hz2⟩ := info_parts u32Info
  have hla : (limbs x).length ≤ 1000000 := hx
  have HVA := hide (lval_limbs x)
  have HA := hide ha
  clear ha hx
  generalize limbs x = a at *
  go_enter Tryz.func128, Tryz.ntmps128
  go_wp2_with (first
    | (at_make
       refine wpList_make_full _ rfl (.tmp 10) (.tmp 10) 71 rfl w.heap.size 52 i0 _ 1 Tryz.underlying71 hi0 hz0 hz1 .i64 .i64 _ _ a.length rfl rfl ?c1 ?c2 ?c3 ?c4 ?c5 ?_
       case c1 => rfl
       case c2 => rfl
       case c3 => rw [hz2]; omega
       case c4 => unfold maxLen; omega
       case c5 => exact Nat.le_refl _
       intro w2 hown hg))
  rw [made_uv] at hown
  have hb2 : Below w.heap.size w w2 := (Below.refl _ _).grown hg (Nat.le_refl _) (by simp)
  clear hg
  generalize hn : a.length = n at hown
  go_loopw [7, 8] (fun vr vi wr => ∃ (k r : Nat) (O : List Nat), k ≤ n ∧ r < d ∧ vi = .int .i64 ((k : Int) - 1) ∧ vr = .int .u64 r ∧ Hid (O.length = n) ∧ Hid (Ok O) ∧ Hid (lval (a.drop k) = d * lval (O.drop k) + r) ∧ wr.ownsRow w.heap.size 52 1 (.slice (some ⟨w.heap.size, 0, none⟩) n n) n (uv O) ∧ Below w.heap.size w wr) (fun _ vi _ => (intOf vi + 1).toNat)
  case atStart => exact ⟨n, 0, List.replicate n 0, by omega, hd0, rfl, rfl, by show _ = _; simp, Ok.replicate _, by show _ = _; rw [List.drop_eq_nil_of_le (by omega), List.drop_eq_nil_of_le (by simp)]; rfl, hown, hb2⟩
  case round =>
    obtain ⟨k, r, O, hk, hr, rfl, rfl, HOL, HO, HV, hown, hbr⟩ := hrel
    rcases Nat.eq_zero_or_pos k with h0 | h0
    · subst h0
      have hfin : Hid (lval O = x / d ∧ r = x % d) := by
        have h1 := HV.out
        rw [List.drop_zero, List.drop_zero, HVA.out] at h1
        constructor
        · rw [h1, Nat.mul_add_div hd0, Nat.div_eq_of_lt hr, Nat.add_zero]
        · rw [h1, Nat.mul_add_mod, Nat.mod_eq_of_lt hr]
      have hL := LAt.of_own hown HO.out
      obtain ⟨hL2, hle⟩ := LAt.strip hL
      have hcap := own_cap hown
      rw [hfin.out.1] at hL2 hle
      rw [HOL.out] at hle
      have HL := hide hL
      have HL2 := hide hL2
      clear hL hL2
      go_wp2_with fail
      refine (strip_n O _ _ _ _ HOL.out HL.out (Nat.le_refl _)).mono ?_
      rintro e w3 ⟨rfl, rfl⟩
      rw [hfin.out.1]
      go_wp2_with fail
      go_ret2
      rw [← hfin.out.2]
      exact ⟨_, _, rfl, hle, hcap.2, HL2.out, hbr, fun a ha => by cases ha; exact Nat.le_refl _⟩
    · obtain ⟨j, rfl⟩ : ∃ j, k = j + 1 := ⟨k - 1, by omega⟩
      obtain ⟨p, hp⟩ : ∃ p, a[j]? = some p := ⟨_, List.getElem?_eq_getElem (by omega)⟩
      obtain ⟨z, hz⟩ : ∃ z, O[j]? = some z := ⟨_, List.getElem?_eq_getElem (by have := HOL.out; omega)⟩
      obtain ⟨b1, o1, rfl, hb1, hc1⟩ := (HA.out.below hbr).2.2 (by omega)
      have c1 := hc1 j p hp
      have hpl : p < 4294967296 := HA.out.ok.at_ hp
      have cz : wr.cell? ⟨w.heap.size, j, none⟩ = some (.int .u32 (z : Int)) := (hown.cellAt j (by omega)).trans (uv_get hz)
      have fz := hown.frozenAt j
      have hor := or_hi (r := r) (x := p) (by omega) hpl
      obtain ⟨hd1, hd2, hd3⟩ := div_lt (d := d) hpl hr hd
      have hstep := div_round HV.out hp
      have e1 : (((j + 1 : Nat) : Int) - 1) = j := by omega
      obtain ⟨T, hT⟩ : ∃ T, r * 4294967296 + p = T := ⟨_, rfl⟩
      rw [hT] at hor hd1 hd2 hd3 hstep
      have HSTEP := hide hstep
      have hjn : j < n := by omega
      obtain ⟨hos, hgs⟩ := hown.stored j (.int .u32 ((T / d : Nat) : Int))
      rw [uv_set] at hos
      have hbs := hbr.setCell (p := ⟨w.heap.size, j, none⟩) (Nat.le_refl _) (.int .u32 ((T / d : Nat) : Int))
      have hok : Hid (Ok (O.set j (T / d))) := HO.out.set _ hd2
      have hval : Hid (lval (a.drop j) = d * lval ((O.set j (T / d)).drop j) + T % d) := by
        show _ = _
        rw [HSTEP.out, drop_set_self (by have := HOL.out; omega)]
      rw [e1]
      clear hc1 hp hz hT hstep h0 e1
      go_wp2_with fail
      rw [quo_eq hd2]
      go_roundw
      case rel => exact ⟨j, T % d, O.set j (T / d), by omega, hd3, rfl, by congr 1, by show _ = _; rw [List.length_set]; exact HOL.out, hok, hval, hos, hbs⟩
      case measure => simp [intOf] <;> omega
end Go.Proofs.YthppojbabkljpaaGreatDoor.RoG
