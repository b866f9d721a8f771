/- The walk of the reference's plus. -/
import Derived.Test.YthppojbabkljpaaGreatDoorRoD
import Derived.Deep.DeepCutAuto
import Derived.Deep.CutBlock
namespace Go.Proofs.YthppojbabkljpaaGreatDoor.RoE
open Go.RowKit RnA RnB RnS RnC RnM RnL RnN RnW RoA RoB RoC RoD
theorem lval_take_ge {n i : Nat} (h : i < (limbs n).length) : 4294967296 ^ i ≤ n := by
  have hn : n ≠ 0 := fun e => by subst e; rw [limbs_zero] at h; simp at h
  have h1 := limbs_ge hn
  have h2 : 4294967296 ^ i ≤ 4294967296 ^ (sz n - 1) := Nat.pow_le_pow_right (by omega) (by have : sz n = (limbs n).length := rfl; omega)
  omega
theorem lval_take_le (l : List Nat) (k : Nat) : lval (l.take k) ≤ lval l := by
  rcases Nat.lt_or_ge l.length k with h | h
  · rw [lval_take_all (by omega)]; exact Nat.le_refl _
  · rw [lval_split l k h]; exact Nat.le_add_right _ _
set_option maxHeartbeats 4000000 in
set_option maxRecDepth 100000 in
theorem rplus_any (x y : Nat) (A B : Option Addr) (c c' : Nat) (w : World) (ha : LAt w w.heap.size A (limbs x)) (hb : LAt w w.heap.size B (limbs y)) (hx : sz x ≤ 100000) (hy : sz y ≤ 100000) :
    Calls Tryz.prog 103 #[.slice A (limbs x).length c, .slice B (limbs y).length c'] w (LPost (limbs (x + y)) w) := by
  obtain ⟨i0, hi0, hz0, hz1, hz2⟩ := info_parts u32Info
  have hla : (limbs x).length ≤ 100000 := hx
  have hlb : (limbs y).length ≤ 100000 := hy
  have hga : ∀ i, i < (limbs x).length → 4294967296 ^ i ≤ x := fun i h => lval_take_ge h
  have hgb : ∀ i, i < (limbs y).length → 4294967296 ^ i ≤ y := fun i h => lval_take_ge h
  have HGA := Lib.hid hga
  have HGB := Lib.hid hgb
  have HVA := hide (lval_limbs x)
  have HVB := hide (lval_limbs y)
  have HA := hide ha
  have HB := hide hb
  clear ha hb hga hgb hx hy
  generalize limbs x = a at *
  generalize limbs y = b at *
  go_enter Tryz.func103, Tryz.ntmps103
  go_wp2_with fail
  go_loopw [5, 6, 7] (fun vo vc vi wr => ∃ (i k : Nat) (out : List Nat), i ≤ 100001 ∧ (100000 < i → k = 0) ∧ k ≤ 1 ∧ vi = .int .i64 i ∧ vc = .int .u64 k ∧ out.length = i ∧ Hid (Ok out) ∧ Hid (lval out + k * 4294967296 ^ i = lval (a.take i) + lval (b.take i)) ∧ Hid (out = [] ∨ 4294967296 ^ (i - 1) ≤ x + y) ∧ wr.ownsRow w.heap.size 52 1 vo i (uv out) ∧ Below w.heap.size w wr) (fun _ _ vi _ => 100002 - (intOf vi).toNat)
  case atStart => exact ⟨0, 0, [], by omega, by omega, by omega, rfl, rfl, rfl, Ok.nil, by show _ = _; simp [lval], .inl rfl, World.ownsRow_nil _ _ _ _, Below.refl _ _⟩
  case round =>
    obtain ⟨i, k, out, hi, hik, hk, rfl, rfl, hol, HO, HV, HG, hown, hbr⟩ := hrel
    obtain ⟨C, cp, rfl⟩ := own_slice hown
    by_cases hgo : i < a.length ∨ i < b.length ∨ 0 < k
    · go_upto_region 4 with fail
      go_cut [21] (fun b wx => b = .bool true ∧ wr = wx)
      case first =>
        by_cases h1 : i < a.length
        · clear hgo hik
          go_wp2_with fail
          go_meet
          case rel => exact ⟨rfl, rfl⟩
        · by_cases h2 : i < b.length
          · clear hgo hik
            go_wp2_with fail
            go_meet
            case rel => exact ⟨rfl, rfl⟩
          · have h3 : 0 < k := by omega
            clear hgo hik
            go_wp2_with fail
            go_meet
            case rel => exact ⟨rfl, rfl⟩
      case rest =>
        obtain ⟨rfl, rfl⟩ := hcut
        have hpl := dig_lt HA.out.ok i
        have hql := dig_lt HB.out.ok i
        have hsum : Hid (i = 100000 → dig a i = 0 ∧ dig b i = 0) := fun h => ⟨dig_out (by omega), dig_out (by omega)⟩
        obtain ⟨p, hp⟩ : ∃ p, dig a i = p := ⟨_, rfl⟩
        obtain ⟨q, hq⟩ : ∃ q, dig b i = q := ⟨_, rfl⟩
        rw [hp] at hpl
        rw [hq] at hql
        have HP := hide hp
        have HQ := hide hq
        have HIK := hide hik
        have HGO := hide hgo
        clear hp hq hik hgo
        go_upto_if 27 with fail
        go_cut [6] (fun v wx => v = .int .u64 ((k + p : Nat) : Int) ∧ wr = wx)
        case first =>
          by_cases h1 : i < a.length
          · obtain ⟨b1, o1, rfl, hb1, hc1⟩ := (HA.out.below hbr).2.2 (by omega)
            have c1 : wr.cell? ⟨b1, o1 + i, none⟩ = some (.int .u32 (p : Int)) := hc1 i p (by rw [← HP.out, dig_at (List.getElem?_eq_getElem h1)]; exact List.getElem?_eq_getElem h1)
            clear hc1
            go_wp2_with fail
            go_meet
            case rel => exact ⟨by go_num, rfl⟩
          · have hp0 : p = 0 := by rw [← HP.out]; exact dig_out (by omega)
            subst hp0
            go_wp2_with fail
            go_meet
            case rel => exact ⟨by go_num, rfl⟩
        case rest =>
          obtain ⟨rfl, rfl⟩ := hcut
          obtain ⟨s, hs⟩ : ∃ s, k + p = s := ⟨_, rfl⟩
          rw [hs]
          have hsl : s ≤ 4294967296 := by omega
          have HS := hide hs
          clear hs
          go_upto_if 38 with fail
          go_cut [6] (fun v wx => v = .int .u64 ((s + q : Nat) : Int) ∧ wr = wx)
          case first =>
            by_cases h1 : i < b.length
            · obtain ⟨b1, o1, rfl, hb1, hc1⟩ := (HB.out.below hbr).2.2 (by omega)
              have c1 : wr.cell? ⟨b1, o1 + i, none⟩ = some (.int .u32 (q : Int)) := hc1 i q (by rw [← HQ.out, dig_at (List.getElem?_eq_getElem h1)]; exact List.getElem?_eq_getElem h1)
              clear hc1
              go_wp2_with fail
              go_meet
              case rel => exact ⟨by go_num, rfl⟩
            · have hq0 : q = 0 := by rw [← HQ.out]; exact dig_out (by omega)
              subst hq0
              go_wp2_with fail
              go_meet
              case rel => exact ⟨by go_num, rfl⟩
          case rest =>
            obtain ⟨rfl, rfl⟩ := hcut
            obtain ⟨T, hT⟩ : ∃ T, s + q = T := ⟨_, rfl⟩
            rw [hT]
            have hTl : T ≤ 8589934591 := by omega
            have HT := hide hT
            clear hT
            go_wp2_with (first
              | (at_builtin
                 refine wpList_append_own _ rfl (.tmp 46) (.tmp 49) 71 rfl w.heap.size 52 i0 _ 1 4 Tryz.underlying71 hi0 hz0 hz1 hz2 rfl (by decide) _ _ _ rfl (hown.alloc _) ⟨wr.heap.size, 0, none⟩ 1 1 [.int .u32 ((T : Int) % 4294967296)] rfl rfl ?c1 ?c2 ?c3 ?c4 ?c5 ?_
                 case c1 => exact cells_new _ [.int .u32 ((T : Int) % 4294967296)] _
                 case c2 => simp [Value.oneCell']
                 case c3 => unfold maxLen; omega
                 case c4 => omega
                 case c5 => have := hbr.size; simp; omega
                 intro v1 w1 hown1 hg1 _))
            have eT : [Value.int .u32 ((T : Int) % 4294967296)] = uv [T % 4294967296] := by simp [uv]
            rw [eT, ← uv_append] at hown1
            have hi2 : i + 1 ≤ 100001 := by
              rcases HGO.out with h | h | h
              · omega
              · omega
              · rcases (by omega : i ≤ 100000 ∨ 100000 < i) with h2 | h2
                · omega
                · have := HIK.out h2; omega
            go_roundw
            case rel =>
              refine ⟨i + 1, T / 4294967296, out ++ [T % 4294967296], hi2, ?_, by omega, by go_num, by congr 1, by rw [List.length_append, hol]; rfl, HO.out.append (Ok.cons (Nat.mod_lt _ (by omega)) Ok.nil), ?_, ?_, hown1, ?_⟩
              · intro h
                have h5 : i = 100000 := by omega
                obtain ⟨h6, h7⟩ := hsum.out h5
                have := HP.out
                have := HQ.out
                have := HS.out
                have := HT.out
                omega
              · show _ = _
                have h5 := add_round (a := a) (b := b) (out := out) (i := i) (c := k) HV.out hol
                have h6 : dig a i + dig b i + k = T := by rw [HP.out, HQ.out, ← HT.out, ← HS.out]; omega
                rw [h6] at h5
                exact h5
              · right
                rw [Nat.add_sub_cancel]
                rcases HGO.out with h | h | h
                · have := HGA.out i h; omega
                · have := HGB.out i h; omega
                · have h8 := HV.out
                  have h9 : 1 * 4294967296 ^ i ≤ k * 4294967296 ^ i := Nat.mul_le_mul_right _ h
                  have h10 := lval_take_le a i
                  have h11 := lval_take_le b i
                  rw [HVA.out] at h10
                  rw [HVB.out] at h11
                  omega
              · refine (hbr.alloc hbr.size _).grown hg1 (by have := hbr.size; simp; omega) ?_
                intro g hg
                exact (hown.lt g hg).1
            case measure => simp [intOf]; omega
    · have h1 : ¬ i < a.length := fun h => hgo (.inl h)
      have h2 : ¬ i < b.length := fun h => hgo (.inr (.inl h))
      have h3 : ¬ 0 < k := fun h => hgo (.inr (.inr h))
      have hfin : Hid (out = limbs (x + y)) := by
        show _ = _
        have h4 := HV.out
        rw [lval_take_all (by omega), lval_take_all (by omega), HVA.out, HVB.out, show k = 0 by omega, Nat.zero_mul, Nat.add_zero] at h4
        rw [← h4]
        refine canon_of_ge HO.out ?_
        rw [hol, h4]
        exact HG.out
      have hL := LAt.of_own hown HO.out
      have hcap := own_cap hown
      go_wp2_with fail
      go_ret
      rw [hfin.out] at hL hol
      subst hol
      exact ⟨_, _, rfl, hcap.1, hcap.2, hL, hbr⟩
end Go.Proofs.YthppojbabkljpaaGreatDoor.RoE
