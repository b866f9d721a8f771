/- The walk of the reference's written. -/
import Derived.Test.YthppojbabkljpaaGreatDoorRoM
namespace Go.Proofs.YthppojbabkljpaaGreatDoor.RoN
open Go.RowKit RnA RnB RnS RnC RnK RnM RnL RnN RnD RnE RnQ RnR RnP RnW RoA RoB RoC RoD RoE RoF RoG RoH RoI RoL RoM
/-- the number of digits is bounded by the number of limbs -/
theorem pow_bound {N V n k : Nat} (h : 10 ^ n * V ≤ N) (hV : V ≠ 0) (hk : sz N ≤ k) : n < 10 * k + 1 := by
  have h1 : 10 ^ n * 1 ≤ 10 ^ n * V := Nat.mul_le_mul_left _ (by omega)
  have h2 : N < 10 ^ (10 * k) := by
    refine Nat.lt_of_lt_of_le (sz_lt N) ?_
    refine Nat.le_trans (Nat.pow_le_pow_right (by omega) hk) ?_
    rw [Nat.pow_mul]
    exact Nat.pow_le_pow_left (by decide) k
  rcases Nat.lt_or_ge n (10 * k + 1) with h3 | h3
  · exact h3
  · have : 10 ^ (10 * k) ≤ 10 ^ n := Nat.pow_le_pow_right (by omega) (by omega)
    omega
theorem pow_next {N V n : Nat} (h : 10 ^ n * V ≤ N) : 10 ^ (n + 1) * (V / 10) ≤ N := by
  rw [Nat.pow_succ, Nat.mul_assoc]
  exact Nat.le_trans (Nat.mul_le_mul_left _ (Nat.mul_div_le V 10)) h
/-- the digits found so far -/
def Coll (N : Nat) (D : List UInt8) (V : Nat) : Prop := if N = 0 then D = [] ∧ V = 0 else Wr N D V ∧ (V = 0 → D ≠ [])
theorem Coll.start (N : Nat) : Coll N [] N := by
  unfold Coll
  by_cases h : N = 0
  · rw [if_pos h]; exact ⟨rfl, h⟩
  · rw [if_neg h]; exact ⟨Wr.start h, fun e => absurd e h⟩
theorem Coll.step {N V : Nat} {D : List UInt8} (h : Coll N D V) (hV : V ≠ 0) : Coll N (D ++ [UInt8.ofNat (48 + V % 10)]) (V / 10) := by
  unfold Coll at *
  by_cases h0 : N = 0
  · rw [if_pos h0] at h; exact absurd h.2 hV
  · rw [if_neg h0] at h ⊢
    exact ⟨h.1.step hV, fun _ => by simp⟩
theorem Coll.zero {N : Nat} {D : List UInt8} (h : Coll N D 0) (hD : D = []) : N = 0 := by
  unfold Coll at h
  by_cases h0 : N = 0
  · exact h0
  · rw [if_neg h0] at h; exact absurd hD (h.2 rfl)
theorem Coll.fin {N : Nat} {D : List UInt8} (h : Coll N D 0) (hD : D ≠ []) : decOf N = D.reverse := by
  unfold Coll at h
  by_cases h0 : N = 0
  · rw [if_pos h0] at h; exact absurd h.1 hD
  · rw [if_neg h0] at h
    have := h.1
    unfold Wr at this
    rwa [if_pos rfl] at this
set_option maxHeartbeats 4000000 in
set_option maxRecDepth 100000 in
theorem rwritten_any (N : Nat) (A : Option Addr) (c : Nat) (w : World) (ha : LAt w w.heap.size A (limbs N)) (hN : sz N ≤ 100000) :
    Calls Tryz.prog 82 #[.slice A (limbs N).length c] w (SPost (st (decOf N)) w) := by
  obtain ⟨i0, hi0, hz0, hz1, hz2⟩ := info_parts u8Info
  have HA := hide ha
  have HN := hide hN
  clear ha hN
  go_enter Tryz.func82, Tryz.ntmps82
  go_wp2_with fail
  go_loopw [0, 3] (fun vl vb wr => ∃ (V m n c : Nat) (A : Option Addr) (D : List UInt8), vl = .slice A m c ∧ m = (limbs V).length ∧ D.length = n ∧ Hid (LAt wr wr.heap.size A (limbs V)) ∧ Hid (sz V ≤ 100000) ∧ Hid (Coll N D V) ∧ Hid (10 ^ n * V ≤ N) ∧ n ≤ 1000001 ∧ wr.ownsRow w.heap.size 5 1 vb n (bv D) ∧ (vb = .slice none 0 0 ↔ n = 0) ∧ Below w.heap.size w wr) (fun vl _ wr => sval wr vl)
  case atStart => exact ⟨N, _, 0, c, A, [], rfl, rfl, rfl, HA, HN, Coll.start N, by show _ ≤ _; simp, by omega, World.ownsRow_nil _ _ _ _, by simp, Below.refl _ _⟩
  case round =>
    clear HA
    obtain ⟨V, m, n, c, A, D, rfl, hm, hn, HA, HS, HC, HP, hnb, hown, hnil, hbr⟩ := hrel
    obtain ⟨B, cp, rfl⟩ := own_slice hown
    by_cases hV : V = 0
    · subst hV
      have hm0 : m = 0 := by rw [hm, limbs_zero]; rfl
      subst hm0
      clear hm HP
      by_cases hn0 : n = 0
      · have hz : Hid (N = 0) := HC.out.zero (List.eq_nil_of_length_eq_zero (by omega))
        subst hn0
        have hst : Hid (st (decOf N) = ⟨#[48]⟩) := by
          show _ = _
          rw [hz.out, decOf_small (by omega)]; rfl
        clear hnil
        go_wp2_with fail
        go_ret
        exact ⟨by rw [hst.out]; rfl, hbr⟩
      · have hDne : D ≠ [] := fun e => hn0 (by rw [← hn, e]; rfl)
        have hfin := hide (HC.out.fin hDne)
        have hne : ¬ (Value.slice B n cp = .slice none 0 0) := fun e => hn0 (hnil.1 e)
        obtain ⟨g, c1, hv, _⟩ := conv_own hown hne
        injection hv with hv1 hv2 hv3
        subst hv1; subst hv3
        clear hv2
        have HDL := hide hn
        clear hnil hne hn hDne
        go_wp2_with fail
        go_loopw [6] (fun vi wr => ∃ (i : Nat) (E : List UInt8), 2 * i ≤ n ∧ vi = .int .i64 i ∧ Hid (Swapped D E i) ∧ wr.ownsRow w.heap.size 5 1 (.slice (some ⟨g, 0, none⟩) n cp) n (bv E) ∧ Below w.heap.size w wr) (fun vi _ => n - (intOf vi).toNat)
        case atStart => exact ⟨0, D, by omega, rfl, Swapped.start D, hown, hbr⟩
        case round =>
          clear hown hbr
          obtain ⟨i, E, hi, rfl, HSW, hown, hbr⟩ := hrel
          have hEl : E.length = n := by rw [HSW.out.1, HDL.out]
          by_cases hlt : i < n / 2
          · obtain ⟨a, ha⟩ : ∃ a, E[i]? = some a := ⟨_, List.getElem?_eq_getElem (by omega)⟩
            obtain ⟨b, hb⟩ : ∃ b, E[n - 1 - i]? = some b := ⟨_, List.getElem?_eq_getElem (by omega)⟩
            have ca : wr.cell? ⟨g, i, none⟩ = some (.int .u8 (a.toNat : Int)) := (hown.cellAt i (by omega)).trans (bv_get ha)
            have cb : wr.cell? ⟨g, n - 1 - i, none⟩ = some (.int .u8 (b.toNat : Int)) := (hown.cellAt (n - 1 - i) (by omega)).trans (bv_get hb)
            have fa := hown.frozenAt i
            have fb := hown.frozenAt (n - 1 - i)
            have HSW2 : Hid (Swapped D ((E.set i b).set (n - 1 - i) a) (i + 1)) := by
              have h := HSW.out.step (x := a) (y := b) (by rw [HDL.out]; omega) ha (by rw [HDL.out]; exact hb)
              rw [HDL.out] at h
              exact h
            obtain ⟨ho1, hg1⟩ := hown.stored i (.int .u8 (b.toNat : Int))
            rw [bv_set] at ho1
            obtain ⟨ho2, hg2⟩ := ho1.stored (n - 1 - i) (.int .u8 (a.toNat : Int))
            rw [bv_set] at ho2
            have hbg : w.heap.size ≤ g := (hown.lt _ rfl).1
            have hbs := (hbr.setCell (p := ⟨g, i, none⟩) hbg (.int .u8 (b.toNat : Int))).setCell (p := ⟨g, n - 1 - i, none⟩) hbg (.int .u8 (a.toNat : Int))
            have p1 : IntKind.i64.wrap ((n : Int) - 1) = (n : Int) - 1 := IntWalk.i64_in _ (by omega)
            have p2 : IntKind.i64.wrap ((n : Int) - 1 - (i : Int)) = (n : Int) - 1 - (i : Int) := IntWalk.i64_in _ (by omega)
            have p3 : ((n : Int) - 1 - (i : Int)).toNat = n - 1 - i := by omega
            have p4 : 0 ≤ (n : Int) - 1 - (i : Int) := by omega
            have p5 : (n : Int) - 1 - (i : Int) < (n : Int) := by omega
            clear ha hb ho1 hg1 hg2 hEl
            go_wp2_with fail
            go_roundw
            case rel => exact ⟨i + 1, _, by omega, by go_num, HSW2, ho2, hbs⟩
            case measure => simp [intOf]; omega
          · have hE : Hid (E = D.reverse) := HSW.out.finish (by rw [HDL.out]; omega) (by rw [HDL.out]; exact hi)
            have hv0 : ¬ (Value.slice (some ⟨g, 0, none⟩) n cp = .slice none 0 0) := by simp
            obtain ⟨g2, c2, hv, hcv⟩ := conv_own hown hv0
            injection hv with hv1 hv2 hv3
            injection hv1 with hv1
            injection hv1 with hv1
            subst hv1; subst hv3
            clear hv2
            rw [hEl] at hcv
            have hst : Hid ((⟨E.toArray⟩ : ByteArray) = st (decOf N)) := by show _ = _; rw [hE.out, hfin.out]; rfl
            clear hv0
            go_wp2_with fail
            go_ret
            exact ⟨by rw [← hst.out]; rfl, hbr⟩
    · have hm0 : 0 < m := by
        have := sz_pos hV
        unfold sz at this
        omega
      have hsh := rshort_any V 10 A c wr HA.out (by have := HS.out; omega) (by omega) (by omega)
      rw [← hm] at hsh
      have HSH := hide hsh
      have hmes : Hid (sval wr (.slice A m c) = V) := by
        show _ = _
        rw [hm, sval_at HA.out, lval_limbs]
      have hnb2 := pow_bound HP.out hV HN.out
      have hlt : Hid (V / 10 < V) := by show _ < _; omega
      have HC2 := hide (HC.out.step hV)
      have HP2 := hide (pow_next HP.out)
      have hr : V % 10 < 10 := Nat.mod_lt _ (by omega)
      have hbyte : Hid ([Value.int .u8 (48 + ((V % 10 : Nat) : Int))] = bv [UInt8.ofNat (48 + V % 10)]) := by
        show _ = _
        unfold bv
        rw [List.map_singleton, dig_ofNat hr]
        congr 2
      have hsz2 : Hid (sz (V / 10) ≤ 100000) := Nat.le_trans (sz_div _ _) HS.out
      have e10 : ((10 : Nat) : Int) = 10 := rfl
      rw [e10] at HSH
      generalize V % 10 = r at *
      generalize V / 10 = V2 at *
      clear hsh e10 hm hV
      go_wp2_with fail
      refine HSH.out.mono ?_
      rintro e w2 ⟨A2, c2, rfl, h1, h2, h3, h4, h5⟩
      have H3 := hide h3
      have hown2 := hown.kept (row := none) ⟨h4.os, h4.tape, h4.output, h4.size, fun i hi _ => h4.block i hi⟩ (by cases hv : (Value.slice B n cp).ownBlock <;> simp)
      have hb2 := hbr.trans (h4.mono hbr.size)
      have hrow : ∀ a, A2 = some a → some a.block ≠ (Value.slice B n cp).ownBlock := fun a ha e => by
        have h6 := h5 a ha
        have h7 := (hown.lt a.block e.symm).2
        omega
      have HROW := Lib.hid hrow
      clear hrow h5
      have p1 : (48 + (r : Int)) % 4294967296 = 48 + (r : Int) := by omega
      have p2 : (48 + (r : Int)) % 256 = 48 + (r : Int) := by omega
      clear h3 h4 hown hbr HSH
      go_wp2_with (first
        | (at_builtin
           refine wpList_append_own _ rfl (.tmp 16) (.tmp 20) 57 rfl w.heap.size 5 i0 _ 1 1 Tryz.underlying57 hi0 hz0 hz1 hz2 rfl (by decide) _ _ _ rfl (hown2.alloc _) ⟨w2.heap.size, 0, none⟩ 1 1 [.int .u8 (48 + (r : Int))] rfl rfl ?c1 ?c2 ?c3 ?c4 ?c5 ?_
           case c1 => exact cells_new _ [.int .u8 (48 + (r : Int))] _
           case c2 => simp [Value.oneCell']
           case c3 => unfold maxLen; omega
           case c4 => omega
           case c5 => have := hb2.size; simp; omega
           intro v1 w1 hown1 hg1 hnil1))
      rw [hbyte.out, ← bv_append] at hown1
      have hL2 := LAt.grown (H3.out.below ((Below.refl _ _).alloc (Nat.le_refl _) (.cells #[.int .u8 (48 + (r : Int))] 5))) (by simp) hg1 HROW.out
      have hm2 : sval w1 (.slice A2 (limbs V2).length c2) < sval wr (.slice A m c) := by
        rw [hmes.out, sval_at hL2, lval_limbs]; exact hlt.out
      go_roundw
      case rel =>
        refine ⟨V2, _, n + 1, c2, A2, D ++ [UInt8.ofNat (48 + r)], rfl, rfl, by rw [List.length_append, hn]; rfl, ?_, hsz2, HC2, HP2, by have := HN.out; omega, hown1, ?_, ?_⟩
        · exact hL2
        · constructor
          · intro e; have := (hnil1.1 e).2; omega
          · intro e; omega
        · refine (hb2.alloc hb2.size _).grown hg1 (by have := hb2.size; simp; omega) ?_
          intro g hg
          exact (hown2.lt g hg).1
      case measure => exact hm2
end Go.Proofs.YthppojbabkljpaaGreatDoor.RoN
