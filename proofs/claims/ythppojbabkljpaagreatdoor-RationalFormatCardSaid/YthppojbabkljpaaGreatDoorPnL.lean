/- The walks of slices.Reverse and the program's Format of naturals. -/
import Derived.Test.YthppojbabkljpaaGreatDoorPnK
import Derived.Test.YthppojbabkljpaaGreatDoorPnG
import Derived.Test.YthppojbabkljpaaGreatDoorRoN
import Derived.BigRegion
import Derived.Maps.AppendAt
namespace Go.Proofs.YthppojbabkljpaaGreatDoor.PnL
open Go.RowKit RnA RnB RnS RnC RnK RnM RnL RnN RnD RnE RnQ RnR RnP RnW RnX RoA RoB RoC RoD RoE RoF RoG RoH RoI RoL RoM RoN PnA PnB PnC PnD PnE PnG PnK
set_option maxHeartbeats 4000000 in
set_option maxRecDepth 100000 in
theorem reverse_any (B g n c : Nat) (D : List UInt8) (w : World) (hown : w.ownsRow B 5 1 (.slice (some ⟨g, 0, none⟩) n c) n (bv D)) (hl : D.length = n) (h0 : 0 < n) (hn : n ≤ 2000000) :
    Calls Tryz.prog 117 #[.slice (some ⟨g, 0, none⟩) n c] w fun e w' => e = .returned (.tuple #[]) ∧ w'.ownsRow B 5 1 (.slice (some ⟨g, 0, none⟩) n c) n (bv D.reverse) ∧ Below B w w' := by
  have HDL := hide hl
  have hBg := (hown.lt _ rfl).1
  clear hl
  go_enter Tryz.func117, Tryz.ntmps117
  go_wp2_with fail
  go_loopw [2, 3] (fun vi vj wr => ∃ (i : Nat) (E : List UInt8), 2 * i ≤ n ∧ vi = .int .i64 i ∧ vj = .int .i64 ((n : Int) - 1 - (i : Int)) ∧ Hid (Swapped D E i) ∧ wr.ownsRow B 5 1 (.slice (some ⟨g, 0, none⟩) n c) n (bv E) ∧ Below B w wr) (fun vi _ _ => n - (intOf vi).toNat)
  case atStart => exact ⟨0, D, by omega, rfl, by congr 1; omega, Swapped.start D, hown, Below.refl _ _⟩
  case round =>
    clear hown
    obtain ⟨i, E, hi, rfl, rfl, HSW, hown, hbr⟩ := hrel
    have hEl : E.length = n := by rw [HSW.out.1, HDL.out]
    by_cases hlt : (i : Int) < (n : Int) - 1 - (i : Int)
    · obtain ⟨a, ha⟩ : ∃ a, E[i]? = some a := ⟨_, List.getElem?_eq_getElem (by omega)⟩
      obtain ⟨b, hb⟩ : ∃ b, E[n - 1 - i]? = some b := ⟨_, List.getElem?_eq_getElem (by omega)⟩
      have ca : wr.cell? ⟨g, i, none⟩ = some (.int .u8 (a.toNat : Int)) := (hown.cellAt i (by omega)).trans (bv_get ha)
      have cb : wr.cell? ⟨g, n - 1 - i, none⟩ = some (.int .u8 (b.toNat : Int)) := (hown.cellAt (n - 1 - i) (by omega)).trans (bv_get hb)
      have fa := hown.frozenAt i
      have fb := hown.frozenAt (n - 1 - i)
      have HSW2 : Hid (Swapped D ((E.set i b).set (n - 1 - i) a) (i + 1)) := by
        have h := HSW.out.step (x := a) (y := b) (by rw [HDL.out]; omega) ha (by rw [HDL.out]; exact hb)
        rw [HDL.out] at h
        exact h
      obtain ⟨ho1, hg1⟩ := hown.stored i (.int .u8 (b.toNat : Int))
      rw [bv_set] at ho1
      obtain ⟨ho2, hg2⟩ := ho1.stored (n - 1 - i) (.int .u8 (a.toNat : Int))
      rw [bv_set] at ho2
      have hbs := (hbr.setCell (p := ⟨g, i, none⟩) hBg (.int .u8 (b.toNat : Int))).setCell (p := ⟨g, n - 1 - i, none⟩) hBg (.int .u8 (a.toNat : Int))
      have p3 : ((n : Int) - 1 - (i : Int)).toNat = n - 1 - i := by omega
      have p4 : 0 ≤ (n : Int) - 1 - (i : Int) := by omega
      have p5 : (n : Int) - 1 - (i : Int) < (n : Int) := by omega
      have p6 : (i : Int) < (n : Int) := by omega
      have p7 : i ≠ n - 1 - i := by omega
      clear ha hb ho1 hg1 hg2 hEl
      go_wp2_with fail
      go_region
      go_wp2_with fail
      go_roundw
      case rel => exact ⟨i + 1, _, by omega, by go_num, by congr 1; omega, HSW2, ho2, hbs.drew⟩
      case measure => simp [intOf]; omega
    · have hE : Hid (E = D.reverse) := HSW.out.finish (by rw [HDL.out]; omega) (by rw [HDL.out]; exact hi)
      have hd : decide ((i : Int) < (n : Int) - 1 - (i : Int)) = false := decide_eq_false hlt
      go_wp2_with fail
      go_end0
      refine ⟨rfl, ?_, hbr⟩
      rw [← hE.out]
      exact hown
/-- a list of limbs reads as before where another block was written -/
theorem lat_grown {w w' : World} {B : Nat} {A : Option Addr} {l : List Nat} {row : Option Nat} (h : LAt w B A l) (hB : B ≤ w.heap.size) (hg : w.grownBy w' row) (hne : 0 < l.length → ∀ a, A = some a → some a.block ≠ row) : LAt w' w'.heap.size A l :=
  ⟨h.1, h.2.1, fun hp => by
    obtain ⟨b, off, e, hlt, hc⟩ := h.2.2 hp
    refine ⟨b, off, e, by have := hg.size; omega, fun k x hk => ?_⟩
    exact (World.cell?_of_block (a := ⟨b, off + k, none⟩) (hg.block b (by omega) (hne hp _ e))).trans (hc k x hk)⟩
/-- the digits found so far, the chunk's rest and the number that is left -/
def FC (N : Nat) (D : List UInt8) (r k V : Nat) : Prop := N = ldec D + 10 ^ D.length * (r + 10 ^ k * V) ∧ r < 10 ^ k ∧ digs D = true
theorem FC.step {N r k V : Nat} {D : List UInt8} (h : FC N D r (k + 1) V) : FC N (D ++ [UInt8.ofNat (48 + r % 10)]) (r / 10) k V := by
  obtain ⟨h1, h2, h3⟩ := h
  refine ⟨dig_round h1, ?_, digs_snoc h3 (Nat.mod_lt _ (by omega))⟩
  rw [Nat.pow_succ] at h2
  omega
theorem FC.chunk {N V : Nat} {D : List UInt8} (h : N = ldec D + 10 ^ D.length * V) (hd : digs D = true) : FC N D (V % 1000000000) 9 (V / 1000000000) :=
  ⟨dig_chunk h, Nat.mod_lt _ (by decide), hd⟩
theorem FC.fin {N r V : Nat} {D : List UInt8} (h : FC N D r 0 V) : N = ldec D + 10 ^ D.length * V ∧ digs D = true := by
  obtain ⟨h1, h2, h3⟩ := h
  have h0 : r = 0 := by simpa using h2
  subst h0
  refine ⟨?_, h3⟩
  rw [h1]; simp
theorem FC.le {N r k V : Nat} {D : List UInt8} (h : FC N D r k V) : 10 ^ D.length * (10 ^ k * V) ≤ N := by
  rw [h.1, Nat.mul_add]
  omega
set_option maxHeartbeats 4000000 in
set_option maxRecDepth 100000 in
theorem nformat_any (s : ByteArray) (w : World) (hs : s.size ≤ 100000) :
    Calls Tryz.prog 74 #[.string s] w (SPost (st (decOf (nv s))) w) := by
  obtain ⟨i0, hi0, hz0, hz1, hz2⟩ := info_parts u8Info
  have hx := nv_le (s := s) (k := 25000) (by omega)
  have P1 := Lib.hid (fun w => parse_any s w (by omega))
  generalize nv s = N at *
  have HN := hide hx
  clear hs hx
  go_enter Tryz.func74, Tryz.ntmps74
  go_wp2_with fail
  refine (P1.out _).mono ?_
  rintro e w1 ⟨A, c, rfl, hA1, hA2, hA3, hb1⟩
  have HA := hide hA3
  clear hA1 hA2 hA3
  by_cases h0 : N = 0
  · subst h0
    have hl : (limbs 0).length = 0 := by rw [limbs_zero]; rfl
    have hst : Hid (st (decOf 0) = ⟨#[48]⟩) := by
      show _ = _
      rw [decOf_small (by omega)]; rfl
    rw [hl]
    clear hl
    go_wp2_with fail
    go_ret
    exact ⟨by rw [hst.out]; rfl, hb1⟩
  · generalize hm : (limbs N).length = m
    have hm0 : 0 < m := by
      have := sz_pos h0
      unfold sz at this
      omega
    have HM := hide hm
    have H0 := Lib.hid h0
    have hmz : ((m : Int) == 0) = false := by simp; omega
    clear hm h0
    go_wp2_with fail
    clear hmz
    go_loopw [3, 4] (fun vl vb wr => ∃ (V m n c : Nat) (A : Option Addr) (D : List UInt8), vl = .slice A m c ∧ m = (limbs V).length ∧ Hid (D.length = n) ∧ Hid (LAt wr wr.heap.size A (limbs V)) ∧ Hid (sz V ≤ 25000) ∧ Hid (N = ldec D + 10 ^ D.length * V) ∧ Hid (digs D = true) ∧ n ≤ 1000000 ∧ wr.ownsRow w.heap.size 5 1 vb n (bv D) ∧ (vb = .slice none 0 0 ↔ n = 0) ∧ Below w.heap.size w wr) (fun vl _ wr => sval wr vl)
    case atStart => exact ⟨N, m, 0, c, A, [], rfl, HM.out.symm, rfl, HA, HN, by show _ = _; simp [ldec], by show _ = _; rfl, by omega, World.ownsRow_nil _ _ _ _, by simp, hb1⟩
    case round =>
      clear HA
      obtain ⟨V, m, n, c, A, D, rfl, hm, HDL, HA, HS, HV, HD, hnb, hown, hnil, hbr⟩ := hrel
      obtain ⟨B, cp, rfl⟩ := own_slice hown
      by_cases hV : V = 0
      · subst hV
        have hm0 : m = 0 := by rw [hm, limbs_zero]; rfl
        subst hm0
        clear hm
        have hND : Hid (N = ldec D) := by
          show _ = _
          have := HV.out
          rwa [Nat.mul_zero, Nat.add_zero] at this
        have hn0 : n ≠ 0 := fun e => by
          have h1 := HDL.out
          rw [e] at h1
          have h2 : D = [] := List.eq_nil_of_length_eq_zero h1
          have h3 := hND.out
          rw [h2] at h3
          exact H0.out h3
        have hne : ¬ (Value.slice B n cp = .slice none 0 0) := fun e => hn0 (hnil.1 e)
        obtain ⟨g, c1, hv, _⟩ := conv_own hown hne
        injection hv with hv1 hv2 hv3
        subst hv1; subst hv3
        clear hv2 hnil hne
        have HREV := hide (reverse_any w.heap.size g n cp D wr hown HDL.out (by omega) (by omega))
        have hfin : Hid (st (dropC 48 D.reverse) = st (decOf N)) := by
          show _ = _
          unfold dropC
          rw [dig_fin hND.out HD.out H0.out]
        clear hown
        go_wp2_with fail
        refine HREV.out.mono ?_
        rintro e w5 ⟨rfl, hown, hb5⟩
        have hbf := hbr.trans hb5
        have hv0 : ¬ (Value.slice (some ⟨g, 0, none⟩) n cp = .slice none 0 0) := by simp
        obtain ⟨g2, c2, hv, hcv⟩ := conv_own hown hv0
        injection hv with hv1 hv2 hv3
        injection hv1 with hv1
        injection hv1 with hv1
        subst hv1; subst hv3
        have hrl : D.reverse.length = n := by rw [List.length_reverse]; exact HDL.out
        rw [hrl] at hcv
        have hsz : (⟨D.reverse.toArray⟩ : ByteArray).size ≤ 9223372036854775807 := by
          have : (⟨D.reverse.toArray⟩ : ByteArray).size = D.reverse.length := by simp [ByteArray.size]
          omega
        have HSZ := hide hsz
        clear hv2 hv0 hrl hsz hown
        go_wp2_with fail
        refine (trimLeft_any _ 48 _ HSZ.out (by decide)).mono ?_
        rintro e w6 ⟨rfl, rfl⟩
        go_wp2_with fail
        go_ret
        exact ⟨by rw [← hfin.out]; rfl, hbf⟩
      · have hm0 : 0 < m := by
          have := sz_pos hV
          unfold sz at this
          omega
        have hml : m ≤ 1000000 := by
          have := HS.out
          unfold sz at this
          omega
        have HSH := hide (small_any V 1000000000 m A c wr HA.out hm.symm hml (by omega) (by omega))
        have hmes : Hid (sval wr (.slice A m c) = V) := by
          show _ = _
          rw [hm, sval_at HA.out, lval_limbs]
        have hlt : Hid (V / 1000000000 < V) := by show _ < _; omega
        have hnb2 : n < 10 * 25000 + 1 := by
          refine pow_bound (N := N) (V := V) ?_ hV HN.out
          rw [← HDL.out, HV.out]
          omega
        have HF := hide (FC.chunk HV.out HD.out)
        have hsz2 : Hid (sz (V / 1000000000) ≤ 25000) := Nat.le_trans (sz_div _ _) HS.out
        have hr : V % 1000000000 < 1000000000 := Nat.mod_lt _ (by omega)
        generalize V % 1000000000 = r0 at *
        generalize V / 1000000000 = V2 at *
        clear hm hV
        go_wp2_with fail
        refine HSH.out.mono ?_
        rintro e w2 ⟨A2, c2, rfl, h1, h2, h3, h4, h5⟩
        have H3 := hide h3
        have hown2 := hown.kept (row := none) ⟨h4.os, h4.tape, h4.output, h4.size, fun i hi _ => h4.block i hi⟩ (by cases hv : (Value.slice B n cp).ownBlock <;> simp)
        have hb2 := hbr.trans (h4.mono hbr.size)
        have hrow : ∀ a, A2 = some a → some a.block ≠ (Value.slice B n cp).ownBlock := fun a ha e => by
          have h6 := h5 a ha
          have h7 := (hown.lt a.block e.symm).2
          omega
        have HROW : Hid (0 < (limbs V2).length → ∀ a, A2 = some a → some a.block ≠ (Value.slice B n cp).ownBlock) := fun _ => hrow
        have hnil2 : (Value.slice B n cp = .slice none 0 0 ↔ n = 0) := hnil
        clear h3 h4 h5 hown hbr HSH hrow hnil HA
        go_wp2_with fail
        go_loopw [4, 5, 19] (fun vb vr vi wq => ∃ (i r n : Nat) (D : List UInt8), i ≤ 9 ∧ vi = .int .i64 i ∧ vr = .int .u32 r ∧ Hid (D.length = n) ∧ Hid (FC N D r (9 - i) V2) ∧ n ≤ 260000 + i ∧ Hid (LAt wq wq.heap.size A2 (limbs V2)) ∧ Hid (0 < (limbs V2).length → ∀ a, A2 = some a → some a.block ≠ vb.ownBlock) ∧ wq.ownsRow w.heap.size 5 1 vb n (bv D) ∧ (vb = .slice none 0 0 ↔ n = 0) ∧ Below w.heap.size w wq) (fun _ _ vi _ => 9 - (intOf vi).toNat)
        case atStart => exact ⟨0, r0, n, D, by omega, rfl, rfl, HDL, HF, by omega, H3, HROW, hown2, hnil2, hb2⟩
        case round =>
          clear H3 HROW hown2 hnil2 hb2 HDL HF HV HD hr hnb hnb2
          obtain ⟨i, r, n, D, hi, rfl, rfl, HDL, HF, hnb, HA, HROW, hown, hnil, hbr⟩ := hrel
          obtain ⟨B, cp, rfl⟩ := own_slice hown
          by_cases hi9 : i < 9
          · have hrl : r < 1000000000 := by
              have h := HF.out.2.1
              have h2 : 10 ^ (9 - i) ≤ 10 ^ 9 := Nat.pow_le_pow_right (by omega) (by omega)
              have h3 : (10 : Nat) ^ 9 = 1000000000 := rfl
              omega
            have HF2 : Hid (FC N (D ++ [UInt8.ofNat (48 + r % 10)]) (r / 10) (9 - (i + 1)) V2) := by
              have h := HF.out
              rw [show 9 - i = (9 - (i + 1)) + 1 by omega] at h
              exact h.step
            have hbyte : Hid ([Value.int .u8 (48 + (r : Int) % 10)] = bv [UInt8.ofNat (48 + r % 10)]) := by
              show _ = _
              unfold bv
              rw [List.map_singleton, dig_ofNat (Nat.mod_lt _ (by omega))]
              congr 2
            have p1 : (48 + (r : Int) % 10) % 4294967296 = 48 + (r : Int) % 10 := by omega
            have p2 : (48 + (r : Int) % 10) % 256 = 48 + (r : Int) % 10 := by omega
            go_wp2_with (first
              | (at_builtin
                 refine wpList_append_own_at _ rfl (.tmp 21) (.tmp 26) 57 rfl w.heap.size 5 i0 _ 1 1 Tryz.underlying57 hi0 hz0 hz1 hz2 rfl (by decide) _ _ _ rfl (hown.alloc _) ⟨wr.heap.size, 0, none⟩ 1 1 [.int .u8 (48 + (r : Int) % 10)] rfl rfl ?c1 ?c2 ?c3 ?c4 ?c5 ?_
                 case c1 => exact cells_new _ [.int .u8 (48 + (r : Int) % 10)] _
                 case c2 => simp [Value.oneCell']
                 case c3 => unfold maxLen; omega
                 case c4 => omega
                 case c5 => have := hbr.size; simp; omega
                 intro v1 w1 hown1 hg1 hnil1 hblk1))
            rw [hbyte.out, ← bv_append] at hown1
            have hlen : Hid ((D ++ [UInt8.ofNat (48 + r % 10)]).length = n + 1) := by show _ = _; rw [List.length_append, HDL.out]; rfl
            have hA0 := HA.out.below ((Below.refl _ _).alloc (Nat.le_refl _) (.cells #[.int .u8 (48 + (r : Int) % 10)] 5))
            have HA2 : Hid (LAt w1 w1.heap.size A2 (limbs V2)) := lat_grown hA0 (by simp) hg1 HROW.out
            have HROW2 : Hid (0 < (limbs V2).length → ∀ a, A2 = some a → some a.block ≠ v1.ownBlock) := fun hp a ha => by
              rcases hblk1 with h | h
              · rw [h]; exact HROW.out hp a ha
              · rw [h]
                obtain ⟨b5, o5, e5, hlt5, _⟩ := hA0.2.2 hp
                rw [e5] at ha
                cases ha
                intro e6
                injection e6 with e6
                simp at e6
                omega
            have hnil2 : (v1 = .slice none 0 0 ↔ n + 1 = 0) := by
              constructor
              · intro e5; have := (hnil1.1 e5).2; omega
              · intro e5; omega
            have hbf : Below w.heap.size w w1 := by
              refine (hbr.alloc hbr.size _).grown hg1 (by have := hbr.size; simp; omega) ?_
              intro g hg
              exact (hown.lt g hg).1
            clear hA0 hblk1 hnil1 hg1
            go_roundw
            case rel => exact ⟨i + 1, r / 10, n + 1, _, by omega, by go_num, by go_num, hlen, HF2, by omega, HA2, HROW2, hown1, hnil2, hbf⟩
            case measure => simp [intOf]; omega
          · obtain rfl : i = 9 := by omega
            have hfin := HF.out.fin
            have hm2 : sval wr (.slice A2 (limbs V2).length c2) < V := by
              rw [sval_at HA.out, lval_limbs]; exact hlt.out
            go_wp2_with fail
            go_roundw
            case rel => exact ⟨V2, _, n, c2, A2, D, rfl, rfl, HDL, HA, hsz2, hfin.1, hfin.2, by omega, hown, hnil, hbr⟩
            case measure => rw [hmes.out]; exact hm2
end Go.Proofs.YthppojbabkljpaaGreatDoor.PnL
