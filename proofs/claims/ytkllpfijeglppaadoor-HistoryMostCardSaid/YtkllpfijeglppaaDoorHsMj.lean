/- Rows of a history of two parties. -/
import Derived.Test.YtkllpfijeglppaaDoorHsMi
namespace Go.Proofs.YtkllpfijeglppaaDoor.HsMj
open Go.RowKit Hs HsB HsC HsD
set_option maxHeartbeats 4000000 in
set_option maxRecDepth 100000 in
theorem rows2_any (A : Option Addr) (n c m : Nat) (w : World) (h : FivesAt w w.heap.size A n) (hm : m ≤ 100) :
    Calls Tryd.prog 14 #[.slice A n c, .int .i64 2, .int .i64 m] w fun e w' => ∃ v x, e = .returned v ∧ Built 2 (5 * (x.length : Int)) x ∧ x.length ≤ m ∧ w'.ownsRow w.heap.size 39 6 v x.length (rvals x) ∧ Below w.heap.size w w' := by
  obtain ⟨i0, hi, hz0, hz1, hz2⟩ := info_parts info
  have hlen := h.1
  unfold maxLen at hlen
  have H := hide h
  clear h
  go_enter Tryd.func14, Tryd.ntmps14
  go_wp2_with fail
  go_loopw [7, 8, 16] (fun vo vd vi wr => ∃ (k : Nat) (x : List HRow) (d : Int), k ≤ n ∧ vi = .int .i64 k ∧ vd = .int .i64 d ∧ 0 ≤ d ∧ d ≤ 5 * (x.length : Int) ∧ Built 2 d x ∧ x.length ≤ m ∧ wr.ownsRow w.heap.size 39 6 vo x.length (rvals x) ∧ Below w.heap.size w wr) (fun _ _ vi _ => n - (intOf vi).toNat)
  case atStart => exact ⟨0, [], 0, by omega, rfl, rfl, by omega, by simp, Built.nil _ _, by simp, World.ownsRow_nil _ _ _ _, Below.refl _ _⟩
  case round =>
    obtain ⟨k, x, d, hk, rfl, rfl, hd0, hd1, hbu, hxm, hown, hbr⟩ := hrel
    obtain ⟨B, cp, rfl⟩ := own_slice hown
    have HB := hide hbu
    clear hbu
    have hfin : Hid (Built 2 (5 * (x.length : Int)) x) := ⟨fun r hr => ⟨(HB.out.1 r hr).1, Int.le_trans (HB.out.1 r hr).2 hd1⟩, HB.out.2⟩
    by_cases hlt : k < n
    · obtain ⟨b, off, rfl, hbw, hc⟩ := (H.out.below hbr).2 (by omega)
      obtain ⟨z0, z1, z2, z3, z4, g0, g1, g2, g3, g4, c0, c1, c2, c3, c4⟩ := hc k hlt
      clear hc
      by_cases hf : m ≤ x.length
      · go_wp2_with fail
        go_ret
        exact ⟨_, x, rfl, hfin.out, hxm, hown.alloc _, hbr.alloc hbr.size _⟩
      · by_cases ht : (z2 : Int) % 2 ≤ 0 <;> cases hk3 : ((1 : Int) + (z1 : Int) % 3 == 3)
        case pos.false =>
          have hk4 : Hid ((1 : Int) + (z1 : Int) % 3 ≠ 3) := by simpa [Hid] using hk3
          go_wp2_with (first
            | (at_builtin
               refine wpList_append_own _ rfl (.tmp 72) (.tmp 74) 22 rfl w.heap.size 39 i0 _ 6 48 Tryd.underlying22 hi hz0 hz1 hz2 rfl (by decide) _ _ _ rfl (((hown.alloc _).alloc _).alloc _) ⟨wr.heap.size + 2, 0, none⟩ 1 1 [.int .i64 (d + (z0 : Int) % 6), .int .i64 (1 + (z1 : Int) % 3), .int .i64 ((z2 : Int) % 2), .int .i64 (1), .int .i64 ((z4 : Int) % 40), .int .i64 (0)] rfl rfl ?c1 ?c2 ?c3 ?c4 ?c5 ?_
               case c1 => exact cells_new3 _ _ _ [.int .i64 (d + (z0 : Int) % 6), .int .i64 (1 + (z1 : Int) % 3), .int .i64 ((z2 : Int) % 2), .int .i64 (1), .int .i64 ((z4 : Int) % 40), .int .i64 (0)] _
               case c2 => simp [Value.oneCell']
               case c3 => unfold maxLen; omega
               case c4 => omega
               case c5 => have := hbr.size; simp; omega
               intro v1 w1 hown1 hg1 _))
          go_roundw
          case rel =>
            refine ⟨k + 1, x ++ [(⟨d + (z0 : Int) % 6, 1 + (z1 : Int) % 3, (z2 : Int) % 2, 1, (z4 : Int) % 40, 0⟩ : HRow)], d + (z0 : Int) % 6, by omega, by go_num, rfl, by omega, by simp; omega, HB.out.snoc (r := (⟨d + (z0 : Int) % 6, 1 + (z1 : Int) % 3, (z2 : Int) % 2, 1, (z4 : Int) % 40, 0⟩ : HRow)) ?_ (by show d ≤ d + (z0 : Int) % 6; omega), by simp; omega, ?_, ?_⟩
            · have hk5 := hk4.out
              refine ⟨?_, ?_, ?_, ?_, ?_, ?_, ?_, ?_, ?_, ?_, ?_, ?_, ?_⟩ <;> dsimp only <;> omega
            · rw [rvals_snoc, List.length_append]; exact hown1
            · refine (((hbr.alloc hbr.size _).alloc (by have := hbr.size; simp; omega) _).alloc (by have := hbr.size; simp; omega) _).grown hg1 (by have := hbr.size; simp; omega) ?_
              intro g hg
              exact (hown.lt g hg).1
          case measure => simp [intOf]; omega
        case pos.true =>
          have hk4 : Hid ((1 : Int) + (z1 : Int) % 3 = 3) := by simpa [Hid] using hk3
          go_wp2_with (first
            | (at_builtin
               refine wpList_append_own _ rfl (.tmp 72) (.tmp 74) 22 rfl w.heap.size 39 i0 _ 6 48 Tryd.underlying22 hi hz0 hz1 hz2 rfl (by decide) _ _ _ rfl (((hown.alloc _).alloc _).alloc _) ⟨wr.heap.size + 2, 0, none⟩ 1 1 [.int .i64 (d + (z0 : Int) % 6), .int .i64 (1 + (z1 : Int) % 3), .int .i64 ((z2 : Int) % 2), .int .i64 (1), .int .i64 ((z4 : Int) % 40), .int .i64 ((z4 : Int) / 40 % 60)] rfl rfl ?c1 ?c2 ?c3 ?c4 ?c5 ?_
               case c1 => exact cells_new3 _ _ _ [.int .i64 (d + (z0 : Int) % 6), .int .i64 (1 + (z1 : Int) % 3), .int .i64 ((z2 : Int) % 2), .int .i64 (1), .int .i64 ((z4 : Int) % 40), .int .i64 ((z4 : Int) / 40 % 60)] _
               case c2 => simp [Value.oneCell']
               case c3 => unfold maxLen; omega
               case c4 => omega
               case c5 => have := hbr.size; simp; omega
               intro v1 w1 hown1 hg1 _))
          go_roundw
          case rel =>
            refine ⟨k + 1, x ++ [(⟨d + (z0 : Int) % 6, 1 + (z1 : Int) % 3, (z2 : Int) % 2, 1, (z4 : Int) % 40, (z4 : Int) / 40 % 60⟩ : HRow)], d + (z0 : Int) % 6, by omega, by go_num, rfl, by omega, by simp; omega, HB.out.snoc (r := (⟨d + (z0 : Int) % 6, 1 + (z1 : Int) % 3, (z2 : Int) % 2, 1, (z4 : Int) % 40, (z4 : Int) / 40 % 60⟩ : HRow)) ?_ (by show d ≤ d + (z0 : Int) % 6; omega), by simp; omega, ?_, ?_⟩
            · have hk5 := hk4.out
              refine ⟨?_, ?_, ?_, ?_, ?_, ?_, ?_, ?_, ?_, ?_, ?_, ?_, ?_⟩ <;> dsimp only <;> omega
            · rw [rvals_snoc, List.length_append]; exact hown1
            · refine (((hbr.alloc hbr.size _).alloc (by have := hbr.size; simp; omega) _).alloc (by have := hbr.size; simp; omega) _).grown hg1 (by have := hbr.size; simp; omega) ?_
              intro g hg
              exact (hown.lt g hg).1
          case measure => simp [intOf]; omega
        case neg.false =>
          have hk4 : Hid ((1 : Int) + (z1 : Int) % 3 ≠ 3) := by simpa [Hid] using hk3
          go_wp2_with (first
            | (at_builtin
               refine wpList_append_own _ rfl (.tmp 72) (.tmp 74) 22 rfl w.heap.size 39 i0 _ 6 48 Tryd.underlying22 hi hz0 hz1 hz2 rfl (by decide) _ _ _ rfl (((hown.alloc _).alloc _).alloc _) ⟨wr.heap.size + 2, 0, none⟩ 1 1 [.int .i64 (d + (z0 : Int) % 6), .int .i64 (1 + (z1 : Int) % 3), .int .i64 ((z2 : Int) % 2), .int .i64 (0), .int .i64 ((z4 : Int) % 40), .int .i64 (0)] rfl rfl ?c1 ?c2 ?c3 ?c4 ?c5 ?_
               case c1 => exact cells_new3 _ _ _ [.int .i64 (d + (z0 : Int) % 6), .int .i64 (1 + (z1 : Int) % 3), .int .i64 ((z2 : Int) % 2), .int .i64 (0), .int .i64 ((z4 : Int) % 40), .int .i64 (0)] _
               case c2 => simp [Value.oneCell']
               case c3 => unfold maxLen; omega
               case c4 => omega
               case c5 => have := hbr.size; simp; omega
               intro v1 w1 hown1 hg1 _))
          go_roundw
          case rel =>
            refine ⟨k + 1, x ++ [(⟨d + (z0 : Int) % 6, 1 + (z1 : Int) % 3, (z2 : Int) % 2, 0, (z4 : Int) % 40, 0⟩ : HRow)], d + (z0 : Int) % 6, by omega, by go_num, rfl, by omega, by simp; omega, HB.out.snoc (r := (⟨d + (z0 : Int) % 6, 1 + (z1 : Int) % 3, (z2 : Int) % 2, 0, (z4 : Int) % 40, 0⟩ : HRow)) ?_ (by show d ≤ d + (z0 : Int) % 6; omega), by simp; omega, ?_, ?_⟩
            · have hk5 := hk4.out
              refine ⟨?_, ?_, ?_, ?_, ?_, ?_, ?_, ?_, ?_, ?_, ?_, ?_, ?_⟩ <;> dsimp only <;> omega
            · rw [rvals_snoc, List.length_append]; exact hown1
            · refine (((hbr.alloc hbr.size _).alloc (by have := hbr.size; simp; omega) _).alloc (by have := hbr.size; simp; omega) _).grown hg1 (by have := hbr.size; simp; omega) ?_
              intro g hg
              exact (hown.lt g hg).1
          case measure => simp [intOf]; omega
        case neg.true =>
          have hk4 : Hid ((1 : Int) + (z1 : Int) % 3 = 3) := by simpa [Hid] using hk3
          go_wp2_with (first
            | (at_builtin
               refine wpList_append_own _ rfl (.tmp 72) (.tmp 74) 22 rfl w.heap.size 39 i0 _ 6 48 Tryd.underlying22 hi hz0 hz1 hz2 rfl (by decide) _ _ _ rfl (((hown.alloc _).alloc _).alloc _) ⟨wr.heap.size + 2, 0, none⟩ 1 1 [.int .i64 (d + (z0 : Int) % 6), .int .i64 (1 + (z1 : Int) % 3), .int .i64 ((z2 : Int) % 2), .int .i64 (0), .int .i64 ((z4 : Int) % 40), .int .i64 ((z4 : Int) / 40 % 60)] rfl rfl ?c1 ?c2 ?c3 ?c4 ?c5 ?_
               case c1 => exact cells_new3 _ _ _ [.int .i64 (d + (z0 : Int) % 6), .int .i64 (1 + (z1 : Int) % 3), .int .i64 ((z2 : Int) % 2), .int .i64 (0), .int .i64 ((z4 : Int) % 40), .int .i64 ((z4 : Int) / 40 % 60)] _
               case c2 => simp [Value.oneCell']
               case c3 => unfold maxLen; omega
               case c4 => omega
               case c5 => have := hbr.size; simp; omega
               intro v1 w1 hown1 hg1 _))
          go_roundw
          case rel =>
            refine ⟨k + 1, x ++ [(⟨d + (z0 : Int) % 6, 1 + (z1 : Int) % 3, (z2 : Int) % 2, 0, (z4 : Int) % 40, (z4 : Int) / 40 % 60⟩ : HRow)], d + (z0 : Int) % 6, by omega, by go_num, rfl, by omega, by simp; omega, HB.out.snoc (r := (⟨d + (z0 : Int) % 6, 1 + (z1 : Int) % 3, (z2 : Int) % 2, 0, (z4 : Int) % 40, (z4 : Int) / 40 % 60⟩ : HRow)) ?_ (by show d ≤ d + (z0 : Int) % 6; omega), by simp; omega, ?_, ?_⟩
            · have hk5 := hk4.out
              refine ⟨?_, ?_, ?_, ?_, ?_, ?_, ?_, ?_, ?_, ?_, ?_, ?_, ?_⟩ <;> dsimp only <;> omega
            · rw [rvals_snoc, List.length_append]; exact hown1
            · refine (((hbr.alloc hbr.size _).alloc (by have := hbr.size; simp; omega) _).alloc (by have := hbr.size; simp; omega) _).grown hg1 (by have := hbr.size; simp; omega) ?_
              intro g hg
              exact (hown.lt g hg).1
          case measure => simp [intOf]; omega
    · go_wp2_with fail
      go_ret
      exact ⟨_, x, rfl, hfin.out, hxm, hown, hbr⟩
end Go.Proofs.YtkllpfijeglppaaDoor.HsMj
