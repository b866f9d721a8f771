/- The walks of the laws HistoryFormat, HistoryParse (its first part), HistoryText, HistoryLong. -/
import Derived.Test.YtkllpfijeglppaaDoorHsW
namespace Go.Proofs.YtkllpfijeglppaaDoor.HsLaw1
open Go.RowKit Hs HsB HsC HsD HsF HsG HsH HsE HsI HsJ HsK HsL HsM HsN HsO HsP HsQ HsR HsS HsT HsU HsV HsW
theorem built_in {P D : Int} {x : List HRow} (h : Built P D x) (hP : P ≤ 100) (hD : D ≤ 1000000) : ∀ r ∈ x, RowIn r := by
  intro r hr
  obtain ⟨⟨h0, h1, h2, h3, h4, h5, h6, h7, h8, h9, h10, h11, h12⟩, hd⟩ := h.1 r hr
  refine ⟨⟨?_, ?_⟩, ⟨?_, ?_⟩, ⟨?_, ?_⟩, ⟨?_, ?_⟩, ⟨?_, ?_⟩⟩ <;> omega
set_option maxHeartbeats 2000000 in
set_option maxRecDepth 100000 in
theorem format_law (A : Option Addr) (l : List HRow) (c : Nat) (A' : Option Addr) (n c' : Nat) (w : World) (hl : RowsAt w w.heap.size A l) (hin : ∀ r ∈ l, RowIn r) (hf : FivesAt w w.heap.size A' n) (he : Env w) :
    Calls Tryd.prog 3 #[.slice A l.length c, .slice A' n c'] w fun e w' => e = .returned (.bool true) ∧ Below w.heap.size w w' := by
  have hlen := hl.1
  have hn := hf.1
  unfold maxLen at hlen hn
  have HL := hide hl
  have HF := hide hf
  clear hl hf
  by_cases h12 : 12 < l.length
  · go_enter Tryd.func3, Tryd.ntmps3
    go_wp2_with (go_at_call 13; refine (awake_any _ he).mono ?_; rintro e w1 ⟨rfl, hb⟩)
    go_ret
    exact ⟨rfl, hb⟩
  · by_cases h24 : 24 < n
    · go_enter Tryd.func3, Tryd.ntmps3
      go_wp2_with (go_at_call 13; refine (awake_any _ he).mono ?_; rintro e w1 ⟨rfl, hb⟩)
      go_ret
      exact ⟨rfl, hb⟩
    · go_enter Tryd.func3, Tryd.ntmps3
      go_wp2_with fail
      refine (rows4_any A' n c' 20 w HF.out (by omega)).mono ?_
      rintro e w1 ⟨v, x, rfl, hbu, hxm, hown, hb1⟩
      obtain ⟨B, cp, rfl⟩ := own_slice hown
      have hx := rows_of_own hown (own_len hown)
      have hxin := built_in hbu (by omega) (by omega)
      have hl1 := HL.out.below hb1
      clear hown hbu
      go_wp2_with (first
        | (go_at_call 13; refine (awake_any _ (he.below hb1)).mono ?_; rintro e w2 ⟨rfl, hb2⟩; have hbb2 := hb1.trans (hb2.mono hb1.size))
        | (go_at_call 15; (with_reducible refine (format_any l A c _ ((HL.out.below hbb2).mono hbb2.size) hin (he.below hbb2)).mono ?_); rintro e w3 ⟨rfl, hb3⟩; have hbb3 := hbb2.trans (hb3.mono hbb2.size))
        | (go_at_call 16; (with_reducible refine (rformat_any l A c _ ((HL.out.below hbb3).mono hbb3.size) hin).mono ?_); rintro e w4 ⟨rfl, hb4⟩; have hbb4 := hbb3.trans (hb4.mono hbb3.size); have hbx4 := (hb2.trans (hb3.mono hb2.size)).trans (hb4.mono (Nat.le_trans hb2.size hb3.size)))
        | (go_at_call 15; (with_reducible refine (format_any x B cp _ ((hx.below hbx4).mono hbx4.size) hxin (he.below hbb4)).mono ?_); rintro e w5 ⟨rfl, hb5⟩; have hbb5 := hbb4.trans (hb5.mono hbb4.size); have hbx5 := hbx4.trans (hb5.mono hbx4.size))
        | (go_at_call 16; (with_reducible refine (rformat_any x B cp _ ((hx.below hbx5).mono hbx5.size) hxin).mono ?_); rintro e w6 ⟨rfl, hb6⟩; have hbb6 := hbb5.trans (hb6.mono hbb5.size)))
      go_ret
      exact ⟨rfl, hbb6⟩
end Go.Proofs.YtkllpfijeglppaaDoor.HsLaw1
