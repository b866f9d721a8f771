/- The walk of the law HistoryMoney. -/
import Derived.Test.YtkllpfijeglppaaDoorHsLaw2
namespace Go.Proofs.YtkllpfijeglppaaDoor.HsLaw3
open Go.RowKit Hs HsB HsC HsD HsF HsG HsH HsE HsI HsJ HsK HsL HsM HsN HsO HsP HsQ HsR HsS HsT HsU HsV HsW HsLaw1 HsPa HsLaw2
def msum (r : HRow) : Nat → Int
  | 0 => 0
  | k + 1 => msum r k + money r k
theorem flow_small {r : HRow} (h : RowOK 4 r) : -39 ≤ flow r ∧ flow r ≤ 39 := by
  obtain ⟨_, _, _, _, _, _, _, _, h8, h9, _⟩ := h
  unfold flow
  split
  · omega
  · split <;> omega
theorem money_small {r : HRow} (h : RowOK 4 r) (p : Int) : money r p = (if r.dst = p then flow r else 0) - (if r.src = p then flow r else 0) ∧ -39 ≤ money r p ∧ money r p ≤ 39 := by
  have hf := flow_small h
  have hne : r.src ≠ r.dst := h.2.2.2.2.2.2.2.1
  have e : money r p = (if r.dst = p then flow r else 0) - (if r.src = p then flow r else 0) := by
    unfold money wrap64
    split <;> split <;> omega
  refine ⟨e, ?_⟩
  rw [e]
  split <;> split <;> omega
theorem msum_small {r : HRow} (h : RowOK 4 r) : ∀ k : Nat, -(39 * (k : Int)) ≤ msum r k ∧ msum r k ≤ 39 * (k : Int)
  | 0 => by simp [msum]
  | k + 1 => by
    have h1 := msum_small h k
    have h2 := (money_small h (k : Nat)).2
    simp only [msum]
    omega
theorem msum_four {r : HRow} (h : RowOK 4 r) : msum r 4 = 0 := by
  have e := fun p => (money_small h p).1
  obtain ⟨_, _, _, h3, h4, h5, h6, h7, _⟩ := h
  simp only [msum, e]
  rcases (by omega : r.src = 0 ∨ r.src = 1 ∨ r.src = 2 ∨ r.src = 3) with h | h | h | h <;> rcases (by omega : r.dst = 0 ∨ r.dst = 1 ∨ r.dst = 2 ∨ r.dst = 3) with h' | h' | h' | h' <;> rw [h, h'] at h7 <;> rw [h, h'] <;> first | (exact absurd rfl h7) | (simp; omega) | simp
def rowCells (r : HRow) : Array Value := #[.int .i64 r.day, .int .i64 r.kind, .int .i64 r.src, .int .i64 r.dst, .int .i64 r.amount, .int .i64 r.worth]
theorem awake_in (W : World) (x : Qin.In (Below W.heap.size W)) (he : Env W) : Calls Tryd.prog 13 #[] x.val fun e w' => e = .returned (.bool true) ∧ ∃ y : Qin.In (Below W.heap.size W), w' = y.val :=
  Qin.call ((awake_any _ (he.below x.ok)).mono fun _ _ ⟨h1, h2⟩ => ⟨h1, x.ok.trans (h2.mono x.ok.size)⟩)
theorem money_in (W : World) (r : HRow) (p : Int) (x : Qin.In (Below W.heap.size W)) : Calls Tryd.prog 20 #[.agg #[.int .i64 r.day, .int .i64 r.kind, .int .i64 r.src, .int .i64 r.dst, .int .i64 r.amount, .int .i64 r.worth], .int .i64 p] x.val fun e w' => e = .returned (.int .i64 (money r p)) ∧ ∃ y : Qin.In (Below W.heap.size W), w' = y.val :=
  Qin.call ((money_any r p _).mono fun _ _ ⟨h1, h2⟩ => ⟨h1, by rw [← h2]; exact x.ok.alloc x.ok.size _⟩)
theorem rmoney_in (W : World) (r : HRow) (p : Int) (x : Qin.In (Below W.heap.size W)) : Calls Tryd.prog 21 #[.agg #[.int .i64 r.day, .int .i64 r.kind, .int .i64 r.src, .int .i64 r.dst, .int .i64 r.amount, .int .i64 r.worth], .int .i64 p] x.val fun e w' => e = .returned (.int .i64 (money r p)) ∧ ∃ y : Qin.In (Below W.heap.size W), w' = y.val :=
  Qin.call ((rmoney_any r p _).mono fun _ _ ⟨h1, h2⟩ => ⟨h1, by rw [← h2]; exact x.ok.alloc x.ok.size _⟩)
set_option maxHeartbeats 4000000 in
set_option maxRecDepth 100000 in
theorem money_law (r0 : HRow) (p0 : Int) (A : Option Addr) (n c : Nat) (w : World) (hf : FivesAt w w.heap.size A n) (he : Env w) :
    Calls Tryd.prog 7 #[.agg #[.int .i64 r0.day, .int .i64 r0.kind, .int .i64 r0.src, .int .i64 r0.dst, .int .i64 r0.amount, .int .i64 r0.worth], .int .i64 p0, .slice A n c] w fun e w' => e = .returned (.bool true) ∧ Below w.heap.size w w' := by
  have hb0 : Below w.heap.size w (w.alloc (.cells (rowCells r0) 39)) := (Below.refl _ _).alloc (Nat.le_refl _) _
  have hB0 := Blk.new w 39 (rowCells r0)
  have HF := hide ((hf.below hb0))
  have HB0 := Lib.hid hB0
  clear hf hB0
  go_enter Tryd.func7, Tryd.ntmps7
  go_wp2_with fail
  have hfb : FivesAt (w.alloc (.cells (rowCells r0) 39)) (w.alloc (.cells (rowCells r0) 39)).heap.size A n := by
    obtain ⟨h1, h2⟩ := HF.out
    refine ⟨h1, fun hp => ?_⟩
    obtain ⟨b, off, e, hlt, hc⟩ := h2 hp
    exact ⟨b, off, e, by simp; omega, hc⟩
  refine (rows4_any A n c 10 _ hfb (by omega)).mono ?_
  rintro e w1 ⟨v, x, rfl, hbu, hxm, hown, hb1⟩
  obtain ⟨B, cp, rfl⟩ := own_slice hown
  have hx := rows_of_own hown (own_len hown)
  have hbb1 : Below w.heap.size w w1 := hb0.trans (hb1.mono (by simp))
  have hB1 := HB0.out.below hb1 (by simp)
  have HX := hide hx
  have HBU := hide hbu
  have HB1 := Lib.hid hB1
  have hsz1 : w.heap.size < w1.heap.size := by have := hb1.size; simp at this; omega
  clear hown hbu hx hB1 hfb
  go_wp2_with fail
  go_loopw [8] (fun vi wr => ∃ (k : Nat), k ≤ x.length ∧ vi = .int .i64 k ∧ Below w1.heap.size w1 wr) (fun vi _ => x.length - (intOf vi).toNat)
  case atStart => exact ⟨0, by omega, rfl, Below.refl _ _⟩
  case round =>
    obtain ⟨k, hk, rfl, hbr⟩ := hrel
    by_cases hlt : k < x.length
    · obtain ⟨r, hr⟩ : ∃ r, x[k]? = some r := ⟨_, List.getElem?_eq_getElem hlt⟩
      have hok : RowOK 4 r := (HBU.out.1 r (List.mem_of_getElem? hr)).1
      have HR := hide hr
      have H4 := hide (msum_four hok)
      obtain ⟨wo, rfl⟩ : ∃ wo, wo = wr := ⟨_, rfl⟩
      have hbo := hbr
      clear hbr hr
      go_wp2_with fail
      go_loopw [9, 10] (fun vs vp wr => ∃ (p : Nat), p ≤ 4 ∧ vp = .int .i64 p ∧ vs = .int .i64 (msum r p) ∧ Below w1.heap.size w1 wr) (fun _ vp _ => 4 - (intOf vp).toNat)
      case atStart => exact ⟨0, by omega, rfl, rfl, hbo⟩
      case round =>
        obtain ⟨p, hp, rfl, rfl, hbr⟩ := hrel
        by_cases hp4 : p < 4
        · obtain ⟨b, off, rfl, hbw, hc⟩ := (HX.out.below hbr).2 (by omega)
          obtain ⟨c0, c1, c2, c3, c4, c5⟩ := hc k r HR.out
          have hbw2 : b < wr.heap.size := Nat.lt_of_lt_of_le hbw hbr.size
          have hm1 := (money_small hok p).2.1
          have hm2 := (money_small hok p).2.2
          have hs1 := (msum_small hok p).1
          have hs2 := (msum_small hok p).2
          have hbr2 := hbr.alloc hbr.size (.cells (rowCells r) 39)
          have hne : (money r p != money r p) = false := by simp
          clear hc
          go_wp2_with (first
            | (go_at_call 20; refine (money_any r _ _).mono ?_; rintro e w' ⟨rfl, rfl⟩)
            | (go_at_call 21; refine (rmoney_any r _ _).mono ?_; rintro e w' ⟨rfl, rfl⟩))
          go_roundw
          case rel => exact ⟨p + 1, by omega, by go_num, rfl, hbr2.alloc hbr2.size _⟩
          case measure => simp [intOf]; omega
        · obtain rfl : p = 4 := by omega
          rw [H4.out]
          go_wp2_with fail
          go_roundw
          case rel => exact ⟨k + 1, by omega, by go_num, hbr⟩
          case measure => simp [intOf]; omega
    · have hB2 := HB1.out.below hbr hsz1
      have q : ∀ y : Qin.In (Below wr.heap.size wr), Blk y.val w.heap.size 39 (rowCells r0) := fun y => hB2.below y.ok hB2.lt
      have q0 : ∀ y : Qin.In (Below wr.heap.size wr), y.val.cell? ⟨w.heap.size, 0, none⟩ = some (.int .i64 r0.day) := fun y => (q y).cell 0
      have q1 : ∀ y : Qin.In (Below wr.heap.size wr), y.val.cell? ⟨w.heap.size, 1, none⟩ = some (.int .i64 r0.kind) := fun y => (q y).cell 1
      have q2 : ∀ y : Qin.In (Below wr.heap.size wr), y.val.cell? ⟨w.heap.size, 2, none⟩ = some (.int .i64 r0.src) := fun y => (q y).cell 2
      have q3 : ∀ y : Qin.In (Below wr.heap.size wr), y.val.cell? ⟨w.heap.size, 3, none⟩ = some (.int .i64 r0.dst) := fun y => (q y).cell 3
      have q4 : ∀ y : Qin.In (Below wr.heap.size wr), y.val.cell? ⟨w.heap.size, 4, none⟩ = some (.int .i64 r0.amount) := fun y => (q y).cell 4
      have q5 : ∀ y : Qin.In (Below wr.heap.size wr), y.val.cell? ⟨w.heap.size, 5, none⟩ = some (.int .i64 r0.worth) := fun y => (q y).cell 5
      haveI : Nonempty (Qin.In (Below wr.heap.size wr)) := ⟨⟨wr, Below.refl _ _⟩⟩
      have hew : Env wr := he.below (hbb1.trans (hbr.mono hbb1.size))
      clear q hB2
      go_wp2_with fail
      refine Qin.region (I := Below wr.heap.size wr) (Qin.start _ wr) (by kernel_rfl) (by kernel_rfl) ?_
      repeat (go_big_quiet_step (first | (go_at_call 13; exact awake_in wr _ hew) | (go_at_call 20; exact money_in wr r0 p0 _) | (go_at_call 21; exact rmoney_in wr r0 p0 _)))
      refine wpQuiet_nil ?_
      intro y
      go_wp2_with fail
      go_ret
      exact ⟨rfl, (hbb1.trans (hbr.mono hbb1.size)).trans (y.ok.mono (Nat.le_trans hbb1.size hbr.size))⟩
end Go.Proofs.YtkllpfijeglppaaDoor.HsLaw3
