/- Contracts of the rational functions at numbers that are known to be small; three boxes. -/
import Derived.Test.YthppojbabkljpaaGreatDoorRsV
import Derived.Test.YthppojbabkljpaaGreatDoorQmt
namespace Go.Proofs.YthppojbabkljpaaGreatDoor.RsU
open Go.RowKit RnA RnB RnS RnC RnK RnM RnL RnN RnD RnE RnQ RnR RnG RnP RnW RnX RoA RoB RoC RoD RoE RoF RoG RoH RoI RoJ RoK RoL RoM RoN PnA PnB PnC PnD PnE PnF PnG PnH PnI PnJ PnK PnL RtA RtB RtC RtD RtE RtG RtH RtI RtJ RpA RpB RpC RpD RpE RpF RpG RpH RnY RpI RpJ RpK RpL RsX RsY RsW RsV
/-- the fields hold the number q, and are short -/
def Sm (n : Bool) (a d : ByteArray) (q : Rat) : Prop := fixQ n a.data.toList d.data.toList = q ∧ a.size ≤ 1000 ∧ d.size ≤ 1000
theorem Sm.enc {q : Rat} {k : Nat} (h : Lt q k) (hk : k ≤ 1000) : Sm (negB q) (bs (nm q)) (dstr q) q := ⟨fix_self q, Nat.le_trans h.num hk, Nat.le_trans h.dstr hk⟩
theorem Sm.raw {n : Bool} {a d : ByteArray} {q : Rat} (hq : fixQ n a.data.toList d.data.toList = q) (h1 : a.size ≤ 24) (h2 : d.size ≤ 24) : Sm n a d q := ⟨hq, by omega, by omega⟩
/-- what a function that answers a number leaves -/
abbrev Ans (q : Rat) (w : World) (e : Ending) (w' : World) : Prop := e = .returned (.agg #[.bool (negB q), .string (bs (nm q)), .string (dstr q)]) ∧ Below w.heap.size w w'
section
variable {n : Bool} {a d : ByteArray} {n' : Bool} {a' d' : ByteArray} {p q r : Rat}
theorem add_s (h1 : Sm n a d p) (h2 : Sm n' a' d' q) (hr : p + q = r) (w : World) : Calls Tryz.prog 39 #[.agg #[.bool n, .string a, .string d], .agg #[.bool n', .string a', .string d']] w (Ans r w) := by
  obtain ⟨rfl, s1, s2⟩ := h1
  obtain ⟨rfl, s3, s4⟩ := h2
  subst hr
  exact padd_any n a d n' a' d' w 1000 s1 s2 s3 s4 (by decide) (by decide)
theorem sub_s (h1 : Sm n a d p) (h2 : Sm n' a' d' q) (hr : p - q = r) (w : World) : Calls Tryz.prog 41 #[.agg #[.bool n, .string a, .string d], .agg #[.bool n', .string a', .string d']] w (Ans r w) := by
  obtain ⟨rfl, s1, s2⟩ := h1
  obtain ⟨rfl, s3, s4⟩ := h2
  subst hr
  exact psub_any n a d n' a' d' w 1000 s1 s2 s3 s4 (by decide) (by decide)
theorem mul_s (h1 : Sm n a d p) (h2 : Sm n' a' d' q) (hr : p * q = r) (w : World) : Calls Tryz.prog 43 #[.agg #[.bool n, .string a, .string d], .agg #[.bool n', .string a', .string d']] w (Ans r w) := by
  obtain ⟨rfl, s1, s2⟩ := h1
  obtain ⟨rfl, s3, s4⟩ := h2
  subst hr
  exact pmul_any n a d n' a' d' w 1000 s1 s2 s3 s4 (by decide) (by decide)
theorem neg_s (h1 : Sm n a d p) (hr : -p = r) (w : World) : Calls Tryz.prog 37 #[.agg #[.bool n, .string a, .string d]] w (Ans r w) := by
  obtain ⟨rfl, s1, s2⟩ := h1
  subst hr
  exact neg_any n a d w (by omega) (by omega)
theorem fix_s (h1 : Sm n a d p) (w : World) : Calls Tryz.prog 22 #[.agg #[.bool n, .string a, .string d]] w (Ans p w) := by
  obtain ⟨rfl, s1, s2⟩ := h1
  exact rfix_any n a d w (by omega) (by omega)
theorem sgn_s (h1 : Sm n a d p) {s : Int} (hs : sgnQ p = s) (w : World) : Calls Tryz.prog 48 #[.agg #[.bool n, .string a, .string d]] w fun e w' => e = .returned (.int .i64 s) ∧ Below w.heap.size w w' := by
  obtain ⟨rfl, s1, s2⟩ := h1
  subst hs
  exact sign_any n a d w (by omega) (by omega)
theorem cmp_s (h1 : Sm n a d p) (h2 : Sm n' a' d' q) {s : Int} (hs : cmpQ p q = s) (w : World) : Calls Tryz.prog 47 #[.agg #[.bool n, .string a, .string d], .agg #[.bool n', .string a', .string d']] w fun e w' => e = .returned (.int .i64 s) ∧ Below w.heap.size w w' := by
  obtain ⟨rfl, s1, s2⟩ := h1
  obtain ⟨rfl, s3, s4⟩ := h2
  subst hs
  exact pcmp_any n a d n' a' d' w 1000 s1 s2 s3 s4 (by decide) (by decide)
theorem div_s (h1 : Sm n a d p) (h2 : Sm n' a' d' q) {b : Bool} (hr : divQ p q = (r, b)) (w : World) : Calls Tryz.prog 29 #[.agg #[.bool n, .string a, .string d], .agg #[.bool n', .string a', .string d']] w fun e w' => e = .returned (.tuple #[.agg #[.bool (negB r), .string (bs (nm r)), .string (dstr r)], .bool b]) ∧ Below w.heap.size w w' := by
  obtain ⟨rfl, s1, s2⟩ := h1
  obtain ⟨rfl, s3, s4⟩ := h2
  have h := pdiv_any n a d n' a' d' w 1000 s1 s2 s3 s4 (by decide) (by decide)
  rw [hr] at h
  exact h
theorem int_s {m : Int} (hm : In64 m) (hr : intQ m = r) (w : World) : Calls Tryz.prog 27 #[.int .i64 m] w (Ans r w) := by
  subst hr
  exact int_any m w hm
theorem i64_s (h1 : Sm n a d p) {m : Int} {b : Bool} (hr : int64Q p = (m, b)) (w : World) : Calls Tryz.prog 31 #[.agg #[.bool n, .string a, .string d]] w fun e w' => e = .returned (.tuple #[.int .i64 m, .bool b]) ∧ Below w.heap.size w w' := by
  obtain ⟨rfl, s1, s2⟩ := h1
  have h := pint64_any n a d w (by omega) (by omega)
  rw [hr] at h
  exact h
end
theorem start3v (w : World) (x y z x' y' z' x3 y3 z3 : Value) : ∃ W0 W1 W2, w.alloc (.cells #[x, y, z] 24) = W0 ∧ W0.alloc (.cells #[x', y', z'] 24) = W1 ∧ W1.alloc (.cells #[x3, y3, z3] 24) = W2 ∧
    W0.heap.size = w.heap.size + 1 ∧ W1.heap.size = w.heap.size + 2 ∧
    Hid (Bx W2 w.heap.size x y z) ∧ Hid (Bx W2 (w.heap.size + 1) x' y' z') ∧ Hid (Bx W2 (w.heap.size + 2) x3 y3 z3) ∧ Hid (Below w.heap.size w W2) ∧ w.heap.size + 2 < W2.heap.size := by
  have hB0 := (Below.refl w.heap.size w).alloc (Nat.le_refl _) (.cells #[x, y, z] 24)
  have hX0 := Bx.new w x y z 24
  have hs : (w.alloc (.cells #[x, y, z] 24)).heap.size = w.heap.size + 1 := by simp
  generalize w.alloc (.cells #[x, y, z] 24) = W0 at *
  have hB1 := (Below.refl W0.heap.size W0).alloc (Nat.le_refl _) (.cells #[x', y', z'] 24)
  have hX1 := Bx.new W0 x' y' z' 24
  have hs1 : (W0.alloc (.cells #[x', y', z'] 24)).heap.size = w.heap.size + 2 := by simp; omega
  obtain ⟨W1, hW1⟩ : ∃ W1, W0.alloc (.cells #[x', y', z'] 24) = W1 := ⟨_, rfl⟩
  rw [hW1] at hB1 hX1 hs1
  obtain ⟨W2, h1, HY, hb, hl⟩ := box_new W1 x3 y3 z3
  rw [hs1] at HY
  rw [hs] at hX1
  exact ⟨W0, W1, W2, rfl, hW1, h1, hs, hs1, (hX0.keep hB1 (by omega)).keep hb (by omega), hX1.keep hb (by omega), HY, (hB0.trans (hB1.mono (by omega))).trans (hb.mono (by omega)), by omega⟩
end Go.Proofs.YthppojbabkljpaaGreatDoor.RsU
