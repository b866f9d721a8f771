/- The walk of the reference's long, Knuth's algorithm D: what comes ahead of its walk. -/
import Derived.Test.YthppojbabkljpaaGreatDoorRoH
namespace Go.Proofs.YthppojbabkljpaaGreatDoor.RoI
open Go.RowKit RnA RnB RnS RnC RnK RnM RnL RnN RnW RoA RoB RoC RoD RoE RoF RoG RoH
/-- the greatest limb, shifted to its place -/
theorem norm_facts {y n s top : Nat} (hn : (limbs y).length = n + 1) (ht : (limbs y)[n]? = some top) (h1 : top * 2 ^ s < 4294967296) (h2 : 2147483648 ≤ top * 2 ^ s) (hs : s ≤ 32) :
    y * 2 ^ s < 4294967296 ^ (n + 1) ∧ 2147483648 * 4294967296 ^ n ≤ y * 2 ^ s := by
  have e := lval_split (limbs y) n (by omega)
  rw [lval_limbs, lval_drop_at ht, List.drop_eq_nil_of_le (by omega), lval, Nat.mul_zero, Nat.add_zero] at e
  have hl := lval_lt ((limbs_ok y).take n)
  rw [take_len (by omega)] at hl
  have hd : (top + 1) * 2 ^ s ≤ 4294967296 := by
    rw [pow32 s hs] at h1 ⊢
    have h3 : top < 2 ^ (32 - s) := by
      rw [Nat.mul_comm] at h1
      exact Nat.lt_of_mul_lt_mul_left h1
    rw [Nat.mul_comm]
    exact Nat.mul_le_mul_left _ h3
  generalize lval ((limbs y).take n) = lo at *
  rw [Nat.pow_succ]
  have hp := pow_pos n
  generalize 4294967296 ^ n = P at *
  have hs0 : 0 < 2 ^ s := Nat.pow_pos (by omega)
  constructor
  · have h3 : y < P * (top + 1) := by rw [e, Nat.mul_succ]; omega
    have h4 : y * 2 ^ s < P * (top + 1) * 2 ^ s := Nat.mul_lt_mul_of_pos_right h3 hs0
    have h5 : P * (top + 1) * 2 ^ s ≤ P * 4294967296 := by rw [Nat.mul_assoc]; exact Nat.mul_le_mul_left _ hd
    omega
  · have h3 : P * top ≤ y := by rw [e]; simp
    have h4 : P * top * 2 ^ s ≤ y * 2 ^ s := Nat.mul_le_mul_right _ h3
    have h5 : P * 2147483648 ≤ P * (top * 2 ^ s) := Nat.mul_le_mul_left _ h2
    rw [Nat.mul_assoc] at h4
    omega
/-- the greatest limb of a normalized divisor -/
theorem top_big {d : List Nat} {n v1 : Nat} (hd : Ok d) (hn : d.length = n + 1) (hv : d[n]? = some v1) (h : 2147483648 * 4294967296 ^ n ≤ lval d) : 2147483648 ≤ v1 := by
  have e := lval_split d n (by omega)
  rw [lval_drop_at hv, List.drop_eq_nil_of_le (by omega), lval, Nat.mul_zero, Nat.add_zero] at e
  have hl := lval_lt (hd.take n)
  rw [take_len (by omega)] at hl
  rcases Nat.lt_or_ge v1 2147483648 with h1 | h1
  · exfalso
    have h2 : 4294967296 ^ n * (v1 + 1) ≤ 4294967296 ^ n * 2147483648 := Nat.mul_le_mul_left _ h1
    rw [Nat.mul_succ] at h2
    generalize 4294967296 ^ n = P at *
    omega
  · exact h1
/-- a list of limbs cut where its value ends -/
theorem take_val {l : List Nat} {k : Nat} (hk : k ≤ l.length) (h : lval l < 4294967296 ^ k) : lval (l.take k) = lval l := by
  have e := lval_split l k hk
  rcases Nat.eq_zero_or_pos (lval (l.drop k)) with h0 | h0
  · rw [h0] at e; omega
  · have : 4294967296 ^ k * 1 ≤ 4294967296 ^ k * lval (l.drop k) := Nat.mul_le_mul_left _ h0
    omega
theorem window_split (us : List Nat) (j n : Nat) : us = us.take j ++ (us.drop j).take (n + 1) ++ us.drop (j + n + 1) := by
  rw [List.append_assoc, show j + n + 1 = j + (n + 1) by omega, ← List.drop_drop, List.take_append_drop, List.take_append_drop]
/-- what a division answers -/
def QPost (q r : Nat) (w : World) (e : Ending) (w' : World) : Prop :=
  ∃ A c A' c', e = .returned (.tuple #[.slice A (limbs q).length c, .slice A' (limbs r).length c']) ∧ (limbs q).length ≤ c ∧ c ≤ maxLen ∧ (limbs r).length ≤ c' ∧ c' ≤ maxLen ∧
    LAt w' w'.heap.size A (limbs q) ∧ LAt w' w'.heap.size A' (limbs r) ∧ Below w.heap.size w w'
/-- rows of the call's own, told apart -/
theorem own_set {w : World} {base size n k : Nat} {e : TypeId} {v : Value} {xs : List Value} (h : w.ownsRow base e size v n xs) (hne : v.ownBlock ≠ some k) (o : Nat) (u : Value) : (w.setCell ⟨k, o, none⟩ u).ownsRow base e size v n xs :=
  h.kept (row := some k) ⟨rfl, rfl, rfl, by simp [World.setCell], fun i _ hn => Below.heap_setCell w ⟨k, o, none⟩ u i (fun e => hn (by rw [e]))⟩ (.inr hne)
/-- a block reads as a list of limbs from its head on -/
def DAt (w : World) (g : Nat) (d : List Nat) : Prop := ∀ (k v : Nat), d[k]? = some v → w.cell? ⟨g, k, none⟩ = some (.int .u32 (v : Int))
theorem DAt.setCell {w : World} {g h : Nat} {d : List Nat} (hd : DAt w g d) (hne : g ≠ h) (o : Nat) (u : Value) : DAt (w.setCell ⟨h, o, none⟩ u) g d := fun k v hk =>
  (World.cell?_setCell_other w ⟨h, o, none⟩ ⟨g, k, none⟩ u (by intro e; injection e with e1; exact hne e1.symm)).trans (hd k v hk)
theorem DAt.drewN {w : World} {g : Nat} {d : List Nat} (hd : DAt w g d) (n : Nat) : DAt (w.drewN n) g d := hd
theorem DAt.kept {w w' : World} {g : Nat} {d : List Nat} (hd : DAt w g d) {B : Nat} (hb : Below B w w') (hg : g < B) : DAt w' g d := fun k v hk => (hb.cell (p := ⟨g, k, none⟩) hg).trans (hd k v hk)
theorem DAt.of_own {w : World} {B T n c g : Nat} {l : List Nat} (h : w.ownsRow B T 1 (.slice (some ⟨g, 0, none⟩) n c) n (uv l)) : DAt w g l := fun k v hk => by
  have hn : n = l.length := by have := h.1; rw [uv_length] at this; omega
  have hkl : k < l.length := (List.getElem?_eq_some_iff.1 hk).1
  exact (h.cellAt k (by omega)).trans (uv_get hk)
theorem DAt.take {w : World} {g : Nat} {d : List Nat} (hd : DAt w g d) (n : Nat) : DAt w g (d.take n) := fun k v hk => by
  rw [List.getElem?_take] at hk
  split at hk
  · exact hd k v hk
  · cases hk
/-- a limb of a window -/
theorem window_at {us : List Nat} {j n k v : Nat} (h : us[j + k]? = some v) (hk : k < n + 1) : ((us.drop j).take (n + 1))[k]? = some v := by
  rw [List.getElem?_take, if_pos hk, List.getElem?_drop]; exact h
theorem quo64 {T d : Nat} (h : T / d ≤ 18446744073709551615) : IntKind.u64.wrap ((T : Int) / (d : Int)) = ((T / d : Nat) : Int) := by
  rw [← Int.natCast_ediv]
  generalize T / d = q at h ⊢
  exact IntWalk.u64_in _ (by omega)
/-- the test of the loop that lowers a guess -/
def tooGreat (g r u v : Nat) : Bool := decide (4294967296 ≤ g) || decide (r * 4294967296 + u < g * v)
theorem guess_prod {g v : Nat} (hg : g ≤ 4294967297) (hv : v < 4294967296) : g * v ≤ 18446744073709551615 := by
  have := Nat.mul_le_mul hg (by omega : v ≤ 4294967295)
  omega
/-- the three rows of a long division: the dividend, the quotient, the divisor -/
def St (w wr : World) (gu gv gq m L : Nat) (us Q ds : List Nat) : Prop :=
  wr.ownsRow w.heap.size 52 1 (.slice (some ⟨gu, 0, none⟩) m m) m (uv us) ∧ wr.ownsRow w.heap.size 52 1 (.slice (some ⟨gq, 0, none⟩) L L) L (uv Q) ∧ DAt wr gv ds ∧ Below w.heap.size w wr ∧
  gu ≠ gv ∧ gu ≠ gq ∧ gv ≠ gq ∧ w.heap.size ≤ gu ∧ w.heap.size ≤ gq
section
variable {w wr : World} {gu gv gq m L : Nat} {us Q ds : List Nat}
theorem St.drewN (h : St w wr gu gv gq m L us Q ds) (n : Nat) : St w (wr.drewN n) gu gv gq m L us Q ds := by
  obtain ⟨h1, h2, h3, h4, h5⟩ := h
  exact ⟨h1, h2, h3.drewN n, below_drewN h4 n, h5⟩
theorem St.len (h : St w wr gu gv gq m L us Q ds) : us.length = m := by have := h.1.1; rw [uv_length] at this; omega
theorem St.cu (h : St w wr gu gv gq m L us Q ds) {k v : Nat} (hk : us[k]? = some v) : wr.cell? ⟨gu, k, none⟩ = some (.int .u32 (v : Int)) := DAt.of_own h.1 k v hk
theorem St.cq (h : St w wr gu gv gq m L us Q ds) {k v : Nat} (hk : Q[k]? = some v) : wr.cell? ⟨gq, k, none⟩ = some (.int .u32 (v : Int)) := DAt.of_own h.2.1 k v hk
theorem St.cd (h : St w wr gu gv gq m L us Q ds) {k v : Nat} (hk : ds[k]? = some v) : wr.cell? ⟨gv, k, none⟩ = some (.int .u32 (v : Int)) := h.2.2.1 k v hk
theorem St.fu (h : St w wr gu gv gq m L us Q ds) (k : Nat) : wr.frozen? ⟨gu, k, none⟩ = false := h.1.frozenAt k
theorem St.fq (h : St w wr gu gv gq m L us Q ds) (k : Nat) : wr.frozen? ⟨gq, k, none⟩ = false := h.2.1.frozenAt k
theorem St.setU (h : St w wr gu gv gq m L us Q ds) (k v : Nat) : St w (wr.setCell ⟨gu, k, none⟩ (.int .u32 (v : Int))) gu gv gq m L (us.set k v) Q ds := by
  obtain ⟨h1, h2, h3, h4, h5, h6, h7, h8, h9⟩ := h
  refine ⟨?_, own_set h2 (by simp [Value.ownBlock]; omega) _ _, h3.setCell (fun e => h5 e.symm) _ _, h4.setCell h8 _, h5, h6, h7, h8, h9⟩
  have := (h1.stored k (.int .u32 (v : Int))).1
  rwa [uv_set] at this
theorem St.setQ (h : St w wr gu gv gq m L us Q ds) (k v : Nat) : St w (wr.setCell ⟨gq, k, none⟩ (.int .u32 (v : Int))) gu gv gq m L us (Q.set k v) ds := by
  obtain ⟨h1, h2, h3, h4, h5, h6, h7, h8, h9⟩ := h
  refine ⟨own_set h1 (by simp [Value.ownBlock]; omega) _ _, ?_, h3.setCell h7 _ _, h4.setCell h9 _, h5, h6, h7, h8, h9⟩
  have := (h2.stored k (.int .u32 (v : Int))).1
  rwa [uv_set] at this
end
end Go.Proofs.YthppojbabkljpaaGreatDoor.RoI
