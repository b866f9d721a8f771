/- More arguments of the laws: a row by value, bytes. -/
import Derived.Test.YtkllpfijeglppaaDoorHsY
namespace Go.Proofs.YtkllpfijeglppaaDoor.HsY
open Go.RowKit Go.ChangeShapes Go.WideShapes Go.ChangeAt Go.Deep Hs HsB HsC HsD HsF HsG HsX
section
variable {H : Type} {enc : TypeId × Value → H} {W : World} {base : Nat}
set_option maxRecDepth 100000 in
theorem open_row {v : Value} {d : DataW H} {p : List MemPlace} (hv : Value.okWide Tryd.prog W .any base 39 v) (h : DataW.Trod enc Tryd.prog W 0 (fun _ => true) true 39 v d p) :
    ∃ r : HRow, v = .agg #[.int .i64 r.day, .int .i64 r.kind, .int .i64 r.src, .int .i64 r.dst, .int .i64 r.amount, .int .i64 r.worth] ∧ RowIn r := by
  obtain ⟨cs, rfl, hsz⟩ := okWide_struct HsV.row_und hv
  obtain ⟨l⟩ := cs
  match l, hsz.trans row_cells with
  | [v0, v1, v2, v3, v4, v5], _ =>
    obtain ⟨fuel, hf⟩ := h
    obtain ⟨xs, n, _, _, _, hlen, hg⟩ := DataW.trod_struct HsV.row_und hf
    rw [row_size] at hlen
    have get : ∀ (j : Nat) (f : Field) (u : Value), (Tryd.prog.fieldsOf 39)[j]? = some f → Tryd.prog.underlying f.type = some (.int .i64) → [v0, v1, v2, v3, v4, v5][j]? = some u → ∃ z : Int, u = .int .i64 z ∧ In64 z := by
      intro j f u hj hu hju
      obtain ⟨o, k⟩ := hone_of row_one j f hj
      have h1 := hg j f hj
      rw [o, k] at h1
      have hjl : j < 6 := by
        have := (List.getElem?_eq_some_iff.1 hju).1
        simpa using this
      have hone : ((Value.agg #[v0, v1, v2, v3, v4, v5]).cells.toList.drop j).take 1 = [u] := by
        rcases (by omega : j = 0 ∨ j = 1 ∨ j = 2 ∨ j = 3 ∨ j = 4 ∨ j = 5) with rfl | rfl | rfl | rfl | rfl | rfl <;> (simp at hju; subst hju; simp [Value.cells])
      rw [hone, List.getElem?_eq_getElem (by omega)] at h1
      obtain ⟨z, hz, _, hwf⟩ := DataW.trod_int hu h1
      exact ⟨z, by simpa using hz, bounds_i64 hwf⟩
    have g : ∀ j u, j < 4 → [v0, v1, v2, v3, v4, v5][j]? = some u → ∃ z : Int, u = .int .i64 z ∧ In64 z := fun j u hj hju => by
      obtain ⟨f, h1, h2⟩ := row_f j hj
      exact get j f u h1 (by rw [h2]; exact und_int) hju
    obtain ⟨z0, rfl, i0⟩ := g 0 v0 (by omega) rfl
    obtain ⟨z1, rfl, i1⟩ := g 1 v1 (by omega) rfl
    obtain ⟨z2, rfl, i2⟩ := g 2 v2 (by omega) rfl
    obtain ⟨z3, rfl, i3⟩ := g 3 v3 (by omega) rfl
    obtain ⟨f4, a4, b4⟩ := row_f4
    obtain ⟨f5, a5, b5⟩ := row_f5
    obtain ⟨z4, rfl, i4⟩ := get 4 f4 v4 a4 (by rw [b4]; exact und_i64) rfl
    obtain ⟨z5, rfl, i5⟩ := get 5 f5 v5 a5 (by rw [b5]; exact und_i64) rfl
    exact ⟨⟨z0, z1, z2, z3, z4, z5⟩, rfl, i0, i2, i3, i4, i5⟩
/-- a slice of bytes -/
def ByteAt (w : World) (B : Nat) (A : Option Addr) (n : Nat) : Prop := n ≤ maxLen ∧ (0 < n → ∃ b off, A = some ⟨b, off, none⟩ ∧ b < B ∧ ∀ k, k < n → ∃ z : Nat, z < 256 ∧ w.cell? ⟨b, off + k, none⟩ = some (.int .u8 z))
theorem ByteAt.below {w w' : World} {B n : Nat} {A : Option Addr} (h : ByteAt w B A n) (hb : Below B w w') : ByteAt w' B A n :=
  ⟨h.1, fun hp => by
    obtain ⟨b, off, e, hlt, hc⟩ := h.2 hp
    refine ⟨b, off, e, hlt, fun k hk => ?_⟩
    obtain ⟨z, hz, hcell⟩ := hc k hk
    exact ⟨z, hz, (hb.cell (p := ⟨b, off + k, none⟩) hlt).trans hcell⟩⟩
set_option maxRecDepth 100000 in
theorem u8_cells : Tryd.prog.cellsOf 5 = 1 := by kernel_rfl
set_option maxRecDepth 100000 in
theorem open_bytes {v : Value} {d : DataW H} {p : List MemPlace} (hv : Value.okWide Tryd.prog W .any base 29 v) (h : DataW.Trod enc Tryd.prog W 0 (fun _ => true) true 29 v d p) :
    ∃ (A : Option Addr) (n : Nat) (c : Nat), v = .slice A n c ∧ ByteAt W W.heap.size A n := by
  obtain ⟨a0, len, cap, rfl⟩ := okWide_slice Tryd.underlying29 hv
  obtain ⟨fuel, hf⟩ := h
  rcases open_slice Tryd.underlying29 hf with ⟨hcs, _⟩ | ⟨a, len', cap', m, n, D, Pl, hcs, _, hl, hm, hmm, _, hi⟩
  · have e : Value.slice a0 len cap = .slice none 0 0 := by simpa [Value.cells] using hcs
    injection e with e1 e2 e3
    subst e1; subst e2; subst e3
    exact ⟨none, 0, 0, rfl, Nat.zero_le _, fun h => by cases h⟩
  · have e : Value.slice a0 len cap = .slice (some a) len' cap' := by simpa [Value.cells] using hcs
    injection e with e1 e2 e3
    subst e1; subst e2; subst e3
    simp only [if_true] at hmm
    rw [u8_cells] at hi
    have key0 : ∀ i, i < len → ∃ z : Nat, z < 256 ∧ W.cell? (a.add (i * 1)) = some (.int .u8 z) := by
      intro i hilt
      obtain ⟨cs', hc, ht⟩ := hi i (by omega)
      obtain ⟨_, hcl, hat⟩ := World.cells?_some hc
      obtain ⟨z, hz, _, hwf⟩ := DataW.trod_int Tryd.underlying5 ht
      have hb := bounds_u8 hwf
      have hcell := hat 0 (by omega)
      refine ⟨z.toNat, by omega, ?_⟩
      have e0 : (a.add (i * 1)).add 0 = a.add (i * 1) := by unfold Addr.add; simp
      rw [e0] at hcell
      rw [hcell, hz]
      simp only [List.getElem?_cons_zero]
      congr 2
      omega
    refine ⟨some a, len, cap, rfl, by omega, fun hp => ?_⟩
    obtain ⟨_, _, h0⟩ := key0 0 hp
    obtain ⟨b, off, rfl, hb⟩ := plain_of h0
    refine ⟨b, off, rfl, hb, fun k hk => ?_⟩
    obtain ⟨z, g, c⟩ := key0 k hk
    rw [add_plain', Nat.mul_one] at c
    exact ⟨z, g, c⟩
end
end Go.Proofs.YtkllpfijeglppaaDoor.HsY
