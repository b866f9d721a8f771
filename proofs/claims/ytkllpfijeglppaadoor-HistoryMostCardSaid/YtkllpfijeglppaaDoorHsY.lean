/- The arguments of the laws on histories: rows, lists of five numbers, bytes; and what the row's list of variables gives. -/
import Derived.Test.YtkllpfijeglppaaDoorHsX
namespace Go.Proofs.YtkllpfijeglppaaDoor.HsY
open Go.RowKit Go.ChangeShapes Go.WideShapes Go.ChangeAt Go.Deep Hs HsB HsC HsD HsF HsG HsX
theorem gather {α : Type} {Q : Nat → α → Prop} : ∀ (n : Nat), (∀ i, i < n → ∃ r, Q i r) → ∃ l : List α, l.length = n ∧ ∀ k r, l[k]? = some r → Q k r
  | 0, _ => ⟨[], rfl, fun k r h => by simp at h⟩
  | n + 1, h => by
    obtain ⟨l, hl, hq⟩ := gather n (fun i hi => h i (by omega))
    obtain ⟨r, hr⟩ := h n (by omega)
    refine ⟨l ++ [r], by simp [hl], fun k x hx => ?_⟩
    rcases Nat.lt_or_ge k l.length with hk | hk
    · rw [List.getElem?_append_left hk] at hx; exact hq k x hx
    · rw [List.getElem?_append_right hk] at hx
      obtain ⟨h1, h2⟩ := List.getElem?_eq_some_iff.1 hx
      have hk' : k = n := by simp at h1; omega
      subst hk'
      have : x = r := by simpa using h2.symm
      subst this; exact hr
theorem plain_of {w : World} {a : Addr} {v : Value} (h : w.cell? (a.add 0) = some v) : ∃ b off, a = ⟨b, off, none⟩ ∧ b < w.heap.size := by
  obtain ⟨b, off, spot⟩ := a
  have hspot : spot = none := by simpa [Addr.add] using World.cell?_spot h
  subst hspot
  exact ⟨b, off, rfl, by simpa [Addr.add] using World.block_lt_of_cell? w _ h⟩
section
variable {H : Type} {enc : TypeId × Value → H} {W : World} {base : Nat}
set_option maxRecDepth 100000 in
theorem row_one : oneCellFields Tryd.prog (Tryd.prog.fieldsOf 39) = true := by kernel_rfl
set_option maxRecDepth 100000 in
theorem row_size : (Tryd.prog.fieldsOf 39).size = 6 := by kernel_rfl
set_option maxRecDepth 100000 in
theorem row_cells : Tryd.prog.cellsOf 39 = 6 := by kernel_rfl
set_option maxRecDepth 100000 in
theorem row_f (j : Nat) (h : j < 4) : ∃ f, (Tryd.prog.fieldsOf 39)[j]? = some f ∧ f.type = 3 := by
  have : ((Tryd.prog.fieldsOf 39)[j]?).map (·.type) = some 3 := by
    rcases (by omega : j = 0 ∨ j = 1 ∨ j = 2 ∨ j = 3) with rfl | rfl | rfl | rfl
    all_goals kernel_rfl
  exact Option.map_eq_some_iff.1 this
set_option maxRecDepth 100000 in
theorem row_f4 : ∃ f, (Tryd.prog.fieldsOf 39)[4]? = some f ∧ f.type = 2 := Option.map_eq_some_iff.1 (show ((Tryd.prog.fieldsOf 39)[4]?).map (·.type) = some 2 by kernel_rfl)
set_option maxRecDepth 100000 in
theorem row_f5 : ∃ f, (Tryd.prog.fieldsOf 39)[5]? = some f ∧ f.type = 2 := Option.map_eq_some_iff.1 (show ((Tryd.prog.fieldsOf 39)[5]?).map (·.type) = some 2 by kernel_rfl)
set_option maxRecDepth 100000 in
theorem und_int : Tryd.prog.underlying 3 = some (.int .i64) := by kernel_rfl
set_option maxRecDepth 100000 in
theorem und_i64 : Tryd.prog.underlying 2 = some (.int .i64) := by kernel_rfl
theorem add_plain' (b off k : Nat) : (⟨b, off, none⟩ : Addr).add k = ⟨b, off + k, none⟩ := Go.WideShapes.add_plain b off k
set_option maxRecDepth 100000 in
theorem open_rows {v : Value} {d : DataW H} {p : List MemPlace} (hv : Value.okWide Tryd.prog W .any base 22 v) (h : DataW.Trod enc Tryd.prog W 0 (fun _ => true) true 22 v d p) :
    ∃ (A : Option Addr) (l : List HRow) (c : Nat), v = .slice A l.length c ∧ RowsAt W W.heap.size A l ∧ ∀ r ∈ l, RowIn r := by
  obtain ⟨a0, len, cap, rfl⟩ := okWide_slice Tryd.underlying22 hv
  obtain ⟨fuel, hf⟩ := h
  rcases open_slice_fields Tryd.underlying22 HsV.row_und row_one (row_cells.trans row_size.symm) hf with ⟨hcs, _⟩ | ⟨a, len', cap', m, D, Pl, hcs, _, hl, hm, hmm, _, hi⟩
  · have e : Value.slice a0 len cap = .slice none 0 0 := by simpa [Value.cells] using hcs
    injection e with e1 e2 e3
    subst e1; subst e2; subst e3
    exact ⟨none, [], 0, rfl, ⟨Nat.zero_le _, fun h => by cases h⟩, by simp⟩
  · have e : Value.slice a0 len cap = .slice (some a) len' cap' := by simpa [Value.cells] using hcs
    injection e with e1 e2 e3
    subst e1; subst e2; subst e3
    simp only [if_true] at hmm
    have key0 : ∀ i, i < len → ∃ r : HRow, (W.cell? (a.add (i * 6 + 0)) = some (.int .i64 r.day) ∧ W.cell? (a.add (i * 6 + 1)) = some (.int .i64 r.kind) ∧ W.cell? (a.add (i * 6 + 2)) = some (.int .i64 r.src) ∧ W.cell? (a.add (i * 6 + 3)) = some (.int .i64 r.dst) ∧ W.cell? (a.add (i * 6 + 4)) = some (.int .i64 r.amount) ∧ W.cell? (a.add (i * 6 + 5)) = some (.int .i64 r.worth)) ∧ RowIn r := by
      intro i hilt
      obtain ⟨ys, n, _, _, _, hf⟩ := hi i (by omega)
      rw [row_size] at hf
      have get : ∀ (j : Nat) (f : Field), (Tryd.prog.fieldsOf 39)[j]? = some f → Tryd.prog.underlying f.type = some (.int .i64) → ∃ z : Int, W.cell? (a.add (i * 6 + j)) = some (.int .i64 z) ∧ In64 z := by
        intro j f hj hu
        obtain ⟨v, y, hc, _, ht⟩ := hf j f hj
        obtain ⟨z, hz, _, hwf⟩ := DataW.trod_int hu ht
        obtain rfl : v = .int .i64 z := by simpa using hz
        exact ⟨z, hc, bounds_i64 hwf⟩
      have g : ∀ j, j < 4 → ∃ z : Int, W.cell? (a.add (i * 6 + j)) = some (.int .i64 z) ∧ In64 z := fun j hj => by
        obtain ⟨f, h1, h2⟩ := row_f j hj
        exact get j f h1 (by rw [h2]; exact und_int)
      obtain ⟨z0, c0, i0⟩ := g 0 (by omega)
      obtain ⟨z1, c1, i1⟩ := g 1 (by omega)
      obtain ⟨z2, c2, i2⟩ := g 2 (by omega)
      obtain ⟨z3, c3, i3⟩ := g 3 (by omega)
      obtain ⟨z4, c4, i4⟩ : ∃ z : Int, W.cell? (a.add (i * 6 + 4)) = some (.int .i64 z) ∧ In64 z := by
        obtain ⟨f, h1, h2⟩ := row_f4
        exact get 4 f h1 (by rw [h2]; exact und_i64)
      obtain ⟨z5, c5, i5⟩ : ∃ z : Int, W.cell? (a.add (i * 6 + 5)) = some (.int .i64 z) ∧ In64 z := by
        obtain ⟨f, h1, h2⟩ := row_f5
        exact get 5 f h1 (by rw [h2]; exact und_i64)
      exact ⟨⟨z0, z1, z2, z3, z4, z5⟩, ⟨c0, c1, c2, c3, c4, c5⟩, i0, i2, i3, i4, i5⟩
    have key : ∀ i, i < len → ∃ r : HRow, (∃ b off, a = ⟨b, off, none⟩ ∧ b < W.heap.size ∧ RowCells W b (off + i * 6) r) ∧ RowIn r := by
      intro i hilt
      obtain ⟨_, ⟨h0, _⟩, _⟩ := key0 0 (by omega)
      obtain ⟨b, off, rfl, hb⟩ := plain_of h0
      obtain ⟨r, ⟨c0, c1, c2, c3, c4, c5⟩, hin⟩ := key0 i hilt
      rw [add_plain'] at c0 c1 c2 c3 c4 c5
      exact ⟨r, ⟨b, off, rfl, hb, by rw [← c0]; congr 2, by rw [← c1]; congr 2, by rw [← c2]; congr 2, by rw [← c3]; congr 2, by rw [← c4]; congr 2, by rw [← c5]; congr 2⟩, hin⟩
    obtain ⟨l, hll, hq⟩ := gather len key
    subst hll
    refine ⟨some a, l, cap, rfl, ⟨by omega, fun hp => ?_⟩, fun r hr => ?_⟩
    · obtain ⟨b, off, ha, hb, _⟩ := (hq 0 _ (List.getElem?_eq_getElem hp)).1
      refine ⟨b, off, by rw [ha], hb, fun k r hk => ?_⟩
      obtain ⟨b', off', ha', _, hc⟩ := (hq k r hk).1
      rw [ha] at ha'
      injection ha' with e1 e2
      subst e1; subst e2
      exact hc
    · obtain ⟨k, hk⟩ := List.getElem?_of_mem hr
      exact (hq k r hk).2
set_option maxRecDepth 100000 in
theorem five_cells : Tryd.prog.cellsOf 67 = 5 := by kernel_rfl
set_option maxRecDepth 100000 in
theorem u16_cells : Tryd.prog.cellsOf 28 = 1 := by kernel_rfl
set_option maxRecDepth 100000 in
theorem open_fives {v : Value} {d : DataW H} {p : List MemPlace} (hv : Value.okWide Tryd.prog W .any base 23 v) (h : DataW.Trod enc Tryd.prog W 0 (fun _ => true) true 23 v d p) :
    ∃ (A : Option Addr) (n : Nat) (c : Nat), v = .slice A n c ∧ FivesAt W W.heap.size A n := by
  obtain ⟨a0, len, cap, rfl⟩ := okWide_slice Tryd.underlying23 hv
  obtain ⟨fuel, hf⟩ := h
  rcases open_slice Tryd.underlying23 hf with ⟨hcs, _⟩ | ⟨a, len', cap', m, n, D, Pl, hcs, _, hl, hm, hmm, _, hi⟩
  · have e : Value.slice a0 len cap = .slice none 0 0 := by simpa [Value.cells] using hcs
    injection e with e1 e2 e3
    subst e1; subst e2; subst e3
    exact ⟨none, 0, 0, rfl, Nat.zero_le _, fun h => by cases h⟩
  · have e : Value.slice a0 len cap = .slice (some a) len' cap' := by simpa [Value.cells] using hcs
    injection e with e1 e2 e3
    subst e1; subst e2; subst e3
    simp only [if_true] at hmm
    rw [five_cells] at hi
    have key0 : ∀ i, i < len → ∀ j, j < 5 → ∃ z : Nat, z < 65536 ∧ W.cell? (a.add (i * 5 + j)) = some (.int .u16 z) := by
      intro i hilt j hj
      obtain ⟨cs', hc, ht⟩ := hi i (by omega)
      obtain ⟨xs, m', _, _, hlen, hxl, hg⟩ := DataW.trod_array Tryd.underlying67 ht
      obtain ⟨_, hcl, hat⟩ := World.cells?_some hc
      have h1 := hg j hj
      rw [u16_cells, Nat.mul_one] at h1
      have hv : cs'[j]? = some (cs'[j]'(by omega)) := List.getElem?_eq_getElem (by omega)
      have hone : (cs'.drop j).take 1 = [cs'[j]'(by omega)] := by
        rw [List.drop_eq_getElem_cons (by omega)]; rfl
      rw [hone, List.getElem?_eq_getElem (by omega)] at h1
      obtain ⟨z, hz, _, hwf⟩ := DataW.trod_int Tryd.underlying28 h1
      have hz' : cs'[j]'(by omega) = .int .u16 z := by simpa using hz
      have hb := bounds_u16 hwf
      have hcell := hat j hj
      refine ⟨z.toNat, by omega, ?_⟩
      rw [← Go.Deep.add_add, hcell, hv, hz']
      congr 2
      omega
    refine ⟨some a, len, cap, rfl, by omega, fun hp => ?_⟩
    obtain ⟨_, _, h0⟩ := key0 0 hp 0 (by omega)
    obtain ⟨b, off, rfl, hb⟩ := plain_of h0
    refine ⟨b, off, rfl, hb, fun k hk => ?_⟩
    obtain ⟨z0, g0, c0⟩ := key0 k hk 0 (by omega)
    obtain ⟨z1, g1, c1⟩ := key0 k hk 1 (by omega)
    obtain ⟨z2, g2, c2⟩ := key0 k hk 2 (by omega)
    obtain ⟨z3, g3, c3⟩ := key0 k hk 3 (by omega)
    obtain ⟨z4, g4, c4⟩ := key0 k hk 4 (by omega)
    rw [add_plain'] at c0 c1 c2 c3 c4
    exact ⟨z0, z1, z2, z3, z4, g0, g1, g2, g3, g4, by rw [← c0]; congr 2, by rw [← c1]; congr 2, by rw [← c2]; congr 2, by rw [← c3]; congr 2, by rw [← c4]; congr 2⟩
end
end Go.Proofs.YtkllpfijeglppaaDoor.HsY
