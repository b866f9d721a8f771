/- Lists of rational numbers: how they come, how they read as cells; Pick. -/
import Derived.Test.YthppojbabkljpaaGreatDoorRsM
import Derived.Test.YthppojbabkljpaaGreatDoorWd
import Derived.ProofKit
import Derived.OpenShut
import Derived.Carry
import Derived.Deep.Slices
import Derived.Deep.Fields
namespace Go.Proofs.YthppojbabkljpaaGreatDoor.RsN
open Go.RowKit Go.ChangeShapes Go.WideShapes Go.ChangeAt Go.Deep RtA RpF RsX RsY RsW RsM Wd
section
variable {H : Type} {enc : TypeId × Value → H} {P : Program} {w W W' : World} {base : Nat} {spare : Nat → Bool} {held : Bool}
theorem open_slice_fields {t e : TypeId} {fs : Array Field} {fuel : Nat} {cs : List Value} {x : DataW H × List MemPlace} (ht : P.underlying t = some (.slice e)) (he : P.underlying e = some (.struct fs))
    (hone : oneCellFields P fs = true) (hC : P.cellsOf e = fs.size) (h : DataW.trod enc P w base spare held fuel t cs = some x) :
    (cs = [.slice none 0 0] ∧ x = (.nil, [])) ∨
    ∃ (a : Addr) (len cap m : Nat) (D : Nat → DataW H) (Pl : Nat → List MemPlace), cs = [.slice (some a) len cap] ∧ base ≤ a.block ∧ len ≤ cap ∧ cap ≤ maxLen ∧ m = (if spare a.block then cap else len) ∧
      x = (.slice ((List.range len).map D) ((List.range (m - len)).map fun j => D (len + j)), MemPlace.row a (m * fs.size) ++ (List.range m).flatMap Pl) ∧
      ∀ i, i < m → ∃ (ys : List (DataW H × List MemPlace)) (n : Nat), D i = .agg (ys.map (·.1)) ∧ Pl i = ys.flatMap (·.2) ∧ ys.length = fs.size ∧
        ∀ (j : Nat) (f : Field), fs[j]? = some f → ∃ (v : Value) (y : DataW H × List MemPlace), w.cell? (a.add (i * fs.size + j)) = some v ∧ ys[j]? = some y ∧ DataW.trod enc P w base spare held n f.type [v] = some y := by
  rcases open_slice ht h with h0 | ⟨a, len, cap, m, n, D, Pl, hcs, hb, hl, hm, hmm, hx, hi⟩
  · exact .inl h0
  · refine .inr ⟨a, len, cap, m, D, Pl, hcs, hb, hl, hm, hmm, by rw [hC] at hx; exact hx, fun i him => ?_⟩
    obtain ⟨cs', hc, ht'⟩ := hi i him
    rw [hC] at hc
    obtain ⟨ys, n', hn', hy, hlen, hyl, hf⟩ := DataW.trod_struct he ht'
    obtain ⟨_, hcl, hat⟩ := World.cells?_some hc
    simp only [Prod.mk.injEq] at hy
    refine ⟨ys, n', hy.1, hy.2, hyl, fun j f hj => ?_⟩
    obtain ⟨ho, hk⟩ := hone_of hone j f hj
    have hjl : j < fs.size := (Array.getElem?_eq_some_iff.1 hj).1
    have hcell := hat j hjl
    have hv : cs'[j]? = some (cs'[j]'(by omega)) := List.getElem?_eq_getElem (by omega)
    have h1 := hf j f hj
    rw [ho, hk] at h1
    have hone' : (cs'.drop j).take 1 = [cs'[j]'(by omega)] := by
      rw [List.drop_eq_getElem_cons (by omega)]
      rfl
    rw [hone'] at h1
    have hys : ys[j]? = some (ys[j]'(by omega)) := List.getElem?_eq_getElem (by omega)
    refine ⟨_, _, ?_, hys, h1.trans hys⟩
    rw [← Go.Deep.add_add, hcell, hv]
end
theorem gather {α : Type} {Q : Nat → α → Prop} : ∀ (n : Nat), (∀ i, i < n → ∃ r, Q i r) → ∃ l : List α, l.length = n ∧ ∀ k r, l[k]? = some r → Q k r
  | 0, _ => ⟨[], rfl, fun k r h => by simp at h⟩
  | n + 1, h => by
    obtain ⟨l, hl, hq⟩ := gather n (fun i hi => h i (by omega))
    obtain ⟨r, hr⟩ := h n (by omega)
    refine ⟨l ++ [r], by simp [hl], fun k x hx => ?_⟩
    rcases Nat.lt_or_ge k l.length with hk | hk
    · rw [List.getElem?_append_left hk] at hx; exact hq k x hx
    · rw [List.getElem?_append_right hk] at hx
      obtain ⟨h1, h2⟩ := List.getElem?_eq_some_iff.1 hx
      have hk' : k = n := by simp at h1; omega
      subst hk'
      have : x = r := by simpa using h2.symm
      subst this; exact hr
theorem plain_of {w : World} {a : Addr} {v : Value} (h : w.cell? (a.add 0) = some v) : ∃ b off, a = ⟨b, off, none⟩ ∧ b < w.heap.size := by
  obtain ⟨b, off, spot⟩ := a
  have hspot : spot = none := by simpa [Addr.add] using World.cell?_spot h
  subst hspot
  exact ⟨b, off, rfl, by simpa [Addr.add] using World.block_lt_of_cell? w _ h⟩
section
variable {H : Type} {enc : TypeId × Value → H} {W : World} {base : Nat}
set_option maxRecDepth 100000 in
theorem open_rats {v : Value} {d : DataW H} {p : List MemPlace} (hv : Value.okWide Tryz.prog W .any base 46 v) (h : DataW.Trod enc Tryz.prog W 0 (fun _ => true) true 46 v d p) :
    ∃ (A : Option Addr) (l : List Raw) (c : Nat), v = .slice A l.length c ∧ RatsAt W W.heap.size A l ∧ l.length ≤ c := by
  obtain ⟨a0, len, cap, rfl⟩ := okWide_slice Tryz.underlying46 hv
  obtain ⟨fuel, hf⟩ := h
  rcases open_slice_fields Tryz.underlying46 rat_und rat_one (rat_cells.trans rat_size.symm) hf with ⟨hcs, _⟩ | ⟨a, len', cap', m, D, Pl, hcs, _, hl, hm, hmm, _, hi⟩
  · have e : Value.slice a0 len cap = .slice none 0 0 := by simpa [Value.cells] using hcs
    injection e with e1 e2 e3
    subst e1; subst e2; subst e3
    exact ⟨none, [], 0, rfl, ⟨Nat.zero_le _, fun h => by cases h⟩, Nat.le_refl _⟩
  · have e : Value.slice a0 len cap = .slice (some a) len' cap' := by simpa [Value.cells] using hcs
    injection e with e1 e2 e3
    subst e1; subst e2; subst e3
    simp only [if_true] at hmm
    have key0 : ∀ i, i < len → ∃ r : Raw, r.2.1.size ≤ maxLen ∧ r.2.2.size ≤ maxLen ∧ W.cell? (a.add (i * 3 + 0)) = some (.bool r.1) ∧ W.cell? (a.add (i * 3 + 1)) = some (.string r.2.1) ∧ W.cell? (a.add (i * 3 + 2)) = some (.string r.2.2) := by
      intro i hilt
      obtain ⟨ys, n, _, _, _, hf⟩ := hi i (by omega)
      rw [rat_size] at hf
      obtain ⟨f0, a0, b0⟩ := rat_f0
      obtain ⟨f1, a1, b1⟩ := rat_f1
      obtain ⟨f2, a2, b2⟩ := rat_f2
      obtain ⟨v0, y0, c0, _, t0⟩ := hf 0 f0 a0
      obtain ⟨v1, y1, c1, _, t1⟩ := hf 1 f1 a1
      obtain ⟨v2, y2, c2, _, t2⟩ := hf 2 f2 a2
      rw [b0] at t0
      rw [b1] at t1
      rw [b2] at t2
      obtain ⟨b, hb, _⟩ := DataW.trod_bool und_bool t0
      obtain ⟨s, hs, _, hs2⟩ := DataW.trod_string und_str t1
      obtain ⟨t, ht, _, ht2⟩ := DataW.trod_string und_str t2
      have hb' : v0 = .bool b := by simpa using hb
      have hs' : v1 = .string s := by simpa using hs
      have ht' : v2 = .string t := by simpa using ht
      subst hb' hs' ht'
      exact ⟨(b, s, t), hs2, ht2, c0, c1, c2⟩
    have key : ∀ i, i < len → ∃ r : Raw, ∃ b off, a = ⟨b, off, none⟩ ∧ b < W.heap.size ∧ r.2.1.size ≤ maxLen ∧ r.2.2.size ≤ maxLen ∧ W.cell? ⟨b, off + i * 3, none⟩ = some (.bool r.1) ∧ W.cell? ⟨b, off + i * 3 + 1, none⟩ = some (.string r.2.1) ∧ W.cell? ⟨b, off + i * 3 + 2, none⟩ = some (.string r.2.2) := by
      intro i hilt
      obtain ⟨_, _, _, h0, _⟩ := key0 0 (by omega)
      obtain ⟨b, off, rfl, hb⟩ := plain_of h0
      obtain ⟨r, s1, s2, c0, c1, c2⟩ := key0 i hilt
      rw [Go.WideShapes.add_plain] at c0 c1 c2
      exact ⟨r, b, off, rfl, hb, s1, s2, c0, c1, c2⟩
    obtain ⟨l, hll, hq⟩ := gather len key
    subst hll
    refine ⟨some a, l, cap, rfl, ⟨by omega, fun hp => ?_⟩, hl⟩
    obtain ⟨b, off, ha, hb, _⟩ := hq 0 _ (List.getElem?_eq_getElem hp)
    refine ⟨b, off, by rw [ha], hb, fun k n x y hk => ?_⟩
    obtain ⟨b', off', ha', _, hc⟩ := hq k _ hk
    rw [ha] at ha'
    injection ha' with e1 e2
    subst e1; subst e2
    exact hc
end
/-- the cells of a list of numbers -/
def cellsL : List Raw → List Value
  | [] => []
  | r :: l => .bool r.1 :: .string r.2.1 :: .string r.2.2 :: cellsL l
theorem cellsL_len : ∀ l, (cellsL l).length = l.length * 3
  | [] => rfl
  | r :: l => by simp only [cellsL, List.length_cons, cellsL_len l]; omega
theorem cellsL_app : ∀ a b, cellsL (a ++ b) = cellsL a ++ cellsL b
  | [], b => rfl
  | r :: a, b => by simp only [List.cons_append, cellsL, cellsL_app a b]
theorem cellsL_drop (l : List Raw) {i : Nat} (h : i ≤ l.length) : (cellsL l).drop (i * 3) = cellsL (l.drop i) := by
  have e : cellsL l = cellsL (l.take i) ++ cellsL (l.drop i) := by rw [← cellsL_app, List.take_append_drop]
  rw [e, List.drop_left' (by rw [cellsL_len, List.length_take]; omega)]
theorem cellsL_take (l : List Raw) {i : Nat} (h : i ≤ l.length) : (cellsL l).take (i * 3) = cellsL (l.take i) := by
  have e : cellsL l = cellsL (l.take i) ++ cellsL (l.drop i) := by rw [← cellsL_app, List.take_append_drop]
  rw [e, List.take_left' (by rw [cellsL_len, List.length_take]; omega)]
theorem cellsL_one : ∀ l, ∀ u ∈ cellsL l, u.oneCell' = true
  | [], u, h => by cases h
  | r :: l, u, h => by
    simp only [cellsL, List.mem_cons] at h
    rcases h with rfl | rfl | rfl | h
    · rfl
    · rfl
    · rfl
    · exact cellsL_one l u h
theorem cellsL_at : ∀ (l : List Raw) (k : Nat) (r : Raw), l[k]? = some r → (cellsL l)[k * 3]? = some (.bool r.1) ∧ (cellsL l)[k * 3 + 1]? = some (.string r.2.1) ∧ (cellsL l)[k * 3 + 2]? = some (.string r.2.2)
  | [], k, r, h => by simp at h
  | x :: l, 0, r, h => by
    simp only [List.getElem?_cons_zero, Option.some.injEq] at h
    subst h
    exact ⟨rfl, rfl, rfl⟩
  | x :: l, k + 1, r, h => by
    rw [List.getElem?_cons_succ] at h
    obtain ⟨h1, h2, h3⟩ := cellsL_at l k r h
    rw [show (k + 1) * 3 = k * 3 + 3 by omega]
    exact ⟨h1, h2, h3⟩
theorem cellsL_from : ∀ (l : List Raw) (j : Nat) (u : Value), (cellsL l)[j]? = some u → ∃ k r, l[k]? = some r ∧ ((j = k * 3 ∧ u = .bool r.1) ∨ (j = k * 3 + 1 ∧ u = .string r.2.1) ∨ (j = k * 3 + 2 ∧ u = .string r.2.2))
  | [], j, u, h => by simp [cellsL] at h
  | x :: l, 0, u, h => by
    simp only [cellsL, List.getElem?_cons_zero, Option.some.injEq] at h
    exact ⟨0, x, rfl, .inl ⟨rfl, h.symm⟩⟩
  | x :: l, 1, u, h => by
    simp only [cellsL, List.getElem?_cons_succ, List.getElem?_cons_zero, Option.some.injEq] at h
    exact ⟨0, x, rfl, .inr (.inl ⟨rfl, h.symm⟩)⟩
  | x :: l, 2, u, h => by
    simp only [cellsL, List.getElem?_cons_succ, List.getElem?_cons_zero, Option.some.injEq] at h
    exact ⟨0, x, rfl, .inr (.inr ⟨rfl, h.symm⟩)⟩
  | x :: l, j + 3, u, h => by
    simp only [cellsL, List.getElem?_cons_succ] at h
    obtain ⟨k, r, hk, ho⟩ := cellsL_from l j u h
    exact ⟨k + 1, r, hk, by
      rcases ho with ⟨e, f⟩ | ⟨e, f⟩ | ⟨e, f⟩
      · exact .inl ⟨by omega, f⟩
      · exact .inr (.inl ⟨by omega, f⟩)
      · exact .inr (.inr ⟨by omega, f⟩)⟩
theorem reads_of {w : World} {B : Nat} {A : Option Addr} {l : List Raw} (h : RatsAt w B A l) : Reads w B 3 A l.length (cellsL l) := by
  refine ⟨cellsL_len l, fun hp => ?_⟩
  obtain ⟨b, off, rfl, hb, hc⟩ := h.2 hp
  refine ⟨_, rfl, hb, fun j u hj => ?_⟩
  obtain ⟨k, r, hk, ho⟩ := cellsL_from l j u hj
  obtain ⟨_, _, c0, c1, c2⟩ := hc k r.1 r.2.1 r.2.2 hk
  rw [Go.WideShapes.add_plain]
  rcases ho with ⟨rfl, rfl⟩ | ⟨rfl, rfl⟩ | ⟨rfl, rfl⟩
  · exact c0
  · exact c1
  · exact c2
/-- what append has made -/
theorem rats_of {w : World} {base : Nat} {v : Value} {l : List Raw} (h : w.ownsRow base 24 3 v l.length (cellsL l)) (hl : l.length ≤ maxLen) (hs : ∀ r ∈ l, r.2.1.size ≤ maxLen ∧ r.2.2.size ≤ maxLen) :
    ∃ A c, v = .slice A l.length c ∧ RatsAt w w.heap.size A l := by
  rcases Nat.eq_zero_or_pos l.length with h0 | h0
  · obtain rfl : l = [] := List.eq_nil_of_length_eq_zero h0
    rcases h.2 with ⟨rfl, _⟩ | ⟨g, cap, cur, rfl, _, _⟩
    · exact ⟨none, 0, rfl, ⟨Nat.zero_le _, fun h => by cases h⟩⟩
    · exact ⟨_, cap, rfl, ⟨Nat.zero_le _, fun h => by cases h⟩⟩
  · obtain ⟨g, cap, rfl, _, hlt⟩ := h.form h0
    have hc := h.cells (g := g) rfl
    refine ⟨_, cap, rfl, ⟨hl, fun _ => ⟨g, 0, rfl, hlt, fun k n a d hk => ?_⟩⟩⟩
    obtain ⟨e0, e1, e2⟩ := cellsL_at l k _ hk
    have s := hs _ (List.mem_of_getElem? hk)
    have c0 := hc _ _ e0
    have c1 := hc _ _ e1
    have c2 := hc _ _ e2
    rw [Go.WideShapes.add_plain] at c0 c1 c2
    exact ⟨s.1, s.2, c0, c1, c2⟩
set_option maxHeartbeats 2000000 in
set_option maxRecDepth 100000 in
theorem pick_any (k n : Nat) (w : World) (hk : k ≤ 255) (hn : n ≤ 100) :
    Calls Tryz.prog 34 #[.int .i64 (k : Int), .int .i64 (n : Int)] w fun e w' => ∃ i : Nat, i ≤ n ∧ e = .returned (.int .i64 (i : Int)) ∧ Below w.heap.size w w' := by
  by_cases h0 : n = 0
  · subst h0
    go_enter Tryz.func34, Tryz.ntmps34
    go_wp2_with fail
    go_ret
    exact ⟨0, by omega, rfl, Below.refl _ _⟩
  · have hr : Hid ((k % n + n) % n ≤ n) := Nat.le_of_lt (Nat.mod_lt _ (by omega))
    go_enter Tryz.func34, Tryz.ntmps34
    go_wp2_with fail
    go_ret
    refine ⟨(k % n + n) % n, hr.out, ?_, Below.refl _ _⟩
    congr 2
    have hlt : (k : Int) % (n : Int) < n := Int.emod_lt_of_pos _ (by omega)
    have hge : 0 ≤ (k : Int) % (n : Int) := Int.emod_nonneg _ (by omega)
    rw [show wrap64 ((k : Int) % (n : Int) + n) = (k : Int) % (n : Int) + n by unfold wrap64; omega, Int.tmod_eq_emod_of_nonneg (by omega)]
    rfl
end Go.Proofs.YthppojbabkljpaaGreatDoor.RsN
