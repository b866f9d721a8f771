/- The arguments of the laws on proofs: a document, a slice of documents, a slice of six numbers each. -/
import Derived.Test.YtghbhchkdomfhaaGreatDoorPGB
import Derived.Test.YtghbhchkdomfhaaGreatDoorRK
import Derived.OpenShut
import Derived.SliceStrings
import Derived.Deep.Slices
import Derived.Deep.Fields
import Derived.ProofKit
namespace Go.Proofs.YtghbhchkdomfhaaGreatDoor.PgO
open Go.RowKit Go.ChangeShapes Go.WideShapes Go.ChangeAt Go.Deep PfA PfD PfH PfI PgG RsX
theorem plain_of {w : World} {a : Addr} {v : Value} (h : w.cell? (a.add 0) = some v) : ∃ b off, a = ⟨b, off, none⟩ ∧ b < w.heap.size := by
  obtain ⟨b, off, spot⟩ := a
  have hspot : spot = none := by simpa [Addr.add] using World.cell?_spot h
  subst hspot
  exact ⟨b, off, rfl, by simpa [Addr.add] using World.block_lt_of_cell? w _ h⟩
/-- the sizes of a document's strings, the range of its numbers -/
structure DocIn (x : Dc) : Prop where
  id : x.id.size ≤ maxLen
  est : -9223372036854775808 ≤ x.est ∧ x.est ≤ 9223372036854775807
  cred : -9223372036854775808 ≤ x.cred ∧ x.cred ≤ 9223372036854775807
  code : x.code.size ≤ maxLen
  num : x.num.size ≤ maxLen
  den : x.den.size ≤ maxLen
  inc : -9223372036854775808 ≤ x.inc ∧ x.inc ≤ 9223372036854775807
  rank : -9223372036854775808 ≤ x.rank ∧ x.rank ≤ 9223372036854775807
  rnum : x.rnum.size ≤ maxLen
  rden : x.rden.size ≤ maxLen
  rfrom : -9223372036854775808 ≤ x.rfrom ∧ x.rfrom ≤ 9223372036854775807
  sec : -9223372036854775808 ≤ x.sec ∧ x.sec ≤ 9223372036854775807
section
variable {H : Type} {enc : TypeId × Value → H} {W : World} {base : Nat}
theorem pr_size : (Tryz.prog.fieldsOf 27).size = 10 := by kernel_rfl
theorem pr_cells : Tryz.prog.cellsOf 27 = 14 := by kernel_rfl
theorem rat_size : (Tryz.prog.fieldsOf 25).size = 3 := by kernel_rfl
theorem rat_cells : Tryz.prog.cellsOf 25 = 3 := by kernel_rfl
set_option maxRecDepth 100000 in
theorem und_str : Tryz.prog.underlying 9 = some .string := by kernel_rfl
set_option maxRecDepth 100000 in
theorem und_bool : Tryz.prog.underlying 4 = some .bool := by kernel_rfl
set_option maxRecDepth 100000 in
theorem und_int : Tryz.prog.underlying 3 = some (.int .i64) := by kernel_rfl
theorem one_str : Tryz.prog.cellsOf 9 = 1 := by kernel_rfl
theorem one_int : Tryz.prog.cellsOf 3 = 1 := by kernel_rfl
theorem one_bool : Tryz.prog.cellsOf 4 = 1 := by kernel_rfl
theorem split2 {α β δ : Type} {p : δ → α} {q : δ → β} {o : Option δ} {a : α} {b : β} (h : o.map (fun f => (p f, q f)) = some (a, b)) : ∃ f, o = some f ∧ p f = a ∧ q f = b := by
  obtain ⟨f, h1, h2⟩ := Option.map_eq_some_iff.1 h
  injection h2 with h2 h3
  exact ⟨f, h1, h2, h3⟩
set_option maxRecDepth 100000 in
theorem pr_f0 : ∃ f, (Tryz.prog.fieldsOf 27)[0]? = some f ∧ f.type = 9 ∧ f.offset = 0 := split2 (show ((Tryz.prog.fieldsOf 27)[0]?).map (fun f => (f.type, f.offset)) = some (9, 0) by kernel_rfl)
set_option maxRecDepth 100000 in
theorem pr_f1 : ∃ f, (Tryz.prog.fieldsOf 27)[1]? = some f ∧ f.type = 3 ∧ f.offset = 1 := split2 (show ((Tryz.prog.fieldsOf 27)[1]?).map (fun f => (f.type, f.offset)) = some (3, 1) by kernel_rfl)
set_option maxRecDepth 100000 in
theorem pr_f2 : ∃ f, (Tryz.prog.fieldsOf 27)[2]? = some f ∧ f.type = 3 ∧ f.offset = 2 := split2 (show ((Tryz.prog.fieldsOf 27)[2]?).map (fun f => (f.type, f.offset)) = some (3, 2) by kernel_rfl)
set_option maxRecDepth 100000 in
theorem pr_f3 : ∃ f, (Tryz.prog.fieldsOf 27)[3]? = some f ∧ f.type = 9 ∧ f.offset = 3 := split2 (show ((Tryz.prog.fieldsOf 27)[3]?).map (fun f => (f.type, f.offset)) = some (9, 3) by kernel_rfl)
set_option maxRecDepth 100000 in
theorem pr_f4 : ∃ f, (Tryz.prog.fieldsOf 27)[4]? = some f ∧ f.type = 25 ∧ f.offset = 4 := split2 (show ((Tryz.prog.fieldsOf 27)[4]?).map (fun f => (f.type, f.offset)) = some (25, 4) by kernel_rfl)
set_option maxRecDepth 100000 in
theorem pr_f5 : ∃ f, (Tryz.prog.fieldsOf 27)[5]? = some f ∧ f.type = 3 ∧ f.offset = 7 := split2 (show ((Tryz.prog.fieldsOf 27)[5]?).map (fun f => (f.type, f.offset)) = some (3, 7) by kernel_rfl)
set_option maxRecDepth 100000 in
theorem pr_f6 : ∃ f, (Tryz.prog.fieldsOf 27)[6]? = some f ∧ f.type = 3 ∧ f.offset = 8 := split2 (show ((Tryz.prog.fieldsOf 27)[6]?).map (fun f => (f.type, f.offset)) = some (3, 8) by kernel_rfl)
set_option maxRecDepth 100000 in
theorem pr_f7 : ∃ f, (Tryz.prog.fieldsOf 27)[7]? = some f ∧ f.type = 25 ∧ f.offset = 9 := split2 (show ((Tryz.prog.fieldsOf 27)[7]?).map (fun f => (f.type, f.offset)) = some (25, 9) by kernel_rfl)
set_option maxRecDepth 100000 in
theorem pr_f8 : ∃ f, (Tryz.prog.fieldsOf 27)[8]? = some f ∧ f.type = 3 ∧ f.offset = 12 := split2 (show ((Tryz.prog.fieldsOf 27)[8]?).map (fun f => (f.type, f.offset)) = some (3, 12) by kernel_rfl)
set_option maxRecDepth 100000 in
theorem pr_f9 : ∃ f, (Tryz.prog.fieldsOf 27)[9]? = some f ∧ f.type = 3 ∧ f.offset = 13 := split2 (show ((Tryz.prog.fieldsOf 27)[9]?).map (fun f => (f.type, f.offset)) = some (3, 13) by kernel_rfl)
set_option maxRecDepth 100000 in
theorem rat_g0 : ∃ f, (Tryz.prog.fieldsOf 25)[0]? = some f ∧ f.type = 4 ∧ f.offset = 0 := split2 (show ((Tryz.prog.fieldsOf 25)[0]?).map (fun f => (f.type, f.offset)) = some (4, 0) by kernel_rfl)
set_option maxRecDepth 100000 in
theorem rat_g1 : ∃ f, (Tryz.prog.fieldsOf 25)[1]? = some f ∧ f.type = 9 ∧ f.offset = 1 := split2 (show ((Tryz.prog.fieldsOf 25)[1]?).map (fun f => (f.type, f.offset)) = some (9, 1) by kernel_rfl)
set_option maxRecDepth 100000 in
theorem rat_g2 : ∃ f, (Tryz.prog.fieldsOf 25)[2]? = some f ∧ f.type = 9 ∧ f.offset = 2 := split2 (show ((Tryz.prog.fieldsOf 25)[2]?).map (fun f => (f.type, f.offset)) = some (9, 2) by kernel_rfl)
theorem trod_rat {n : Nat} {v0 v1 v2 : Value} {y : DataW H × List MemPlace} (h : DataW.trod enc Tryz.prog W 0 (fun _ => true) true n 25 [v0, v1, v2] = some y) :
    ∃ (b : Bool) (s t : ByteArray), v0 = .bool b ∧ v1 = .string s ∧ v2 = .string t ∧ s.size ≤ maxLen ∧ t.size ≤ maxLen := by
  obtain ⟨xs, n', _, _, _, hlen, hg⟩ := DataW.trod_struct rat_und h
  rw [rat_size] at hlen
  obtain ⟨f0, a0, b0, o0⟩ := rat_g0
  obtain ⟨f1, a1, b1, o1⟩ := rat_g1
  obtain ⟨f2, a2, b2, o2⟩ := rat_g2
  have t0 := hg 0 f0 a0
  have t1 := hg 1 f1 a1
  have t2 := hg 2 f2 a2
  rw [b0, o0, one_bool, List.getElem?_eq_getElem (by omega)] at t0
  rw [b1, o1, one_str, List.getElem?_eq_getElem (by omega)] at t1
  rw [b2, o2, one_str, List.getElem?_eq_getElem (by omega)] at t2
  obtain ⟨b, hb, _⟩ := DataW.trod_bool und_bool t0
  obtain ⟨s, hs, _, hs2⟩ := DataW.trod_string und_str t1
  obtain ⟨t, ht, _, ht2⟩ := DataW.trod_string und_str t2
  exact ⟨b, s, t, by simpa using hb, by simpa using hs, by simpa using ht, hs2, ht2⟩
theorem fourteen {α : Type} {l : List α} (h : l.length = 14) : ∃ a b c d e f g i j k m n o p, l = [a, b, c, d, e, f, g, i, j, k, m, n, o, p] := by
  match l, h with
  | [a, b, c, d, e, f, g, i, j, k, m, n, o, p], _ => exact ⟨a, b, c, d, e, f, g, i, j, k, m, n, o, p, rfl⟩
set_option maxRecDepth 100000 in
theorem trod_doc {n : Nat} {cs : List Value} {y : DataW H × List MemPlace} (hl : cs.length = 14) (h : DataW.trod enc Tryz.prog W 0 (fun _ => true) true n 27 cs = some y) : ∃ x : Dc, DocIn x ∧ cs = x.vals := by
  obtain ⟨v0, v1, v2, v3, v4, v5, v6, v7, v8, v9, v10, v11, v12, v13, rfl⟩ := fourteen hl
  obtain ⟨xs, n', _, _, _, hlen, hg⟩ := DataW.trod_struct pr_und h
  rw [pr_size] at hlen
  obtain ⟨f0, a0, b0, o0⟩ := pr_f0
  obtain ⟨f1, a1, b1, o1⟩ := pr_f1
  obtain ⟨f2, a2, b2, o2⟩ := pr_f2
  obtain ⟨f3, a3, b3, o3⟩ := pr_f3
  obtain ⟨f4, a4, b4, o4⟩ := pr_f4
  obtain ⟨f5, a5, b5, o5⟩ := pr_f5
  obtain ⟨f6, a6, b6, o6⟩ := pr_f6
  obtain ⟨f7, a7, b7, o7⟩ := pr_f7
  obtain ⟨f8, a8, b8, o8⟩ := pr_f8
  obtain ⟨f9, a9, b9, o9⟩ := pr_f9
  have t0 := hg 0 f0 a0
  have t1 := hg 1 f1 a1
  have t2 := hg 2 f2 a2
  have t3 := hg 3 f3 a3
  have t4 := hg 4 f4 a4
  have t5 := hg 5 f5 a5
  have t6 := hg 6 f6 a6
  have t7 := hg 7 f7 a7
  have t8 := hg 8 f8 a8
  have t9 := hg 9 f9 a9
  rw [b0, o0, one_str, List.getElem?_eq_getElem (by omega)] at t0
  rw [b1, o1, one_int, List.getElem?_eq_getElem (by omega)] at t1
  rw [b2, o2, one_int, List.getElem?_eq_getElem (by omega)] at t2
  rw [b3, o3, one_str, List.getElem?_eq_getElem (by omega)] at t3
  rw [b4, o4, rat_cells, List.getElem?_eq_getElem (by omega)] at t4
  rw [b5, o5, one_int, List.getElem?_eq_getElem (by omega)] at t5
  rw [b6, o6, one_int, List.getElem?_eq_getElem (by omega)] at t6
  rw [b7, o7, rat_cells, List.getElem?_eq_getElem (by omega)] at t7
  rw [b8, o8, one_int, List.getElem?_eq_getElem (by omega)] at t8
  rw [b9, o9, one_int, List.getElem?_eq_getElem (by omega)] at t9
  obtain ⟨x0, h0, _, g0⟩ := DataW.trod_string und_str t0
  obtain ⟨x1, h1, _, g1⟩ := DataW.trod_int und_int t1
  obtain ⟨x2, h2, _, g2⟩ := DataW.trod_int und_int t2
  obtain ⟨x3, h3, _, g3⟩ := DataW.trod_string und_str t3
  obtain ⟨n4, x4, z4, h4, i4, j4, g4, m4⟩ := trod_rat t4
  obtain ⟨x5, h5, _, g5⟩ := DataW.trod_int und_int t5
  obtain ⟨x6, h6, _, g6⟩ := DataW.trod_int und_int t6
  obtain ⟨n7, x7, z7, h7, i7, j7, g7, m7⟩ := trod_rat t7
  obtain ⟨x8, h8, _, g8⟩ := DataW.trod_int und_int t8
  obtain ⟨x9, h9, _, g9⟩ := DataW.trod_int und_int t9
  have e0 : v0 = .string x0 := by simpa using h0
  have e1 : v1 = .int .i64 x1 := by simpa using h1
  have e2 : v2 = .int .i64 x2 := by simpa using h2
  have e3 : v3 = .string x3 := by simpa using h3
  have e5 : v7 = .int .i64 x5 := by simpa using h5
  have e6 : v8 = .int .i64 x6 := by simpa using h6
  have e8 : v12 = .int .i64 x8 := by simpa using h8
  have e9 : v13 = .int .i64 x9 := by simpa using h9
  subst e0; subst e1; subst e2; subst e3; subst h4; subst i4; subst j4; subst e5; subst e6; subst h7; subst i7; subst j7; subst e8; subst e9
  exact ⟨⟨x0, x1, x2, x3, n4, x4, z4, x5, x6, n7, x7, z7, x8, x9⟩, ⟨g0, bounds_i64 g1, bounds_i64 g2, g3, g4, m4, bounds_i64 g5, bounds_i64 g6, g7, m7, bounds_i64 g8, bounds_i64 g9⟩, rfl⟩
set_option maxRecDepth 100000 in
theorem open_doc {v : Value} {d : DataW H} {p : List MemPlace} (hv : Value.okWide Tryz.prog W .any base 27 v) (h : DataW.Trod enc Tryz.prog W 0 (fun _ => true) true 27 v d p) :
    ∃ x : Dc, v = x.agg ∧ DocIn x := by
  obtain ⟨cs, rfl, hsz⟩ := okWide_struct pr_und hv
  obtain ⟨l⟩ := cs
  obtain ⟨fuel, hf⟩ := h
  obtain ⟨x, hx, e⟩ := trod_doc (by simpa using hsz.trans pr_cells) (by simpa [Value.cells] using hf)
  subst e
  exact ⟨x, rfl, hx⟩
theorem gather {α : Type} {Q : Nat → α → Prop} : ∀ (n : Nat), (∀ i, i < n → ∃ r, Q i r) → ∃ l : List α, l.length = n ∧ ∀ k r, l[k]? = some r → Q k r
  | 0, _ => ⟨[], rfl, fun k r h => by simp at h⟩
  | n + 1, h => by
    obtain ⟨l, hl, hq⟩ := gather n (fun i hi => h i (by omega))
    obtain ⟨r, hr⟩ := h n (by omega)
    refine ⟨l ++ [r], by simp [hl], fun k x hx => ?_⟩
    rcases Nat.lt_or_ge k l.length with hk | hk
    · rw [List.getElem?_append_left hk] at hx; exact hq k x hx
    · rw [List.getElem?_append_right hk] at hx
      obtain ⟨h1, h2⟩ := List.getElem?_eq_some_iff.1 hx
      have hk' : k = n := by simp at h1; omega
      subst hk'
      have : x = r := by simpa using h2.symm
      subst this; exact hr
set_option maxRecDepth 100000 in
theorem open_docs {v : Value} {d : DataW H} {p : List MemPlace} (hv : Value.okWide Tryz.prog W .any base 29 v) (h : DataW.Trod enc Tryz.prog W 0 (fun _ => true) true 29 v d p) :
    ∃ (A : Option Addr) (l : List Dc) (c : Nat), v = .slice A l.length c ∧ (DocsAt W A l ∧ l.length ≤ c) ∧ ∀ x ∈ l, DocIn x := by
  obtain ⟨a0, len, cap, rfl⟩ := okWide_slice Tryz.underlying29 hv
  obtain ⟨fuel, hf⟩ := h
  rcases open_slice Tryz.underlying29 hf with ⟨hcs, _⟩ | ⟨a, len', cap', m, n, D, Pl, hcs, _, hl, hm, hmm, _, hi⟩
  · have e : Value.slice a0 len cap = .slice none 0 0 := by simpa [Value.cells] using hcs
    injection e with e1 e2 e3
    subst e1; subst e2; subst e3
    exact ⟨none, [], 0, rfl, ⟨DocsAt.nil _ _, Nat.le_refl _⟩, fun x h => by cases h⟩
  · have e : Value.slice a0 len cap = .slice (some a) len' cap' := by simpa [Value.cells] using hcs
    injection e with e1 e2 e3
    subst e1; subst e2; subst e3
    simp only [if_true] at hmm
    rw [pr_cells] at hi
    have key0 : ∀ i, i < len → ∃ x : Dc, DocIn x ∧ ∀ j v, x.vals[j]? = some v → W.cell? ((a.add (i * 14)).add j) = some v := by
      intro i hilt
      obtain ⟨cs', hc, ht⟩ := hi i (by omega)
      obtain ⟨_, hcl, hat⟩ := World.cells?_some hc
      obtain ⟨x, hx, e⟩ := trod_doc hcl ht
      subst e
      refine ⟨x, hx, fun j v hj => ?_⟩
      have hj14 : j < 14 := (List.getElem?_eq_some_iff.1 hj).1
      rw [hat j hj14]
      exact hj
    have key : ∀ i, i < len → ∃ x : Dc, DocIn x ∧ ∃ b off, a = ⟨b, off, none⟩ ∧ b < W.heap.size ∧ ∀ j v, x.vals[j]? = some v → W.cell? ⟨b, off + i * 14 + j, none⟩ = some v := by
      intro i hilt
      obtain ⟨_, _, h0⟩ := key0 0 (by omega)
      have h00 := h0 0 _ rfl
      have e0 : (a.add (0 * 14)).add 0 = a.add 0 := by unfold Addr.add; simp
      rw [e0] at h00
      obtain ⟨b, off, rfl, hb⟩ := plain_of h00
      obtain ⟨x, hx, hj⟩ := key0 i hilt
      refine ⟨x, hx, b, off, rfl, hb, fun j v hv => ?_⟩
      have := hj j v hv
      rw [Go.WideShapes.add_plain, Go.WideShapes.add_plain] at this
      exact this
    obtain ⟨l, hll, hq⟩ := gather len key
    subst hll
    refine ⟨some a, l, cap, rfl, ⟨⟨by omega, fun hp => ?_⟩, by omega⟩, fun x hx => ?_⟩
    · obtain ⟨_, b, off, ha, hb, _⟩ := hq 0 _ (List.getElem?_eq_getElem hp)
      refine ⟨b, off, by rw [ha], hb, fun k x hk => ?_⟩
      obtain ⟨_, b', off', ha', _, hc⟩ := hq k _ hk
      rw [ha] at ha'
      injection ha' with e1 e2
      subst e1; subst e2
      exact hc
    · obtain ⟨k, hk⟩ := List.getElem?_of_mem hx
      exact (hq k x hk).1
end
/-- six numbers in a row -/
def SixAt (w : World) (b o : Nat) : Prop := ∃ z0 z1 z2 z3 z4 z5 : Nat, z0 < 65536 ∧ z1 < 65536 ∧ z2 < 65536 ∧ z3 < 65536 ∧ z4 < 65536 ∧ z5 < 65536 ∧
  w.cell? ⟨b, o, none⟩ = some (.int .u16 z0) ∧ w.cell? ⟨b, o + 1, none⟩ = some (.int .u16 z1) ∧ w.cell? ⟨b, o + 2, none⟩ = some (.int .u16 z2) ∧ w.cell? ⟨b, o + 3, none⟩ = some (.int .u16 z3) ∧ w.cell? ⟨b, o + 4, none⟩ = some (.int .u16 z4) ∧ w.cell? ⟨b, o + 5, none⟩ = some (.int .u16 z5)
def SixesAt (w : World) (B : Nat) (A : Option Addr) (n : Nat) : Prop := n ≤ maxLen ∧ (0 < n → ∃ b off, A = some ⟨b, off, none⟩ ∧ b < B ∧ ∀ k, k < n → SixAt w b (off + k * 6))
theorem SixesAt.below {w w' : World} {B n : Nat} {A : Option Addr} (h : SixesAt w B A n) (hb : Below B w w') : SixesAt w' B A n :=
  ⟨h.1, fun hp => by
    obtain ⟨b, off, e, hlt, hc⟩ := h.2 hp
    refine ⟨b, off, e, hlt, fun k hk => ?_⟩
    obtain ⟨z0, z1, z2, z3, z4, z5, g0, g1, g2, g3, g4, g5, c0, c1, c2, c3, c4, c5⟩ := hc k hk
    exact ⟨z0, z1, z2, z3, z4, z5, g0, g1, g2, g3, g4, g5, (hb.cell (p := ⟨b, _, none⟩) hlt).trans c0, (hb.cell (p := ⟨b, _, none⟩) hlt).trans c1, (hb.cell (p := ⟨b, _, none⟩) hlt).trans c2, (hb.cell (p := ⟨b, _, none⟩) hlt).trans c3, (hb.cell (p := ⟨b, _, none⟩) hlt).trans c4, (hb.cell (p := ⟨b, _, none⟩) hlt).trans c5⟩⟩
section
variable {H : Type} {enc : TypeId × Value → H} {W : World} {base : Nat}
theorem six_cells : Tryz.prog.cellsOf 81 = 6 := by kernel_rfl
theorem u16_cells : Tryz.prog.cellsOf 46 = 1 := by kernel_rfl
set_option maxRecDepth 100000 in
theorem open_sixes {v : Value} {d : DataW H} {p : List MemPlace} (hv : Value.okWide Tryz.prog W .any base 43 v) (h : DataW.Trod enc Tryz.prog W 0 (fun _ => true) true 43 v d p) :
    ∃ (A : Option Addr) (n : Nat) (c : Nat), v = .slice A n c ∧ SixesAt W W.heap.size A n := by
  obtain ⟨a0, len, cap, rfl⟩ := okWide_slice Tryz.underlying43 hv
  obtain ⟨fuel, hf⟩ := h
  rcases open_slice Tryz.underlying43 hf with ⟨hcs, _⟩ | ⟨a, len', cap', m, n, D, Pl, hcs, _, hl, hm, hmm, _, hi⟩
  · have e : Value.slice a0 len cap = .slice none 0 0 := by simpa [Value.cells] using hcs
    injection e with e1 e2 e3
    subst e1; subst e2; subst e3
    exact ⟨none, 0, 0, rfl, Nat.zero_le _, fun h => by cases h⟩
  · have e : Value.slice a0 len cap = .slice (some a) len' cap' := by simpa [Value.cells] using hcs
    injection e with e1 e2 e3
    subst e1; subst e2; subst e3
    simp only [if_true] at hmm
    rw [six_cells] at hi
    have key0 : ∀ i, i < len → ∀ j, j < 6 → ∃ z : Nat, z < 65536 ∧ W.cell? (a.add (i * 6 + j)) = some (.int .u16 z) := by
      intro i hilt j hj
      obtain ⟨cs', hc, ht⟩ := hi i (by omega)
      obtain ⟨xs, m', _, _, hlen, hxl, hg⟩ := DataW.trod_array Tryz.underlying81 ht
      obtain ⟨_, hcl, hat⟩ := World.cells?_some hc
      have h1 := hg j hj
      rw [u16_cells, Nat.mul_one] at h1
      have hone : (cs'.drop j).take 1 = [cs'[j]'(by omega)] := by
        rw [List.drop_eq_getElem_cons (by omega)]; rfl
      have hv : cs'[j]? = some (cs'[j]'(by omega)) := List.getElem?_eq_getElem (by omega)
      rw [hone, List.getElem?_eq_getElem (by omega)] at h1
      obtain ⟨z, hz, _, hwf⟩ := DataW.trod_int Tryz.underlying46 h1
      have hz' : cs'[j]'(by omega) = .int .u16 z := by simpa using hz
      have hb := bounds_u16 hwf
      have hcell := hat j hj
      refine ⟨z.toNat, by omega, ?_⟩
      rw [← Go.Deep.add_add, hcell, hv, hz']
      congr 2
      omega
    refine ⟨some a, len, cap, rfl, by omega, fun hp => ?_⟩
    obtain ⟨_, _, h0⟩ := key0 0 hp 0 (by omega)
    obtain ⟨b, off, rfl, hb⟩ := plain_of h0
    refine ⟨b, off, rfl, hb, fun k hk => ?_⟩
    obtain ⟨z0, g0, c0⟩ := key0 k hk 0 (by omega)
    obtain ⟨z1, g1, c1⟩ := key0 k hk 1 (by omega)
    obtain ⟨z2, g2, c2⟩ := key0 k hk 2 (by omega)
    obtain ⟨z3, g3, c3⟩ := key0 k hk 3 (by omega)
    obtain ⟨z4, g4, c4⟩ := key0 k hk 4 (by omega)
    obtain ⟨z5, g5, c5⟩ := key0 k hk 5 (by omega)
    rw [Go.WideShapes.add_plain] at c0 c1 c2 c3 c4 c5
    exact ⟨z0, z1, z2, z3, z4, z5, g0, g1, g2, g3, g4, g5, by rw [← c0]; congr 2, by rw [← c1]; congr 2, by rw [← c2]; congr 2, by rw [← c3]; congr 2, by rw [← c4]; congr 2, by rw [← c5]; congr 2⟩
end
end Go.Proofs.YtghbhchkdomfhaaGreatDoor.PgO
