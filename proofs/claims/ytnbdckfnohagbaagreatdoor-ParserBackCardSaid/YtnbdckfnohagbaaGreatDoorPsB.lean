/- The walks of Bare and of the law ParserBack. -/
import Derived.Test.YtnbdckfnohagbaaGreatDoorPsA
namespace Go.Proofs.YtnbdckfnohagbaaGreatDoor.PsB
open Go.RowKit Lx LxD Wd RnW PqA PqB PqC PqD PqE PqG PqH PqL PqM PqN PqS PqT PqU PqW PqY PqZ PsA RnQ RnR RtA RpC RpF RoL
theorem strs_reads {P : Nat → Prop} {w : World} {A : Option Addr} {c : Nat} {l : List ByteArray} (h : Strs P w A c l) : Reads w w.heap.size 1 A l.length (l.map Value.string) := by
  refine ⟨by simp, fun hl => ?_⟩
  obtain ⟨b, off, e, hlt, _, hc⟩ := h.2 hl
  refine ⟨⟨b, off, none⟩, e, hlt, fun j u hu => ?_⟩
  rw [List.getElem?_map] at hu
  cases hs : l[j]? with
  | none => rw [hs] at hu; cases hu
  | some s =>
    rw [hs] at hu
    simp only [Option.map_some, Option.some.injEq] at hu
    subst hu
    rw [Go.WideShapes.add_plain]
    exact hc j s hs
set_option maxHeartbeats 8000000 in
set_option maxRecDepth 100000 in
theorem bare1 (nn ot : ByteArray) (l : List ByteArray) (A : Option Addr) (c : Nat) (b : Bool) (x y : ByteArray) (z : Int) (w : World) (h3 : Strs (fun _ => True) w A c l) (hl : l.length ≤ 100) :
    Calls Tryz.prog 18 #[.agg #[.int .i64 1, .string nn, .string ot, .slice A l.length c, .bool b, .string x, .string y, .int .i64 z]] w fun e w' => ∃ A' c', e = .returned (.agg #[.int .i64 1, .string nn, .string ⟨#[]⟩, .slice A' l.length c', .bool false, .string ⟨#[]⟩, .string ⟨#[]⟩, .int .i64 0]) ∧ Strs (fun _ => True) w' A' c' l ∧ Below w.heap.size w w' := by
  obtain ⟨s0, hs, hy0, hy1, hy2⟩ := info_parts PqD.str_info
  obtain ⟨V0, hV0, HX, HB0, hl0⟩ := new8 w (.int .i64 1) (.string nn) (.string ot) (.slice A l.length c) (.bool b) (.string x) (.string y) (.int .i64 z) 45
  obtain ⟨V1, hV1, HY, HB1, hl1⟩ := new8 V0 (.int .i64 0) (.string ⟨#[]⟩) (.string ⟨#[]⟩) (.slice none 0 0) (.bool false) (.string ⟨#[]⟩) (.string ⟨#[]⟩) (.int .i64 0) 45
  obtain ⟨V2, hV2, HZ, HB2, hl2⟩ := new8 V1 (.int .i64 1) (.string nn) (.string ⟨#[]⟩) (.slice none 0 0) (.bool false) (.string ⟨#[]⟩) (.string ⟨#[]⟩) (.int .i64 0) 45
  have HXa := hide (HX.out.below HB1.out)
  have HX2 := hide (HXa.out.below HB2.out)
  have HY2 := hide (HY.out.below HB2.out)
  have hw0 : w.heap.size < V0.heap.size := by omega
  have hw1 : V0.heap.size < V1.heap.size := by omega
  have hw2 : V1.heap.size < V2.heap.size := by omega
  have HB := hide ((HB0.out.trans (HB1.out.mono (by omega))).trans (HB2.out.mono (by omega)))
  have HRD := hide (strs_reads (((h3.below HB0.out).below HB1.out).below HB2.out))
  have HON : Hid (V2.ownsRow V2.heap.size 9 1 (.slice none 0 0) 0 []) := World.ownsRow_nil _ _ _ _
  have H1C := Lib.hid (show ∀ u ∈ l.map Value.string, u.oneCell' = true from fun u hu => by obtain ⟨s, _, rfl⟩ := List.mem_map.1 hu; rfl)
  clear h3
  clear hl0 hl1 hl2
  have HV2 := hide hV2
  obtain ⟨x0, x1, x2, x3, x4, x5, x6, x7⟩ := cells8 HXa.out
  clear hV2
  go_enter Tryz.func18, Tryz.ntmps18
  go_upto_region 2 with fail
  clear x0 x1 x2 x3 x4 x5 x6 x7
  rw [HV2.out]
  clear hV0 hV1 HV2
  obtain ⟨x0, x1, x2, x3, x4, x5, x6, x7⟩ := cells8 HX2.out
  obtain ⟨z0, z1, z2, z3, z4, z5, z6, z7⟩ := cells8 HZ.out
  obtain ⟨g0, g1, g2, g3, g4, g5, g6, g7⟩ := frozen8 HZ.out
  obtain ⟨y0, y1, y2, y3, y4, y5, y6, y7⟩ := cells8 HY2.out
  obtain ⟨f0, f1, f2, f3, f4, f5, f6, f7⟩ := frozen8 HY2.out
  go_upto_region 9 with (first
    | (at_builtin
       refine wpList_append_any _ rfl (.const (.slice none 0 0)) (.tmp 14) 41 rfl V2.heap.size 9 s0 _ 1 16 Tryz.underlying41 hs hy0 hy1 hy2 rfl (by decide) _ _ _ rfl HON.out _ _ l.length c _ rfl HRD.out H1C.out ?c3 ?c4 ?c5 ?_
       case c3 => unfold maxLen; omega
       case c4 => omega
       case c5 => omega
       intro v5 w5 hown5 hg5 hob5
       obtain ⟨A', c', rfl⟩ := LxD.own_slice hown5
       have hgb : Below V2.heap.size V2 w5 := (Below.refl _ _).grown hg5 (by omega) (fun g hg => by cases hg)
       have HX3 := hide (HX2.out.below hgb)
       have HY3 := hide (HY2.out.below hgb)
       have HZ3 := hide (HZ.out.below hgb)
       have HB3 := hide (HB.out.trans (hgb.mono HB.out.size))
       have HO3 := hide hown5
       clear hown5 hg5 hob5 hgb
       clear x0 x1 x2 x3 x4 x5 x6 x7 z0 z1 z2 z3 z4 z5 z6 z7 g0 g1 g2 g3 g4 g5 g6 g7 y0 y1 y2 y3 y4 y5 y6 y7 f0 f1 f2 f3 f4 f5 f6 f7
       obtain ⟨z0, z1, z2, z3, z4, z5, z6, z7⟩ := cells8 HZ3.out
       obtain ⟨g0, g1, g2, g3, g4, g5, g6, g7⟩ := frozen8 HZ3.out))
  rw [Nat.zero_add] at HO3
  obtain ⟨W3, hW3⟩ : ∃ W3, w5.setCell ⟨V1.heap.size, 3, none⟩ (.slice A' l.length c') = W3 := ⟨_, rfl⟩
  have hz := HZ3.out.set 3 (.slice A' l.length c')
  have hy := HY3.out.other (k := V1.heap.size) (by omega) 3 (.slice A' l.length c')
  have hx := HX3.out.other (k := V1.heap.size) (by omega) 3 (.slice A' l.length c')
  have hb := HB3.out.setCell (p := ⟨V1.heap.size, 3, none⟩) (by show w.heap.size ≤ V1.heap.size; omega) (.slice A' l.length c')
  have ho := ownsRow_setCell_below HO3.out (a := ⟨V1.heap.size, 3, none⟩) (by show V1.heap.size < V2.heap.size; omega) (.slice A' l.length c')
  rw [hW3] at hz hy hx hb ho
  change Blk W3 V1.heap.size [.int .i64 1, .string nn, .string ⟨#[]⟩, .slice A' l.length c', .bool false, .string ⟨#[]⟩, .string ⟨#[]⟩, .int .i64 0] at hz
  rw [hW3]
  obtain ⟨A9, c9, e9, hS9⟩ := Strs.own (l := l) (P := fun b => V2.heap.size ≤ b) ho (fun b hb => hb) (by unfold maxLen; omega)
  injection e9 with e91 e92 e93
  subst e91; subst e93
  clear z0 z1 z2 z3 z4 z5 z6 z7 g0 g1 g2 g3 g4 g5 g6 g7 e92
  have HZ4 := hide hz
  have HY4 := hide hy
  have HB4 := hide hb
  have HS9 := hide hS9
  clear hz hy hx hb ho hS9 hW3
  obtain ⟨z0, z1, z2, z3, z4, z5, z6, z7⟩ := cells8 HZ4.out
  obtain ⟨y0, y1, y2, y3, y4, y5, y6, y7⟩ := cells8 HY4.out
  obtain ⟨f0, f1, f2, f3, f4, f5, f6, f7⟩ := frozen8 HY4.out
  go_wp2_with fail
  refine bodyPost_ret (results_cl rfl _ rfl (HY4.out.set8 rfl (.int .i64 1) (.string nn) (.string ⟨#[]⟩) (.slice A' l.length c') (.bool false) (.string ⟨#[]⟩) (.string ⟨#[]⟩) (.int .i64 0))) rfl ?_
  exact ⟨A', c', rfl, (HS9.out.kept (by omega) (kept_set8 (Kept.refl V0.heap.size W3) (.int .i64 1) (.string nn) (.string ⟨#[]⟩) (.slice A' l.length c') (.bool false) (.string ⟨#[]⟩) (.string ⟨#[]⟩) (.int .i64 0))).mono (fun _ _ => trivial), below_set8 HB4.out (by omega) (.int .i64 1) (.string nn) (.string ⟨#[]⟩) (.slice A' l.length c') (.bool false) (.string ⟨#[]⟩) (.string ⟨#[]⟩) (.int .i64 0)⟩
set_option maxHeartbeats 8000000 in
set_option maxRecDepth 100000 in
theorem bare2 (nn ot : ByteArray) (l : List ByteArray) (A : Option Addr) (c : Nat) (b : Bool) (x y : ByteArray) (z : Int) (w : World) :
    Calls Tryz.prog 18 #[.agg #[.int .i64 2, .string nn, .string ot, .slice A l.length c, .bool b, .string x, .string y, .int .i64 z]] w fun e w' => e = .returned (.agg #[.int .i64 2, .string nn, .string ot, .slice none 0 0, .bool false, .string ⟨#[]⟩, .string ⟨#[]⟩, .int .i64 0]) ∧ Below w.heap.size w w' := by
  obtain ⟨V0, hV0, HX, HB0, hl0⟩ := new8 w (.int .i64 2) (.string nn) (.string ot) (.slice A l.length c) (.bool b) (.string x) (.string y) (.int .i64 z) 45
  obtain ⟨V1, hV1, HY, HB1, hl1⟩ := new8 V0 (.int .i64 0) (.string ⟨#[]⟩) (.string ⟨#[]⟩) (.slice none 0 0) (.bool false) (.string ⟨#[]⟩) (.string ⟨#[]⟩) (.int .i64 0) 45
  obtain ⟨V2, hV2, HZ, HB2, hl2⟩ := new8 V1 (.int .i64 2) (.string nn) (.string ⟨#[]⟩) (.slice none 0 0) (.bool false) (.string ⟨#[]⟩) (.string ⟨#[]⟩) (.int .i64 0) 45
  have HXa := hide (HX.out.below HB1.out)
  have HX2 := hide (HXa.out.below HB2.out)
  have HY2 := hide (HY.out.below HB2.out)
  have hw0 : w.heap.size < V0.heap.size := by omega
  have hw1 : V0.heap.size < V1.heap.size := by omega
  have hw2 : V1.heap.size < V2.heap.size := by omega
  have HB := hide ((HB0.out.trans (HB1.out.mono (by omega))).trans (HB2.out.mono (by omega)))
  clear hl0 hl1 hl2
  have HV2 := hide hV2
  obtain ⟨x0, x1, x2, x3, x4, x5, x6, x7⟩ := cells8 HXa.out
  clear hV2
  go_enter Tryz.func18, Tryz.ntmps18
  go_upto_region 2 with fail
  clear x0 x1 x2 x3 x4 x5 x6 x7
  rw [HV2.out]
  clear hV0 hV1 HV2
  obtain ⟨x0, x1, x2, x3, x4, x5, x6, x7⟩ := cells8 HX2.out
  obtain ⟨z0, z1, z2, z3, z4, z5, z6, z7⟩ := cells8 HZ.out
  obtain ⟨g0, g1, g2, g3, g4, g5, g6, g7⟩ := frozen8 HZ.out
  obtain ⟨y0, y1, y2, y3, y4, y5, y6, y7⟩ := cells8 HY2.out
  obtain ⟨f0, f1, f2, f3, f4, f5, f6, f7⟩ := frozen8 HY2.out
  obtain ⟨W3, hW3⟩ : ∃ W3, V2.setCell ⟨V1.heap.size, 2, none⟩ (.string ot) = W3 := ⟨_, rfl⟩
  have hz := HZ.out.set 2 (.string ot)
  have hy := HY2.out.other (k := V1.heap.size) (by omega) 2 (.string ot)
  have hx := HX2.out.other (k := V1.heap.size) (by omega) 2 (.string ot)
  have hb := HB.out.setCell (p := ⟨V1.heap.size, 2, none⟩) (by show w.heap.size ≤ V1.heap.size; omega) (.string ot)
  rw [hW3] at hz hy hx hb
  change Blk W3 V1.heap.size [.int .i64 2, .string nn, .string ot, .slice none 0 0, .bool false, .string ⟨#[]⟩, .string ⟨#[]⟩, .int .i64 0] at hz
  have HZ3 := hide hz
  have HY3 := hide hy
  have HX3 := hide hx
  have HB3 := hide hb
  clear hz hy hx hb
  go_upto_region 9 with fail
  clear x0 x1 x2 x3 x4 x5 x6 x7 z0 z1 z2 z3 z4 z5 z6 z7 g0 g1 g2 g3 g4 g5 g6 g7 y0 y1 y2 y3 y4 y5 y6 y7 f0 f1 f2 f3 f4 f5 f6 f7
  obtain ⟨x0, x1, x2, x3, x4, x5, x6, x7⟩ := cells8 HX3.out
  obtain ⟨z0, z1, z2, z3, z4, z5, z6, z7⟩ := cells8 HZ3.out
  obtain ⟨g0, g1, g2, g3, g4, g5, g6, g7⟩ := frozen8 HZ3.out
  obtain ⟨y0, y1, y2, y3, y4, y5, y6, y7⟩ := cells8 HY3.out
  obtain ⟨f0, f1, f2, f3, f4, f5, f6, f7⟩ := frozen8 HY3.out
  go_wp2_with fail
  refine bodyPost_ret (results_cl rfl _ rfl (HY3.out.set8 rfl (.int .i64 2) (.string nn) (.string ot) (.slice none 0 0) (.bool false) (.string ⟨#[]⟩) (.string ⟨#[]⟩) (.int .i64 0))) rfl ?_
  exact ⟨rfl, below_set8 HB3.out (by omega) (.int .i64 2) (.string nn) (.string ot) (.slice none 0 0) (.bool false) (.string ⟨#[]⟩) (.string ⟨#[]⟩) (.int .i64 0)⟩
set_option maxHeartbeats 8000000 in
set_option maxRecDepth 100000 in
theorem bare3 (nn ot : ByteArray) (l : List ByteArray) (A : Option Addr) (c : Nat) (b : Bool) (x y : ByteArray) (z : Int) (w : World) (q : Rat) (hq : fixQ b x.data.toList y.data.toList = q) (h5 : x.size ≤ 50000) (h6 : y.size ≤ 50000) :
    Calls Tryz.prog 18 #[.agg #[.int .i64 3, .string nn, .string ot, .slice A l.length c, .bool b, .string x, .string y, .int .i64 z]] w fun e w' => e = .returned (.agg #[.int .i64 3, .string nn, .string ⟨#[]⟩, .slice none 0 0, .bool (negB q), .string (bs (nm q)), .string (dstr q), .int .i64 0]) ∧ Below w.heap.size w w' := by
  obtain ⟨V0, hV0, HX, HB0, hl0⟩ := new8 w (.int .i64 3) (.string nn) (.string ot) (.slice A l.length c) (.bool b) (.string x) (.string y) (.int .i64 z) 45
  obtain ⟨V1, hV1, HY, HB1, hl1⟩ := new8 V0 (.int .i64 0) (.string ⟨#[]⟩) (.string ⟨#[]⟩) (.slice none 0 0) (.bool false) (.string ⟨#[]⟩) (.string ⟨#[]⟩) (.int .i64 0) 45
  obtain ⟨V2, hV2, HZ, HB2, hl2⟩ := new8 V1 (.int .i64 3) (.string nn) (.string ⟨#[]⟩) (.slice none 0 0) (.bool false) (.string ⟨#[]⟩) (.string ⟨#[]⟩) (.int .i64 0) 45
  have HXa := hide (HX.out.below HB1.out)
  have HX2 := hide (HXa.out.below HB2.out)
  have HY2 := hide (HY.out.below HB2.out)
  have hw0 : w.heap.size < V0.heap.size := by omega
  have hw1 : V0.heap.size < V1.heap.size := by omega
  have hw2 : V1.heap.size < V2.heap.size := by omega
  have HB := hide ((HB0.out.trans (HB1.out.mono (by omega))).trans (HB2.out.mono (by omega)))
  have HFX := Lib.hid (fun w => rfix_any b x y w (by omega) (by omega))
  rw [hq] at HFX
  simp only [enc_open] at HFX
  clear hq h5 h6
  clear hl0 hl1 hl2
  have HV2 := hide hV2
  obtain ⟨x0, x1, x2, x3, x4, x5, x6, x7⟩ := cells8 HXa.out
  clear hV2
  go_enter Tryz.func18, Tryz.ntmps18
  go_upto_region 2 with fail
  clear x0 x1 x2 x3 x4 x5 x6 x7
  rw [HV2.out]
  clear hV0 hV1 HV2
  obtain ⟨x0, x1, x2, x3, x4, x5, x6, x7⟩ := cells8 HX2.out
  obtain ⟨z0, z1, z2, z3, z4, z5, z6, z7⟩ := cells8 HZ.out
  obtain ⟨g0, g1, g2, g3, g4, g5, g6, g7⟩ := frozen8 HZ.out
  obtain ⟨y0, y1, y2, y3, y4, y5, y6, y7⟩ := cells8 HY2.out
  obtain ⟨f0, f1, f2, f3, f4, f5, f6, f7⟩ := frozen8 HY2.out
  go_wp2_with fail
  refine (HFX.out _).mono ?_
  rintro e w3 ⟨rfl, hb3⟩
  have HX3 := hide (HX2.out.below hb3)
  have HY3 := hide (HY2.out.below hb3)
  have HZ3 := hide (HZ.out.below hb3)
  have HB3 := hide (HB.out.trans (hb3.mono HB.out.size))
  clear hb3
  clear x0 x1 x2 x3 x4 x5 x6 x7 z0 z1 z2 z3 z4 z5 z6 z7 g0 g1 g2 g3 g4 g5 g6 g7 y0 y1 y2 y3 y4 y5 y6 y7 f0 f1 f2 f3 f4 f5 f6 f7
  obtain ⟨x0, x1, x2, x3, x4, x5, x6, x7⟩ := cells8 HX3.out
  obtain ⟨z0, z1, z2, z3, z4, z5, z6, z7⟩ := cells8 HZ3.out
  obtain ⟨g0, g1, g2, g3, g4, g5, g6, g7⟩ := frozen8 HZ3.out
  obtain ⟨y0, y1, y2, y3, y4, y5, y6, y7⟩ := cells8 HY3.out
  obtain ⟨f0, f1, f2, f3, f4, f5, f6, f7⟩ := frozen8 HY3.out
  obtain ⟨W3, hW3⟩ : ∃ W3, ((w3.setCell ⟨V1.heap.size, 4, none⟩ (.bool (negB q))).setCell ⟨V1.heap.size, 5, none⟩ (.string (bs (nm q)))).setCell ⟨V1.heap.size, 6, none⟩ (.string (dstr q)) = W3 := ⟨_, rfl⟩
  have hz := ((HZ3.out.set 4 (.bool (negB q))).set 5 (.string (bs (nm q)))).set 6 (.string (dstr q))
  have hy := ((HY3.out.other (k := V1.heap.size) (by omega) 4 (.bool (negB q))).other (k := V1.heap.size) (by omega) 5 (.string (bs (nm q)))).other (k := V1.heap.size) (by omega) 6 (.string (dstr q))
  have hx := ((HX3.out.other (k := V1.heap.size) (by omega) 4 (.bool (negB q))).other (k := V1.heap.size) (by omega) 5 (.string (bs (nm q)))).other (k := V1.heap.size) (by omega) 6 (.string (dstr q))
  have hb := ((HB3.out.setCell (p := ⟨V1.heap.size, 4, none⟩) (by show w.heap.size ≤ V1.heap.size; omega) (.bool (negB q))).setCell (p := ⟨V1.heap.size, 5, none⟩) (by show w.heap.size ≤ V1.heap.size; omega) (.string (bs (nm q)))).setCell (p := ⟨V1.heap.size, 6, none⟩) (by show w.heap.size ≤ V1.heap.size; omega) (.string (dstr q))
  rw [hW3] at hz hy hx hb
  change Blk W3 V1.heap.size [.int .i64 3, .string nn, .string ⟨#[]⟩, .slice none 0 0, .bool (negB q), .string (bs (nm q)), .string (dstr q), .int .i64 0] at hz
  have HZ4 := hide hz
  have HY4 := hide hy
  have HX4 := hide hx
  have HB4 := hide hb
  clear hz hy hx hb
  go_upto_region 9 with fail
  clear x0 x1 x2 x3 x4 x5 x6 x7 z0 z1 z2 z3 z4 z5 z6 z7 g0 g1 g2 g3 g4 g5 g6 g7 y0 y1 y2 y3 y4 y5 y6 y7 f0 f1 f2 f3 f4 f5 f6 f7
  obtain ⟨x0, x1, x2, x3, x4, x5, x6, x7⟩ := cells8 HX4.out
  obtain ⟨z0, z1, z2, z3, z4, z5, z6, z7⟩ := cells8 HZ4.out
  obtain ⟨g0, g1, g2, g3, g4, g5, g6, g7⟩ := frozen8 HZ4.out
  obtain ⟨y0, y1, y2, y3, y4, y5, y6, y7⟩ := cells8 HY4.out
  obtain ⟨f0, f1, f2, f3, f4, f5, f6, f7⟩ := frozen8 HY4.out
  go_wp2_with fail
  refine bodyPost_ret (results_cl rfl _ rfl (HY4.out.set8 rfl (.int .i64 3) (.string nn) (.string ⟨#[]⟩) (.slice none 0 0) (.bool (negB q)) (.string (bs (nm q))) (.string (dstr q)) (.int .i64 0))) rfl ?_
  exact ⟨rfl, below_set8 HB4.out (by omega) (.int .i64 3) (.string nn) (.string ⟨#[]⟩) (.slice none 0 0) (.bool (negB q)) (.string (bs (nm q))) (.string (dstr q)) (.int .i64 0)⟩
set_option maxHeartbeats 8000000 in
set_option maxRecDepth 100000 in
theorem bare4 (nn ot : ByteArray) (l : List ByteArray) (A : Option Addr) (c : Nat) (b : Bool) (x y : ByteArray) (z : Int) (w : World) :
    Calls Tryz.prog 18 #[.agg #[.int .i64 4, .string nn, .string ot, .slice A l.length c, .bool b, .string x, .string y, .int .i64 z]] w fun e w' => e = .returned (.agg #[.int .i64 4, .string nn, .string ⟨#[]⟩, .slice none 0 0, .bool false, .string ⟨#[]⟩, .string ⟨#[]⟩, .int .i64 0]) ∧ Below w.heap.size w w' := by
  obtain ⟨V0, hV0, HX, HB0, hl0⟩ := new8 w (.int .i64 4) (.string nn) (.string ot) (.slice A l.length c) (.bool b) (.string x) (.string y) (.int .i64 z) 45
  obtain ⟨V1, hV1, HY, HB1, hl1⟩ := new8 V0 (.int .i64 0) (.string ⟨#[]⟩) (.string ⟨#[]⟩) (.slice none 0 0) (.bool false) (.string ⟨#[]⟩) (.string ⟨#[]⟩) (.int .i64 0) 45
  obtain ⟨V2, hV2, HZ, HB2, hl2⟩ := new8 V1 (.int .i64 4) (.string nn) (.string ⟨#[]⟩) (.slice none 0 0) (.bool false) (.string ⟨#[]⟩) (.string ⟨#[]⟩) (.int .i64 0) 45
  have HXa := hide (HX.out.below HB1.out)
  have HX2 := hide (HXa.out.below HB2.out)
  have HY2 := hide (HY.out.below HB2.out)
  have hw0 : w.heap.size < V0.heap.size := by omega
  have hw1 : V0.heap.size < V1.heap.size := by omega
  have hw2 : V1.heap.size < V2.heap.size := by omega
  have HB := hide ((HB0.out.trans (HB1.out.mono (by omega))).trans (HB2.out.mono (by omega)))
  clear hl0 hl1 hl2
  have HV2 := hide hV2
  obtain ⟨x0, x1, x2, x3, x4, x5, x6, x7⟩ := cells8 HXa.out
  clear hV2
  go_enter Tryz.func18, Tryz.ntmps18
  go_upto_region 2 with fail
  clear x0 x1 x2 x3 x4 x5 x6 x7
  rw [HV2.out]
  clear hV0 hV1 HV2
  obtain ⟨x0, x1, x2, x3, x4, x5, x6, x7⟩ := cells8 HX2.out
  obtain ⟨z0, z1, z2, z3, z4, z5, z6, z7⟩ := cells8 HZ.out
  obtain ⟨g0, g1, g2, g3, g4, g5, g6, g7⟩ := frozen8 HZ.out
  obtain ⟨y0, y1, y2, y3, y4, y5, y6, y7⟩ := cells8 HY2.out
  obtain ⟨f0, f1, f2, f3, f4, f5, f6, f7⟩ := frozen8 HY2.out
  go_wp2_with fail
  refine bodyPost_ret (results_cl rfl _ rfl (HY2.out.set8 rfl (.int .i64 4) (.string nn) (.string ⟨#[]⟩) (.slice none 0 0) (.bool false) (.string ⟨#[]⟩) (.string ⟨#[]⟩) (.int .i64 0))) rfl ?_
  exact ⟨rfl, below_set8 HB.out (by omega) (.int .i64 4) (.string nn) (.string ⟨#[]⟩) (.slice none 0 0) (.bool false) (.string ⟨#[]⟩) (.string ⟨#[]⟩) (.int .i64 0)⟩
theorem bare_same (x : Cl) (q : Nat) : (bareAt x q).kind = (bareAt x 0).kind ∧ (bareAt x q).name = (bareAt x 0).name ∧ (bareAt x q).other = (bareAt x 0).other ∧ (bareAt x q).list = (bareAt x 0).list ∧ (bareAt x q).neg = (bareAt x 0).neg ∧ (bareAt x q).num = (bareAt x 0).num ∧ (bareAt x q).den = (bareAt x 0).den ∧ (bareAt x 0).off = 0 := by
  unfold bareAt
  split
  · exact ⟨rfl, rfl, rfl, rfl, rfl, rfl, rfl, rfl⟩
  · split
    · exact ⟨rfl, rfl, rfl, rfl, rfl, rfl, rfl, rfl⟩
    · split
      · exact ⟨rfl, rfl, rfl, rfl, rfl, rfl, rfl, rfl⟩
      · exact ⟨rfl, rfl, rfl, rfl, rfl, rfl, rfl, rfl⟩
theorem bare_fit {x : Cl} (h : Fit x) (q : Nat) : Fit (bareAt x q) := by
  unfold bareAt
  split
  · exact ⟨h.name, Nat.zero_le _, h.list, Nat.zero_le _, Nat.zero_le _⟩
  · split
    · exact ⟨h.name, h.other, (fun s hs => by cases hs), Nat.zero_le _, Nat.zero_le _⟩
    · split
      · obtain ⟨h1, h2⟩ := RpE.fix_size (n := x.neg) (a := x.num) (d := x.den)
        exact ⟨h.name, Nat.zero_le _, (fun s hs => by cases hs), Nat.le_trans h1 h.num, Nat.le_trans h2 h.den⟩
      · exact ⟨h.name, Nat.zero_le _, (fun s hs => by cases hs), Nat.zero_le _, Nat.zero_le _⟩
theorem layC_mem : ∀ {l : List Cl} {p : Nat} {y : Cl}, y ∈ layC p l → ∃ x ∈ l, ∃ q, y = bareAt x q
  | x :: l, p, y, h => by
    rcases List.mem_cons.1 h with rfl | h
    · exact ⟨x, by simp, p, rfl⟩
    · obtain ⟨x', h1, q, h2⟩ := layC_mem h
      exact ⟨x', by simp [h1], q, h2⟩
theorem cls_one {P : Nat → Prop} (w : World) (y : Cl) (A : Option Addr) (c : Nat) (T : TypeId) (ho : y.off = 0) (h : Strs P w A c y.list) :
    ClsAt (w.alloc (.cells #[.int .i64 y.kind, .string y.name, .string y.other, .slice A y.list.length c, .bool y.neg, .string y.num, .string y.den, .int .i64 0] T)) (some ⟨w.heap.size, 0, none⟩) [y] := by
  refine ⟨show 1 ≤ maxLen by decide, fun _ => ⟨w.heap.size, 0, rfl, by simp, fun k x hk => ?_⟩⟩
  have hk0 : k = 0 := by
    have := (List.getElem?_eq_some_iff.1 hk).1
    simp at this
    omega
  subst hk0
  simp only [List.getElem?_cons_zero, Option.some.injEq] at hk
  subst hk
  refine ⟨A, c, fun j v hj => ?_, (h.mono (fun _ _ => trivial)).below ((Below.refl _ _).alloc (Nat.le_refl _) _)⟩
  have hb := Blk.new w (Cl.vals y A c) T
  have e : Cl.vals y A c = [.int .i64 y.kind, .string y.name, .string y.other, .slice A y.list.length c, .bool y.neg, .string y.num, .string y.den, .int .i64 0] := by unfold Cl.vals; rw [ho]
  rw [Nat.zero_mul, Nat.add_zero, Nat.zero_add]
  have hc := hb.cell hj
  rw [e] at hc
  exact hc
theorem kinds_of {x : Cl} (h : codeOf x = 0) : 1 ≤ x.kind ∧ x.kind ≤ 4 := by
  obtain ⟨_, hk⟩ := ok_kinds h
  rcases hk with ⟨h, _⟩ | ⟨h, _⟩ | ⟨h, _⟩ | h <;> omega
theorem bare_any (x : Cl) (A : Option Addr) (c : Nat) (w : World) (h : Gd x) (h3 : Strs (fun _ => True) w A c x.list) :
    Calls Tryz.prog 18 #[.agg #[.int .i64 x.kind, .string x.name, .string x.other, .slice A x.list.length c, .bool x.neg, .string x.num, .string x.den, .int .i64 x.off]] w fun e w' =>
      ∃ A' c', e = .returned (.agg #[.int .i64 (bareAt x 0).kind, .string (bareAt x 0).name, .string (bareAt x 0).other, .slice A' (bareAt x 0).list.length c', .bool (bareAt x 0).neg, .string (bareAt x 0).num, .string (bareAt x 0).den, .int .i64 0]) ∧ Strs (fun _ => True) w' A' c' (bareAt x 0).list ∧ Below w.heap.size w w' := by
  obtain ⟨_, hk⟩ := ok_kinds h.code
  have hf := h.fit
  rcases hk with ⟨k1, ha, h4, h5⟩ | ⟨k2, _⟩ | ⟨k3, _⟩ | k4
  · have e : bareAt x 0 = ⟨1, x.name, sNo, x.list, false, sNo, sNo, ((0 : Nat) : Int)⟩ := by unfold bareAt; rw [if_pos k1]
    rw [e, k1]
    exact bare1 x.name x.other x.list A c x.neg x.num x.den x.off w h3 (by omega)
  · have e : bareAt x 0 = ⟨2, x.name, x.other, [], false, sNo, sNo, ((0 : Nat) : Int)⟩ := by unfold bareAt; rw [if_neg (by omega), if_pos k2]
    rw [e, k2]
    exact (bare2 x.name x.other x.list A c x.neg x.num x.den x.off w).mono fun e w' ⟨h1, h2⟩ => ⟨none, 0, h1, Strs.nil _ _ _, h2⟩
  · have e : bareAt x 0 = ⟨3, x.name, sNo, [], negB (amt x), str (encN (amt x)), str (encD (amt x)), ((0 : Nat) : Int)⟩ := by unfold bareAt; rw [if_neg (by omega), if_neg (by omega), if_pos k3]
    rw [e, k3]
    exact (bare3 x.name x.other x.list A c x.neg x.num x.den x.off w (amt x) rfl hf.num hf.den).mono fun e w' ⟨h1, h2⟩ => ⟨none, 0, h1, Strs.nil _ _ _, h2⟩
  · have e : bareAt x 0 = ⟨4, x.name, sNo, [], false, sNo, sNo, ((0 : Nat) : Int)⟩ := by unfold bareAt; rw [if_neg (by omega), if_neg (by omega), if_neg (by omega)]
    rw [e, k4]
    exact (bare4 x.name x.other x.list A c x.neg x.num x.den x.off w).mono fun e w' ⟨h1, h2⟩ => ⟨none, 0, h1, Strs.nil _ _ _, h2⟩
set_option maxHeartbeats 16000000 in
set_option maxRecDepth 100000 in
theorem back_law (A : Option Addr) (n c : Nat) (w : World) (h : FoursAt w w.heap.size A n) (he : Env w) :
    Calls Tryz.prog 6 #[.slice A n c] w fun e w' => e = .returned (.bool true) ∧ Below w.heap.size w w' := by
  have HAW := Lib.hid (fun w (h : Env w) => awake_cl w h)
  have HCA := Lib.hid (clauses_any A n c w h)
  have HE := hide he
  clear h he
  go_enter Tryz.func6, Tryz.ntmps6
  go_wp2_with fail
  refine HCA.out.mono ?_
  rintro e w1 ⟨l, A1, c1, rfl, hcl, hl10, hgd, hb1⟩
  have HF := Lib.hid (format_cl l A1 c1 w1 hcl (fun x hx => (hgd x hx).fit))
  rw [fmt_good hgd hl10] at HF
  unfold FmtP at HF
  have hts := text_small hgd
  have hit := items_small hgd
  have hss : (st (textOf l)).size ≤ 2000 := by rw [st_size]; omega
  have hpt := parse_text (good_ok hgd) (fun x hx => (hgd x hx).num) (by omega) (by omega) (by omega)
  have hfl := fmt_lay (good_ok hgd) 0
  rw [fmt_good hgd hl10] at hfl
  have HM := hide (layC_len l 0)
  have HGT := Lib.hid (fun k x (hx : l[k]? = some x) => layC_get l 0 k x hx)
  have HFT := Lib.hid (show ∀ y ∈ layC 0 l, Fit y from fun y hy => by obtain ⟨x, h1, q, rfl⟩ := layC_mem hy; exact bare_fit (hgd x h1).fit q)
  have HFL := hide hfl
  have HGD := Lib.hid hgd
  have HP := Lib.hid (fun w (h : Env w) => parse_cl (st (textOf l)) w (by omega) h)
  rw [hpt] at HP
  unfold ParseP at HP
  have HB1 := hide hb1
  have HC1 := hide hcl
  clear hcl hgd hts hb1 hit hpt hfl
  dsimp only at HF HP
  generalize layC 0 l = M at *
  rw [HM.out] at HP
  obtain ⟨S, hS⟩ : ∃ S, st (textOf l) = S := ⟨_, rfl⟩
  rw [hS] at HF HP hss
  have HSS := hide hS
  clear hS
  have hnn : ((l.length : Int) != (l.length : Int)) = false := by simp
  go_wp2_with fail
  refine HF.out.mono ?_
  rintro e w2 ⟨rfl, hb2⟩
  have HB2 := hide (HB1.out.trans (hb2.mono HB1.out.size))
  have HC2 := hide (HC1.out.below hb2)
  have HE2 := hide (HE.out.below HB2.out)
  clear hb2 HF HB1 HC1
  go_wp2_with fail
  refine (HP.out _ HE2.out).mono ?_
  rintro e w3 ⟨A2, c2, rfl, hcm, hb3⟩
  have HB3 := hide (HB2.out.trans (hb3.mono HB2.out.size))
  have HC3 := hide (HC2.out.below hb3)
  have HD3 := hide hcm
  clear hb3 hcm HB2 HC2
  go_wp2_with fail
  go_loopw [41] (fun vi wr => ∃ k : Nat, k ≤ l.length ∧ vi = .int .i64 k ∧ Hid (Below w3.heap.size w3 wr)) (fun vi _ => l.length - (intOf vi).toNat)
  case atStart => exact ⟨0, by omega, rfl, Below.refl _ _⟩
  case round =>
    obtain ⟨k, hk, rfl, HBR⟩ := hrel
    by_cases hlt : k < l.length
    · obtain ⟨x, hx⟩ : ∃ r, l[k]? = some r := ⟨_, List.getElem?_eq_getElem hlt⟩
      obtain ⟨q, hq⟩ := HGT.out k x hx
      have hgx := HGD.out x (List.mem_of_getElem? hx)
      obtain ⟨b1, o1, Ax, cx, rfl, hb1, p0, p1, p2, p3, p4, p5, p6, p7, hS1⟩ := ClsAt.at (HC3.out.below HBR.out) hx
      obtain ⟨b2, o2, Am, cm, rfl, hb2, q0, q1, q2, q3, q4, q5, q6, q7, hS2⟩ := ClsAt.at (HD3.out.below HBR.out) hq
      obtain ⟨s1, s2, s3, s4, s5, s6, s7, s8⟩ := bare_same x q
      have HYO := hide s8
      rw [s1] at q0
      rw [s2] at q1
      rw [s3] at q2
      rw [s4] at q3 hS2
      rw [s5] at q4
      rw [s6] at q5
      rw [s7] at q6
      have HBR0 := Lib.hid (fun w' (hs : Strs (fun _ => True) w' Ax cx x.list) => bare_any x Ax cx w' hgx hs)
      clear s1 s2 s3 s4 s5 s6 s7 s8 hx hgx
      generalize bareAt x 0 = y at *
      have hqo : ∃ mo : Int, (bareAt x q).off = mo := ⟨_, rfl⟩
      obtain ⟨mo, hmo⟩ := hqo
      rw [hmo] at q7
      clear hmo hq
      obtain ⟨V, hV, HX, HBV, hlV⟩ := new8 wr (.int .i64 y.kind) (.string y.name) (.string y.other) (.slice Am y.list.length cm) (.bool y.neg) (.string y.num) (.string y.den) (.int .i64 mo) 45
      obtain ⟨V2, hV2⟩ : ∃ V2, V.setCell ⟨wr.heap.size, 7, none⟩ (.int .i64 0) = V2 := ⟨_, rfl⟩
      have hX2 := HX.out.set 7 (.int .i64 0)
      have hB2 := HBV.out.setCell (p := ⟨wr.heap.size, 7, none⟩) (Nat.le_refl _) (.int .i64 0)
      rw [hV2] at hX2 hB2
      change Blk V2 wr.heap.size [.int .i64 y.kind, .string y.name, .string y.other, .slice Am y.list.length cm, .bool y.neg, .string y.num, .string y.den, .int .i64 0] at hX2
      have hsV : wr.heap.size < V2.heap.size := hX2.lt
      have HSm := hide (hS2.below hB2)
      have HSx := hide (hS1.below hB2)
      have HBR := hide (show Below w3.heap.size w3 V2 from HBR.out.trans (hB2.mono HBR.out.size))
      have kin : ∀ {o : Nat} {v : Value}, wr.cell? ⟨b1, o, none⟩ = some v → ∀ u : Qin.In (Below V2.heap.size V2), u.val.cell? ⟨b1, o, none⟩ = some v := fun h u => at_kin (show b1 < V2.heap.size by omega) ((hB2.cell (p := ⟨b1, _, none⟩) hb1).trans h) u
      have i0 := kin p0
      have i1 := kin p1
      have i2 := kin p2
      have i3 := kin p3
      have i4 := kin p4
      have i5 := kin p5
      have i6 := kin p6
      have i7 := kin p7
      have j0 := at_kin hsV (hX2.cell (i := 0) rfl)
      have j1 := at_kin hsV (hX2.cell (i := 1) rfl)
      have j2 := at_kin hsV (hX2.cell (i := 2) rfl)
      have j3 := at_kin hsV (hX2.cell (i := 3) rfl)
      have j4 := at_kin hsV (hX2.cell (i := 4) rfl)
      have j5 := at_kin hsV (hX2.cell (i := 5) rfl)
      have j6 := at_kin hsV (hX2.cell (i := 6) rfl)
      have j7 := at_kin hsV (hX2.cell (i := 7) rfl)
      have f7 := HX.out.frozen 7
      have e7 := HX.out.cell (i := 7) rfl
      have HBRR := Lib.hid (fun w' (hb : Below V2.heap.size V2 w') => HBR0.out w' (HSx.out.below hb))
      clear HBR0
      have HBR0 := HBRR
      clear HBRR kin hX2 hB2 hS1 hS2 p0 p1 p2 p3 p4 p5 p6 p7 hlV hb1 hb2
      go_upto_region 11 with fail
      clear hV hV2 f7 e7 q0 q1 q2 q3 q4 q5 q6 q7 HX HBV
      go_cut [58] (fun v wx => v = .bool false ∧ Hid (Below V2.heap.size V2 wx))
      case first =>
        go_wp2_with fail
        refine Qmt.wp_region (C := Cls (Below V2.heap.size V2)) (by kernel_rfl) (by kernel_rfl) ?_
        simp only [List.length_cons, List.length_nil]
        refine Qmt.takes [0, 2, 3, 4, 5] 5 _ _ _ (cls (Qin.start _ _)) (by kernel_rfl) ?_
        simp only [List.filterMap_cons, List.filterMap_nil, List.getElem?_toArray, List.getElem?_cons_zero, List.getElem?_cons_succ]
        change wpQuiet _ _ _ _ [_, _, _, _, _] _
        repeat (go_big_quiet_step (fail))
        refine wpQuiet_nil ?_
        refine Qmt.fork [1, 6] (cls (Qin.start _ _)) (by kernel_rfl) (by simp) ⟨?_, ?_, trivial⟩
        · refine Qmt.by_op rfl (by kernel_rfl) ?_
          obtain ⟨W10, hW10⟩ : ∃ W, (V2.alloc (.cells #[.int .i64 y.kind, .string y.name, .string y.other, .slice Am y.list.length cm, .bool y.neg, .string y.num, .string y.den, .int .i64 0] 45)).drew = W := ⟨_, rfl⟩
          have hcl10 := cls_one V2 y Am cm 45 HYO.out (HSm.out.below (Below.refl _ _))
          change ClsAt (V2.alloc (.cells #[.int .i64 y.kind, .string y.name, .string y.other, .slice Am y.list.length cm, .bool y.neg, .string y.num, .string y.den, .int .i64 0] 45)).drew _ _ at hcl10
          have hbb10 : Below V2.heap.size V2 W10 := by rw [← hW10]; exact ((Below.refl _ _).alloc (Nat.le_refl _) _).drew
          rw [hW10] at hcl10
          have HCL1 := hide hcl10
          have HWW := hide hW10
          clear hW10 hcl10
          go_wp2_with fail
          refine ⟨rfl, ?_⟩
          first | rw [HWW.out] | skip
          clear HWW
          have hbW10 : Below V2.heap.size V2 W10 := hbb10
          refine Qmt.fork [6] (cls hbW10) (by kernel_rfl) (by simp) ⟨?_, trivial⟩
          refine Qmt.by_op rfl (by kernel_rfl) ?_
          go_wp2_with fail
          refine (HBR0.out _ hbW10).mono ?_
          rintro e w6 ⟨A6, c6, rfl, hS6, hbb6⟩
          have hbw6 : Below V2.heap.size V2 w6 := hbW10.trans (hbb6.mono hbW10.size)
          replace HCL1 := hide (HCL1.out.below hbb6)
          have HS6 := hide hS6
          clear hS6
          go_wp2_with fail
          refine ⟨rfl, ?_⟩
          refine Qmt.fork [7] (cls hbw6) (by kernel_rfl) (by simp) ⟨?_, trivial⟩
          refine Qmt.by_op rfl (by kernel_rfl) ?_
          obtain ⟨W72, hW72⟩ : ∃ W, w6.alloc (.cells #[.int .i64 y.kind, .string y.name, .string y.other, .slice A6 y.list.length c6, .bool y.neg, .string y.num, .string y.den, .int .i64 0] 45) = W := ⟨_, rfl⟩
          have hcl72 := cls_one w6 y A6 c6 45 HYO.out (HS6.out)
          change ClsAt (w6.alloc (.cells #[.int .i64 y.kind, .string y.name, .string y.other, .slice A6 y.list.length c6, .bool y.neg, .string y.num, .string y.den, .int .i64 0] 45)) _ _ at hcl72
          have hbb72 : Below w6.heap.size w6 W72 := by rw [← hW72]; exact (Below.refl _ _).alloc (Nat.le_refl _) _
          rw [hW72] at hcl72
          have HCL7 := hide hcl72
          have HWW := hide hW72
          clear hW72 hcl72
          go_wp2_with fail
          refine ⟨rfl, ?_⟩
          first | rw [HWW.out] | skip
          clear HWW
          have hbW72 : Below V2.heap.size V2 W72 := hbw6.trans (hbb72.mono hbw6.size)
          have hfrom6 := hbb72
          replace HCL1 := hide (HCL1.out.below hbb72)
          refine Qmt.fork [8] (cls hbW72) (by kernel_rfl) (by simp) ⟨?_, trivial⟩
          refine Qmt.by_op rfl (by kernel_rfl) ?_
          go_wp2_with fail
          refine (same_cls [y] _ _ 1 1 _ HCL1.out HCL7.out).mono ?_
          rintro e w8 ⟨rfl, hbb8⟩
          have hbw8 : Below V2.heap.size V2 w8 := hbW72.trans (hbb8.mono hbW72.size)
          go_wp2_with fail
          refine ⟨rfl, ?_⟩
          refine Qmt.takes [9] 0 _ _ _ (cls hbw8) (by kernel_rfl) ?_
          simp only [List.filterMap_cons, List.filterMap_nil, List.getElem?_toArray, List.getElem?_cons_zero, List.getElem?_cons_succ]
          change wpQuiet _ _ _ _ [_] _
          repeat (go_big_quiet_step (fail))
          refine wpQuiet_nil ?_
          refine Qmt.by_end (cls hbw8) (by kernel_rfl) ?_
          go_wp2_with fail
          go_meet
          case rel => exact ⟨rfl, hbw8⟩
        · refine Qmt.by_op rfl (by kernel_rfl) ?_
          go_wp2_with fail
          refine (HBR0.out _ (Qin.start V2.heap.size V2)).mono ?_
          rintro e w6 ⟨A6, c6, rfl, hS6, hbb6⟩
          have hbw6 : Below V2.heap.size V2 w6 := (Qin.start V2.heap.size V2).trans hbb6
          have HS6 := hide hS6
          clear hS6
          go_wp2_with fail
          refine ⟨rfl, ?_⟩
          refine Qmt.fork [1, 7] (cls hbw6) (by kernel_rfl) (by simp) ⟨?_, ?_, trivial⟩
          · refine Qmt.by_op rfl (by kernel_rfl) ?_
            obtain ⟨W11, hW11⟩ : ∃ W, w6.alloc (.cells #[.int .i64 y.kind, .string y.name, .string y.other, .slice Am y.list.length cm, .bool y.neg, .string y.num, .string y.den, .int .i64 0] 45) = W := ⟨_, rfl⟩
            have hcl11 := cls_one w6 y Am cm 45 HYO.out (HSm.out.below hbw6)
            change ClsAt (w6.alloc (.cells #[.int .i64 y.kind, .string y.name, .string y.other, .slice Am y.list.length cm, .bool y.neg, .string y.num, .string y.den, .int .i64 0] 45)) _ _ at hcl11
            have hbb11 : Below w6.heap.size w6 W11 := by rw [← hW11]; exact (Below.refl _ _).alloc (Nat.le_refl _) _
            rw [hW11] at hcl11
            have HCL1 := hide hcl11
            have HWW := hide hW11
            clear hW11 hcl11
            go_wp2_with fail
            refine ⟨rfl, ?_⟩
            first | rw [HWW.out] | skip
            clear HWW
            have hbW11 : Below V2.heap.size V2 W11 := hbw6.trans (hbb11.mono hbw6.size)
            have hfrom6 := hbb11
            refine Qmt.fork [7] (cls hbW11) (by kernel_rfl) (by simp) ⟨?_, trivial⟩
            refine Qmt.by_op rfl (by kernel_rfl) ?_
            obtain ⟨W72, hW72⟩ : ∃ W, W11.alloc (.cells #[.int .i64 y.kind, .string y.name, .string y.other, .slice A6 y.list.length c6, .bool y.neg, .string y.num, .string y.den, .int .i64 0] 45) = W := ⟨_, rfl⟩
            have hcl72 := cls_one W11 y A6 c6 45 HYO.out (HS6.out.below hfrom6)
            change ClsAt (W11.alloc (.cells #[.int .i64 y.kind, .string y.name, .string y.other, .slice A6 y.list.length c6, .bool y.neg, .string y.num, .string y.den, .int .i64 0] 45)) _ _ at hcl72
            have hbb72 : Below W11.heap.size W11 W72 := by rw [← hW72]; exact (Below.refl _ _).alloc (Nat.le_refl _) _
            rw [hW72] at hcl72
            have HCL7 := hide hcl72
            have HWW := hide hW72
            clear hW72 hcl72
            go_wp2_with fail
            refine ⟨rfl, ?_⟩
            first | rw [HWW.out] | skip
            clear HWW
            have hbW72 : Below V2.heap.size V2 W72 := hbW11.trans (hbb72.mono hbW11.size)
            replace hfrom6 := hfrom6.trans (hbb72.mono hfrom6.size)
            replace HCL1 := hide (HCL1.out.below hbb72)
            refine Qmt.fork [8] (cls hbW72) (by kernel_rfl) (by simp) ⟨?_, trivial⟩
            refine Qmt.by_op rfl (by kernel_rfl) ?_
            go_wp2_with fail
            refine (same_cls [y] _ _ 1 1 _ HCL1.out HCL7.out).mono ?_
            rintro e w8 ⟨rfl, hbb8⟩
            have hbw8 : Below V2.heap.size V2 w8 := hbW72.trans (hbb8.mono hbW72.size)
            go_wp2_with fail
            refine ⟨rfl, ?_⟩
            refine Qmt.takes [9] 0 _ _ _ (cls hbw8) (by kernel_rfl) ?_
            simp only [List.filterMap_cons, List.filterMap_nil, List.getElem?_toArray, List.getElem?_cons_zero, List.getElem?_cons_succ]
            change wpQuiet _ _ _ _ [_] _
            repeat (go_big_quiet_step (fail))
            refine wpQuiet_nil ?_
            refine Qmt.by_end (cls hbw8) (by kernel_rfl) ?_
            go_wp2_with fail
            go_meet
            case rel => exact ⟨rfl, hbw8⟩
          · refine Qmt.by_op rfl (by kernel_rfl) ?_
            obtain ⟨W71, hW71⟩ : ∃ W, w6.alloc (.cells #[.int .i64 y.kind, .string y.name, .string y.other, .slice A6 y.list.length c6, .bool y.neg, .string y.num, .string y.den, .int .i64 0] 45) = W := ⟨_, rfl⟩
            have hcl71 := cls_one w6 y A6 c6 45 HYO.out (HS6.out)
            change ClsAt (w6.alloc (.cells #[.int .i64 y.kind, .string y.name, .string y.other, .slice A6 y.list.length c6, .bool y.neg, .string y.num, .string y.den, .int .i64 0] 45)) _ _ at hcl71
            have hbb71 : Below w6.heap.size w6 W71 := by rw [← hW71]; exact (Below.refl _ _).alloc (Nat.le_refl _) _
            rw [hW71] at hcl71
            have HCL7 := hide hcl71
            have HWW := hide hW71
            clear hW71 hcl71
            go_wp2_with fail
            refine ⟨rfl, ?_⟩
            first | rw [HWW.out] | skip
            clear HWW
            have hbW71 : Below V2.heap.size V2 W71 := hbw6.trans (hbb71.mono hbw6.size)
            have hfrom6 := hbb71
            refine Qmt.fork [1] (cls hbW71) (by kernel_rfl) (by simp) ⟨?_, trivial⟩
            refine Qmt.by_op rfl (by kernel_rfl) ?_
            obtain ⟨W12, hW12⟩ : ∃ W, W71.alloc (.cells #[.int .i64 y.kind, .string y.name, .string y.other, .slice Am y.list.length cm, .bool y.neg, .string y.num, .string y.den, .int .i64 0] 45) = W := ⟨_, rfl⟩
            have hcl12 := cls_one W71 y Am cm 45 HYO.out (HSm.out.below hbW71)
            change ClsAt (W71.alloc (.cells #[.int .i64 y.kind, .string y.name, .string y.other, .slice Am y.list.length cm, .bool y.neg, .string y.num, .string y.den, .int .i64 0] 45)) _ _ at hcl12
            have hbb12 : Below W71.heap.size W71 W12 := by rw [← hW12]; exact (Below.refl _ _).alloc (Nat.le_refl _) _
            rw [hW12] at hcl12
            have HCL1 := hide hcl12
            have HWW := hide hW12
            clear hW12 hcl12
            go_wp2_with fail
            refine ⟨rfl, ?_⟩
            first | rw [HWW.out] | skip
            clear HWW
            have hbW12 : Below V2.heap.size V2 W12 := hbW71.trans (hbb12.mono hbW71.size)
            replace hfrom6 := hfrom6.trans (hbb12.mono hfrom6.size)
            replace HCL7 := hide (HCL7.out.below hbb12)
            refine Qmt.fork [8] (cls hbW12) (by kernel_rfl) (by simp) ⟨?_, trivial⟩
            refine Qmt.by_op rfl (by kernel_rfl) ?_
            go_wp2_with fail
            refine (same_cls [y] _ _ 1 1 _ HCL1.out HCL7.out).mono ?_
            rintro e w8 ⟨rfl, hbb8⟩
            have hbw8 : Below V2.heap.size V2 w8 := hbW12.trans (hbb8.mono hbW12.size)
            go_wp2_with fail
            refine ⟨rfl, ?_⟩
            refine Qmt.takes [9] 0 _ _ _ (cls hbw8) (by kernel_rfl) ?_
            simp only [List.filterMap_cons, List.filterMap_nil, List.getElem?_toArray, List.getElem?_cons_zero, List.getElem?_cons_succ]
            change wpQuiet _ _ _ _ [_] _
            repeat (go_big_quiet_step (fail))
            refine wpQuiet_nil ?_
            refine Qmt.by_end (cls hbw8) (by kernel_rfl) ?_
            go_wp2_with fail
            go_meet
            case rel => exact ⟨rfl, hbw8⟩
      case rest =>
        obtain ⟨rfl, HBW⟩ := hcut
        go_wp2_with fail
        go_roundw
        case rel => exact ⟨k + 1, by omega, by go_num, HBR.out.trans (HBW.out.mono HBR.out.size)⟩
        case measure => simp [intOf]; omega
    · have HC4 := hide (HD3.out.below HBR.out)
      have HB4 := hide (HB3.out.trans (HBR.out.mono HB3.out.size))
      have HF2 := Lib.hid (format_cl M A2 c2 wr HC4.out HFT.out)
      rw [HFL.out, HM.out] at HF2
      unfold FmtP at HF2
      dsimp only at HF2
      rw [HSS.out] at HF2
      clear HC4 HC3 HD3 HBR HGT HFT HGD
      go_wp2_with fail
      refine HF2.out.mono ?_
      rintro e w5 ⟨rfl, hb5⟩
      have HB5 := hide (HB4.out.trans (hb5.mono HB4.out.size))
      have HE5 := hide (HE.out.below HB5.out)
      clear hb5
      go_wp2_with fail
      refine (HAW.out _ HE5.out).mono ?_
      rintro e w6 ⟨rfl, hb6⟩
      go_wp2_with fail
      go_ret
      exact ⟨rfl, HB5.out.trans (hb6.mono HB5.out.size)⟩
end Go.Proofs.YtnbdckfnohagbaaGreatDoor.PsB
