/- The walks of SameStrings and SameClauses at equal lists. -/
import Derived.Test.YtnbdckfnohagbaaGreatDoorPqL
import Derived.Test.YtnbdckfnohagbaaGreatDoorRK
namespace Go.Proofs.YtnbdckfnohagbaaGreatDoor.PqM
theorem here : True := trivial
open Go.RowKit Lx Wd RnW PqA PqB PqC PqD PqE PqG RsX
theorem rat_neq (b : Bool) (s t : ByteArray) (W : World) : (binOp .neq 43 (.agg #[.bool b, .string s, .string t]) (.agg #[.bool b, .string s, .string t])).run Tryz.prog W = .ok (.bool false) W := by
  rw [run_neq_struct, run_equalIn_agg W 9999 _ _ _ rat_und rat_held, rat_fields]
  simp [go_sem]
set_option maxHeartbeats 2000000 in
set_option maxRecDepth 100000 in
theorem same_strs (l : List ByteArray) (P Q : Nat → Prop) (A A' : Option Addr) (c c' : Nat) (w : World) (h : Strs P w A c l) (h' : Strs Q w A' c' l) :
    Calls Tryz.prog 27 #[.slice A l.length c, .slice A' l.length c'] w fun e w' => e = .returned (.bool true) ∧ Below w.heap.size w w' := by
  have hlen := h.1
  unfold maxLen at hlen
  have H := hide h
  have H' := hide h'
  have hn : ((l.length : Int) != (l.length : Int)) = false := by simp
  clear h h'
  go_enter Tryz.func27, Tryz.ntmps27
  go_wp2_with fail
  go_loopw [5] (fun vi wr => ∃ (k : Nat), k ≤ l.length ∧ vi = .int .i64 k ∧ Below w.heap.size w wr) (fun vi _ => l.length - (intOf vi).toNat)
  case atStart => exact ⟨0, by omega, rfl, Below.refl _ _⟩
  case round =>
    obtain ⟨k, hk, rfl, hbr⟩ := hrel
    by_cases hlt : k < l.length
    · obtain ⟨r, hr⟩ : ∃ r, l[k]? = some r := ⟨_, List.getElem?_eq_getElem hlt⟩
      obtain ⟨b, off, rfl, hbw, _, hc⟩ := (H.out.below hbr).2 (by omega)
      obtain ⟨b', off', rfl, hbw', _, hc'⟩ := (H'.out.below hbr).2 (by omega)
      have c0 := hc k r hr
      have d0 := hc' k r hr
      clear hr hc hc'
      go_wp2_with fail
      go_quiet (fail)
      go_wp2_with fail
      go_roundw
      case rel => exact ⟨k + 1, by omega, by go_num, below_drewN hbr _⟩
      case measure => simp [intOf]; omega
    · go_wp2_with fail
      go_ret
      exact ⟨rfl, hbr⟩
theorem ClsAt.at {w : World} {A : Option Addr} {l : List Cl} (h : ClsAt w A l) {k : Nat} {x : Cl} (hk : l[k]? = some x) : ∃ b off A' c', A = some ⟨b, off, none⟩ ∧ b < w.heap.size ∧
    w.cell? ⟨b, off + k * 8, none⟩ = some (.int .i64 x.kind) ∧ w.cell? ⟨b, off + k * 8 + 1, none⟩ = some (.string x.name) ∧ w.cell? ⟨b, off + k * 8 + 2, none⟩ = some (.string x.other) ∧ w.cell? ⟨b, off + k * 8 + 3, none⟩ = some (.slice A' x.list.length c') ∧
    w.cell? ⟨b, off + k * 8 + 4, none⟩ = some (.bool x.neg) ∧ w.cell? ⟨b, off + k * 8 + 5, none⟩ = some (.string x.num) ∧ w.cell? ⟨b, off + k * 8 + 6, none⟩ = some (.string x.den) ∧ w.cell? ⟨b, off + k * 8 + 7, none⟩ = some (.int .i64 x.off) ∧ Strs (fun _ => True) w A' c' x.list := by
  have hl : k < l.length := (List.getElem?_eq_some_iff.1 hk).1
  obtain ⟨b, off, e, hb, hc⟩ := h.2 (by omega)
  obtain ⟨A', c', hj, hs⟩ := hc k x hk
  exact ⟨b, off, A', c', e, hb, hj 0 _ rfl, hj 1 _ rfl, hj 2 _ rfl, hj 3 _ rfl, hj 4 _ rfl, hj 5 _ rfl, hj 6 _ rfl, hj 7 _ rfl, hs⟩
set_option maxHeartbeats 4000000 in
set_option maxRecDepth 100000 in
theorem same_cls (l : List Cl) (A A' : Option Addr) (c c' : Nat) (w : World) (h : ClsAt w A l) (h' : ClsAt w A' l) :
    Calls Tryz.prog 12 #[.slice A l.length c, .slice A' l.length c'] w fun e w' => e = .returned (.bool true) ∧ Below w.heap.size w w' := by
  have hlen := h.1
  unfold maxLen at hlen
  have H := hide h
  have H' := hide h'
  have hrn := rat_neq
  have HRN := Lib.hid hrn
  have hrg := rat_guard
  have hn : ((l.length : Int) != (l.length : Int)) = false := by simp
  clear h h' hrn
  go_enter Tryz.func12, Tryz.ntmps12
  go_wp2_with fail
  go_loopw [5] (fun vi wr => ∃ (k : Nat), k ≤ l.length ∧ vi = .int .i64 k ∧ Below w.heap.size w wr) (fun vi _ => l.length - (intOf vi).toNat)
  case atStart => exact ⟨0, by omega, rfl, Below.refl _ _⟩
  case round =>
    obtain ⟨k, hk, rfl, hbr⟩ := hrel
    by_cases hlt : k < l.length
    · obtain ⟨x, hx⟩ : ∃ r, l[k]? = some r := ⟨_, List.getElem?_eq_getElem hlt⟩
      obtain ⟨b1, o1, A1, c1, rfl, hb1, p0, p1, p2, p3, p4, p5, p6, p7, hS1⟩ := ClsAt.at (H.out.below hbr) hx
      obtain ⟨b2, o2, A2, c2, rfl, hb2, q0, q1, q2, q3, q4, q5, q6, q7, hS2⟩ := ClsAt.at (H'.out.below hbr) hx
      have HBR := hide hbr
      have HS1 := hide hS1
      have HS2 := hide hS2
      have k0 := at_kin hb1 p0
      have k1 := at_kin hb1 p1
      have k2 := at_kin hb1 p2
      have k3 := at_kin hb1 p3
      have k4 := at_kin hb1 p4
      have k5 := at_kin hb1 p5
      have k6 := at_kin hb1 p6
      have k7 := at_kin hb1 p7
      have l0 := at_kin hb2 q0
      have l1 := at_kin hb2 q1
      have l2 := at_kin hb2 q2
      have l3 := at_kin hb2 q3
      have l4 := at_kin hb2 q4
      have l5 := at_kin hb2 q5
      have l6 := at_kin hb2 q6
      have l7 := at_kin hb2 q7
      clear p0 p1 p2 p3 p4 p5 p6 p7 q0 q1 q2 q3 q4 q5 q6 q7 hx hS1 hS2 hbr
      go_upto_region 6 with fail
      go_cut [6, 7] (fun v6 v7 wx => ∃ X Y, v6 = .pointer (some ⟨X, 0, none⟩) ∧ v7 = .pointer (some ⟨Y, 0, none⟩) ∧ Hid (Blk wx X [.int .i64 x.kind, .string x.name, .string x.other, .slice A1 x.list.length c1, .bool x.neg, .string x.num, .string x.den, .int .i64 x.off]) ∧ Hid (Blk wx Y [.int .i64 x.kind, .string x.name, .string x.other, .slice A2 x.list.length c2, .bool x.neg, .string x.num, .string x.den, .int .i64 x.off]) ∧ Hid (Below wr.heap.size wr wx))
      case first =>
        go_wp2_with fail
        refine Qmt.wp_region (C := Cls (Below wr.heap.size wr)) (by kernel_rfl) (by kernel_rfl) ?_
        simp only [List.length_cons, List.length_nil]
        refine Qmt.takes [0, 1, 2, 3, 4, 5, 6, 7] 4 _ _ _ (cls (Qin.start _ _)) (by kernel_rfl) ?_
        simp only [List.filterMap_cons, List.filterMap_nil, List.getElem?_toArray, List.getElem?_cons_zero, List.getElem?_cons_succ]
        change wpQuiet _ _ _ _ [_, _, _, _, _, _, _, _] _
        repeat (go_big_quiet_step (fail))
        refine wpQuiet_nil ?_
        refine Qmt.fork [8, 9] (cls (Qin.start _ _)) (by kernel_rfl) (by simp) ⟨?_, ?_, trivial⟩
        · refine Qmt.by_op rfl (by kernel_rfl) ?_
          go_wp2_with fail
          refine ⟨rfl, ?_⟩
          have hb1 := ((Below.refl wr.heap.size wr).alloc (Nat.le_refl _) (.cells [.int .i64 0, .string ⟨#[]⟩, .string ⟨#[]⟩, .slice none 0 0, .bool false, .string ⟨#[]⟩, .string ⟨#[]⟩, .int .i64 0].toArray 45)).drew
          have hx1 : Blk (wr.alloc (.cells [.int .i64 0, .string ⟨#[]⟩, .string ⟨#[]⟩, .slice none 0 0, .bool false, .string ⟨#[]⟩, .string ⟨#[]⟩, .int .i64 0].toArray 45)).drew wr.heap.size [.int .i64 0, .string ⟨#[]⟩, .string ⟨#[]⟩, .slice none 0 0, .bool false, .string ⟨#[]⟩, .string ⟨#[]⟩, .int .i64 0] := Blk.new wr [.int .i64 0, .string ⟨#[]⟩, .string ⟨#[]⟩, .slice none 0 0, .bool false, .string ⟨#[]⟩, .string ⟨#[]⟩, .int .i64 0] 45
          obtain ⟨W1, hW1⟩ : ∃ W1, (wr.alloc (.cells [.int .i64 0, .string ⟨#[]⟩, .string ⟨#[]⟩, .slice none 0 0, .bool false, .string ⟨#[]⟩, .string ⟨#[]⟩, .int .i64 0].toArray 45)).drew = W1 := ⟨_, rfl⟩
          rw [hW1] at hb1 hx1
          change (wr.alloc (.cells #[.int .i64 0, .string ⟨#[]⟩, .string ⟨#[]⟩, .slice none 0 0, .bool false, .string ⟨#[]⟩, .string ⟨#[]⟩, .int .i64 0] 45)).drew = W1 at hW1
          have HW1 := hide hW1
          clear hW1
          rw [HW1.out]
          refine Qmt.fork [9] (cls hb1) (by kernel_rfl) (by simp) ⟨?_, trivial⟩
          refine Qmt.by_op rfl (by kernel_rfl) ?_
          go_wp2_with fail
          refine ⟨rfl, ?_⟩
          have hb2 := hb1.alloc hb1.size (.cells [.int .i64 0, .string ⟨#[]⟩, .string ⟨#[]⟩, .slice none 0 0, .bool false, .string ⟨#[]⟩, .string ⟨#[]⟩, .int .i64 0].toArray 45)
          have hx2 := hx1.alloc (.cells [.int .i64 0, .string ⟨#[]⟩, .string ⟨#[]⟩, .slice none 0 0, .bool false, .string ⟨#[]⟩, .string ⟨#[]⟩, .int .i64 0].toArray 45)
          have hy2 : Blk (W1.alloc (.cells [.int .i64 0, .string ⟨#[]⟩, .string ⟨#[]⟩, .slice none 0 0, .bool false, .string ⟨#[]⟩, .string ⟨#[]⟩, .int .i64 0].toArray 45)) W1.heap.size [.int .i64 0, .string ⟨#[]⟩, .string ⟨#[]⟩, .slice none 0 0, .bool false, .string ⟨#[]⟩, .string ⟨#[]⟩, .int .i64 0] := Blk.new W1 [.int .i64 0, .string ⟨#[]⟩, .string ⟨#[]⟩, .slice none 0 0, .bool false, .string ⟨#[]⟩, .string ⟨#[]⟩, .int .i64 0] 45
          have h12 : wr.heap.size < W1.heap.size := hx1.lt
          obtain ⟨W2, hW2⟩ : ∃ W2, W1.alloc (.cells [.int .i64 0, .string ⟨#[]⟩, .string ⟨#[]⟩, .slice none 0 0, .bool false, .string ⟨#[]⟩, .string ⟨#[]⟩, .int .i64 0].toArray 45) = W2 := ⟨_, rfl⟩
          rw [hW2] at hb2 hx2 hy2
          change W1.alloc (.cells #[.int .i64 0, .string ⟨#[]⟩, .string ⟨#[]⟩, .slice none 0 0, .bool false, .string ⟨#[]⟩, .string ⟨#[]⟩, .int .i64 0] 45) = W2 at hW2
          rw [hW2]
          clear hW2 HW1 hx1 hb1
          have h13 := hb2.size
          obtain ⟨y0, y1, y2, y3, y4, y5, y6, y7⟩ := cells8 hx2
          obtain ⟨z0, z1, z2, z3, z4, z5, z6, z7⟩ := frozen8 hx2
          refine Qmt.fork [10] (cls hb2) (by kernel_rfl) (by simp) ⟨?_, trivial⟩
          refine Qmt.by_op rfl (by kernel_rfl) ?_
          go_wp2_with fail
          refine ⟨rfl, ?_⟩
          have hX3 := hx2.set8 rfl (.int .i64 x.kind) (.string x.name) (.string x.other) (.slice A1 x.list.length c1) (.bool x.neg) (.string x.num) (.string x.den) (.int .i64 x.off)
          have hY3 := hy2.kept (kept_set8 (Kept.refl wr.heap.size W2) (.int .i64 x.kind) (.string x.name) (.string x.other) (.slice A1 x.list.length c1) (.bool x.neg) (.string x.num) (.string x.den) (.int .i64 x.off)) (by omega)
          have hb3 := below_set8 hb2 (K := wr.heap.size) (by omega) (.int .i64 x.kind) (.string x.name) (.string x.other) (.slice A1 x.list.length c1) (.bool x.neg) (.string x.num) (.string x.den) (.int .i64 x.off)
          obtain ⟨W3, hW3⟩ : ∃ W3, (((((((W2.setCell ⟨wr.heap.size, 0, none⟩ (.int .i64 x.kind)).setCell ⟨wr.heap.size, 1, none⟩ (.string x.name)).setCell ⟨wr.heap.size, 2, none⟩ (.string x.other)).setCell ⟨wr.heap.size, 3, none⟩ (.slice A1 x.list.length c1)).setCell ⟨wr.heap.size, 4, none⟩ (.bool x.neg)).setCell ⟨wr.heap.size, 5, none⟩ (.string x.num)).setCell ⟨wr.heap.size, 6, none⟩ (.string x.den)).setCell ⟨wr.heap.size, 7, none⟩ (.int .i64 x.off) = W3 := ⟨_, rfl⟩
          rw [hW3] at hX3 hY3 hb3 ⊢
          clear hW3 y0 y1 y2 y3 y4 y5 y6 y7 z0 z1 z2 z3 z4 z5 z6 z7 hx2 hy2 hb2
          have h14 := hb3.size
          obtain ⟨y0, y1, y2, y3, y4, y5, y6, y7⟩ := cells8 hY3
          obtain ⟨z0, z1, z2, z3, z4, z5, z6, z7⟩ := frozen8 hY3
          refine Qmt.fork [11] (cls hb3) (by kernel_rfl) (by simp) ⟨?_, trivial⟩
          refine Qmt.by_op rfl (by kernel_rfl) ?_
          go_wp2_with fail
          refine ⟨rfl, ?_⟩
          refine Qmt.by_end (cls (below_set8 hb3 (K := W1.heap.size) (by omega) (.int .i64 x.kind) (.string x.name) (.string x.other) (.slice A2 x.list.length c2) (.bool x.neg) (.string x.num) (.string x.den) (.int .i64 x.off))) (by kernel_rfl) ?_
          go_wp2_with fail
          go_meet
          case rel => exact ⟨wr.heap.size, W1.heap.size, rfl, rfl, hX3.kept (kept_set8 (Kept.refl W1.heap.size W3) (.int .i64 x.kind) (.string x.name) (.string x.other) (.slice A2 x.list.length c2) (.bool x.neg) (.string x.num) (.string x.den) (.int .i64 x.off)) (by omega), hY3.set8 rfl (.int .i64 x.kind) (.string x.name) (.string x.other) (.slice A2 x.list.length c2) (.bool x.neg) (.string x.num) (.string x.den) (.int .i64 x.off), below_set8 hb3 (K := W1.heap.size) (by omega) (.int .i64 x.kind) (.string x.name) (.string x.other) (.slice A2 x.list.length c2) (.bool x.neg) (.string x.num) (.string x.den) (.int .i64 x.off)⟩
        · refine Qmt.by_op rfl (by kernel_rfl) ?_
          go_wp2_with fail
          refine ⟨rfl, ?_⟩
          have hb1 := ((Below.refl wr.heap.size wr).alloc (Nat.le_refl _) (.cells [.int .i64 0, .string ⟨#[]⟩, .string ⟨#[]⟩, .slice none 0 0, .bool false, .string ⟨#[]⟩, .string ⟨#[]⟩, .int .i64 0].toArray 45)).drew
          have hx1 : Blk (wr.alloc (.cells [.int .i64 0, .string ⟨#[]⟩, .string ⟨#[]⟩, .slice none 0 0, .bool false, .string ⟨#[]⟩, .string ⟨#[]⟩, .int .i64 0].toArray 45)).drew wr.heap.size [.int .i64 0, .string ⟨#[]⟩, .string ⟨#[]⟩, .slice none 0 0, .bool false, .string ⟨#[]⟩, .string ⟨#[]⟩, .int .i64 0] := Blk.new wr [.int .i64 0, .string ⟨#[]⟩, .string ⟨#[]⟩, .slice none 0 0, .bool false, .string ⟨#[]⟩, .string ⟨#[]⟩, .int .i64 0] 45
          obtain ⟨W1, hW1⟩ : ∃ W1, (wr.alloc (.cells [.int .i64 0, .string ⟨#[]⟩, .string ⟨#[]⟩, .slice none 0 0, .bool false, .string ⟨#[]⟩, .string ⟨#[]⟩, .int .i64 0].toArray 45)).drew = W1 := ⟨_, rfl⟩
          rw [hW1] at hb1 hx1
          change (wr.alloc (.cells #[.int .i64 0, .string ⟨#[]⟩, .string ⟨#[]⟩, .slice none 0 0, .bool false, .string ⟨#[]⟩, .string ⟨#[]⟩, .int .i64 0] 45)).drew = W1 at hW1
          have HW1 := hide hW1
          clear hW1
          rw [HW1.out]
          refine Qmt.fork [8] (cls hb1) (by kernel_rfl) (by simp) ⟨?_, trivial⟩
          refine Qmt.by_op rfl (by kernel_rfl) ?_
          go_wp2_with fail
          refine ⟨rfl, ?_⟩
          have hb2 := hb1.alloc hb1.size (.cells [.int .i64 0, .string ⟨#[]⟩, .string ⟨#[]⟩, .slice none 0 0, .bool false, .string ⟨#[]⟩, .string ⟨#[]⟩, .int .i64 0].toArray 45)
          have hx2 := hx1.alloc (.cells [.int .i64 0, .string ⟨#[]⟩, .string ⟨#[]⟩, .slice none 0 0, .bool false, .string ⟨#[]⟩, .string ⟨#[]⟩, .int .i64 0].toArray 45)
          have hy2 : Blk (W1.alloc (.cells [.int .i64 0, .string ⟨#[]⟩, .string ⟨#[]⟩, .slice none 0 0, .bool false, .string ⟨#[]⟩, .string ⟨#[]⟩, .int .i64 0].toArray 45)) W1.heap.size [.int .i64 0, .string ⟨#[]⟩, .string ⟨#[]⟩, .slice none 0 0, .bool false, .string ⟨#[]⟩, .string ⟨#[]⟩, .int .i64 0] := Blk.new W1 [.int .i64 0, .string ⟨#[]⟩, .string ⟨#[]⟩, .slice none 0 0, .bool false, .string ⟨#[]⟩, .string ⟨#[]⟩, .int .i64 0] 45
          have h12 : wr.heap.size < W1.heap.size := hx1.lt
          obtain ⟨W2, hW2⟩ : ∃ W2, W1.alloc (.cells [.int .i64 0, .string ⟨#[]⟩, .string ⟨#[]⟩, .slice none 0 0, .bool false, .string ⟨#[]⟩, .string ⟨#[]⟩, .int .i64 0].toArray 45) = W2 := ⟨_, rfl⟩
          rw [hW2] at hb2 hx2 hy2
          change W1.alloc (.cells #[.int .i64 0, .string ⟨#[]⟩, .string ⟨#[]⟩, .slice none 0 0, .bool false, .string ⟨#[]⟩, .string ⟨#[]⟩, .int .i64 0] 45) = W2 at hW2
          rw [hW2]
          clear hW2 HW1 hx1 hb1
          have h13 := hb2.size
          obtain ⟨y0, y1, y2, y3, y4, y5, y6, y7⟩ := cells8 hy2
          obtain ⟨z0, z1, z2, z3, z4, z5, z6, z7⟩ := frozen8 hy2
          refine Qmt.fork [10] (cls hb2) (by kernel_rfl) (by simp) ⟨?_, trivial⟩
          refine Qmt.by_op rfl (by kernel_rfl) ?_
          go_wp2_with fail
          refine ⟨rfl, ?_⟩
          have hX3 := hy2.set8 rfl (.int .i64 x.kind) (.string x.name) (.string x.other) (.slice A1 x.list.length c1) (.bool x.neg) (.string x.num) (.string x.den) (.int .i64 x.off)
          have hY3 := hx2.kept (kept_set8 (Kept.refl W1.heap.size W2) (.int .i64 x.kind) (.string x.name) (.string x.other) (.slice A1 x.list.length c1) (.bool x.neg) (.string x.num) (.string x.den) (.int .i64 x.off)) (by omega)
          have hb3 := below_set8 hb2 (K := W1.heap.size) (by omega) (.int .i64 x.kind) (.string x.name) (.string x.other) (.slice A1 x.list.length c1) (.bool x.neg) (.string x.num) (.string x.den) (.int .i64 x.off)
          obtain ⟨W3, hW3⟩ : ∃ W3, (((((((W2.setCell ⟨W1.heap.size, 0, none⟩ (.int .i64 x.kind)).setCell ⟨W1.heap.size, 1, none⟩ (.string x.name)).setCell ⟨W1.heap.size, 2, none⟩ (.string x.other)).setCell ⟨W1.heap.size, 3, none⟩ (.slice A1 x.list.length c1)).setCell ⟨W1.heap.size, 4, none⟩ (.bool x.neg)).setCell ⟨W1.heap.size, 5, none⟩ (.string x.num)).setCell ⟨W1.heap.size, 6, none⟩ (.string x.den)).setCell ⟨W1.heap.size, 7, none⟩ (.int .i64 x.off) = W3 := ⟨_, rfl⟩
          rw [hW3] at hX3 hY3 hb3 ⊢
          clear hW3 y0 y1 y2 y3 y4 y5 y6 y7 z0 z1 z2 z3 z4 z5 z6 z7 hx2 hy2 hb2
          have h14 := hb3.size
          obtain ⟨y0, y1, y2, y3, y4, y5, y6, y7⟩ := cells8 hY3
          obtain ⟨z0, z1, z2, z3, z4, z5, z6, z7⟩ := frozen8 hY3
          refine Qmt.fork [11] (cls hb3) (by kernel_rfl) (by simp) ⟨?_, trivial⟩
          refine Qmt.by_op rfl (by kernel_rfl) ?_
          go_wp2_with fail
          refine ⟨rfl, ?_⟩
          refine Qmt.by_end (cls (below_set8 hb3 (K := wr.heap.size) (by omega) (.int .i64 x.kind) (.string x.name) (.string x.other) (.slice A2 x.list.length c2) (.bool x.neg) (.string x.num) (.string x.den) (.int .i64 x.off))) (by kernel_rfl) ?_
          go_wp2_with fail
          go_meet
          case rel => exact ⟨W1.heap.size, wr.heap.size, rfl, rfl, hX3.kept (kept_set8 (Kept.refl wr.heap.size W3) (.int .i64 x.kind) (.string x.name) (.string x.other) (.slice A2 x.list.length c2) (.bool x.neg) (.string x.num) (.string x.den) (.int .i64 x.off)) (by omega), hY3.set8 rfl (.int .i64 x.kind) (.string x.name) (.string x.other) (.slice A2 x.list.length c2) (.bool x.neg) (.string x.num) (.string x.den) (.int .i64 x.off), below_set8 hb3 (K := wr.heap.size) (by omega) (.int .i64 x.kind) (.string x.name) (.string x.other) (.slice A2 x.list.length c2) (.bool x.neg) (.string x.num) (.string x.den) (.int .i64 x.off)⟩
      case rest =>
        obtain ⟨X, Y, rfl, rfl, HX, HY, HBX⟩ := hcut
        clear k0 k1 k2 k3 k4 k5 k6 k7 l0 l1 l2 l3 l4 l5 l6 l7
        obtain ⟨p0, p1, p2, p3, p4, p5, p6, p7⟩ := cells8 HX.out
        obtain ⟨q0, q1, q2, q3, q4, q5, q6, q7⟩ := cells8 HY.out
        have hrn := HRN.out
        have HSS := Lib.hid (same_strs x.list (fun _ => True) (fun _ => True) A1 A2 c1 c2 wc (HS1.out.below HBX.out) (HS2.out.below HBX.out))
        go_wp2_with fail
        refine HSS.out.mono ?_
        rintro e w5 ⟨rfl, hb5⟩
        go_wp2_with fail
        go_roundw
        case rel => exact ⟨k + 1, by omega, by go_num, (HBR.out.trans (HBX.out.mono HBR.out.size)).trans (hb5.mono (Nat.le_trans HBR.out.size HBX.out.size))⟩
        case measure => simp [intOf]; omega
    · go_wp2_with fail
      go_ret
      exact ⟨rfl, hbr⟩
end Go.Proofs.YtnbdckfnohagbaaGreatDoor.PqM
