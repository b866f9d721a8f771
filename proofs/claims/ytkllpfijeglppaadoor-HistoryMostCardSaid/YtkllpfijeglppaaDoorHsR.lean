/- The walk of the program's parseLine. -/
import Derived.Test.YtkllpfijeglppaaDoorHsQ
namespace Go.Proofs.YtkllpfijeglppaaDoor.HsR
open Go.RowKit Hs HsB HsC HsD HsF HsG HsH HsE HsI HsJ HsK HsL HsM HsN HsO HsP HsQ
theorem infoI64 : (Tryd.prog.info? 2).map (fun i => (i.zero, i.size, i.bytes)) = some (some (.int .i64 0), 1, 8) := by kernel_rfl
theorem piece_mem {c : UInt8} : ∀ {s cur : List UInt8} {x : List UInt8}, x ∈ splA c cur s → x.length ≤ cur.length + s.length
  | [], cur, x, h => by
    simp only [splA, List.mem_singleton] at h; subst h; simp
  | y :: l, cur, x, h => by
    rw [splA] at h
    split at h
    · rcases List.mem_cons.1 h with rfl | h
      · simp
      · have := piece_mem h; simp at this ⊢; omega
    · have := piece_mem h; simp at this ⊢; omega
theorem piece_le {s x : ByteArray} {ws : List ByteArray} {i : Nat} (hws : toL ws = splA 32 [] s.data.toList) (hx : ws[i]? = some x) (hs : s.size ≤ 8192) : x.size ≤ 8192 := by
  have h := List.mem_of_getElem? (toL_get hx)
  rw [hws] at h
  have h1 := piece_mem h
  have h2 : s.data.toList.length = s.size := by simp
  have h3 : x.data.toList.length = x.size := by simp
  simp only [List.length_nil] at h1
  omega
theorem set6 {w w1 : World} (h : Below w.heap.size w w1) (a b c d e f : Value) :
    Below w.heap.size w ((((((w1.setCell ⟨w.heap.size, 0, none⟩ a).setCell ⟨w.heap.size, 1, none⟩ b).setCell ⟨w.heap.size, 2, none⟩ c).setCell ⟨w.heap.size, 3, none⟩ d).setCell ⟨w.heap.size, 4, none⟩ e).setCell ⟨w.heap.size, 5, none⟩ f) :=
  (((((h.setCell (p := ⟨w.heap.size, 0, none⟩) (Nat.le_refl _) a).setCell (p := ⟨w.heap.size, 1, none⟩) (Nat.le_refl _) b).setCell (p := ⟨w.heap.size, 2, none⟩) (Nat.le_refl _) c).setCell (p := ⟨w.heap.size, 3, none⟩) (Nat.le_refl _) d).setCell (p := ⟨w.heap.size, 4, none⟩) (Nat.le_refl _) e).setCell (p := ⟨w.heap.size, 5, none⟩) (Nat.le_refl _) f
set_option maxHeartbeats 4000000 in
set_option maxRecDepth 100000 in
theorem parseLine_any (s : ByteArray) (w : World) (hs : s.size ≤ 8192) (he : Env w) :
    Calls Tryd.prog 41 #[.string s] w fun e w' => e = RowRet (rowOf s.data.toList) ∧ Below w.heap.size w w' := by
  obtain ⟨i0, hi, hz0, hz1, hz2⟩ := info_parts infoI64
  go_enter Tryd.func41, Tryd.ntmps41
  go_wp2_with fail
  refine (split_any s _ hs (he.below ((Below.refl _ _).alloc (Nat.le_refl _) _))).mono ?_
  rintro e w1 ⟨⟨ws, A, c, rfl, hws, hwl, hsz, b, rfl, hbl, hcell⟩, hb1⟩
  have hsz1 := hsz
  simp at hsz1
  have hbel : Below w.heap.size w w1 := ((Below.refl _ _).alloc (Nat.le_refl _) _).trans (hb1.mono (by simp))
  have hres : w1.heap[w.heap.size]? = some (.cells #[.int .i64 0, .int .i64 0, .int .i64 0, .int .i64 0, .int .i64 0, .int .i64 0] 39 (0, 0)) := by
    rw [hb1.block w.heap.size (by simp)]
    exact heap_alloc_new w _
  have ff : ∀ j, w1.frozen? ⟨w.heap.size, j, none⟩ = false := fun j => Lib.frozen_of_heap hres j
  have r0 : w1.cell? ⟨w.heap.size, 0, none⟩ = some (.int .i64 0) := Lib.cell_of_heap hres 0
  have r1 : w1.cell? ⟨w.heap.size, 1, none⟩ = some (.int .i64 0) := Lib.cell_of_heap hres 1
  have r2 : w1.cell? ⟨w.heap.size, 2, none⟩ = some (.int .i64 0) := Lib.cell_of_heap hres 2
  have r3 : w1.cell? ⟨w.heap.size, 3, none⟩ = some (.int .i64 0) := Lib.cell_of_heap hres 3
  have r4 : w1.cell? ⟨w.heap.size, 4, none⟩ = some (.int .i64 0) := Lib.cell_of_heap hres 4
  have r5 : w1.cell? ⟨w.heap.size, 5, none⟩ = some (.int .i64 0) := Lib.cell_of_heap hres 5
  by_cases h5 : ws.length < 5
  · have hn : Hid (rowOf s.data.toList = none) := by
      show rowOf _ = none
      unfold rowOf; rw [← hws]
      exact row_short (by simpa [toL] using h5)
    go_wp2_with fail
    refine bodyPost_ret (v := .tuple #[zeroRow, .bool false]) (by simp [results, Tryd.results41, go_sem, r0, r1, r2, r3, r4, r5, zeroRow]) rfl ⟨by rw [hn.out]; rfl, ?_⟩
    exact set6 hbel _ _ _ _ _ _
  · obtain ⟨x1, hx1⟩ : ∃ x, ws[1]? = some x := ⟨_, List.getElem?_eq_getElem (by omega)⟩
    have hc1 : w1.cell? ⟨b, 1, none⟩ = some (.string x1) := hcell 1 x1 hx1
    replace hcell := hide hcell
    replace hws := hide hws
    replace hres := Lib.hid hres
    cases e1 : (x1.toList == [112, 97, 121, 109, 101, 110, 116])
    · cases e2 : (x1.toList == [115, 117, 112, 112, 108, 121])
      · cases e3 : (x1.toList == [116, 114, 97, 110, 115, 102, 101, 114])
        · have hn : Hid (rowOf s.data.toList = none) := by
            show rowOf _ = none
            unfold rowOf; rw [← hws.out]
            exact row_kind (by rw [kind_of hx1, e1, e2, e3]; rfl)
          go_wp2_with fail
          refine bodyPost_ret (v := .tuple #[zeroRow, .bool false]) (by simp [results, Tryd.results41, go_sem, r0, r1, r2, r3, r4, r5, zeroRow]) rfl ⟨by rw [hn.out]; rfl, ?_⟩
          exact set6 hbel _ _ _ _ _ _
        · have E1 := hide e1
          have E2 := hide e2
          have E3 := hide e3
          clear ff r0 r1 r2 r3 r4 r5
          have HK : Hid (kindW ((toL ws).getD 1 []) = 3) := by
            show kindW _ = 3
            rw [kind_of hx1]; simp [E1.out, E2.out, E3.out]
          by_cases hcnt : ws.length = 6
          · have hcb : ((ws.length : Int) != 6) = false := by simp [hcnt]
            have hle : ws.length ≤ 6 := by omega
            have hge : 6 ≤ ws.length := by omega
            have HCNT := hide hcnt
            clear hcnt
            go_wp2_with fail
            go_loopw [7, 39] (fun vn vi wr => ∃ (i : Nat) (ns : List Nat), i ≤ ws.length ∧ vi = .int .i64 i ∧ Got (toL ws) i ns ∧ wr.ownsRow w1.heap.size 2 1 vn ns.length (NS ns) ∧ Below w1.heap.size w1 wr) (fun _ vi _ => ws.length - (intOf vi).toNat)
            case atStart => exact ⟨0, [], by omega, rfl, Got.start _, World.ownsRow_nil _ _ _ _, Below.refl _ _⟩
            case round =>
              obtain ⟨i, ns, hik, rfl, hread, hown, hbr⟩ := hrel
              have hnl : ns.length ≤ 6 := by have := hread.2.1; split at this <;> omega
              have HR := hide hread
              clear hread
              have hbel2 : Below w.heap.size w wr := hbel.trans (hbr.mono (by omega))
              have hres' : wr.heap[w.heap.size]? = some (.cells #[.int .i64 0, .int .i64 0, .int .i64 0, .int .i64 0, .int .i64 0, .int .i64 0] 39 (0, 0)) := (hbr.block _ (by omega)).trans hres.out
              have ff : ∀ j, wr.frozen? ⟨w.heap.size, j, none⟩ = false := fun j => Lib.frozen_of_heap hres' j
              have r0 : wr.cell? ⟨w.heap.size, 0, none⟩ = some (.int .i64 0) := Lib.cell_of_heap hres' 0
              have r1 : wr.cell? ⟨w.heap.size, 1, none⟩ = some (.int .i64 0) := Lib.cell_of_heap hres' 1
              have r2 : wr.cell? ⟨w.heap.size, 2, none⟩ = some (.int .i64 0) := Lib.cell_of_heap hres' 2
              have r3 : wr.cell? ⟨w.heap.size, 3, none⟩ = some (.int .i64 0) := Lib.cell_of_heap hres' 3
              have r4 : wr.cell? ⟨w.heap.size, 4, none⟩ = some (.int .i64 0) := Lib.cell_of_heap hres' 4
              have r5 : wr.cell? ⟨w.heap.size, 5, none⟩ = some (.int .i64 0) := Lib.cell_of_heap hres' 5
              have HRES := Lib.hid hres'
              clear hres'
              by_cases hlt : i < ws.length
              · obtain ⟨x, hx⟩ : ∃ x, ws[i]? = some x := ⟨_, List.getElem?_eq_getElem hlt⟩
                have hcx : wr.cell? ⟨b, i, none⟩ = some (.string x) := (hbr.cell (p := ⟨b, i, none⟩) hbl).trans (hcell.out i x hx)
                have hxs : x.size ≤ 8192 := piece_le hws.out hx hs
                have HX := hide (toL_get hx)
                clear hx
                by_cases h1 : i = 1
                · subst h1
                  clear ff r0 r1 r2 r3 r4 r5
                  go_wp2_with fail
                  go_roundw
                  case rel => exact ⟨1 + 1, ns, by omega, by go_num, HR.out.skip HX.out, hown, hbr⟩
                  case measure => simp [intOf]; omega
                · have h1b : ((i : Int) == 1) = false := by simp; omega
                  cases hnum : numOf x.data.toList with
                  | none =>
                    have hn : Hid (rowOf s.data.toList = none) := by
                      show rowOf _ = none
                      unfold rowOf; rw [← hws.out]
                      exact row_nums (HR.out.bad HX.out hnum h1)
                    have HN : Hid (NumRet (numOf x.data.toList) = .returned (.tuple #[.int .i64 0, .bool false])) := by
                      show NumRet _ = _
                      rw [hnum]; rfl
                    clear hnum
                    go_wp2_with (go_at_call 58; refine (number_any x _ hxs).mono ?_; rw [HN.out]; rintro e w' ⟨rfl, rfl⟩)
                    refine bodyPost_ret (v := .tuple #[zeroRow, .bool false]) (by simp [results, Tryd.results41, go_sem, r0, r1, r2, r3, r4, r5, zeroRow]) rfl ⟨by rw [hn.out]; rfl, ?_⟩
                    exact set6 hbel2 _ _ _ _ _ _
                  | some n =>
                    have HM := hide hnum
                    have HN : Hid (NumRet (numOf x.data.toList) = .returned (.tuple #[.int .i64 (n : Int), .bool true])) := by
                      show NumRet _ = _
                      rw [hnum]; rfl
                    clear hnum ff r0 r1 r2 r3 r4 r5
                    go_wp2_with (first
                      | (go_at_call 58; refine (number_any x _ hxs).mono ?_; rw [HN.out]; rintro e w' ⟨rfl, rfl⟩)
                      | (at_builtin
                         refine wpList_append_own _ rfl (.tmp 54) (.tmp 56) 91 rfl w1.heap.size 2 i0 _ 1 8 Tryd.underlying91 hi hz0 hz1 hz2 rfl (by decide) _ _ _ rfl (hown.alloc _) ⟨wr.heap.size, 0, none⟩ 1 1 [.int .i64 (n : Int)] rfl rfl ?c1 ?c2 ?c3 ?c4 ?c5 ?_
                         case c1 => exact cells_new _ [.int .i64 (n : Int)] _
                         case c2 => simp [Value.oneCell']
                         case c3 => unfold maxLen; omega
                         case c4 => omega
                         case c5 => have := hbr.size; simp; omega
                         intro v2 w2 hown2 hg2 _))
                    go_roundw
                    case rel =>
                      refine ⟨i + 1, ns ++ [n], by omega, by go_num, HR.out.next HX.out HM.out h1, ?_, ?_⟩
                      · rw [List.length_append, NS_snoc]; exact hown2
                      · refine (hbr.alloc hbr.size _).grown hg2 (by have := hbr.size; simp; omega) ?_
                        intro g hg
                        exact (hown.lt g hg).1
                    case measure => simp [intOf]; omega
              · obtain rfl : i = ws.length := by omega
                have hnl2 : ns.length = 5 := by
                  have := HR.out.2.1
                  rw [HCNT.out] at this
                  simpa using this
                have hgood : Hid (rowOf s.data.toList = some (rowN 3 ns)) := by
                  show rowOf _ = _
                  unfold rowOf; rw [← hws.out]
                  have htl : (toL ws).length = 6 := by simp [toL, HCNT.out]
                  refine row_good (by omega) HK.out (by decide) (by rw [htl]; rfl) ?_
                  have := HR.out
                  have e : ws.length = (toL ws).length := by simp [toL]
                  rw [e] at this
                  exact this.done
                obtain ⟨n0, n1, n2, n3, n4, rfl⟩ := five_of hnl2
                obtain ⟨g, cg, hA, hgb, hgl⟩ := hown.form (by simp)
                cases hA
                have q0 : wr.cell? ⟨g, 0, none⟩ = some (.int .i64 (n0 : Int)) := hown.cellAt 0 (by simp)
                have q1 : wr.cell? ⟨g, 1, none⟩ = some (.int .i64 (n1 : Int)) := hown.cellAt 1 (by simp)
                have q2 : wr.cell? ⟨g, 2, none⟩ = some (.int .i64 (n2 : Int)) := hown.cellAt 2 (by simp)
                have q3 : wr.cell? ⟨g, 3, none⟩ = some (.int .i64 (n3 : Int)) := hown.cellAt 3 (by simp)
                have q4 : wr.cell? ⟨g, 4, none⟩ = some (.int .i64 (n4 : Int)) := hown.cellAt 4 (by simp)
                have hgne : g ≠ w.heap.size := by omega
                clear hown hgl HR
                have hlen : ([n0, n1, n2, n3, n4] : List Nat).length = 5 := rfl
                rw [hlen]
                clear hlen
                have hszr : w.heap.size < wr.heap.size := Nat.lt_of_lt_of_le (by omega) hbr.size
                have h' := HRES.out
                have ff : ∀ j, wr.frozen? ⟨w.heap.size, j, none⟩ = false := fun j => Lib.frozen_of_heap h' j
                have r0 : wr.cell? ⟨w.heap.size, 0, none⟩ = some (.int .i64 0) := Lib.cell_of_heap h' 0
                have r1 : wr.cell? ⟨w.heap.size, 1, none⟩ = some (.int .i64 0) := Lib.cell_of_heap h' 1
                have r2 : wr.cell? ⟨w.heap.size, 2, none⟩ = some (.int .i64 0) := Lib.cell_of_heap h' 2
                have r3 : wr.cell? ⟨w.heap.size, 3, none⟩ = some (.int .i64 0) := Lib.cell_of_heap h' 3
                have r4 : wr.cell? ⟨w.heap.size, 4, none⟩ = some (.int .i64 0) := Lib.cell_of_heap h' 4
                have r5 : wr.cell? ⟨w.heap.size, 5, none⟩ = some (.int .i64 0) := Lib.cell_of_heap h' 5
                clear h'
                go_wp2_with fail
                go_region_held3 (fun w' => w'.cell? ⟨g, 0, none⟩ = some (.int .i64 (n0 : Int)) ∧ w'.cell? ⟨g, 1, none⟩ = some (.int .i64 (n1 : Int)) ∧ w'.cell? ⟨g, 2, none⟩ = some (.int .i64 (n2 : Int)) ∧ w'.cell? ⟨g, 3, none⟩ = some (.int .i64 (n3 : Int)) ∧ w'.cell? ⟨g, 4, none⟩ = some (.int .i64 (n4 : Int))) (go_keep) (fail)
                go_wp2_with fail
                have back : ∀ (W : World) (o : Obj) (j : Nat), w.heap.size < W.heap.size → (W.alloc o).cell? ⟨w.heap.size, j, none⟩ = W.cell? ⟨w.heap.size, j, none⟩ := fun W o j h => World.cell?_alloc_lt W o _ h
                refine bodyPost_ret (v := .tuple #[.agg #[.int .i64 (n0 : Int), .int .i64 3, .int .i64 (n1 : Int), .int .i64 (n2 : Int), .int .i64 (n3 : Int), .int .i64 (n4 : Int)], .bool true]) (by simp [results, Tryd.results41, go_sem, back, hszr, r0, r1, r2, r3, r4, r5]) rfl ⟨by rw [hgood.out]; rfl, ?_⟩
                exact below_drewN ((set6 hbel2 _ _ _ _ _ _).alloc (by simpa using Nat.le_of_lt hszr) _) 1
          · have hcb : ((ws.length : Int) != 6) = true := by simp; omega
            have hn : Hid (rowOf s.data.toList = none) := by
              show rowOf _ = none
              unfold rowOf; rw [← hws.out]
              exact row_count (by rw [HK.out]; simpa [toL, countK] using hcnt)
            have r := hres.out
            have ff : ∀ j, w1.frozen? ⟨w.heap.size, j, none⟩ = false := fun j => Lib.frozen_of_heap r j
            have r0 : w1.cell? ⟨w.heap.size, 0, none⟩ = some (.int .i64 0) := Lib.cell_of_heap r 0
            have r1 : w1.cell? ⟨w.heap.size, 1, none⟩ = some (.int .i64 0) := Lib.cell_of_heap r 1
            have r2 : w1.cell? ⟨w.heap.size, 2, none⟩ = some (.int .i64 0) := Lib.cell_of_heap r 2
            have r3 : w1.cell? ⟨w.heap.size, 3, none⟩ = some (.int .i64 0) := Lib.cell_of_heap r 3
            have r4 : w1.cell? ⟨w.heap.size, 4, none⟩ = some (.int .i64 0) := Lib.cell_of_heap r 4
            have r5 : w1.cell? ⟨w.heap.size, 5, none⟩ = some (.int .i64 0) := Lib.cell_of_heap r 5
            clear r hcnt
            go_wp2_with fail
            refine bodyPost_ret (v := .tuple #[zeroRow, .bool false]) (by simp [results, Tryd.results41, go_sem, r0, r1, r2, r3, r4, r5, zeroRow]) rfl ⟨by rw [hn.out]; rfl, ?_⟩
            exact set6 hbel _ _ _ _ _ _
      · obtain ⟨e3, E3⟩ : ∃ e3, Hid ((x1.toList == [116, 114, 97, 110, 115, 102, 101, 114]) = e3) := ⟨_, rfl⟩
        have E1 := hide e1
        have E2 := hide e2
        clear ff r0 r1 r2 r3 r4 r5
        have HK : Hid (kindW ((toL ws).getD 1 []) = 2) := by
          show kindW _ = 2
          rw [kind_of hx1]; simp [E1.out, E2.out]
        by_cases hcnt : ws.length = 5
        · have hcb : ((ws.length : Int) != 5) = false := by simp [hcnt]
          have hle : ws.length ≤ 5 := by omega
          have hge : 5 ≤ ws.length := by omega
          have HCNT := hide hcnt
          clear hcnt
          go_wp2_with fail
          go_loopw [7, 39] (fun vn vi wr => ∃ (i : Nat) (ns : List Nat), i ≤ ws.length ∧ vi = .int .i64 i ∧ Got (toL ws) i ns ∧ wr.ownsRow w1.heap.size 2 1 vn ns.length (NS ns) ∧ Below w1.heap.size w1 wr) (fun _ vi _ => ws.length - (intOf vi).toNat)
          case atStart => exact ⟨0, [], by omega, rfl, Got.start _, World.ownsRow_nil _ _ _ _, Below.refl _ _⟩
          case round =>
            obtain ⟨i, ns, hik, rfl, hread, hown, hbr⟩ := hrel
            have hnl : ns.length ≤ 6 := by have := hread.2.1; split at this <;> omega
            have HR := hide hread
            clear hread
            have hbel2 : Below w.heap.size w wr := hbel.trans (hbr.mono (by omega))
            have hres' : wr.heap[w.heap.size]? = some (.cells #[.int .i64 0, .int .i64 0, .int .i64 0, .int .i64 0, .int .i64 0, .int .i64 0] 39 (0, 0)) := (hbr.block _ (by omega)).trans hres.out
            have ff : ∀ j, wr.frozen? ⟨w.heap.size, j, none⟩ = false := fun j => Lib.frozen_of_heap hres' j
            have r0 : wr.cell? ⟨w.heap.size, 0, none⟩ = some (.int .i64 0) := Lib.cell_of_heap hres' 0
            have r1 : wr.cell? ⟨w.heap.size, 1, none⟩ = some (.int .i64 0) := Lib.cell_of_heap hres' 1
            have r2 : wr.cell? ⟨w.heap.size, 2, none⟩ = some (.int .i64 0) := Lib.cell_of_heap hres' 2
            have r3 : wr.cell? ⟨w.heap.size, 3, none⟩ = some (.int .i64 0) := Lib.cell_of_heap hres' 3
            have r4 : wr.cell? ⟨w.heap.size, 4, none⟩ = some (.int .i64 0) := Lib.cell_of_heap hres' 4
            have r5 : wr.cell? ⟨w.heap.size, 5, none⟩ = some (.int .i64 0) := Lib.cell_of_heap hres' 5
            have HRES := Lib.hid hres'
            clear hres'
            by_cases hlt : i < ws.length
            · obtain ⟨x, hx⟩ : ∃ x, ws[i]? = some x := ⟨_, List.getElem?_eq_getElem hlt⟩
              have hcx : wr.cell? ⟨b, i, none⟩ = some (.string x) := (hbr.cell (p := ⟨b, i, none⟩) hbl).trans (hcell.out i x hx)
              have hxs : x.size ≤ 8192 := piece_le hws.out hx hs
              have HX := hide (toL_get hx)
              clear hx
              by_cases h1 : i = 1
              · subst h1
                clear ff r0 r1 r2 r3 r4 r5
                go_wp2_with fail
                go_roundw
                case rel => exact ⟨1 + 1, ns, by omega, by go_num, HR.out.skip HX.out, hown, hbr⟩
                case measure => simp [intOf]; omega
              · have h1b : ((i : Int) == 1) = false := by simp; omega
                cases hnum : numOf x.data.toList with
                | none =>
                  have hn : Hid (rowOf s.data.toList = none) := by
                    show rowOf _ = none
                    unfold rowOf; rw [← hws.out]
                    exact row_nums (HR.out.bad HX.out hnum h1)
                  have HN : Hid (NumRet (numOf x.data.toList) = .returned (.tuple #[.int .i64 0, .bool false])) := by
                    show NumRet _ = _
                    rw [hnum]; rfl
                  clear hnum
                  go_wp2_with (go_at_call 58; refine (number_any x _ hxs).mono ?_; rw [HN.out]; rintro e w' ⟨rfl, rfl⟩)
                  refine bodyPost_ret (v := .tuple #[zeroRow, .bool false]) (by simp [results, Tryd.results41, go_sem, r0, r1, r2, r3, r4, r5, zeroRow]) rfl ⟨by rw [hn.out]; rfl, ?_⟩
                  exact set6 hbel2 _ _ _ _ _ _
                | some n =>
                  have HM := hide hnum
                  have HN : Hid (NumRet (numOf x.data.toList) = .returned (.tuple #[.int .i64 (n : Int), .bool true])) := by
                    show NumRet _ = _
                    rw [hnum]; rfl
                  clear hnum ff r0 r1 r2 r3 r4 r5
                  go_wp2_with (first
                    | (go_at_call 58; refine (number_any x _ hxs).mono ?_; rw [HN.out]; rintro e w' ⟨rfl, rfl⟩)
                    | (at_builtin
                       refine wpList_append_own _ rfl (.tmp 54) (.tmp 56) 91 rfl w1.heap.size 2 i0 _ 1 8 Tryd.underlying91 hi hz0 hz1 hz2 rfl (by decide) _ _ _ rfl (hown.alloc _) ⟨wr.heap.size, 0, none⟩ 1 1 [.int .i64 (n : Int)] rfl rfl ?c1 ?c2 ?c3 ?c4 ?c5 ?_
                       case c1 => exact cells_new _ [.int .i64 (n : Int)] _
                       case c2 => simp [Value.oneCell']
                       case c3 => unfold maxLen; omega
                       case c4 => omega
                       case c5 => have := hbr.size; simp; omega
                       intro v2 w2 hown2 hg2 _))
                  go_roundw
                  case rel =>
                    refine ⟨i + 1, ns ++ [n], by omega, by go_num, HR.out.next HX.out HM.out h1, ?_, ?_⟩
                    · rw [List.length_append, NS_snoc]; exact hown2
                    · refine (hbr.alloc hbr.size _).grown hg2 (by have := hbr.size; simp; omega) ?_
                      intro g hg
                      exact (hown.lt g hg).1
                  case measure => simp [intOf]; omega
            · obtain rfl : i = ws.length := by omega
              have hnl2 : ns.length = 4 := by
                have := HR.out.2.1
                rw [HCNT.out] at this
                simpa using this
              have hgood : Hid (rowOf s.data.toList = some (rowN 2 ns)) := by
                show rowOf _ = _
                unfold rowOf; rw [← hws.out]
                have htl : (toL ws).length = 5 := by simp [toL, HCNT.out]
                refine row_good (by omega) HK.out (by decide) (by rw [htl]; rfl) ?_
                have := HR.out
                have e : ws.length = (toL ws).length := by simp [toL]
                rw [e] at this
                exact this.done
              obtain ⟨n0, n1, n2, n3, rfl⟩ := four hnl2
              obtain ⟨g, cg, hA, hgb, hgl⟩ := hown.form (by simp)
              cases hA
              have q0 : wr.cell? ⟨g, 0, none⟩ = some (.int .i64 (n0 : Int)) := hown.cellAt 0 (by simp)
              have q1 : wr.cell? ⟨g, 1, none⟩ = some (.int .i64 (n1 : Int)) := hown.cellAt 1 (by simp)
              have q2 : wr.cell? ⟨g, 2, none⟩ = some (.int .i64 (n2 : Int)) := hown.cellAt 2 (by simp)
              have q3 : wr.cell? ⟨g, 3, none⟩ = some (.int .i64 (n3 : Int)) := hown.cellAt 3 (by simp)
              have hgne : g ≠ w.heap.size := by omega
              clear hown hgl HR
              have hlen : ([n0, n1, n2, n3] : List Nat).length = 4 := rfl
              rw [hlen]
              clear hlen
              have hszr : w.heap.size < wr.heap.size := Nat.lt_of_lt_of_le (by omega) hbr.size
              have h' := HRES.out
              have ff : ∀ j, wr.frozen? ⟨w.heap.size, j, none⟩ = false := fun j => Lib.frozen_of_heap h' j
              have r0 : wr.cell? ⟨w.heap.size, 0, none⟩ = some (.int .i64 0) := Lib.cell_of_heap h' 0
              have r1 : wr.cell? ⟨w.heap.size, 1, none⟩ = some (.int .i64 0) := Lib.cell_of_heap h' 1
              have r2 : wr.cell? ⟨w.heap.size, 2, none⟩ = some (.int .i64 0) := Lib.cell_of_heap h' 2
              have r3 : wr.cell? ⟨w.heap.size, 3, none⟩ = some (.int .i64 0) := Lib.cell_of_heap h' 3
              have r4 : wr.cell? ⟨w.heap.size, 4, none⟩ = some (.int .i64 0) := Lib.cell_of_heap h' 4
              have r5 : wr.cell? ⟨w.heap.size, 5, none⟩ = some (.int .i64 0) := Lib.cell_of_heap h' 5
              clear h'
              go_wp2_with fail
              go_region_held3 (fun w' => w'.cell? ⟨g, 0, none⟩ = some (.int .i64 (n0 : Int)) ∧ w'.cell? ⟨g, 1, none⟩ = some (.int .i64 (n1 : Int)) ∧ w'.cell? ⟨g, 2, none⟩ = some (.int .i64 (n2 : Int)) ∧ w'.cell? ⟨g, 3, none⟩ = some (.int .i64 (n3 : Int))) (go_keep) (fail)
              go_wp2_with fail
              have back : ∀ (W : World) (o : Obj) (j : Nat), w.heap.size < W.heap.size → (W.alloc o).cell? ⟨w.heap.size, j, none⟩ = W.cell? ⟨w.heap.size, j, none⟩ := fun W o j h => World.cell?_alloc_lt W o _ h
              refine bodyPost_ret (v := .tuple #[.agg #[.int .i64 (n0 : Int), .int .i64 2, .int .i64 (n1 : Int), .int .i64 (n2 : Int), .int .i64 (n3 : Int), .int .i64 0], .bool true]) (by simp [results, Tryd.results41, go_sem, back, hszr, r0, r1, r2, r3, r4, r5]) rfl ⟨by rw [hgood.out]; rfl, ?_⟩
              exact below_drewN ((set6 hbel2 _ _ _ _ _ _).alloc (by simpa using Nat.le_of_lt hszr) _) 1
        · have hcb : ((ws.length : Int) != 5) = true := by simp; omega
          have hn : Hid (rowOf s.data.toList = none) := by
            show rowOf _ = none
            unfold rowOf; rw [← hws.out]
            exact row_count (by rw [HK.out]; simpa [toL, countK] using hcnt)
          have r := hres.out
          have ff : ∀ j, w1.frozen? ⟨w.heap.size, j, none⟩ = false := fun j => Lib.frozen_of_heap r j
          have r0 : w1.cell? ⟨w.heap.size, 0, none⟩ = some (.int .i64 0) := Lib.cell_of_heap r 0
          have r1 : w1.cell? ⟨w.heap.size, 1, none⟩ = some (.int .i64 0) := Lib.cell_of_heap r 1
          have r2 : w1.cell? ⟨w.heap.size, 2, none⟩ = some (.int .i64 0) := Lib.cell_of_heap r 2
          have r3 : w1.cell? ⟨w.heap.size, 3, none⟩ = some (.int .i64 0) := Lib.cell_of_heap r 3
          have r4 : w1.cell? ⟨w.heap.size, 4, none⟩ = some (.int .i64 0) := Lib.cell_of_heap r 4
          have r5 : w1.cell? ⟨w.heap.size, 5, none⟩ = some (.int .i64 0) := Lib.cell_of_heap r 5
          clear r hcnt
          go_wp2_with fail
          refine bodyPost_ret (v := .tuple #[zeroRow, .bool false]) (by simp [results, Tryd.results41, go_sem, r0, r1, r2, r3, r4, r5, zeroRow]) rfl ⟨by rw [hn.out]; rfl, ?_⟩
          exact set6 hbel _ _ _ _ _ _
    · obtain ⟨e3, E3⟩ : ∃ e3, Hid ((x1.toList == [116, 114, 97, 110, 115, 102, 101, 114]) = e3) := ⟨_, rfl⟩
      obtain ⟨e2, E2⟩ : ∃ e2, Hid ((x1.toList == [115, 117, 112, 112, 108, 121]) = e2) := ⟨_, rfl⟩
      have E1 := hide e1
      clear ff r0 r1 r2 r3 r4 r5
      have HK : Hid (kindW ((toL ws).getD 1 []) = 1) := by
        show kindW _ = 1
        rw [kind_of hx1]; simp [E1.out]
      by_cases hcnt : ws.length = 5
      · have hcb : ((ws.length : Int) != 5) = false := by simp [hcnt]
        have hle : ws.length ≤ 5 := by omega
        have hge : 5 ≤ ws.length := by omega
        have HCNT := hide hcnt
        clear hcnt
        go_wp2_with fail
        go_loopw [7, 39] (fun vn vi wr => ∃ (i : Nat) (ns : List Nat), i ≤ ws.length ∧ vi = .int .i64 i ∧ Got (toL ws) i ns ∧ wr.ownsRow w1.heap.size 2 1 vn ns.length (NS ns) ∧ Below w1.heap.size w1 wr) (fun _ vi _ => ws.length - (intOf vi).toNat)
        case atStart => exact ⟨0, [], by omega, rfl, Got.start _, World.ownsRow_nil _ _ _ _, Below.refl _ _⟩
        case round =>
          obtain ⟨i, ns, hik, rfl, hread, hown, hbr⟩ := hrel
          have hnl : ns.length ≤ 6 := by have := hread.2.1; split at this <;> omega
          have HR := hide hread
          clear hread
          have hbel2 : Below w.heap.size w wr := hbel.trans (hbr.mono (by omega))
          have hres' : wr.heap[w.heap.size]? = some (.cells #[.int .i64 0, .int .i64 0, .int .i64 0, .int .i64 0, .int .i64 0, .int .i64 0] 39 (0, 0)) := (hbr.block _ (by omega)).trans hres.out
          have ff : ∀ j, wr.frozen? ⟨w.heap.size, j, none⟩ = false := fun j => Lib.frozen_of_heap hres' j
          have r0 : wr.cell? ⟨w.heap.size, 0, none⟩ = some (.int .i64 0) := Lib.cell_of_heap hres' 0
          have r1 : wr.cell? ⟨w.heap.size, 1, none⟩ = some (.int .i64 0) := Lib.cell_of_heap hres' 1
          have r2 : wr.cell? ⟨w.heap.size, 2, none⟩ = some (.int .i64 0) := Lib.cell_of_heap hres' 2
          have r3 : wr.cell? ⟨w.heap.size, 3, none⟩ = some (.int .i64 0) := Lib.cell_of_heap hres' 3
          have r4 : wr.cell? ⟨w.heap.size, 4, none⟩ = some (.int .i64 0) := Lib.cell_of_heap hres' 4
          have r5 : wr.cell? ⟨w.heap.size, 5, none⟩ = some (.int .i64 0) := Lib.cell_of_heap hres' 5
          have HRES := Lib.hid hres'
          clear hres'
          by_cases hlt : i < ws.length
          · obtain ⟨x, hx⟩ : ∃ x, ws[i]? = some x := ⟨_, List.getElem?_eq_getElem hlt⟩
            have hcx : wr.cell? ⟨b, i, none⟩ = some (.string x) := (hbr.cell (p := ⟨b, i, none⟩) hbl).trans (hcell.out i x hx)
            have hxs : x.size ≤ 8192 := piece_le hws.out hx hs
            have HX := hide (toL_get hx)
            clear hx
            by_cases h1 : i = 1
            · subst h1
              clear ff r0 r1 r2 r3 r4 r5
              go_wp2_with fail
              go_roundw
              case rel => exact ⟨1 + 1, ns, by omega, by go_num, HR.out.skip HX.out, hown, hbr⟩
              case measure => simp [intOf]; omega
            · have h1b : ((i : Int) == 1) = false := by simp; omega
              cases hnum : numOf x.data.toList with
              | none =>
                have hn : Hid (rowOf s.data.toList = none) := by
                  show rowOf _ = none
                  unfold rowOf; rw [← hws.out]
                  exact row_nums (HR.out.bad HX.out hnum h1)
                have HN : Hid (NumRet (numOf x.data.toList) = .returned (.tuple #[.int .i64 0, .bool false])) := by
                  show NumRet _ = _
                  rw [hnum]; rfl
                clear hnum
                go_wp2_with (go_at_call 58; refine (number_any x _ hxs).mono ?_; rw [HN.out]; rintro e w' ⟨rfl, rfl⟩)
                refine bodyPost_ret (v := .tuple #[zeroRow, .bool false]) (by simp [results, Tryd.results41, go_sem, r0, r1, r2, r3, r4, r5, zeroRow]) rfl ⟨by rw [hn.out]; rfl, ?_⟩
                exact set6 hbel2 _ _ _ _ _ _
              | some n =>
                have HM := hide hnum
                have HN : Hid (NumRet (numOf x.data.toList) = .returned (.tuple #[.int .i64 (n : Int), .bool true])) := by
                  show NumRet _ = _
                  rw [hnum]; rfl
                clear hnum ff r0 r1 r2 r3 r4 r5
                go_wp2_with (first
                  | (go_at_call 58; refine (number_any x _ hxs).mono ?_; rw [HN.out]; rintro e w' ⟨rfl, rfl⟩)
                  | (at_builtin
                     refine wpList_append_own _ rfl (.tmp 54) (.tmp 56) 91 rfl w1.heap.size 2 i0 _ 1 8 Tryd.underlying91 hi hz0 hz1 hz2 rfl (by decide) _ _ _ rfl (hown.alloc _) ⟨wr.heap.size, 0, none⟩ 1 1 [.int .i64 (n : Int)] rfl rfl ?c1 ?c2 ?c3 ?c4 ?c5 ?_
                     case c1 => exact cells_new _ [.int .i64 (n : Int)] _
                     case c2 => simp [Value.oneCell']
                     case c3 => unfold maxLen; omega
                     case c4 => omega
                     case c5 => have := hbr.size; simp; omega
                     intro v2 w2 hown2 hg2 _))
                go_roundw
                case rel =>
                  refine ⟨i + 1, ns ++ [n], by omega, by go_num, HR.out.next HX.out HM.out h1, ?_, ?_⟩
                  · rw [List.length_append, NS_snoc]; exact hown2
                  · refine (hbr.alloc hbr.size _).grown hg2 (by have := hbr.size; simp; omega) ?_
                    intro g hg
                    exact (hown.lt g hg).1
                case measure => simp [intOf]; omega
          · obtain rfl : i = ws.length := by omega
            have hnl2 : ns.length = 4 := by
              have := HR.out.2.1
              rw [HCNT.out] at this
              simpa using this
            have hgood : Hid (rowOf s.data.toList = some (rowN 1 ns)) := by
              show rowOf _ = _
              unfold rowOf; rw [← hws.out]
              have htl : (toL ws).length = 5 := by simp [toL, HCNT.out]
              refine row_good (by omega) HK.out (by decide) (by rw [htl]; rfl) ?_
              have := HR.out
              have e : ws.length = (toL ws).length := by simp [toL]
              rw [e] at this
              exact this.done
            obtain ⟨n0, n1, n2, n3, rfl⟩ := four hnl2
            obtain ⟨g, cg, hA, hgb, hgl⟩ := hown.form (by simp)
            cases hA
            have q0 : wr.cell? ⟨g, 0, none⟩ = some (.int .i64 (n0 : Int)) := hown.cellAt 0 (by simp)
            have q1 : wr.cell? ⟨g, 1, none⟩ = some (.int .i64 (n1 : Int)) := hown.cellAt 1 (by simp)
            have q2 : wr.cell? ⟨g, 2, none⟩ = some (.int .i64 (n2 : Int)) := hown.cellAt 2 (by simp)
            have q3 : wr.cell? ⟨g, 3, none⟩ = some (.int .i64 (n3 : Int)) := hown.cellAt 3 (by simp)
            have hgne : g ≠ w.heap.size := by omega
            clear hown hgl HR
            have hlen : ([n0, n1, n2, n3] : List Nat).length = 4 := rfl
            rw [hlen]
            clear hlen
            have hszr : w.heap.size < wr.heap.size := Nat.lt_of_lt_of_le (by omega) hbr.size
            have h' := HRES.out
            have ff : ∀ j, wr.frozen? ⟨w.heap.size, j, none⟩ = false := fun j => Lib.frozen_of_heap h' j
            have r0 : wr.cell? ⟨w.heap.size, 0, none⟩ = some (.int .i64 0) := Lib.cell_of_heap h' 0
            have r1 : wr.cell? ⟨w.heap.size, 1, none⟩ = some (.int .i64 0) := Lib.cell_of_heap h' 1
            have r2 : wr.cell? ⟨w.heap.size, 2, none⟩ = some (.int .i64 0) := Lib.cell_of_heap h' 2
            have r3 : wr.cell? ⟨w.heap.size, 3, none⟩ = some (.int .i64 0) := Lib.cell_of_heap h' 3
            have r4 : wr.cell? ⟨w.heap.size, 4, none⟩ = some (.int .i64 0) := Lib.cell_of_heap h' 4
            have r5 : wr.cell? ⟨w.heap.size, 5, none⟩ = some (.int .i64 0) := Lib.cell_of_heap h' 5
            clear h'
            go_wp2_with fail
            go_region_held3 (fun w' => w'.cell? ⟨g, 0, none⟩ = some (.int .i64 (n0 : Int)) ∧ w'.cell? ⟨g, 1, none⟩ = some (.int .i64 (n1 : Int)) ∧ w'.cell? ⟨g, 2, none⟩ = some (.int .i64 (n2 : Int)) ∧ w'.cell? ⟨g, 3, none⟩ = some (.int .i64 (n3 : Int))) (go_keep) (fail)
            go_wp2_with fail
            have back : ∀ (W : World) (o : Obj) (j : Nat), w.heap.size < W.heap.size → (W.alloc o).cell? ⟨w.heap.size, j, none⟩ = W.cell? ⟨w.heap.size, j, none⟩ := fun W o j h => World.cell?_alloc_lt W o _ h
            refine bodyPost_ret (v := .tuple #[.agg #[.int .i64 (n0 : Int), .int .i64 1, .int .i64 (n1 : Int), .int .i64 (n2 : Int), .int .i64 (n3 : Int), .int .i64 0], .bool true]) (by simp [results, Tryd.results41, go_sem, back, hszr, r0, r1, r2, r3, r4, r5]) rfl ⟨by rw [hgood.out]; rfl, ?_⟩
            exact below_drewN ((set6 hbel2 _ _ _ _ _ _).alloc (by simpa using Nat.le_of_lt hszr) _) 1
      · have hcb : ((ws.length : Int) != 5) = true := by simp; omega
        have hn : Hid (rowOf s.data.toList = none) := by
          show rowOf _ = none
          unfold rowOf; rw [← hws.out]
          exact row_count (by rw [HK.out]; simpa [toL, countK] using hcnt)
        have r := hres.out
        have ff : ∀ j, w1.frozen? ⟨w.heap.size, j, none⟩ = false := fun j => Lib.frozen_of_heap r j
        have r0 : w1.cell? ⟨w.heap.size, 0, none⟩ = some (.int .i64 0) := Lib.cell_of_heap r 0
        have r1 : w1.cell? ⟨w.heap.size, 1, none⟩ = some (.int .i64 0) := Lib.cell_of_heap r 1
        have r2 : w1.cell? ⟨w.heap.size, 2, none⟩ = some (.int .i64 0) := Lib.cell_of_heap r 2
        have r3 : w1.cell? ⟨w.heap.size, 3, none⟩ = some (.int .i64 0) := Lib.cell_of_heap r 3
        have r4 : w1.cell? ⟨w.heap.size, 4, none⟩ = some (.int .i64 0) := Lib.cell_of_heap r 4
        have r5 : w1.cell? ⟨w.heap.size, 5, none⟩ = some (.int .i64 0) := Lib.cell_of_heap r 5
        clear r hcnt
        go_wp2_with fail
        refine bodyPost_ret (v := .tuple #[zeroRow, .bool false]) (by simp [results, Tryd.results41, go_sem, r0, r1, r2, r3, r4, r5, zeroRow]) rfl ⟨by rw [hn.out]; rfl, ?_⟩
        exact set6 hbel _ _ _ _ _ _
end Go.Proofs.YtkllpfijeglppaaDoor.HsR
