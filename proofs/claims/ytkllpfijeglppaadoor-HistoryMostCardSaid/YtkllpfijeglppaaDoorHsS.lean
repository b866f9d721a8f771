/- The walk of the reference's row. -/
import Derived.Test.YtkllpfijeglppaaDoorHsR
import Derived.Laws.Rows
namespace Go.Proofs.YtkllpfijeglppaaDoor.HsS
open Go.RowKit Hs HsB HsC HsD HsF HsG HsH HsE HsI HsJ HsK HsL HsM HsN HsO HsP HsQ HsR
/-- block g is just the cells cs -/
def Blk (w : World) (g : Nat) (t : TypeId) (cs : Array Value) : Prop := w.heap[g]? = some (.cells cs t (0, 0))
section
variable {w w' : World} {g : Nat} {t : TypeId} {cs : Array Value}
theorem Blk.lt (h : Blk w g t cs) : g < w.heap.size := by
  rcases Nat.lt_or_ge g w.heap.size with hlt | hge
  · exact hlt
  · unfold Blk at h; rw [Array.getElem?_eq_none hge] at h; cases h
theorem Blk.cell (h : Blk w g t cs) (i : Nat) : w.cell? ⟨g, i, none⟩ = cs[i]? := cell_of_row w g i cs t (0, 0) h
theorem Blk.frozen (h : Blk w g t cs) (i : Nat) : w.frozen? ⟨g, i, none⟩ = false := by
  unfold Blk at h
  simp [World.frozen?, h]
theorem Blk.new (w : World) (t : TypeId) (cs : Array Value) : Blk (w.alloc (.cells cs t)) w.heap.size t cs := heap_alloc_new w _
theorem Blk.drewN (h : Blk w g t cs) (n : Nat) : Blk (w.drewN n) g t cs := h
theorem Blk.alloc (h : Blk w g t cs) (o : Obj) : Blk (w.alloc o) g t cs := (Below.heap_alloc w o g h.lt).trans h
theorem Blk.set_ (h : Blk w g t cs) (i : Nat) (u : Value) : Blk (w.setCell ⟨g, i, none⟩ u) g t (cs.setIfInBounds i u) := by
  unfold Blk at h ⊢
  simp [World.setCell, Array.getElem?_modify, h]
theorem Blk.far (h : Blk w g t cs) {p : Addr} (hp : g ≠ p.block) (u : Value) : Blk (w.setCell p u) g t cs := (Below.heap_setCell w p u g hp).trans h
theorem Blk.below {B : Nat} (h : Blk w g t cs) (hb : Below B w w') (hg : g < B) : Blk w' g t cs := (hb.block g hg).trans h
theorem Blk.grown {row : Option Nat} (h : Blk w g t cs) (hb : w.grownBy w' row) (hg : some g ≠ row) : Blk w' g t cs := (hb.block g h.lt hg).trans h
end
def arrV (ns : List Nat) : Array Value := #[.int .i64 (ns.getD 0 0 : Nat), .int .i64 0, .int .i64 (ns.getD 1 0 : Nat), .int .i64 (ns.getD 2 0 : Nat), .int .i64 (ns.getD 3 0 : Nat), .int .i64 (ns.getD 4 0 : Nat)]
theorem arrV_set {ns : List Nat} {i n : Nat} (h : ns.length = (if i ≤ 1 then i else i - 1)) (h1 : i ≠ 1) (h5 : i ≤ 5) : (arrV ns).setIfInBounds i (.int .i64 (n : Int)) = arrV (ns ++ [n]) := by
  rcases (by omega : i = 0 ∨ i = 2 ∨ i = 3 ∨ i = 4 ∨ i = 5) with rfl | rfl | rfl | rfl | rfl
  · match ns, h with
    | [], _ => rfl
  · match ns, h with
    | [_], _ => rfl
  · match ns, h with
    | [_, _], _ => rfl
  · match ns, h with
    | [_, _, _], _ => rfl
  · match ns, h with
    | [_, _, _, _], _ => rfl
theorem arrV_get (ns : List Nat) {i : Nat} (h : i < 6) : ∃ v, (arrV ns)[i]? = some v := ⟨_, Array.getElem?_eq_getElem (by simpa [arrV] using h)⟩
theorem set6g {w w1 : World} {B g : Nat} (h : Below B w w1) (hg : B ≤ g) (a b c d e f : Value) :
    Below B w ((((((w1.setCell ⟨g, 0, none⟩ a).setCell ⟨g, 1, none⟩ b).setCell ⟨g, 2, none⟩ c).setCell ⟨g, 3, none⟩ d).setCell ⟨g, 4, none⟩ e).setCell ⟨g, 5, none⟩ f) :=
  (((((h.setCell (p := ⟨g, 0, none⟩) hg a).setCell (p := ⟨g, 1, none⟩) hg b).setCell (p := ⟨g, 2, none⟩) hg c).setCell (p := ⟨g, 3, none⟩) hg d).setCell (p := ⟨g, 4, none⟩) hg e).setCell (p := ⟨g, 5, none⟩) hg f
def zs : Array Value := #[.int .i64 0, .int .i64 0, .int .i64 0, .int .i64 0, .int .i64 0, .int .i64 0]
def kz (k : Int) : Array Value := #[.int .i64 0, .int .i64 k, .int .i64 0, .int .i64 0, .int .i64 0, .int .i64 0]
set_option maxHeartbeats 4000000 in
set_option maxRecDepth 100000 in
theorem row_any (s : ByteArray) (w : World) (hs : s.size ≤ 8192) :
    Calls Tryd.prog 55 #[.string s] w fun e w' => e = RowRet (rowOf s.data.toList) ∧ Below w.heap.size w w' := by
  go_enter Tryd.func55, Tryd.ntmps55
  go_wp2_with fail
  refine (rwords_any s _ hs).mono ?_
  rintro e w1 ⟨⟨ws, A, c, rfl, hws, hwl, hsz, b, rfl, hbl, hcell⟩, hb1⟩
  have hsz1 := hsz
  simp at hsz1
  have hbel : Below w.heap.size w w1 := ((Below.refl _ _).alloc (Nat.le_refl _) _).trans (hb1.mono (by simp))
  have hres : Blk w1 w.heap.size 39 zs := by
    unfold Blk
    rw [hb1.block w.heap.size (by simp)]
    exact heap_alloc_new w _
  have ff := hres.frozen
  have r0 : w1.cell? ⟨w.heap.size, 0, none⟩ = some (.int .i64 0) := hres.cell 0
  have r1 : w1.cell? ⟨w.heap.size, 1, none⟩ = some (.int .i64 0) := hres.cell 1
  have r2 : w1.cell? ⟨w.heap.size, 2, none⟩ = some (.int .i64 0) := hres.cell 2
  have r3 : w1.cell? ⟨w.heap.size, 3, none⟩ = some (.int .i64 0) := hres.cell 3
  have r4 : w1.cell? ⟨w.heap.size, 4, none⟩ = some (.int .i64 0) := hres.cell 4
  have r5 : w1.cell? ⟨w.heap.size, 5, none⟩ = some (.int .i64 0) := hres.cell 5
  have back : ∀ (W : World) (o : Obj) (j : Nat), w.heap.size < W.heap.size → (W.alloc o).cell? ⟨w.heap.size, j, none⟩ = W.cell? ⟨w.heap.size, j, none⟩ := fun W o j h => World.cell?_alloc_lt W o _ h
  have BACK := Lib.hid back
  clear back
  have hszr : w.heap.size < w1.heap.size := by omega
  by_cases h5 : ws.length < 5
  · have hn : Hid (rowOf s.data.toList = none) := by
      show rowOf _ = none
      unfold rowOf; rw [← hws]
      exact row_short (by simpa [toL] using h5)
    go_wp2_with fail
    refine bodyPost_ret (v := .tuple #[zeroRow, .bool false]) (by simp [results, Tryd.results55, go_sem, r0, r1, r2, r3, r4, r5, zeroRow]) rfl ⟨by rw [hn.out]; rfl, ?_⟩
    exact set6 hbel _ _ _ _ _ _
  · obtain ⟨x1, hx1⟩ : ∃ x, ws[1]? = some x := ⟨_, List.getElem?_eq_getElem (by omega)⟩
    have hc1 : w1.cell? ⟨b, 1, none⟩ = some (.string x1) := hcell 1 x1 hx1
    replace hcell := hide hcell
    replace hws := hide hws
    replace hres := Lib.hid hres
    cases e1 : (x1.toList == [112, 97, 121, 109, 101, 110, 116])
    · cases e2 : (x1.toList == [115, 117, 112, 112, 108, 121])
      · cases e3 : (x1.toList == [116, 114, 97, 110, 115, 102, 101, 114])
        · have hn : Hid (rowOf s.data.toList = none) := by
            show rowOf _ = none
            unfold rowOf; rw [← hws.out]
            exact row_kind (by rw [kind_of hx1, e1, e2, e3]; rfl)
          go_wp2_with fail
          have back := BACK.out
          refine bodyPost_ret (v := .tuple #[zeroRow, .bool false]) (by simp [results, Tryd.results55, go_sem, back, hszr, r0, r1, r2, r3, r4, r5, zeroRow]) rfl ⟨by rw [hn.out]; rfl, ?_⟩
          exact (set6 hbel _ _ _ _ _ _).alloc (by simpa using Nat.le_of_lt hszr) _
        · have E1 := hide e1
          have E2 := hide e2
          have E3 := hide e3
          have HK : Hid (kindW ((toL ws).getD 1 []) = 3) := by
            show kindW _ = 3
            rw [kind_of hx1]; simp [E1.out, E2.out, E3.out]
          by_cases hcnt : ws.length = 6
          · have hcb : ((ws.length : Int) != 6) = false := by simp [hcnt]
            have hle : ws.length ≤ 6 := by omega
            have hge : 6 ≤ ws.length := by omega
            have HCNT := hide hcnt
            clear hcnt r0 r1 r2 r3 r4 r5
            go_wp2_with fail
            go_loopw [7] (fun vi wr => ∃ (i : Nat) (ns : List Nat), i ≤ ws.length ∧ vi = .int .i64 i ∧ Got (toL ws) i ns ∧ Blk wr w.heap.size 39 zs ∧ Blk wr w1.heap.size 39 (kz 3) ∧ Blk wr (w1.heap.size + 1) 108 (arrV ns) ∧ Below w1.heap.size w1 wr) (fun vi _ => ws.length - (intOf vi).toNat)
            case atStart =>
              have hn1 := Blk.new w1 39 (kz 3)
              have hn2 := Blk.new (w1.alloc (.cells (kz 3) 39)) 108 zs
              rw [show (w1.alloc (.cells (kz 3) 39)).heap.size = w1.heap.size + 1 by simp] at hn2
              exact ⟨0, [], by omega, rfl, Got.start _, (hres.out.alloc _).alloc _, hn1.alloc _, hn2, ((Below.refl _ _).alloc (Nat.le_refl _) _).alloc (by simp) _⟩
            case round =>
              obtain ⟨i, ns, hik, rfl, hread, hB1, hB2, hB3, hbr⟩ := hrel
              have hnl : ns.length ≤ 6 := by have := hread.2.1; split at this <;> omega
              have HR := hide hread
              clear hread
              have hbel2 : Below w.heap.size w wr := hbel.trans (hbr.mono (by omega))
              have H1 := Lib.hid hB1
              have H2 := Lib.hid hB2
              have H3 := Lib.hid hB3
              clear hB1 hB2 hB3
              by_cases hlt : i < ws.length
              · obtain ⟨x, hx⟩ : ∃ x, ws[i]? = some x := ⟨_, List.getElem?_eq_getElem hlt⟩
                have hcx : wr.cell? ⟨b, i, none⟩ = some (.string x) := (hbr.cell (p := ⟨b, i, none⟩) hbl).trans (hcell.out i x hx)
                have hxs : x.size ≤ 8192 := piece_le hws.out hx hs
                have HX := hide (toL_get hx)
                clear hx
                by_cases h1 : i = 1
                · subst h1
                  go_wp2_with fail
                  go_roundw
                  case rel => exact ⟨1 + 1, ns, by omega, by go_num, HR.out.skip HX.out, H1.out, H2.out, H3.out, hbr⟩
                  case measure => simp [intOf]; omega
                · have h1b : ((i : Int) == 1) = false := by simp; omega
                  cases hnum : numOf x.data.toList with
                  | none =>
                    have hn : Hid (rowOf s.data.toList = none) := by
                      show rowOf _ = none
                      unfold rowOf; rw [← hws.out]
                      exact row_nums (HR.out.bad HX.out hnum h1)
                    have HN : Hid (NumRet (numOf x.data.toList) = .returned (.tuple #[.int .i64 0, .bool false])) := by
                      show NumRet _ = _
                      rw [hnum]; rfl
                    clear hnum
                    have ff := H1.out.frozen
                    have r0 : wr.cell? ⟨w.heap.size, 0, none⟩ = some (.int .i64 0) := H1.out.cell 0
                    have r1 : wr.cell? ⟨w.heap.size, 1, none⟩ = some (.int .i64 0) := H1.out.cell 1
                    have r2 : wr.cell? ⟨w.heap.size, 2, none⟩ = some (.int .i64 0) := H1.out.cell 2
                    have r3 : wr.cell? ⟨w.heap.size, 3, none⟩ = some (.int .i64 0) := H1.out.cell 3
                    have r4 : wr.cell? ⟨w.heap.size, 4, none⟩ = some (.int .i64 0) := H1.out.cell 4
                    have r5 : wr.cell? ⟨w.heap.size, 5, none⟩ = some (.int .i64 0) := H1.out.cell 5
                    go_wp2_with (go_at_call 64; refine (rnumber_any x _ hxs).mono ?_; rw [HN.out]; rintro e w' ⟨rfl, rfl⟩)
                    refine bodyPost_ret (v := .tuple #[zeroRow, .bool false]) (by simp [results, Tryd.results55, go_sem, r0, r1, r2, r3, r4, r5, zeroRow]) rfl ⟨by rw [hn.out]; rfl, ?_⟩
                    exact set6 hbel2 _ _ _ _ _ _
                  | some n =>
                    have HM := hide hnum
                    have HN : Hid (NumRet (numOf x.data.toList) = .returned (.tuple #[.int .i64 (n : Int), .bool true])) := by
                      show NumRet _ = _
                      rw [hnum]; rfl
                    clear hnum
                    obtain ⟨ov, hov⟩ := arrV_get ns (i := i) (by omega)
                    have hoc : wr.cell? ⟨w1.heap.size + 1, i, none⟩ = some ov := (H3.out.cell i).trans hov
                    have hof : wr.frozen? ⟨w1.heap.size + 1, i, none⟩ = false := H3.out.frozen i
                    have hi6 : (i : Int) < 6 := by omega
                    clear hov
                    go_wp2_with (go_at_call 64; refine (rnumber_any x _ hxs).mono ?_; rw [HN.out]; rintro e w' ⟨rfl, rfl⟩)
                    go_roundw
                    case rel =>
                      refine ⟨i + 1, ns ++ [n], by omega, by go_num, HR.out.next HX.out HM.out h1, H1.out.far (by show w.heap.size ≠ w1.heap.size + 1; omega) _, H2.out.far (by show w1.heap.size ≠ w1.heap.size + 1; omega) _, ?_, hbr.setCell (p := ⟨w1.heap.size + 1, i, none⟩) (by show w1.heap.size ≤ w1.heap.size + 1; omega) _⟩
                      rw [← arrV_set HR.out.2.1 h1 (by omega)]
                      exact H3.out.set_ _ _
                    case measure => simp [intOf]; omega
              · obtain rfl : i = ws.length := by omega
                have hnl2 : ns.length = 5 := by
                  have := HR.out.2.1
                  rw [HCNT.out] at this
                  simpa using this
                have hgood : Hid (rowOf s.data.toList = some (rowN 3 ns)) := by
                  show rowOf _ = _
                  unfold rowOf; rw [← hws.out]
                  have htl : (toL ws).length = 6 := by simp [toL, HCNT.out]
                  refine row_good (by omega) HK.out (by decide) (by rw [htl]; rfl) ?_
                  have := HR.out
                  have e : ws.length = (toL ws).length := by simp [toL]
                  rw [e] at this
                  exact this.done
                obtain ⟨n0, n1, n2, n3, n4, rfl⟩ := five_of hnl2
                have ff := H1.out.frozen
                have r0 : wr.cell? ⟨w.heap.size, 0, none⟩ = some (.int .i64 0) := H1.out.cell 0
                have r1 : wr.cell? ⟨w.heap.size, 1, none⟩ = some (.int .i64 0) := H1.out.cell 1
                have r2 : wr.cell? ⟨w.heap.size, 2, none⟩ = some (.int .i64 0) := H1.out.cell 2
                have r3 : wr.cell? ⟨w.heap.size, 3, none⟩ = some (.int .i64 0) := H1.out.cell 3
                have r4 : wr.cell? ⟨w.heap.size, 4, none⟩ = some (.int .i64 0) := H1.out.cell 4
                have r5 : wr.cell? ⟨w.heap.size, 5, none⟩ = some (.int .i64 0) := H1.out.cell 5
                have kf := H2.out.frozen
                have k0 : wr.cell? ⟨w1.heap.size, 0, none⟩ = some (.int .i64 0) := H2.out.cell 0
                have k1 : wr.cell? ⟨w1.heap.size, 1, none⟩ = some (.int .i64 3) := H2.out.cell 1
                have k2 : wr.cell? ⟨w1.heap.size, 2, none⟩ = some (.int .i64 0) := H2.out.cell 2
                have k3 : wr.cell? ⟨w1.heap.size, 3, none⟩ = some (.int .i64 0) := H2.out.cell 3
                have k4 : wr.cell? ⟨w1.heap.size, 4, none⟩ = some (.int .i64 0) := H2.out.cell 4
                have k5 : wr.cell? ⟨w1.heap.size, 5, none⟩ = some (.int .i64 0) := H2.out.cell 5
                have q0 : wr.cell? ⟨w1.heap.size + 1, 0, none⟩ = some (.int .i64 (n0 : Int)) := H3.out.cell 0
                have q2 : wr.cell? ⟨w1.heap.size + 1, 2, none⟩ = some (.int .i64 (n1 : Int)) := H3.out.cell 2
                have q3 : wr.cell? ⟨w1.heap.size + 1, 3, none⟩ = some (.int .i64 (n2 : Int)) := H3.out.cell 3
                have q4 : wr.cell? ⟨w1.heap.size + 1, 4, none⟩ = some (.int .i64 (n3 : Int)) := H3.out.cell 4
                have q5 : wr.cell? ⟨w1.heap.size + 1, 5, none⟩ = some (.int .i64 (n4 : Int)) := H3.out.cell 5
                have hne : w.heap.size ≠ w1.heap.size := by omega
                have hne' : w1.heap.size ≠ w.heap.size := by omega
                clear HR
                go_wp2_with fail
                refine bodyPost_ret (v := .tuple #[.agg #[.int .i64 (n0 : Int), .int .i64 3, .int .i64 (n1 : Int), .int .i64 (n2 : Int), .int .i64 (n3 : Int), .int .i64 (n4 : Int)], .bool true]) (by simp [results, Tryd.results55, go_sem, r0, r1, r2, r3, r4, r5]) rfl ⟨by rw [hgood.out]; rfl, ?_⟩
                exact set6 (((((hbel2.setCell (p := ⟨w1.heap.size, 0, none⟩) (Nat.le_of_lt hszr) _).setCell (p := ⟨w1.heap.size, 2, none⟩) (Nat.le_of_lt hszr) _).setCell (p := ⟨w1.heap.size, 3, none⟩) (Nat.le_of_lt hszr) _).setCell (p := ⟨w1.heap.size, 4, none⟩) (Nat.le_of_lt hszr) _).setCell (p := ⟨w1.heap.size, 5, none⟩) (Nat.le_of_lt hszr) _) _ _ _ _ _ _
          · have hcb : ((ws.length : Int) != 6) = true := by simp; omega
            have hn : Hid (rowOf s.data.toList = none) := by
              show rowOf _ = none
              unfold rowOf; rw [← hws.out]
              exact row_count (by rw [HK.out]; simpa [toL, countK] using hcnt)
            clear hcnt
            go_wp2_with fail
            have back := BACK.out
            refine bodyPost_ret (v := .tuple #[zeroRow, .bool false]) (by simp [results, Tryd.results55, go_sem, back, hszr, r0, r1, r2, r3, r4, r5, zeroRow]) rfl ⟨by rw [hn.out]; rfl, ?_⟩
            exact (set6 hbel _ _ _ _ _ _).alloc (by simpa using Nat.le_of_lt hszr) _
      · obtain ⟨e3, E3⟩ : ∃ e3, Hid ((x1.toList == [116, 114, 97, 110, 115, 102, 101, 114]) = e3) := ⟨_, rfl⟩
        have E1 := hide e1
        have E2 := hide e2
        have HK : Hid (kindW ((toL ws).getD 1 []) = 2) := by
          show kindW _ = 2
          rw [kind_of hx1]; simp [E1.out, E2.out]
        by_cases hcnt : ws.length = 5
        · have hcb : ((ws.length : Int) != 5) = false := by simp [hcnt]
          have hle : ws.length ≤ 5 := by omega
          have hge : 5 ≤ ws.length := by omega
          have HCNT := hide hcnt
          clear hcnt r0 r1 r2 r3 r4 r5
          go_wp2_with fail
          go_loopw [7] (fun vi wr => ∃ (i : Nat) (ns : List Nat), i ≤ ws.length ∧ vi = .int .i64 i ∧ Got (toL ws) i ns ∧ Blk wr w.heap.size 39 zs ∧ Blk wr w1.heap.size 39 (kz 2) ∧ Blk wr (w1.heap.size + 1) 108 (arrV ns) ∧ Below w1.heap.size w1 wr) (fun vi _ => ws.length - (intOf vi).toNat)
          case atStart =>
            have hn1 := Blk.new w1 39 (kz 2)
            have hn2 := Blk.new (w1.alloc (.cells (kz 2) 39)) 108 zs
            rw [show (w1.alloc (.cells (kz 2) 39)).heap.size = w1.heap.size + 1 by simp] at hn2
            exact ⟨0, [], by omega, rfl, Got.start _, (hres.out.alloc _).alloc _, hn1.alloc _, hn2, ((Below.refl _ _).alloc (Nat.le_refl _) _).alloc (by simp) _⟩
          case round =>
            obtain ⟨i, ns, hik, rfl, hread, hB1, hB2, hB3, hbr⟩ := hrel
            have hnl : ns.length ≤ 6 := by have := hread.2.1; split at this <;> omega
            have HR := hide hread
            clear hread
            have hbel2 : Below w.heap.size w wr := hbel.trans (hbr.mono (by omega))
            have H1 := Lib.hid hB1
            have H2 := Lib.hid hB2
            have H3 := Lib.hid hB3
            clear hB1 hB2 hB3
            by_cases hlt : i < ws.length
            · obtain ⟨x, hx⟩ : ∃ x, ws[i]? = some x := ⟨_, List.getElem?_eq_getElem hlt⟩
              have hcx : wr.cell? ⟨b, i, none⟩ = some (.string x) := (hbr.cell (p := ⟨b, i, none⟩) hbl).trans (hcell.out i x hx)
              have hxs : x.size ≤ 8192 := piece_le hws.out hx hs
              have HX := hide (toL_get hx)
              clear hx
              by_cases h1 : i = 1
              · subst h1
                go_wp2_with fail
                go_roundw
                case rel => exact ⟨1 + 1, ns, by omega, by go_num, HR.out.skip HX.out, H1.out, H2.out, H3.out, hbr⟩
                case measure => simp [intOf]; omega
              · have h1b : ((i : Int) == 1) = false := by simp; omega
                cases hnum : numOf x.data.toList with
                | none =>
                  have hn : Hid (rowOf s.data.toList = none) := by
                    show rowOf _ = none
                    unfold rowOf; rw [← hws.out]
                    exact row_nums (HR.out.bad HX.out hnum h1)
                  have HN : Hid (NumRet (numOf x.data.toList) = .returned (.tuple #[.int .i64 0, .bool false])) := by
                    show NumRet _ = _
                    rw [hnum]; rfl
                  clear hnum
                  have ff := H1.out.frozen
                  have r0 : wr.cell? ⟨w.heap.size, 0, none⟩ = some (.int .i64 0) := H1.out.cell 0
                  have r1 : wr.cell? ⟨w.heap.size, 1, none⟩ = some (.int .i64 0) := H1.out.cell 1
                  have r2 : wr.cell? ⟨w.heap.size, 2, none⟩ = some (.int .i64 0) := H1.out.cell 2
                  have r3 : wr.cell? ⟨w.heap.size, 3, none⟩ = some (.int .i64 0) := H1.out.cell 3
                  have r4 : wr.cell? ⟨w.heap.size, 4, none⟩ = some (.int .i64 0) := H1.out.cell 4
                  have r5 : wr.cell? ⟨w.heap.size, 5, none⟩ = some (.int .i64 0) := H1.out.cell 5
                  go_wp2_with (go_at_call 64; refine (rnumber_any x _ hxs).mono ?_; rw [HN.out]; rintro e w' ⟨rfl, rfl⟩)
                  refine bodyPost_ret (v := .tuple #[zeroRow, .bool false]) (by simp [results, Tryd.results55, go_sem, r0, r1, r2, r3, r4, r5, zeroRow]) rfl ⟨by rw [hn.out]; rfl, ?_⟩
                  exact set6 hbel2 _ _ _ _ _ _
                | some n =>
                  have HM := hide hnum
                  have HN : Hid (NumRet (numOf x.data.toList) = .returned (.tuple #[.int .i64 (n : Int), .bool true])) := by
                    show NumRet _ = _
                    rw [hnum]; rfl
                  clear hnum
                  obtain ⟨ov, hov⟩ := arrV_get ns (i := i) (by omega)
                  have hoc : wr.cell? ⟨w1.heap.size + 1, i, none⟩ = some ov := (H3.out.cell i).trans hov
                  have hof : wr.frozen? ⟨w1.heap.size + 1, i, none⟩ = false := H3.out.frozen i
                  have hi6 : (i : Int) < 6 := by omega
                  clear hov
                  go_wp2_with (go_at_call 64; refine (rnumber_any x _ hxs).mono ?_; rw [HN.out]; rintro e w' ⟨rfl, rfl⟩)
                  go_roundw
                  case rel =>
                    refine ⟨i + 1, ns ++ [n], by omega, by go_num, HR.out.next HX.out HM.out h1, H1.out.far (by show w.heap.size ≠ w1.heap.size + 1; omega) _, H2.out.far (by show w1.heap.size ≠ w1.heap.size + 1; omega) _, ?_, hbr.setCell (p := ⟨w1.heap.size + 1, i, none⟩) (by show w1.heap.size ≤ w1.heap.size + 1; omega) _⟩
                    rw [← arrV_set HR.out.2.1 h1 (by omega)]
                    exact H3.out.set_ _ _
                  case measure => simp [intOf]; omega
            · obtain rfl : i = ws.length := by omega
              have hnl2 : ns.length = 4 := by
                have := HR.out.2.1
                rw [HCNT.out] at this
                simpa using this
              have hgood : Hid (rowOf s.data.toList = some (rowN 2 ns)) := by
                show rowOf _ = _
                unfold rowOf; rw [← hws.out]
                have htl : (toL ws).length = 5 := by simp [toL, HCNT.out]
                refine row_good (by omega) HK.out (by decide) (by rw [htl]; rfl) ?_
                have := HR.out
                have e : ws.length = (toL ws).length := by simp [toL]
                rw [e] at this
                exact this.done
              obtain ⟨n0, n1, n2, n3, rfl⟩ := four hnl2
              have ff := H1.out.frozen
              have r0 : wr.cell? ⟨w.heap.size, 0, none⟩ = some (.int .i64 0) := H1.out.cell 0
              have r1 : wr.cell? ⟨w.heap.size, 1, none⟩ = some (.int .i64 0) := H1.out.cell 1
              have r2 : wr.cell? ⟨w.heap.size, 2, none⟩ = some (.int .i64 0) := H1.out.cell 2
              have r3 : wr.cell? ⟨w.heap.size, 3, none⟩ = some (.int .i64 0) := H1.out.cell 3
              have r4 : wr.cell? ⟨w.heap.size, 4, none⟩ = some (.int .i64 0) := H1.out.cell 4
              have r5 : wr.cell? ⟨w.heap.size, 5, none⟩ = some (.int .i64 0) := H1.out.cell 5
              have kf := H2.out.frozen
              have k0 : wr.cell? ⟨w1.heap.size, 0, none⟩ = some (.int .i64 0) := H2.out.cell 0
              have k1 : wr.cell? ⟨w1.heap.size, 1, none⟩ = some (.int .i64 2) := H2.out.cell 1
              have k2 : wr.cell? ⟨w1.heap.size, 2, none⟩ = some (.int .i64 0) := H2.out.cell 2
              have k3 : wr.cell? ⟨w1.heap.size, 3, none⟩ = some (.int .i64 0) := H2.out.cell 3
              have k4 : wr.cell? ⟨w1.heap.size, 4, none⟩ = some (.int .i64 0) := H2.out.cell 4
              have k5 : wr.cell? ⟨w1.heap.size, 5, none⟩ = some (.int .i64 0) := H2.out.cell 5
              have q0 : wr.cell? ⟨w1.heap.size + 1, 0, none⟩ = some (.int .i64 (n0 : Int)) := H3.out.cell 0
              have q2 : wr.cell? ⟨w1.heap.size + 1, 2, none⟩ = some (.int .i64 (n1 : Int)) := H3.out.cell 2
              have q3 : wr.cell? ⟨w1.heap.size + 1, 3, none⟩ = some (.int .i64 (n2 : Int)) := H3.out.cell 3
              have q4 : wr.cell? ⟨w1.heap.size + 1, 4, none⟩ = some (.int .i64 (n3 : Int)) := H3.out.cell 4
              have q5 : wr.cell? ⟨w1.heap.size + 1, 5, none⟩ = some (.int .i64 0) := H3.out.cell 5
              have hne : w.heap.size ≠ w1.heap.size := by omega
              have hne' : w1.heap.size ≠ w.heap.size := by omega
              clear HR
              go_wp2_with fail
              refine bodyPost_ret (v := .tuple #[.agg #[.int .i64 (n0 : Int), .int .i64 2, .int .i64 (n1 : Int), .int .i64 (n2 : Int), .int .i64 (n3 : Int), .int .i64 0], .bool true]) (by simp [results, Tryd.results55, go_sem, r0, r1, r2, r3, r4, r5]) rfl ⟨by rw [hgood.out]; rfl, ?_⟩
              exact set6 (((((hbel2.setCell (p := ⟨w1.heap.size, 0, none⟩) (Nat.le_of_lt hszr) _).setCell (p := ⟨w1.heap.size, 2, none⟩) (Nat.le_of_lt hszr) _).setCell (p := ⟨w1.heap.size, 3, none⟩) (Nat.le_of_lt hszr) _).setCell (p := ⟨w1.heap.size, 4, none⟩) (Nat.le_of_lt hszr) _).setCell (p := ⟨w1.heap.size, 5, none⟩) (Nat.le_of_lt hszr) _) _ _ _ _ _ _
        · have hcb : ((ws.length : Int) != 5) = true := by simp; omega
          have hn : Hid (rowOf s.data.toList = none) := by
            show rowOf _ = none
            unfold rowOf; rw [← hws.out]
            exact row_count (by rw [HK.out]; simpa [toL, countK] using hcnt)
          clear hcnt
          go_wp2_with fail
          have back := BACK.out
          refine bodyPost_ret (v := .tuple #[zeroRow, .bool false]) (by simp [results, Tryd.results55, go_sem, back, hszr, r0, r1, r2, r3, r4, r5, zeroRow]) rfl ⟨by rw [hn.out]; rfl, ?_⟩
          exact (set6 hbel _ _ _ _ _ _).alloc (by simpa using Nat.le_of_lt hszr) _
    · obtain ⟨e3, E3⟩ : ∃ e3, Hid ((x1.toList == [116, 114, 97, 110, 115, 102, 101, 114]) = e3) := ⟨_, rfl⟩
      obtain ⟨e2, E2⟩ : ∃ e2, Hid ((x1.toList == [115, 117, 112, 112, 108, 121]) = e2) := ⟨_, rfl⟩
      have E1 := hide e1
      have HK : Hid (kindW ((toL ws).getD 1 []) = 1) := by
        show kindW _ = 1
        rw [kind_of hx1]; simp [E1.out]
      by_cases hcnt : ws.length = 5
      · have hcb : ((ws.length : Int) != 5) = false := by simp [hcnt]
        have hle : ws.length ≤ 5 := by omega
        have hge : 5 ≤ ws.length := by omega
        have HCNT := hide hcnt
        clear hcnt r0 r1 r2 r3 r4 r5
        go_wp2_with fail
        go_loopw [7] (fun vi wr => ∃ (i : Nat) (ns : List Nat), i ≤ ws.length ∧ vi = .int .i64 i ∧ Got (toL ws) i ns ∧ Blk wr w.heap.size 39 zs ∧ Blk wr w1.heap.size 39 (kz 1) ∧ Blk wr (w1.heap.size + 1) 108 (arrV ns) ∧ Below w1.heap.size w1 wr) (fun vi _ => ws.length - (intOf vi).toNat)
        case atStart =>
          have hn1 := Blk.new w1 39 (kz 1)
          have hn2 := Blk.new (w1.alloc (.cells (kz 1) 39)) 108 zs
          rw [show (w1.alloc (.cells (kz 1) 39)).heap.size = w1.heap.size + 1 by simp] at hn2
          exact ⟨0, [], by omega, rfl, Got.start _, (hres.out.alloc _).alloc _, hn1.alloc _, hn2, ((Below.refl _ _).alloc (Nat.le_refl _) _).alloc (by simp) _⟩
        case round =>
          obtain ⟨i, ns, hik, rfl, hread, hB1, hB2, hB3, hbr⟩ := hrel
          have hnl : ns.length ≤ 6 := by have := hread.2.1; split at this <;> omega
          have HR := hide hread
          clear hread
          have hbel2 : Below w.heap.size w wr := hbel.trans (hbr.mono (by omega))
          have H1 := Lib.hid hB1
          have H2 := Lib.hid hB2
          have H3 := Lib.hid hB3
          clear hB1 hB2 hB3
          by_cases hlt : i < ws.length
          · obtain ⟨x, hx⟩ : ∃ x, ws[i]? = some x := ⟨_, List.getElem?_eq_getElem hlt⟩
            have hcx : wr.cell? ⟨b, i, none⟩ = some (.string x) := (hbr.cell (p := ⟨b, i, none⟩) hbl).trans (hcell.out i x hx)
            have hxs : x.size ≤ 8192 := piece_le hws.out hx hs
            have HX := hide (toL_get hx)
            clear hx
            by_cases h1 : i = 1
            · subst h1
              go_wp2_with fail
              go_roundw
              case rel => exact ⟨1 + 1, ns, by omega, by go_num, HR.out.skip HX.out, H1.out, H2.out, H3.out, hbr⟩
              case measure => simp [intOf]; omega
            · have h1b : ((i : Int) == 1) = false := by simp; omega
              cases hnum : numOf x.data.toList with
              | none =>
                have hn : Hid (rowOf s.data.toList = none) := by
                  show rowOf _ = none
                  unfold rowOf; rw [← hws.out]
                  exact row_nums (HR.out.bad HX.out hnum h1)
                have HN : Hid (NumRet (numOf x.data.toList) = .returned (.tuple #[.int .i64 0, .bool false])) := by
                  show NumRet _ = _
                  rw [hnum]; rfl
                clear hnum
                have ff := H1.out.frozen
                have r0 : wr.cell? ⟨w.heap.size, 0, none⟩ = some (.int .i64 0) := H1.out.cell 0
                have r1 : wr.cell? ⟨w.heap.size, 1, none⟩ = some (.int .i64 0) := H1.out.cell 1
                have r2 : wr.cell? ⟨w.heap.size, 2, none⟩ = some (.int .i64 0) := H1.out.cell 2
                have r3 : wr.cell? ⟨w.heap.size, 3, none⟩ = some (.int .i64 0) := H1.out.cell 3
                have r4 : wr.cell? ⟨w.heap.size, 4, none⟩ = some (.int .i64 0) := H1.out.cell 4
                have r5 : wr.cell? ⟨w.heap.size, 5, none⟩ = some (.int .i64 0) := H1.out.cell 5
                go_wp2_with (go_at_call 64; refine (rnumber_any x _ hxs).mono ?_; rw [HN.out]; rintro e w' ⟨rfl, rfl⟩)
                refine bodyPost_ret (v := .tuple #[zeroRow, .bool false]) (by simp [results, Tryd.results55, go_sem, r0, r1, r2, r3, r4, r5, zeroRow]) rfl ⟨by rw [hn.out]; rfl, ?_⟩
                exact set6 hbel2 _ _ _ _ _ _
              | some n =>
                have HM := hide hnum
                have HN : Hid (NumRet (numOf x.data.toList) = .returned (.tuple #[.int .i64 (n : Int), .bool true])) := by
                  show NumRet _ = _
                  rw [hnum]; rfl
                clear hnum
                obtain ⟨ov, hov⟩ := arrV_get ns (i := i) (by omega)
                have hoc : wr.cell? ⟨w1.heap.size + 1, i, none⟩ = some ov := (H3.out.cell i).trans hov
                have hof : wr.frozen? ⟨w1.heap.size + 1, i, none⟩ = false := H3.out.frozen i
                have hi6 : (i : Int) < 6 := by omega
                clear hov
                go_wp2_with (go_at_call 64; refine (rnumber_any x _ hxs).mono ?_; rw [HN.out]; rintro e w' ⟨rfl, rfl⟩)
                go_roundw
                case rel =>
                  refine ⟨i + 1, ns ++ [n], by omega, by go_num, HR.out.next HX.out HM.out h1, H1.out.far (by show w.heap.size ≠ w1.heap.size + 1; omega) _, H2.out.far (by show w1.heap.size ≠ w1.heap.size + 1; omega) _, ?_, hbr.setCell (p := ⟨w1.heap.size + 1, i, none⟩) (by show w1.heap.size ≤ w1.heap.size + 1; omega) _⟩
                  rw [← arrV_set HR.out.2.1 h1 (by omega)]
                  exact H3.out.set_ _ _
                case measure => simp [intOf]; omega
          · obtain rfl : i = ws.length := by omega
            have hnl2 : ns.length = 4 := by
              have := HR.out.2.1
              rw [HCNT.out] at this
              simpa using this
            have hgood : Hid (rowOf s.data.toList = some (rowN 1 ns)) := by
              show rowOf _ = _
              unfold rowOf; rw [← hws.out]
              have htl : (toL ws).length = 5 := by simp [toL, HCNT.out]
              refine row_good (by omega) HK.out (by decide) (by rw [htl]; rfl) ?_
              have := HR.out
              have e : ws.length = (toL ws).length := by simp [toL]
              rw [e] at this
              exact this.done
            obtain ⟨n0, n1, n2, n3, rfl⟩ := four hnl2
            have ff := H1.out.frozen
            have r0 : wr.cell? ⟨w.heap.size, 0, none⟩ = some (.int .i64 0) := H1.out.cell 0
            have r1 : wr.cell? ⟨w.heap.size, 1, none⟩ = some (.int .i64 0) := H1.out.cell 1
            have r2 : wr.cell? ⟨w.heap.size, 2, none⟩ = some (.int .i64 0) := H1.out.cell 2
            have r3 : wr.cell? ⟨w.heap.size, 3, none⟩ = some (.int .i64 0) := H1.out.cell 3
            have r4 : wr.cell? ⟨w.heap.size, 4, none⟩ = some (.int .i64 0) := H1.out.cell 4
            have r5 : wr.cell? ⟨w.heap.size, 5, none⟩ = some (.int .i64 0) := H1.out.cell 5
            have kf := H2.out.frozen
            have k0 : wr.cell? ⟨w1.heap.size, 0, none⟩ = some (.int .i64 0) := H2.out.cell 0
            have k1 : wr.cell? ⟨w1.heap.size, 1, none⟩ = some (.int .i64 1) := H2.out.cell 1
            have k2 : wr.cell? ⟨w1.heap.size, 2, none⟩ = some (.int .i64 0) := H2.out.cell 2
            have k3 : wr.cell? ⟨w1.heap.size, 3, none⟩ = some (.int .i64 0) := H2.out.cell 3
            have k4 : wr.cell? ⟨w1.heap.size, 4, none⟩ = some (.int .i64 0) := H2.out.cell 4
            have k5 : wr.cell? ⟨w1.heap.size, 5, none⟩ = some (.int .i64 0) := H2.out.cell 5
            have q0 : wr.cell? ⟨w1.heap.size + 1, 0, none⟩ = some (.int .i64 (n0 : Int)) := H3.out.cell 0
            have q2 : wr.cell? ⟨w1.heap.size + 1, 2, none⟩ = some (.int .i64 (n1 : Int)) := H3.out.cell 2
            have q3 : wr.cell? ⟨w1.heap.size + 1, 3, none⟩ = some (.int .i64 (n2 : Int)) := H3.out.cell 3
            have q4 : wr.cell? ⟨w1.heap.size + 1, 4, none⟩ = some (.int .i64 (n3 : Int)) := H3.out.cell 4
            have q5 : wr.cell? ⟨w1.heap.size + 1, 5, none⟩ = some (.int .i64 0) := H3.out.cell 5
            have hne : w.heap.size ≠ w1.heap.size := by omega
            have hne' : w1.heap.size ≠ w.heap.size := by omega
            clear HR
            go_wp2_with fail
            refine bodyPost_ret (v := .tuple #[.agg #[.int .i64 (n0 : Int), .int .i64 1, .int .i64 (n1 : Int), .int .i64 (n2 : Int), .int .i64 (n3 : Int), .int .i64 0], .bool true]) (by simp [results, Tryd.results55, go_sem, r0, r1, r2, r3, r4, r5]) rfl ⟨by rw [hgood.out]; rfl, ?_⟩
            exact set6 (((((hbel2.setCell (p := ⟨w1.heap.size, 0, none⟩) (Nat.le_of_lt hszr) _).setCell (p := ⟨w1.heap.size, 2, none⟩) (Nat.le_of_lt hszr) _).setCell (p := ⟨w1.heap.size, 3, none⟩) (Nat.le_of_lt hszr) _).setCell (p := ⟨w1.heap.size, 4, none⟩) (Nat.le_of_lt hszr) _).setCell (p := ⟨w1.heap.size, 5, none⟩) (Nat.le_of_lt hszr) _) _ _ _ _ _ _
      · have hcb : ((ws.length : Int) != 5) = true := by simp; omega
        have hn : Hid (rowOf s.data.toList = none) := by
          show rowOf _ = none
          unfold rowOf; rw [← hws.out]
          exact row_count (by rw [HK.out]; simpa [toL, countK] using hcnt)
        clear hcnt
        go_wp2_with fail
        have back := BACK.out
        refine bodyPost_ret (v := .tuple #[zeroRow, .bool false]) (by simp [results, Tryd.results55, go_sem, back, hszr, r0, r1, r2, r3, r4, r5, zeroRow]) rfl ⟨by rw [hn.out]; rfl, ?_⟩
        exact (set6 hbel _ _ _ _ _ _).alloc (by simpa using Nat.le_of_lt hszr) _
end Go.Proofs.YtkllpfijeglppaaDoor.HsS
