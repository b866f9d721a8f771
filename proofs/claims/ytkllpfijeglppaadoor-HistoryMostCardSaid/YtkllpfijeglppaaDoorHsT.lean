/- The walk of the program's Parse. -/
import Derived.Test.YtkllpfijeglppaaDoorHsS
namespace Go.Proofs.YtkllpfijeglppaaDoor.HsT
open Go.RowKit Hs HsB HsC HsD HsF HsG HsH HsE HsI HsJ HsK HsL HsM HsN HsO HsP HsQ HsR HsS
def strLen : Value → Nat
  | .string s => s.size
  | _ => 0
/-- what Parse returns -/
def ParsePost (p : List HRow × Nat × Nat) (w : World) (e : Ending) (w' : World) : Prop :=
  ∃ v, e = .returned (.tuple #[v, .int .i64 (p.2.1 : Int), .int .i64 (p.2.2 : Int)]) ∧ w'.ownsRow w.heap.size 39 6 v p.1.length (rvals p.1) ∧ Below w.heap.size w w'
theorem parse_long {s : ByteArray} (h : 8192 < s.size) : parseOf s.data.toList = ([], 0, 2) := by
  have h1 : s.data.toList.length = s.size := by simp
  unfold parseOf; rw [if_pos (by omega)]
theorem parse_first {s : ByteArray} (h : ¬ 8192 < s.size) : parseOf s.data.toList = parseF (s.size + 1) [] s.data.toList := by
  have h1 : s.data.toList.length = s.size := by simp
  unfold parseOf; rw [if_neg (by omega), h1]
theorem parseF_end {f : Nat} {out : List HRow} : parseF (f + 1) out [] = (out, 0, 0) := by rw [parseF, if_pos rfl]
theorem parseF_many {f : Nat} {out : List HRow} {s : List UInt8} (h : s ≠ []) (h2 : 256 ≤ out.length) : parseF (f + 1) out s = ([], out.length + 1, 2) := by rw [parseF, if_neg h, if_pos h2]
theorem parseF_bad {f : Nat} {out : List HRow} {s : List UInt8} (h : s ≠ []) (h2 : ¬ 256 ≤ out.length) (h3 : rowOf (Lib.cut s [10]).1 = none) : parseF (f + 1) out s = ([], out.length + 1, 10) := by rw [parseF, if_neg h, if_neg h2, h3]
theorem parseF_open {f : Nat} {out : List HRow} {s : List UInt8} {r : HRow} (h : s ≠ []) (h2 : ¬ 256 ≤ out.length) (h3 : rowOf (Lib.cut s [10]).1 = some r) (h4 : (Lib.cut s [10]).2.2 = false) : parseF (f + 1) out s = ([], out.length + 1, 10) := by rw [parseF, if_neg h, if_neg h2, h3]; simp [h4]
theorem parseF_go {f : Nat} {out : List HRow} {s : List UInt8} {r : HRow} (h : s ≠ []) (h2 : ¬ 256 ≤ out.length) (h3 : rowOf (Lib.cut s [10]).1 = some r) (h4 : (Lib.cut s [10]).2.2 = true) : parseF (f + 1) out s = parseF f (out ++ [r]) (Lib.cut s [10]).2.1 := by rw [parseF, if_neg h, if_neg h2, h3]; simp [h4]
theorem cut_sizes (s : List UInt8) (c : UInt8) : (Lib.cut s [c]).1.length ≤ s.length ∧ (Lib.cut s [c]).2.1.length ≤ s.length := by
  unfold Lib.cut
  split
  · simp [List.length_take]; omega
  · simp
theorem cut_lt {s : List UInt8} {c : UInt8} (h : (Lib.cut s [c]).2.2 = true) : (Lib.cut s [c]).2.1.length < s.length := cut_rest h
theorem nonempty {s : ByteArray} (h : s.size ≠ 0) : s.data.toList ≠ [] ∧ s.toList.isEmpty = false := by
  have h1 : s.data.toList.length = s.size := by simp
  have h2 : s.data.toList ≠ [] := by intro e; rw [e] at h1; simp at h1; omega
  refine ⟨h2, ?_⟩
  rw [ByteArray.toList_eq]
  cases h3 : s.data.toList with
  | nil => exact absurd h3 h2
  | cons a b => rfl
theorem isempty {s : ByteArray} (h : s.size = 0) : s.data.toList = [] ∧ s.toList.isEmpty = true ∧ s.toList = [] := by
  have h1 : s.data.toList.length = s.size := by simp
  have h2 : s.data.toList = [] := List.eq_nil_of_length_eq_zero (by omega)
  exact ⟨h2, by rw [ByteArray.toList_eq, h2]; rfl, by rw [ByteArray.toList_eq, h2]⟩
theorem cells_new2 (w : World) (o1 : Obj) (l : List Value) (t : TypeId) : ∀ j u, l[j]? = some u → ((w.alloc o1).alloc (.cells l.toArray t)).cell? ((⟨w.heap.size + 1, 0, none⟩ : Addr).add j) = some u := by
  have h := cells_new (w.alloc o1) l t
  simpa using h
set_option maxHeartbeats 4000000 in
set_option maxRecDepth 100000 in
theorem parse_any (s : ByteArray) (w : World) (hs : s.size ≤ 1000000) (he : Env w) :
    Calls Tryd.prog 18 #[.string s] w (ParsePost (parseOf s.data.toList) w) := by
  obtain ⟨i0, hi, hz0, hz1, hz2⟩ := info_parts HsD.info
  by_cases hlong : 8192 < s.size
  · have hp := hide (parse_long hlong)
    go_enter Tryd.func18, Tryd.ntmps18
    go_wp2_with fail
    go_ret3
    rw [hp.out]
    exact ⟨_, rfl, World.ownsRow_nil _ _ _ _, Below.refl _ _⟩
  · have hp := hide (parse_first hlong)
    go_enter Tryd.func18, Tryd.ntmps18
    go_wp2_with fail
    go_loopw [0, 5, 6] (fun vs vo va wr => ∃ (r : ByteArray) (rows : List HRow) (f : Nat), vs = .string r ∧ r.size ≤ 8192 ∧ va = .int .i64 ((rows.length : Int) + 1) ∧ r.size < f ∧ parseOf s.data.toList = parseF f rows r.data.toList ∧ rows.length ≤ 256 ∧ wr.ownsRow w.heap.size 39 6 vo rows.length (rvals rows) ∧ Below w.heap.size w wr) (fun vs _ _ _ => strLen vs)
    case atStart => exact ⟨s, [], s.size + 1, rfl, by omega, rfl, by omega, hp.out, by simp, World.ownsRow_nil _ _ _ _, Below.refl _ _⟩
    case round =>
      obtain ⟨r, rows, f, rfl, hrs, rfl, hf, hpar, hrl, hown, hbr⟩ := hrel
      obtain ⟨A, c, rfl⟩ := own_slice hown
      have HP := hide hpar
      clear hpar hp
      obtain ⟨f, rfl⟩ : ∃ f', f = f' + 1 := ⟨f - 1, by omega⟩
      by_cases h0 : r.size = 0
      · obtain ⟨e1, e2, e3⟩ := isempty h0
        have hfin : Hid (parseOf s.data.toList = (rows, 0, 0)) := by
          show _ = _
          rw [HP.out, e1]; exact parseF_end
        clear e1 h0
        go_wp2_with fail
        go_ret3
        rw [hfin.out]
        exact ⟨_, rfl, hown, hbr⟩
      · obtain ⟨e1, e2⟩ := nonempty h0
        have E1 := hide e1
        clear e1
        by_cases h256 : 256 ≤ rows.length
        · have hfin : Hid (parseOf s.data.toList = ([], rows.length + 1, 2)) := by
            show _ = _
            rw [HP.out]; exact parseF_many E1.out h256
          go_wp2_with fail
          go_ret3
          rw [hfin.out]
          exact ⟨_, rfl, World.ownsRow_nil _ _ _ _, hbr⟩
        · have hew : Env wr := he.below hbr
          obtain ⟨m, hm⟩ := hew.2.1
          obtain ⟨hc1, hc2⟩ := cut_sizes r.data.toList 10
          have hL : r.data.toList.length = r.size := by simp
          rw [hL] at hc1 hc2
          have hT : (⟨(Lib.cut r.data.toList [10]).1.toArray⟩ : ByteArray).size ≤ 8192 := by rw [mk_size]; omega
          have hcut := Tryd.strings_Cut r ⟨#[10]⟩ m wr (by omega) hm
          have HCUT := Lib.hid hcut
          clear hcut hm
          cases hro : rowOf (Lib.cut r.data.toList [10]).1 with
          | none =>
            have hfin : Hid (parseOf s.data.toList = ([], rows.length + 1, 10)) := by
              show _ = _
              rw [HP.out]; exact parseF_bad E1.out h256 hro
            have HR : Hid (RowRet (rowOf (⟨(Lib.cut r.data.toList [10]).1.toArray⟩ : ByteArray).data.toList) = RowRet none) := congrArg RowRet hro
            clear hro
            go_wp2_with (first
              | (go_at_call 40; refine HCUT.out.mono ?_; rintro e w2 ⟨rfl, nd, rfl⟩)
              | (go_at_call 41; refine (parseLine_any _ _ hT (he.below (below_drewN hbr nd))).mono ?_; rw [HR.out]; unfold RowRet zeroRow; rintro e w3 ⟨rfl, hb3⟩))
            go_ret3
            rw [hfin.out]
            exact ⟨_, rfl, World.ownsRow_nil _ _ _ _, ((below_drewN hbr nd).trans (hb3.mono hbr.size)).alloc (Nat.le_trans hbr.size hb3.size) _⟩
          | some x =>
            have HR : Hid (RowRet (rowOf (⟨(Lib.cut r.data.toList [10]).1.toArray⟩ : ByteArray).data.toList) = RowRet (some x)) := congrArg RowRet hro
            cases hend : (Lib.cut r.data.toList [10]).2.2
            · have hfin : Hid (parseOf s.data.toList = ([], rows.length + 1, 10)) := by
                show _ = _
                rw [HP.out]; exact parseF_open E1.out h256 hro hend
              have HE := hide hend
              clear hro hend
              go_wp2_with (first
                | (go_at_call 40; refine HCUT.out.mono ?_; rw [HE.out]; rintro e w2 ⟨rfl, nd, rfl⟩)
                | (go_at_call 41; refine (parseLine_any _ _ hT (he.below (below_drewN hbr nd))).mono ?_; rw [HR.out]; unfold RowRet HRow.agg; rintro e w3 ⟨rfl, hb3⟩))
              go_ret3
              rw [hfin.out]
              exact ⟨_, rfl, World.ownsRow_nil _ _ _ _, ((below_drewN hbr nd).trans (hb3.mono hbr.size)).alloc (Nat.le_trans hbr.size hb3.size) _⟩
            · have hnext : Hid (parseOf s.data.toList = parseF f (rows ++ [x]) (⟨(Lib.cut r.data.toList [10]).2.1.toArray⟩ : ByteArray).data.toList) := by
                show _ = _
                rw [HP.out]; exact parseF_go E1.out h256 hro hend
              have hlt := cut_lt hend
              rw [hL] at hlt
              have hT2 : (⟨(Lib.cut r.data.toList [10]).2.1.toArray⟩ : ByteArray).size < r.size := by rw [mk_size]; exact hlt
              have HE := hide hend
              clear hro hend hlt
              go_wp2_with (first
                | (go_at_call 40; refine HCUT.out.mono ?_; rw [HE.out]; rintro e w2 ⟨rfl, nd, rfl⟩)
                | (go_at_call 41; refine (parseLine_any _ _ hT (he.below (below_drewN hbr nd))).mono ?_; rw [HR.out]; unfold RowRet HRow.agg; rintro e w3 ⟨rfl, hb3⟩; have hown3 := own_below (w := wr.drewN nd) hown hb3; have hbr3 := (below_drewN hbr nd).trans (hb3.mono hbr.size))
                | (at_builtin
                   refine wpList_append_own _ rfl (.tmp 40) (.tmp 42) 22 rfl w.heap.size 39 i0 _ 6 48 Tryd.underlying22 hi hz0 hz1 hz2 rfl (by decide) _ _ _ rfl ((hown3.alloc _).alloc _) ⟨w3.heap.size + 1, 0, none⟩ 1 1 x.vals rfl rfl ?c1 ?c2 ?c3 ?c4 ?c5 ?_
                   case c1 => exact cells_new2 _ _ x.vals _
                   case c2 => simp [HRow.vals, Value.oneCell']
                   case c3 => unfold maxLen; omega
                   case c4 => omega
                   case c5 => have := hbr3.size; simp; omega
                   intro v4 w4 hown4 hg4 _))
              go_roundw
              case rel =>
                refine ⟨_, rows ++ [x], f, rfl, by omega, by rw [List.length_append]; go_num, by omega, hnext.out, by simp; omega, ?_, ?_⟩
                · rw [List.length_append, rvals_snoc]; exact hown4
                · refine ((hbr3.alloc hbr3.size _).alloc (by have := hbr3.size; simp; omega) _).grown hg4 (by have := hbr3.size; simp; omega) ?_
                  intro g hg
                  exact (hown3.lt g hg).1
              case measure => simp [strLen]; omega
end Go.Proofs.YtkllpfijeglppaaDoor.HsT
