/- The walk of statements: two statements of account out of the rows of a history. -/
import Derived.Test.YtkllpfijeglppaaDoorHsMj
import Derived.Test.YtkllpfijeglppaaDoorHsY2
import Derived.Test.YtkllpfijeglppaaDoorWd
import Derived.Deep.DeepCutAuto
namespace Go.Proofs.YtkllpfijeglppaaDoor.HsMk
open Go.RowKit Hs HsB HsC HsD HsMa HsMb HsMg HsMh HsMj Wd HsY
/-- rows in order of their days, which lie from 0 to D -/
def Ord (D : Int) (l : List HRow) : Prop := (∀ r ∈ l, 0 ≤ r.day ∧ r.day ≤ D) ∧ l.Pairwise (fun a b => a.day ≤ b.day)
theorem rvals_get (l : List HRow) (i j : Nat) (r : HRow) (h : l[i]? = some r) (hj : j < 6) : (rvals l)[i * 6 + j]? = r.vals[j]? := by
  induction l generalizing i with
  | nil => simp at h
  | cons a l ih =>
    have e : rvals (a :: l) = a.vals ++ rvals l := by simp [rvals]
    have hl : a.vals.length = 6 := rfl
    rw [e]
    cases i with
    | zero => simp at h; subst h; rw [Nat.zero_mul, Nat.zero_add, List.getElem?_append_left (by omega)]
    | succ i =>
      rw [List.getElem?_append_right (by omega), hl, show (i + 1) * 6 + j - 6 = i * 6 + j by omega]
      exact ih i (by simpa using h)
theorem rvals_set (l : List HRow) (i j : Nat) (r r' : HRow) (u : Value) (h : l[i]? = some r) (hj : j < 6) (hr : r'.vals = r.vals.set j u) : (rvals l).set (i * 6 + j) u = rvals (l.set i r') := by
  induction l generalizing i with
  | nil => simp at h
  | cons a l ih =>
    have e : ∀ a : HRow, ∀ l, rvals (a :: l) = a.vals ++ rvals l := fun a l => by simp [rvals]
    have hl : a.vals.length = 6 := rfl
    rw [e]
    cases i with
    | zero =>
      simp at h; subst h
      rw [Nat.zero_mul, Nat.zero_add, List.set_append_left _ _ (by omega), List.set_cons_zero, e, hr]
    | succ i =>
      rw [List.set_append_right _ _ (by omega), hl, show (i + 1) * 6 + j - 6 = i * 6 + j by omega, List.set_cons_succ, e, ih i (by simpa using h)]
/-- the day is before that of the last row -/
def clampB (l : List HRow) (d : Int) : Bool := match l.getLast? with
  | none => false
  | some q => decide (d < q.day)
theorem own_set {w : World} {base size n k : Nat} {e : TypeId} {v : Value} {xs : List Value} (h : w.ownsRow base e size v n xs) (hlt : ∀ g, v.ownBlock = some g → g < k) (o : Nat) (u : Value) : (w.setCell ⟨k, o, none⟩ u).ownsRow base e size v n xs := by
  refine h.kept (row := some k) ⟨rfl, rfl, rfl, by simp [World.setCell], fun i _ hne => Below.heap_setCell w ⟨k, o, none⟩ u i (fun e => hne (by rw [e]))⟩ ?_
  rcases hv : v.ownBlock with _ | g
  · exact .inl rfl
  · refine .inr (fun e => ?_)
    injection e with e
    have := hlt g hv
    omega
theorem clamp_no {l : List HRow} {d : Int} {D : Int} (ho : Ord D l) (h : clampB l d = false) : ∀ t ∈ l, t.day ≤ d := by
  intro t ht
  unfold clampB at h
  rcases hl : l.getLast? with _ | q
  · rw [List.getLast?_eq_none_iff] at hl; subst hl; cases ht
  · rw [hl] at h
    have h1 : ¬ d < q.day := by simpa using h
    have h2 := last_max ho hl t ht
    omega
where
  last_max {l : List HRow} {D : Int} {q : HRow} (ho : Ord D l) (hl : l.getLast? = some q) : ∀ t ∈ l, t.day ≤ q.day := by
    intro t ht
    obtain ⟨ys, rfl⟩ := List.getLast?_eq_some_iff.1 hl
    rcases List.mem_append.1 ht with ht | ht
    · exact (List.pairwise_append.1 ho.2).2.2 t ht q (List.mem_singleton.2 rfl)
    · rw [List.mem_singleton.1 ht]; exact Int.le_refl _
theorem clamp_yes {l : List HRow} {d : Int} {D : Int} (ho : Ord D l) (h : clampB l d = true) : ∃ q, l[l.length - 1]? = some q ∧ 0 < l.length ∧ 0 ≤ q.day ∧ q.day ≤ D ∧ ∀ t ∈ l, t.day ≤ q.day := by
  unfold clampB at h
  rcases hl : l.getLast? with _ | q
  · rw [hl] at h; cases h
  · have hm := clamp_no.last_max ho hl
    have hq := ho.1 q (List.mem_of_getLast? hl)
    refine ⟨q, by rw [← List.getLast?_eq_getElem?]; exact hl, ?_, hq.1, hq.2, hm⟩
    rcases l with _ | ⟨a, l⟩
    · cases hl
    · simp
theorem ord_snoc {D : Int} {l : List HRow} {r : HRow} (ho : Ord D l) (h : ∀ t ∈ l, t.day ≤ r.day) (h0 : 0 ≤ r.day) (h1 : r.day ≤ D) : Ord D (l ++ [r]) := by
  refine ⟨fun t ht => ?_, ?_⟩
  · rcases List.mem_append.1 ht with ht | ht
    · exact ho.1 t ht
    · rw [List.mem_singleton.1 ht]; exact ⟨h0, h1⟩
  · rw [List.pairwise_append]
    refine ⟨ho.2, by simp, fun a ha b hb => ?_⟩
    rw [List.mem_singleton.1 hb]; exact h a ha
def StPost (w : World) (e : Ending) (w' : World) : Prop := ∃ va vb xa xb, e = .returned (.tuple #[va, vb]) ∧ Ord 50 xa ∧ Ord 50 xb ∧ xa.length ≤ 9 ∧ xb.length ≤ 9 ∧ w'.ownsRow w.heap.size 39 6 va xa.length (rvals xa) ∧ w'.ownsRow w.heap.size 39 6 vb xb.length (rvals xb) ∧ Below w.heap.size w w'
theorem reads_new (w : World) (g : Nat) (l : List Value) (t : TypeId) (hg : w.heap.size = g) (hl : l.length = 6) : Reads (w.alloc (.cells l.toArray t)) (g + 1) 6 (some ⟨g, 0, none⟩) 1 l := by
  subst hg
  exact ⟨by omega, fun _ => ⟨_, rfl, Nat.lt_succ_self _, cells_new w l t⟩⟩
/-- two slices of rows lie in different blocks -/
def Apart (u v : Value) : Prop := ∀ g, u.ownBlock = some g → v.ownBlock ≠ some g
theorem Apart.symm {u v : Value} (h : Apart u v) : Apart v u := fun g h1 h2 => h g h2 h1
theorem Apart.kept {w w' : World} {base size n : Nat} {e : TypeId} {u v : Value} {xs : List Value} (h : Apart u v) (ho : w.ownsRow base e size v n xs) (hg : w.grownBy w' u.ownBlock) : w'.ownsRow base e size v n xs := by
  refine ho.kept hg ?_
  rcases hv : v.ownBlock with _ | g
  · exact .inl rfl
  · exact .inr (fun e => h g e.symm hv)
theorem Apart.moved {w : World} {base size n k : Nat} {e : TypeId} {u u' v : Value} {xs : List Value} (h : Apart u v) (ho : w.ownsRow base e size v n xs) (hk : k = w.heap.size) (hu : u'.ownBlock = u.ownBlock ∨ u'.ownBlock = some k) : Apart u' v := by
  intro g h1 h2
  rcases hu with hu | hu
  · exact h g (hu.symm.trans h1) h2
  · rw [hu] at h1
    injection h1 with h1
    have := (ho.lt g h2).2
    omega
theorem ord_skip {D : Int} {xa X : List HRow} {i : Nat} {r : HRow} (h : Ord D (xa ++ X.drop i)) (hr : X[i]? = some r) : Ord D (xa ++ X.drop (i + 1)) := by
  rw [drop_get hr] at h
  have hsub : (xa ++ X.drop (i + 1)).Sublist (xa ++ r :: X.drop (i + 1)) := (List.Sublist.refl xa).append (List.sublist_cons_self _ _)
  exact ⟨fun t ht => h.1 t (hsub.subset ht), h.2.sublist hsub⟩
theorem ord_take {D : Int} {xa X : List HRow} {i : Nat} {r r' : HRow} (h : Ord D (xa ++ X.drop i)) (hr : X[i]? = some r) (hd : r'.day = r.day) : Ord D ((xa ++ [r']) ++ X.drop (i + 1)) := by
  rw [drop_get hr] at h
  obtain ⟨h1, h2⟩ := h
  rw [List.append_assoc]
  show Ord D (xa ++ r' :: X.drop (i + 1))
  constructor
  · intro t ht
    rcases List.mem_append.1 ht with ht | ht
    · exact h1 t (List.mem_append_left _ ht)
    · rcases List.mem_cons.1 ht with rfl | ht
      · rw [hd]; exact h1 r (List.mem_append_right _ (List.mem_cons_self ..))
      · exact h1 t (List.mem_append_right _ (List.mem_cons_of_mem _ ht))
  · rw [List.pairwise_append] at h2 ⊢
    refine ⟨h2.1, ?_, ?_⟩
    · rw [List.pairwise_cons] at h2 ⊢
      exact ⟨fun t ht => by rw [hd]; exact h2.2.1.1 t ht, h2.2.1.2⟩
    · intro a ha b hb
      rcases List.mem_cons.1 hb with rfl | hb
      · rw [hd]; exact h2.2.2 a ha r (List.mem_cons_self ..)
      · exact h2.2.2 a ha b (List.mem_cons_of_mem _ hb)
set_option maxHeartbeats 4000000 in
set_option maxRecDepth 100000 in
theorem statements_any (A S : Option Addr) (n c ns cs : Nat) (gp : Nat) (w : World) (h : FivesAt w w.heap.size A n) (hs : ByteAt w w.heap.size S ns) :
    Calls Tryd.prog 28 #[.slice A n c, .int .u16 gp, .slice S ns cs] w (StPost w) := by
  obtain ⟨i0, hi, hz0, hz1, hz2⟩ := info_parts info
  have hns := hs.1
  unfold maxLen at hns
  have H := hide h
  have HS := hide hs
  clear h hs
  go_enter Tryd.func28, Tryd.ntmps28
  go_wp2_with fail
  refine (rows2_any A n _ 9 _ H.out (by omega)).mono ?_
  rintro e w1 ⟨v, X0, rfl, hB, hl9, hown, hb1⟩
  obtain ⟨A8, c8, rfl⟩ := own_slice hown
  go_wp2_with fail
  go_loopw [9, 10, 11] (fun va vb vi wr => ∃ (i : Nat) (X xa xb : List HRow), i ≤ X0.length ∧ vi = .int .i64 i ∧ X.length = X0.length ∧ xa.length ≤ i ∧ xb.length ≤ i ∧ Ord 45 (xa ++ X.drop i) ∧ (∀ r ∈ X, 0 ≤ r.amount) ∧ Ord 48 xb ∧ wr.ownsRow w.heap.size 39 6 (.slice A8 X0.length c8) X0.length (rvals X) ∧ wr.ownsRow w.heap.size 39 6 va xa.length (rvals xa) ∧ wr.ownsRow w.heap.size 39 6 vb xb.length (rvals xb) ∧ Apart va (.slice A8 X0.length c8) ∧ Apart vb (.slice A8 X0.length c8) ∧ Apart va vb ∧ Below w.heap.size w wr) (fun _ _ vi _ => X0.length - (intOf vi).toNat)
  case atStart =>
    refine ⟨0, X0, [], [], by omega, rfl, rfl, by simp, by simp, ?_, fun r hr => (hB.1 r hr).1.2.2.2.2.2.2.2.2.1, ⟨by simp, by simp⟩, hown, World.ownsRow_nil _ _ _ _, World.ownsRow_nil _ _ _ _, fun g h => by simp [Value.ownBlock] at h, fun g h => by simp [Value.ownBlock] at h, fun g h => by simp [Value.ownBlock] at h, hb1⟩
    exact ⟨fun r hr => ⟨(hB.1 r hr).1.1, by have := (hB.1 r hr).2; omega⟩, hB.2⟩
  case round =>
    obtain ⟨i, X, xa, xb, hi9, rfl, hXl, hal, hbl, hoa, ham, hob, ho8, hoA, hoB, hn1, hn2, hn3, hbr⟩ := hrel
    obtain ⟨Aa, ca, rfl⟩ := own_slice hoA
    obtain ⟨Ab, cb, rfl⟩ := own_slice hoB
    clear hown hB
    by_cases hlt : i < X0.length
    · obtain ⟨g8, rfl, hg8b⟩ : ∃ g8, A8 = some ⟨g8, 0, none⟩ ∧ g8 < wr.heap.size := by
        obtain ⟨g, cap, hv, _, hlt⟩ := ho8.form (by omega)
        injection hv with hv
        exact ⟨g, hv, hlt⟩
      obtain ⟨r, hr⟩ : ∃ r, X[i]? = some r := ⟨_, List.getElem?_eq_getElem (by omega)⟩
      have c0 : wr.cell? ⟨g8, i * 6, none⟩ = some (.int .i64 r.day) := (ho8.cellAt _ (by omega)).trans (rvals_get X i 0 r hr (by omega))
      have c1 : wr.cell? ⟨g8, i * 6 + 1, none⟩ = some (.int .i64 r.kind) := (ho8.cellAt _ (by omega)).trans (rvals_get X i 1 r hr (by omega))
      have c2 : wr.cell? ⟨g8, i * 6 + 2, none⟩ = some (.int .i64 r.src) := (ho8.cellAt _ (by omega)).trans (rvals_get X i 2 r hr (by omega))
      have c3 : wr.cell? ⟨g8, i * 6 + 3, none⟩ = some (.int .i64 r.dst) := (ho8.cellAt _ (by omega)).trans (rvals_get X i 3 r hr (by omega))
      have c4 : wr.cell? ⟨g8, i * 6 + 4, none⟩ = some (.int .i64 r.amount) := (ho8.cellAt _ (by omega)).trans (rvals_get X i 4 r hr (by omega))
      have f4 := ho8.frozenAt (i * 6 + 4)
      have c5 : wr.cell? ⟨g8, i * 6 + 5, none⟩ = some (.int .i64 r.worth) := (ho8.cellAt _ (by omega)).trans (rvals_get X i 5 r hr (by omega))
      have f5 := ho8.frozenAt (i * 6 + 5)
      have hra : 0 ≤ r.amount := ham r (List.mem_of_getElem? hr)
      obtain ⟨ho8a, hg8a⟩ := ho8.stored (i * 6 + 4) (.int .i64 (r.amount % 3))
      rw [rvals_set X i 4 r ⟨r.day, r.kind, r.src, r.dst, r.amount % 3, r.worth⟩ _ hr (by omega) rfl] at ho8a
      have hr' : (X.set i ⟨r.day, r.kind, r.src, r.dst, r.amount % 3, r.worth⟩)[i]? = some ⟨r.day, r.kind, r.src, r.dst, r.amount % 3, r.worth⟩ := by rw [List.getElem?_set_self (by omega)]
      obtain ⟨ho8b, hg8b'⟩ := ho8a.stored (i * 6 + 5) (.int .i64 0)
      rw [rvals_set _ i 5 _ ⟨r.day, r.kind, r.src, r.dst, r.amount % 3, 0⟩ _ hr' (by omega) rfl, List.set_set] at ho8b
      have hoA2 := hn1.symm.kept (hn1.symm.kept hoA hg8a) hg8b'
      have hoB2 := hn2.symm.kept (hn2.symm.kept hoB hg8a) hg8b'
      have hb8 : w.heap.size ≤ g8 := (ho8.lt g8 rfl).1
      have hbr2 := (hbr.setCell (p := ⟨g8, i * 6 + 4, none⟩) hb8 (.int .i64 (r.amount % 3))).setCell (p := ⟨g8, i * 6 + 5, none⟩) hb8 (.int .i64 0)
      have HR := hide hr
      clear hr hr' ho8a hg8a hg8b' hoA hoB ho8
      obtain ⟨bt, hbt⟩ : ∃ bt, (bits BinOp.and IntKind.u16 ((gp : Int) / 2 ^ (i % 16)) 1 == 0) = bt := ⟨_, rfl⟩
      go_upto_if 41 with fail
      go_cut [9] (fun va wx => ∃ xa', xa'.length ≤ i + 1 ∧ Ord 45 (xa' ++ X.drop (i + 1)) ∧ wx.ownsRow w.heap.size 39 6 (.slice (some ⟨g8, 0, none⟩) X0.length c8) X0.length (rvals (X.set i ⟨r.day, r.kind, r.src, r.dst, r.amount % 3, 0⟩)) ∧ wx.ownsRow w.heap.size 39 6 va xa'.length (rvals xa') ∧ wx.ownsRow w.heap.size 39 6 (.slice Ab xb.length cb) xb.length (rvals xb) ∧ Apart va (.slice (some ⟨g8, 0, none⟩) X0.length c8) ∧ Apart va (.slice Ab xb.length cb) ∧ Below w.heap.size w wx)
      case first =>
        cases bt
        · go_wp2_with fail
          go_meet
          case rel => exact ⟨xa, by omega, ord_skip hoa HR.out, ho8b, hoA2, hoB2, hn1, hn3, hbr2⟩
        · go_wp2_with (first
            | (at_builtin
               refine wpList_append_any _ rfl (.tmp 42) (.tmp 47) 22 rfl w.heap.size 39 i0 _ 6 48 Tryd.underlying22 hi hz0 hz1 hz2 rfl (by decide) (.slice Aa xa.length ca) xa.length (rvals xa) rfl (hoA2.alloc _) (wr.heap.size + 1) (some ⟨wr.heap.size, 0, none⟩) 1 1 [.int .i64 r.day, .int .i64 r.kind, .int .i64 r.src, .int .i64 r.dst, .int .i64 (r.amount % 3), .int .i64 0] rfl ?c1 ?c2 ?c3 ?c4 ?c5 ?_
               case c1 => exact reads_new _ _ [.int .i64 r.day, .int .i64 r.kind, .int .i64 r.src, .int .i64 r.dst, .int .i64 (r.amount % 3), .int .i64 0] _ (by simp) rfl
               case c2 => simp [Value.oneCell']
               case c3 => unfold maxLen; omega
               case c4 => omega
               case c5 => have := hbr2.size; simp at this ⊢; omega
               intro v1 w2 hown1 hg1 hat1))
          go_meet
          case rel =>
            refine ⟨xa ++ [⟨r.day, r.kind, r.src, r.dst, r.amount % 3, 0⟩], by simp; omega, ord_take hoa HR.out rfl, ?_, ?_, ?_, ?_, ?_, ?_⟩
            · exact hn1.kept (ho8b.alloc _) hg1
            · rw [rvals_snoc, List.length_append]; exact hown1
            · exact hn3.kept (hoB2.alloc _) hg1
            · exact hn1.moved (ho8b.alloc _) rfl hat1
            · exact hn3.moved (hoB2.alloc _) rfl hat1
            · exact (hbr2.alloc (by have := hbr2.size; simpa using this) _).grown hg1 (by have := hbr2.size; simp at this ⊢; omega) (fun j hj => (hoA2.lt j hj).1)
      case rest =>
        obtain ⟨xa', hal', hoa', ho8, hoA, hoB, hn1', hn3', hbw⟩ := hcut
        have hoa0 := hoa
        clear c0 c1 c2 c3 c4 c5 f4 f5 ho8b hoA2 hoB2 hbr2 hoa hn1 hn3
        have hX' : Hid ((X.set i (⟨r.day, r.kind, r.src, r.dst, r.amount % 3, 0⟩ : HRow))[i]? = some ⟨r.day, r.kind, r.src, r.dst, r.amount % 3, 0⟩) := by
          show _ = _
          have := (List.getElem?_eq_some_iff.1 HR.out).1
          rw [List.getElem?_set_self (by omega)]
        have c0 : wc.cell? ⟨g8, i * 6, none⟩ = some (.int .i64 r.day) := (ho8.cellAt _ (by omega)).trans (rvals_get _ i 0 (⟨r.day, r.kind, r.src, r.dst, r.amount % 3, 0⟩ : HRow) hX'.out (by omega))
        have c1 : wc.cell? ⟨g8, i * 6 + 1, none⟩ = some (.int .i64 r.kind) := (ho8.cellAt _ (by omega)).trans (rvals_get _ i 1 (⟨r.day, r.kind, r.src, r.dst, r.amount % 3, 0⟩ : HRow) hX'.out (by omega))
        have c2 : wc.cell? ⟨g8, i * 6 + 2, none⟩ = some (.int .i64 r.src) := (ho8.cellAt _ (by omega)).trans (rvals_get _ i 2 (⟨r.day, r.kind, r.src, r.dst, r.amount % 3, 0⟩ : HRow) hX'.out (by omega))
        have c3 : wc.cell? ⟨g8, i * 6 + 3, none⟩ = some (.int .i64 r.dst) := (ho8.cellAt _ (by omega)).trans (rvals_get _ i 3 (⟨r.day, r.kind, r.src, r.dst, r.amount % 3, 0⟩ : HRow) hX'.out (by omega))
        have c4 : wc.cell? ⟨g8, i * 6 + 4, none⟩ = some (.int .i64 (r.amount % 3)) := (ho8.cellAt _ (by omega)).trans (rvals_get _ i 4 (⟨r.day, r.kind, r.src, r.dst, r.amount % 3, 0⟩ : HRow) hX'.out (by omega))
        have c5 : wc.cell? ⟨g8, i * 6 + 5, none⟩ = some (.int .i64 0) := (ho8.cellAt _ (by omega)).trans (rvals_get _ i 5 (⟨r.day, r.kind, r.src, r.dst, r.amount % 3, 0⟩ : HRow) hX'.out (by omega))
        obtain ⟨wo, rfl⟩ : ∃ wo, wo = wc := ⟨_, rfl⟩
        have hrd : 0 ≤ r.day ∧ r.day ≤ 45 := by
          have := hoa0.1 r (List.mem_append_right _ (by rw [drop_get HR.out]; exact List.mem_cons_self ..))
          exact this
        obtain ⟨hrd0, hrd1⟩ := hrd
        have hal8 := hbw.alloc hbw.size (.cells #[.int .i64 r.day, .int .i64 r.kind, .int .i64 r.src, .int .i64 r.dst, .int .i64 (r.amount % 3), .int .i64 0] 39)
        go_upto_if 56 with fail
        go_cut [12] (fun p wx => p = .pointer (some ⟨wo.heap.size, 0, none⟩) ∧ ∃ d : Int, 0 ≤ d ∧ d ≤ 48 ∧ Below wo.heap.size wo wx ∧ wo.heap.size < wx.heap.size ∧ wx.cell? ⟨wo.heap.size, 0, none⟩ = some (.int .i64 d) ∧ wx.cell? ⟨wo.heap.size, 1, none⟩ = some (.int .i64 r.kind) ∧ wx.cell? ⟨wo.heap.size, 2, none⟩ = some (.int .i64 r.src) ∧ wx.cell? ⟨wo.heap.size, 3, none⟩ = some (.int .i64 r.dst) ∧ wx.cell? ⟨wo.heap.size, 4, none⟩ = some (.int .i64 (r.amount % 3)) ∧ wx.cell? ⟨wo.heap.size, 5, none⟩ = some (.int .i64 0) ∧ wx.frozen? ⟨wo.heap.size, 0, none⟩ = false)
        case first =>
          by_cases hsl : i < ns
          · obtain ⟨b, off, rfl, hbs, hcs⟩ := (HS.out.below hbw).2 (by omega)
            obtain ⟨z, hz, hc⟩ := hcs i hsl
            have hc2 : (wo.alloc (.cells #[.int .i64 r.day, .int .i64 r.kind, .int .i64 r.src, .int .i64 r.dst, .int .i64 (r.amount % 3), .int .i64 0] 39)).cell? ⟨b, off + i, none⟩ = some (.int .u8 z) := by
              rw [World.cell?_alloc_lt _ _ ⟨b, off + i, none⟩ (by have := hbw.size; show b < _; omega)]; exact hc
            clear hcs c0 c1 c2 c3 c4 c5
            go_wp2_with fail
            go_region
            all_goals
              go_wp2_with fail
              go_meet
              case rel => exact ⟨rfl, r.day + (z : Int) % 4, by omega, by omega, ((Below.refl _ _).alloc (Nat.le_refl _) _).drew, by simp, by simp, by simp, by simp, by simp, by simp, by simp, by simp⟩
          · go_wp2_with fail
            go_meet
            case rel => exact ⟨rfl, r.day, by omega, by omega, (Below.refl _ _).alloc (Nat.le_refl _) _, by simp, by simp, by simp, by simp, by simp, by simp, by simp, by simp⟩
        case rest =>
          obtain ⟨rfl, d, hd0, hd1, hbx, hzx, d0, d1, d2, d3, d4, d5, df⟩ := hcut
          have hltA := fun g h => (hoA.lt g h).2
          have hltB := fun g h => (hoB.lt g h).2
          have hlt8 := fun g h => (ho8.lt g h).2
          have hoA1 := own_below hoA hbx
          have hoB1 := own_below hoB hbx
          have ho81 := own_below ho8 hbx
          have hbw1 : Below w.heap.size w wc := hbw.trans (hbx.mono hbw.size)
          clear c0 c1 c2 c3 c4 c5 hal8 hoA hoB ho8
          have hwo := hbw.size
          clear hbw hbx
          generalize wo.heap.size = g12 at hltA hltB hlt8 hzx d0 d1 d2 d3 d4 d5 df hwo ⊢
          obtain ⟨w3, rfl⟩ : ∃ w3, w3 = wc := ⟨_, rfl⟩
          go_upto_region 13 with fail
          go_cut [81] (fun b wx => b = .bool (clampB xb d) ∧ Below w3.heap.size w3 wx)
          case first =>
            rcases Nat.eq_zero_or_pos xb.length with h0 | h0
            · have hc : Hid (false = clampB xb d) := by
                have : xb = [] := List.eq_nil_of_length_eq_zero h0
                subst this; rfl
              have e1 : decide ((0 : Int) < (xb.length : Int)) = false := by rw [h0]; rfl
              have e2 : decide (0 < xb.length) = false := by rw [h0]; rfl
              clear h0 hlt8 hltB hltA
              go_quiet (fail)
              go_wp2_with fail
              go_meet
              case rel => exact ⟨by rw [← hc.out], below_drewN (Below.refl _ _) _⟩
            · obtain ⟨gb, rfl, hgb⟩ : ∃ gb, Ab = some ⟨gb, 0, none⟩ ∧ gb < w3.heap.size := by
                obtain ⟨g, cap, hv, _, hlt⟩ := hoB1.form h0
                injection hv with hv
                exact ⟨g, hv, hlt⟩
              obtain ⟨j, hj⟩ : ∃ j, xb.length = j + 1 := ⟨xb.length - 1, by omega⟩
              obtain ⟨q, hq⟩ : ∃ q, xb[j]? = some q := ⟨_, List.getElem?_eq_getElem (by omega)⟩
              have hc : Hid (decide (d < q.day) = clampB xb d) := by
                show _ = _
                unfold clampB
                rw [List.getLast?_eq_getElem?, hj, Nat.add_sub_cancel, hq]
              have cq : w3.cell? ⟨gb, j * 6, none⟩ = some (.int .i64 q.day) := (hoB1.cellAt _ (by omega)).trans (rvals_get xb j 0 q hq (by omega))
              have hsub : IntKind.i64.wrap ((xb.length : Int) - 1) = (j : Int) := by
                rw [show (xb.length : Int) - 1 = (j : Int) by omega]; exact IntWalk.i64_in _ (by omega)
              have e1 : decide ((0 : Int) < (xb.length : Int)) = true := by simpa using h0
              have hjl : j < xb.length := by omega
              clear hj hq hlt8 hltB hltA
              go_quiet (fail)
              go_wp2_with fail
              go_meet
              case rel => exact ⟨by rw [← hc.out], below_drewN (Below.refl _ _) _⟩
          case rest =>
            obtain ⟨rfl, hbx⟩ := hcut
            have hoA2 := own_below hoA1 hbx
            have hoB2 := own_below hoB1 hbx
            have ho82 := own_below ho81 hbx
            have hbw2 : Below w.heap.size w wc := hbw1.trans (hbx.mono hbw1.size)
            have e0 := (hbx.cell (p := ⟨g12, 0, none⟩) hzx).trans d0
            have e1 := (hbx.cell (p := ⟨g12, 1, none⟩) hzx).trans d1
            have e2 := (hbx.cell (p := ⟨g12, 2, none⟩) hzx).trans d2
            have e3 := (hbx.cell (p := ⟨g12, 3, none⟩) hzx).trans d3
            have e4 := (hbx.cell (p := ⟨g12, 4, none⟩) hzx).trans d4
            have e5 := (hbx.cell (p := ⟨g12, 5, none⟩) hzx).trans d5
            have ef := (hbx.frozen (p := ⟨g12, 0, none⟩) hzx).trans df
            have hzy : g12 < wc.heap.size := Nat.lt_of_lt_of_le hzx hbx.size
            clear d0 d1 d2 d3 d4 d5 df hoA1 hoB1 ho81 hbw1 hzx hbx
            obtain ⟨w5, rfl⟩ : ∃ w5, w5 = wc := ⟨_, rfl⟩
            obtain ⟨cb', hcb⟩ : ∃ x, clampB xb d = x := ⟨_, rfl⟩
            rw [hcb]
            have HCB := hide hcb
            clear hcb
            go_upto_if 81 with fail
            go_cut [12] (fun p wx => p = .pointer (some ⟨g12, 0, none⟩) ∧ ∃ d' : Int, 0 ≤ d' ∧ d' ≤ 48 ∧ (∀ t ∈ xb, t.day ≤ d') ∧ wx.ownsRow w.heap.size 39 6 u9 xa'.length (rvals xa') ∧ wx.ownsRow w.heap.size 39 6 (.slice Ab xb.length cb) xb.length (rvals xb) ∧ wx.ownsRow w.heap.size 39 6 (.slice (some ⟨g8, 0, none⟩) X0.length c8) X0.length (rvals (X.set i ⟨r.day, r.kind, r.src, r.dst, r.amount % 3, 0⟩)) ∧ Below w.heap.size w wx ∧ wx.cell? ⟨g12, 0, none⟩ = some (.int .i64 d') ∧ wx.cell? ⟨g12, 1, none⟩ = some (.int .i64 r.kind) ∧ wx.cell? ⟨g12, 2, none⟩ = some (.int .i64 r.src) ∧ wx.cell? ⟨g12, 3, none⟩ = some (.int .i64 r.dst) ∧ wx.cell? ⟨g12, 4, none⟩ = some (.int .i64 (r.amount % 3)) ∧ wx.cell? ⟨g12, 5, none⟩ = some (.int .i64 0))
            case first =>
              cases cb'
              · go_wp2_with fail
                go_meet
                case rel => exact ⟨rfl, d, hd0, hd1, clamp_no hob HCB.out, hoA2, hoB2, ho82, hbw2, e0, e1, e2, e3, e4, e5⟩
              · obtain ⟨q, hq, hx0, hq0, hq1, hqm⟩ := clamp_yes hob HCB.out
                obtain ⟨gb, rfl, hgb⟩ : ∃ gb, Ab = some ⟨gb, 0, none⟩ ∧ gb < w5.heap.size := by
                  obtain ⟨g, cap, hv, _, hlt⟩ := hoB2.form hx0
                  injection hv with hv
                  exact ⟨g, hv, hlt⟩
                obtain ⟨j, hj⟩ : ∃ j, xb.length - 1 = j := ⟨_, rfl⟩
                rw [hj] at hq
                have hjl : j < xb.length := by omega
                have cq : w5.cell? ⟨gb, j * 6, none⟩ = some (.int .i64 q.day) := (hoB2.cellAt _ (by omega)).trans (rvals_get xb j 0 q hq (by omega))
                have hsub : IntKind.i64.wrap ((xb.length : Int) - 1) = (j : Int) := by
                  rw [show (xb.length : Int) - 1 = (j : Int) by omega]; exact IntWalk.i64_in _ (by omega)
                clear hj hq
                go_wp2_with fail
                go_meet
                case rel => exact ⟨rfl, q.day, hq0, hq1, hqm, own_set hoA2 hltA 0 _, own_set hoB2 hltB 0 _, own_set ho82 hlt8 0 _, hbw2.setCell hwo _, World.cell?_setCell_same _ _ _ e0, (World.cell?_setCell_other _ _ _ _ (by simp)).trans e1, (World.cell?_setCell_other _ _ _ _ (by simp)).trans e2, (World.cell?_setCell_other _ _ _ _ (by simp)).trans e3, (World.cell?_setCell_other _ _ _ _ (by simp)).trans e4, (World.cell?_setCell_other _ _ _ _ (by simp)).trans e5⟩
            case rest =>
              clear hoA2 hoB2 ho82 hbw2 e0 e1 e2 e3 e4 e5 ef hzy HCB
              obtain ⟨rfl, d', hd0', hd1', hdm, hoA3, hoB3, ho83, hbw3, e0, e1, e2, e3, e4, e5⟩ := hcut
              have hXd : Ord 45 (xa' ++ (X.set i ⟨r.day, r.kind, r.src, r.dst, r.amount % 3, 0⟩).drop (i + 1)) := by
                rw [List.drop_set_of_lt (by omega)]; exact hoa'
              have hXa : ∀ t ∈ X.set i ⟨r.day, r.kind, r.src, r.dst, r.amount % 3, 0⟩, 0 ≤ t.amount := by
                intro t ht
                rcases List.mem_or_eq_of_mem_set ht with h | rfl
                · exact ham t h
                · show 0 ≤ r.amount % 3; omega
              have hXL : (X.set i ⟨r.day, r.kind, r.src, r.dst, r.amount % 3, 0⟩).length = X0.length := by rw [List.length_set]; exact hXl
              cases h5 : ((i : Int) % 5 != 4)
              · go_wp2_with fail
                go_roundw
                case rel =>
                  exact ⟨i + 1, X.set i ⟨r.day, r.kind, r.src, r.dst, r.amount % 3, 0⟩, xa', xb, by omega, by go_num, hXL, hal', by omega, hXd, hXa, hob, ho83, hoA3, hoB3, hn1', hn2, hn3', hbw3⟩
                case measure => simp [intOf]; omega
              · have hsz3 := hbw3.size
                go_wp2_with (first
                  | (at_builtin
                     refine wpList_append_any _ rfl (.tmp 93) (.tmp 95) 22 rfl w.heap.size 39 i0 _ 6 48 Tryd.underlying22 hi hz0 hz1 hz2 rfl (by decide) (.slice Ab xb.length cb) xb.length (rvals xb) rfl (hoB3.alloc _) (wc.heap.size + 1) (some ⟨wc.heap.size, 0, none⟩) 1 1 [.int .i64 d', .int .i64 r.kind, .int .i64 r.src, .int .i64 r.dst, .int .i64 (r.amount % 3), .int .i64 0] rfl ?c1 ?c2 ?c3 ?c4 ?c5 ?_
                     case c1 => exact reads_new _ _ [.int .i64 d', .int .i64 r.kind, .int .i64 r.src, .int .i64 r.dst, .int .i64 (r.amount % 3), .int .i64 0] _ rfl rfl
                     case c2 => simp [Value.oneCell']
                     case c3 => unfold maxLen; omega
                     case c4 => omega
                     case c5 => simp; omega
                     intro v1 w6 hown1 hg1 hat1))
                have hoB4 : w6.ownsRow w.heap.size 39 6 v1 (xb ++ [(⟨d', r.kind, r.src, r.dst, r.amount % 3, 0⟩ : HRow)]).length (rvals (xb ++ [(⟨d', r.kind, r.src, r.dst, r.amount % 3, 0⟩ : HRow)])) := by
                  rw [rvals_snoc, List.length_append]; exact hown1
                have ho84 := hn2.kept (ho83.alloc _) hg1
                have hoA4 := hn3'.symm.kept (hoA3.alloc _) hg1
                have hn24 := hn2.moved (ho83.alloc (.cells #[.int .i64 d', .int .i64 r.kind, .int .i64 r.src, .int .i64 r.dst, .int .i64 (r.amount % 3), .int .i64 0] 39)) rfl hat1
                have hn34 := (hn3'.symm.moved (hoA3.alloc (.cells #[.int .i64 d', .int .i64 r.kind, .int .i64 r.src, .int .i64 r.dst, .int .i64 (r.amount % 3), .int .i64 0] 39)) rfl hat1).symm
                have hbw4 := (hbw3.alloc hbw3.size (.cells #[.int .i64 d', .int .i64 r.kind, .int .i64 r.src, .int .i64 r.dst, .int .i64 (r.amount % 3), .int .i64 0] 39)).grown hg1 (by simp; omega) (fun j hj => (hoB3.lt j hj).1)
                have hob4 : Ord 48 (xb ++ [(⟨d', r.kind, r.src, r.dst, r.amount % 3, 0⟩ : HRow)]) := ord_snoc hob hdm hd0' hd1'
                have hbl4 : (xb ++ [(⟨d', r.kind, r.src, r.dst, r.amount % 3, 0⟩ : HRow)]).length ≤ i + 1 := by simp; omega
                go_roundw
                case rel =>
                  exact ⟨i + 1, X.set i ⟨r.day, r.kind, r.src, r.dst, r.amount % 3, 0⟩, xa', _, by omega, by go_num, hXL, hal', hbl4, hXd, hXa, hob4, ho84, hoA4, hoB4, hn1', hn24, hn34, hbw4⟩
                case measure => simp [intOf]; omega
    · have hoF : Ord 50 xa := by
        have hs : xa.Sublist (xa ++ X.drop i) := List.sublist_append_left _ _
        exact ⟨fun t ht => ⟨(hoa.1 t (hs.subset ht)).1, by have := (hoa.1 t (hs.subset ht)).2; omega⟩, hoa.2.sublist hs⟩
      have hoG : Ord 50 xb := ⟨fun t ht => ⟨(hob.1 t ht).1, by have := (hob.1 t ht).2; omega⟩, hob.2⟩
      have HF := hide hoF
      have HG := hide hoG
      clear hoF hoG hoa hob ham
      go_wp2_with fail
      go_ret2
      exact ⟨_, _, xa, xb, rfl, HF.out, HG.out, by omega, by omega, hoA, hoB, hbr⟩
end Go.Proofs.YtkllpfijeglppaaDoor.HsMk
