/- The reader of tokens: what it holds in memory; the walks of the program's is, fail and take. -/
import Derived.Test.YtnbdckfnohagbaaGreatDoorPqA
import Derived.Test.YtnbdckfnohagbaaGreatDoorPqB
import Derived.Test.YtnbdckfnohagbaaGreatDoorRO
import Derived.Test.YtnbdckfnohagbaaGreatDoorLxD
import Derived.Test.YtnbdckfnohagbaaGreatDoorQmt
namespace Go.Proofs.YtnbdckfnohagbaaGreatDoor.PqC
theorem here : True := trivial
open Go.RowKit Lx Wd RnW PqA PqB RoL
/-- the worlds of a property, as a class -/
abbrev Cls (I : World → Prop) (w : World) : Prop := ∃ x : Qin.In I, w = x.val
instance inhab (W : World) : Nonempty (Qin.In (Below W.heap.size W)) := ⟨⟨_, Below.refl _ _⟩⟩
instance inkept (R : Nat) (W : World) : Nonempty (Qin.In (Kept R W)) := ⟨⟨_, Kept.refl _ _⟩⟩
theorem cls {I : World → Prop} {w : World} (h : I w) : Cls I w := ⟨⟨w, h⟩, rfl⟩
theorem beh {W w : World} (h : Below W.heap.size W w) : Cls (Below W.heap.size W) w := ⟨⟨w, h⟩, rfl⟩
theorem at_kin {W : World} {b j : Nat} {x : Value} (hb : b < W.heap.size) (h : W.cell? ⟨b, j, none⟩ = some x) (v : Qin.In (Below W.heap.size W)) : v.val.cell? ⟨b, j, none⟩ = some x :=
  (v.ok.cell (p := ⟨b, j, none⟩) hb).trans h
theorem kept_kin {W : World} {R b j : Nat} {x : Value} (hb : b < W.heap.size) (hR : b ≠ R) (h : W.cell? ⟨b, j, none⟩ = some x) (v : Qin.In (Kept R W)) : v.val.cell? ⟨b, j, none⟩ = some x :=
  (v.ok.cell (p := ⟨b, j, none⟩) hb hR).trans h
/-- all blocks but R are as they were, and of R the cells of a list -/
def KeptB (R : Nat) (l : List Nat) (w w' : World) : Prop := Kept R w w' ∧ ∀ i ∈ l, w'.cell? ⟨R, i, none⟩ = w.cell? ⟨R, i, none⟩
instance inkeptB (R : Nat) (l : List Nat) (W : World) : Nonempty (Qin.In (KeptB R l W)) := ⟨⟨_, Kept.refl _ _, fun _ _ => rfl⟩⟩
theorem keptB_kin {W : World} {R b j : Nat} {l : List Nat} {x : Value} (hb : b < W.heap.size) (hR : b ≠ R) (h : W.cell? ⟨b, j, none⟩ = some x) (v : Qin.In (KeptB R l W)) : v.val.cell? ⟨b, j, none⟩ = some x :=
  (v.ok.1.cell (p := ⟨b, j, none⟩) hb hR).trans h
theorem keptB_own {W : World} {R i : Nat} {l : List Nat} {x : Value} (hi : i ∈ l) (h : W.cell? ⟨R, i, none⟩ = some x) (v : Qin.In (KeptB R l W)) : v.val.cell? ⟨R, i, none⟩ = some x :=
  (v.ok.2 i hi).trans h
theorem KeptB.drawn (R : Nat) (l : List Nat) (w : World) : KeptB R l w { w with drawn := w.drawn + 1 } := ⟨⟨rfl, rfl, rfl, Nat.le_refl _, fun _ _ _ => rfl⟩, fun _ _ => rfl⟩
theorem KeptB.set {R i : Nat} {l : List Nat} {w w' : World} (h : KeptB R l w w') (hi : i ∉ l) (v : Value) : KeptB R l w (w'.setCell ⟨R, i, none⟩ v) :=
  ⟨h.1.setCell i v, fun j hj => (World.cell?_setCell_other _ _ _ _ (fun e => hi (by injection e with _ e2; rw [← e2] at hj; exact hj))).trans (h.2 j hj)⟩
/-- a slice that reads as tokens -/
def ToksAt (w : World) (R : Nat) (A : Option Addr) (ts : List Tok) : Prop :=
  ∃ b off, A = some ⟨b, off, none⟩ ∧ b < w.heap.size ∧ b < R ∧ ∀ k t, ts[k]? = some t →
    w.cell? ⟨b, off + k * 3, none⟩ = some (.int .i64 t.kind) ∧ w.cell? ⟨b, off + k * 3 + 1, none⟩ = some (.string t.text) ∧ w.cell? ⟨b, off + k * 3 + 2, none⟩ = some (.int .i64 (t.off : Int))
theorem ToksAt.kept {w w' : World} {R : Nat} {A : Option Addr} {ts : List Tok} (h : ToksAt w R A ts) (hk : Kept R w w') : ToksAt w' R A ts := by
  obtain ⟨b, off, e, hb, hR, hc⟩ := h
  refine ⟨b, off, e, Nat.lt_of_lt_of_le hb hk.size, hR, fun k t ht => ?_⟩
  obtain ⟨h0, h1, h2⟩ := hc k t ht
  exact ⟨(hk.cell (p := ⟨b, _, none⟩) hb (Nat.ne_of_lt hR)).trans h0, (hk.cell (p := ⟨b, _, none⟩) hb (Nat.ne_of_lt hR)).trans h1, (hk.cell (p := ⟨b, _, none⟩) hb (Nat.ne_of_lt hR)).trans h2⟩
/-- the numbers of a state: the next token, the error, its offset -/
def Stat (ts : List Tok) (s : St) (n e a : Nat) : Prop :=
  n < ts.length ∧ match s with
  | .ok m => n = m ∧ e = 0 ∧ a = 0
  | .bad e' a' => e = e' ∧ e' ≠ 0 ∧ a = a'
/-- the program's reader in memory -/
def Rd (w : World) (R : Nat) (A : Option Addr) (c : Nat) (ts : List Tok) (s : St) : Prop :=
  ∃ n e a, Stat ts s n e a ∧ Blk w R [.slice A ts.length c, .int .i64 (n : Int), .int .i64 (e : Int), .int .i64 (a : Int)] ∧ ToksAt w R A ts
/-- the reference's reader in memory -/
def Rf (w : World) (R : Nat) (A : Option Addr) (c : Nat) (ts : List Tok) (s : St) : Prop :=
  ∃ n e a, Stat ts s n e a ∧ Blk w R [.slice A ts.length c, .int .i64 (n : Int), .int .i64 (a : Int), .int .i64 (e : Int)] ∧ ToksAt w R A ts
section
variable {w w' : World} {R R' : Nat} {A : Option Addr} {c : Nat} {ts : List Tok} {s : St}
theorem Rd.lt (h : Rd w R A c ts s) : R < w.heap.size := by obtain ⟨n, e, a, _, hB, _⟩ := h; exact hB.lt
theorem Rf.lt (h : Rf w R A c ts s) : R < w.heap.size := by obtain ⟨n, e, a, _, hB, _⟩ := h; exact hB.lt
theorem Rd.below (h : Rd w R A c ts s) (hb : Below w.heap.size w w') : Rd w' R A c ts s := by
  obtain ⟨n, e, a, hS, hB, hT⟩ := h
  exact ⟨n, e, a, hS, hB.below hb, hT.kept (Kept.of_below hb)⟩
theorem Rf.below (h : Rf w R A c ts s) (hb : Below w.heap.size w w') : Rf w' R A c ts s := by
  obtain ⟨n, e, a, hS, hB, hT⟩ := h
  exact ⟨n, e, a, hS, hB.below hb, hT.kept (Kept.of_below hb)⟩
theorem Rd.within (h : Rd w R A c ts s) (he : ∀ e a, s = .bad e a → e ≤ 30 ∧ a ≤ 8192) : s.within ts := by
  obtain ⟨n, e, a, hS, _⟩ := h
  cases s with
  | ok m => obtain ⟨h1, h2, _⟩ := hS; subst h2; exact h1
  | bad e' a' => obtain ⟨_, _, h2, _⟩ := hS; exact ⟨h2, he e' a' rfl⟩
end
/-- how many tokens are left to a reader without an error -/
def left (len R i e : Nat) (w : World) : Nat := if intOf ((w.cell? ⟨R, e, none⟩).getD undef) = 0 then len - (intOf ((w.cell? ⟨R, i, none⟩).getD undef)).toNat else 0
theorem Rd.left_ok {w : World} {R : Nat} {A : Option Addr} {c : Nat} {ts : List Tok} {n : Nat} (h : Rd w R A c ts (.ok n)) : left ts.length R 1 2 w = ts.length - n ∧ n < ts.length := by
  obtain ⟨n', e, a, ⟨h1, rfl, rfl, rfl⟩, hB, _⟩ := h
  unfold left
  rw [hB.cell (i := 1) rfl, hB.cell (i := 2) rfl]
  exact ⟨by simp [intOf], h1⟩
theorem Rd.left_bad {w : World} {R : Nat} {A : Option Addr} {c : Nat} {ts : List Tok} {e a : Nat} (h : Rd w R A c ts (.bad e a)) : left ts.length R 1 2 w = 0 := by
  obtain ⟨n', e', a', ⟨h1, rfl, h2, rfl⟩, hB, _⟩ := h
  unfold left
  rw [hB.cell (i := 1) rfl, hB.cell (i := 2) rfl]
  simp [intOf, h2]
theorem Rf.left_ok {w : World} {R : Nat} {A : Option Addr} {c : Nat} {ts : List Tok} {n : Nat} (h : Rf w R A c ts (.ok n)) : left ts.length R 1 3 w = ts.length - n ∧ n < ts.length := by
  obtain ⟨n', e, a, ⟨h1, rfl, rfl, rfl⟩, hB, _⟩ := h
  unfold left
  rw [hB.cell (i := 1) rfl, hB.cell (i := 3) rfl]
  exact ⟨by simp [intOf], h1⟩
theorem Rf.left_bad {w : World} {R : Nat} {A : Option Addr} {c : Nat} {ts : List Tok} {e a : Nat} (h : Rf w R A c ts (.bad e a)) : left ts.length R 1 3 w = 0 := by
  obtain ⟨n', e', a', ⟨h1, rfl, h2, rfl⟩, hB, _⟩ := h
  unfold left
  rw [hB.cell (i := 1) rfl, hB.cell (i := 3) rfl]
  simp [intOf, h2]
theorem left_lt {w w' : World} {R : Nat} {A A' : Option Addr} {c c' : Nat} {ts : List Tok} {n : Nat} {s : St} (h : Rd w R A c ts (.ok n)) (h' : Rd w' R A' c' ts s) (hs : ∀ m, s = .ok m → n < m) : left ts.length R 1 2 w' < left ts.length R 1 2 w := by
  obtain ⟨h1, h2⟩ := h.left_ok
  cases s with
  | ok m => obtain ⟨h3, h4⟩ := h'.left_ok; have := hs m rfl; omega
  | bad e a => have := h'.left_bad; omega
theorem left_ltf {w w' : World} {R : Nat} {A A' : Option Addr} {c c' : Nat} {ts : List Tok} {n : Nat} {s : St} (h : Rf w R A c ts (.ok n)) (h' : Rf w' R A' c' ts s) (hs : ∀ m, s = .ok m → n < m) : left ts.length R 1 3 w' < left ts.length R 1 3 w := by
  obtain ⟨h1, h2⟩ := h.left_ok
  cases s with
  | ok m => obtain ⟨h3, h4⟩ := h'.left_ok; have := hs m rfl; omega
  | bad e a => have := h'.left_bad; omega
/-- the next token is passed -/
theorem Rd.step {w : World} {R : Nat} {A : Option Addr} {c : Nat} {ts : List Tok} {n : Nat} (h : Rd w R A c ts (.ok n)) (hn : n + 1 < ts.length) : Rd (w.setCell ⟨R, 1, none⟩ (.int .i64 ((n : Int) + 1))) R A c ts (.ok (n + 1)) := by
  obtain ⟨n', e, a, ⟨h1, rfl, rfl, rfl⟩, hB, hT⟩ := h
  exact ⟨n' + 1, 0, 0, ⟨hn, rfl, rfl, rfl⟩, hB.set 1 _, hT.kept ((Kept.refl R w).setCell 1 _)⟩
theorem Rf.step {w : World} {R : Nat} {A : Option Addr} {c : Nat} {ts : List Tok} {n : Nat} (h : Rf w R A c ts (.ok n)) (hn : n + 1 < ts.length) : Rf (w.setCell ⟨R, 1, none⟩ (.int .i64 ((n : Int) + 1))) R A c ts (.ok (n + 1)) := by
  obtain ⟨n', e, a, ⟨h1, rfl, rfl, rfl⟩, hB, hT⟩ := h
  exact ⟨n' + 1, 0, 0, ⟨hn, rfl, rfl, rfl⟩, hB.set 1 _, hT.kept ((Kept.refl R w).setCell 1 _)⟩
theorem Rd.bump {w : World} {R : Nat} {A : Option Addr} {c : Nat} {ts : List Tok} {n e a : Nat} (h : Rd w R A c ts (.bad e a)) (hn : n + 1 < ts.length) : Rd (w.setCell ⟨R, 1, none⟩ (.int .i64 ((n : Int) + 1))) R A c ts (.bad e a) := by
  obtain ⟨n', e', a', ⟨h1, rfl, h2, rfl⟩, hB, hT⟩ := h
  exact ⟨n + 1, _, _, ⟨hn, rfl, h2, rfl⟩, hB.set 1 _, hT.kept ((Kept.refl R w).setCell 1 _)⟩
theorem Rd.free {w : World} {R : Nat} {A : Option Addr} {c : Nat} {ts : List Tok} {s : St} (h : Rd w R A c ts s) : w.frozen? ⟨R, 1, none⟩ = false := by
  obtain ⟨n', e', a', _, hB, _⟩ := h
  exact hB.frozen 1
/-- what the next token's text is read by -/
theorem Rd.text {w : World} {R : Nat} {A : Option Addr} {c : Nat} {ts : List Tok} {n : Nat} (h : Rd w R A c ts (.ok n)) : ∃ b off, A = some ⟨b, off, none⟩ ∧ b < w.heap.size ∧ R < w.heap.size ∧ w.cell? ⟨R, 0, none⟩ = some (.slice (some ⟨b, off, none⟩) ts.length c) ∧ w.cell? ⟨R, 1, none⟩ = some (.int .i64 (n : Int)) ∧ n < ts.length ∧
    w.cell? ⟨b, off + n * 3, none⟩ = some (.int .i64 (tk ts n).kind) ∧ w.cell? ⟨b, off + n * 3 + 1, none⟩ = some (.string (tk ts n).text) ∧ w.cell? ⟨b, off + n * 3 + 2, none⟩ = some (.int .i64 ((tk ts n).off : Int)) := by
  obtain ⟨n', e, a, ⟨h1, rfl, rfl, rfl⟩, hB, b, off, rfl, hb, hR, hT⟩ := h
  have hg : ts[n']? = some (tk ts n') := by
    unfold tk
    rw [List.getD_eq_getElem?_getD, List.getElem?_eq_getElem h1]; rfl
  exact ⟨b, off, rfl, hb, hB.lt, hB.cell rfl, hB.cell rfl, h1, hT n' _ hg⟩
theorem Rf.text {w : World} {R : Nat} {A : Option Addr} {c : Nat} {ts : List Tok} {n : Nat} (h : Rf w R A c ts (.ok n)) : ∃ b off, A = some ⟨b, off, none⟩ ∧ b < w.heap.size ∧ R < w.heap.size ∧ w.cell? ⟨R, 0, none⟩ = some (.slice (some ⟨b, off, none⟩) ts.length c) ∧ w.cell? ⟨R, 1, none⟩ = some (.int .i64 (n : Int)) ∧ n < ts.length ∧
    w.cell? ⟨b, off + n * 3, none⟩ = some (.int .i64 (tk ts n).kind) ∧ w.cell? ⟨b, off + n * 3 + 1, none⟩ = some (.string (tk ts n).text) ∧ w.cell? ⟨b, off + n * 3 + 2, none⟩ = some (.int .i64 ((tk ts n).off : Int)) ∧ w.cell? ⟨R, 3, none⟩ = some (.int .i64 0) := by
  obtain ⟨n', e, a, ⟨h1, rfl, rfl, rfl⟩, hB, b, off, rfl, hb, hR, hT⟩ := h
  have hg : ts[n']? = some (tk ts n') := by
    unfold tk
    rw [List.getD_eq_getElem?_getD, List.getElem?_eq_getElem h1]; rfl
  obtain ⟨t0, t1, t2⟩ := hT n' _ hg
  exact ⟨b, off, rfl, hb, hB.lt, hB.cell rfl, hB.cell rfl, h1, t0, t1, t2, hB.cell rfl⟩
theorem Rd.next {w : World} {R : Nat} {A : Option Addr} {c : Nat} {ts : List Tok} {n : Nat} (h : Rd w R A c ts (.ok n)) : w.cell? ⟨R, 1, none⟩ = some (.int .i64 (n : Int)) ∧ w.frozen? ⟨R, 1, none⟩ = false ∧ n < ts.length := by
  obtain ⟨n', e, a, ⟨h1, rfl, rfl, rfl⟩, hB, hT⟩ := h
  exact ⟨hB.cell rfl, hB.frozen 1, h1⟩
theorem Rf.next {w : World} {R : Nat} {A : Option Addr} {c : Nat} {ts : List Tok} {n : Nat} (h : Rf w R A c ts (.ok n)) : w.cell? ⟨R, 1, none⟩ = some (.int .i64 (n : Int)) ∧ w.frozen? ⟨R, 1, none⟩ = false ∧ n < ts.length := by
  obtain ⟨n', e, a, ⟨h1, rfl, rfl, rfl⟩, hB, hT⟩ := h
  exact ⟨hB.cell rfl, hB.frozen 1, h1⟩
theorem tk_get {ts : List Tok} {n : Nat} (h : n < ts.length) : ts[n]? = some (tk ts n) := by
  unfold tk
  rw [List.getD_eq_getElem?_getD, List.getElem?_eq_getElem h]; rfl
set_option maxHeartbeats 4000000 in
set_option maxRecDepth 100000 in
theorem is_any (ts : List Tok) (s : St) (kind : Int) (text : ByteArray) (R : Nat) (A : Option Addr) (c : Nat) (w : World) (h : Rd w R A c ts s) :
    Calls Tryz.prog 21 #[.pointer (some ⟨R, 0, none⟩), .int .i64 kind, .string text] w fun e w' => e = .returned (.bool (isB ts kind text s)) ∧ Below w.heap.size w w' := by
  obtain ⟨n, e, a, hS, hB, b, off, rfl, hb, hR, hT⟩ := h
  have hn := hS.1
  obtain ⟨t0, t1, t2⟩ := hT n _ (tk_get hn)
  have hRw := hB.lt
  have c0 := hB.cell (i := 0) rfl
  have c1 := hB.cell (i := 1) rfl
  have c2 := hB.cell (i := 2) rfl
  have k0 := at_kin hRw c0
  have k1 := at_kin hRw c1
  have l0 := at_kin hb t0
  have l1 := at_kin hb t1
  have l2 := at_kin hb t2
  have hBW : Hid (Below w.heap.size w ((World.alloc { w with drawn := w.drawn + 1 } (.cells #[.int .i64 (tk ts n).kind, .string (tk ts n).text, .int .i64 ((tk ts n).off : Int)] 66)))) := (Qin.start _ w).alloc (Nat.le_refl _) _
  cases s with
  | bad e' a' =>
    obtain ⟨_, rfl, h0, rfl⟩ := hS
    have he0 : ((e : Int) == 0) = false := by simpa using h0
    clear hB hT hn h0
    go_enter Tryz.func21, Tryz.ntmps21
    go_wp2_with fail
    refine Qmt.wp_region (C := Cls (Below w.heap.size w)) (by kernel_rfl) (by kernel_rfl) ?_
    simp only [List.length_cons, List.length_nil]
    refine Qmt.takes [0, 1, 2, 3, 4, 5, 6, 7, 8, 9] 2 _ _ _ (cls (Qin.start _ w)) (by kernel_rfl) ?_
    simp only [List.filterMap_cons, List.filterMap_nil, List.getElem?_toArray, List.getElem?_cons_zero, List.getElem?_cons_succ]
    change wpQuiet _ _ _ _ [_, _, _, _, _, _, _, _, _, _] _
    repeat (go_big_quiet_step (fail))
    refine wpQuiet_nil ?_
    refine Qmt.fork [10] (cls (Qin.start _ w)) (by kernel_rfl) (by simp) ⟨?_, trivial⟩
    refine Qmt.by_op rfl (by kernel_rfl) ?_
    go_wp2_with fail
    refine ⟨rfl, ?_⟩
    refine Qmt.fork [11] (cls ((Qin.start _ w).alloc (Nat.le_refl _) _)) (by kernel_rfl) (by simp) ⟨?_, trivial⟩
    refine Qmt.by_op rfl (by kernel_rfl) ?_
    go_wp2_with fail
    refine ⟨rfl, ?_⟩
    refine Qmt.by_end (cls hBW.out) (by kernel_rfl) ?_
    go_wp2_with fail
    go_ret
    exact ⟨rfl, hBW.out⟩
  | ok m =>
    obtain ⟨_, rfl, rfl, rfl⟩ := hS
    have c2' : w.cell? ⟨R, 2, none⟩ = some (.int .i64 0) := c2
    have HR : Hid (isB ts kind text (.ok n) = hitT (tk ts n) kind text) := rfl
    unfold hitT at HR
    generalize tk ts n = t at *
    clear hB hT hn c2
    cases hk : (t.kind == kind)
    · rw [hk] at HR
      go_enter Tryz.func21, Tryz.ntmps21
      go_wp2_with fail
      refine Qmt.wp_region (C := Cls (Below w.heap.size w)) (by kernel_rfl) (by kernel_rfl) ?_
      simp only [List.length_cons, List.length_nil]
      refine Qmt.takes [0, 1, 2, 3, 4, 5, 6, 7, 8, 9] 2 _ _ _ (cls (Qin.start _ w)) (by kernel_rfl) ?_
      simp only [List.filterMap_cons, List.filterMap_nil, List.getElem?_toArray, List.getElem?_cons_zero, List.getElem?_cons_succ]
      change wpQuiet _ _ _ _ [_, _, _, _, _, _, _, _, _, _] _
      repeat (go_big_quiet_step (fail))
      refine wpQuiet_nil ?_
      refine Qmt.fork [10] (cls (Qin.start _ w)) (by kernel_rfl) (by simp) ⟨?_, trivial⟩
      refine Qmt.by_op rfl (by kernel_rfl) ?_
      go_wp2_with fail
      refine ⟨rfl, ?_⟩
      refine Qmt.fork [11] (cls ((Qin.start _ w).alloc (Nat.le_refl _) _)) (by kernel_rfl) (by simp) ⟨?_, trivial⟩
      refine Qmt.by_op rfl (by kernel_rfl) ?_
      go_wp2_with fail
      refine ⟨rfl, ?_⟩
      refine Qmt.by_end (cls hBW.out) (by kernel_rfl) ?_
      go_wp2_with fail
      go_ret
      exact ⟨ret_bool HR.out.symm, hBW.out⟩
    · rw [hk] at HR
      by_cases h0 : text.size = 0
      · obtain ⟨e1, e2⟩ := str_em h0
        rw [e2] at HR
        go_enter Tryz.func21, Tryz.ntmps21
        go_wp2_with fail
        refine Qmt.wp_region (C := Cls (Below w.heap.size w)) (by kernel_rfl) (by kernel_rfl) ?_
        simp only [List.length_cons, List.length_nil]
        refine Qmt.takes [0, 1, 2, 3, 4, 5, 6, 7, 8, 9] 2 _ _ _ (cls (Qin.start _ w)) (by kernel_rfl) ?_
        simp only [List.filterMap_cons, List.filterMap_nil, List.getElem?_toArray, List.getElem?_cons_zero, List.getElem?_cons_succ]
        change wpQuiet _ _ _ _ [_, _, _, _, _, _, _, _, _, _] _
        repeat (go_big_quiet_step (fail))
        refine wpQuiet_nil ?_
        refine Qmt.fork [10] (cls (Qin.start _ w)) (by kernel_rfl) (by simp) ⟨?_, trivial⟩
        refine Qmt.by_op rfl (by kernel_rfl) ?_
        go_wp2_with fail
        refine ⟨rfl, ?_⟩
        refine Qmt.fork [11] (cls ((Qin.start _ w).alloc (Nat.le_refl _) _)) (by kernel_rfl) (by simp) ⟨?_, trivial⟩
        refine Qmt.by_op rfl (by kernel_rfl) ?_
        go_wp2_with fail
        refine ⟨rfl, ?_⟩
        refine Qmt.by_end (cls hBW.out) (by kernel_rfl) ?_
        go_wp2_with fail
        go_ret
        exact ⟨ret_bool HR.out.symm, hBW.out⟩
      · obtain ⟨e1, e2⟩ := str_ne (Nat.pos_of_ne_zero h0)
        rw [e2] at HR
        clear h0
        cases hx : (t.text.toList == text.toList)
        all_goals
          rw [hx] at HR
          go_enter Tryz.func21, Tryz.ntmps21
          go_wp2_with fail
          refine Qmt.wp_region (C := Cls (Below w.heap.size w)) (by kernel_rfl) (by kernel_rfl) ?_
          simp only [List.length_cons, List.length_nil]
          refine Qmt.takes [0, 1, 2, 3, 4, 5, 6, 7, 8, 9] 2 _ _ _ (cls (Qin.start _ w)) (by kernel_rfl) ?_
          simp only [List.filterMap_cons, List.filterMap_nil, List.getElem?_toArray, List.getElem?_cons_zero, List.getElem?_cons_succ]
          change wpQuiet _ _ _ _ [_, _, _, _, _, _, _, _, _, _] _
          repeat (go_big_quiet_step (fail))
          refine wpQuiet_nil ?_
          refine Qmt.fork [10] (cls (Qin.start _ w)) (by kernel_rfl) (by simp) ⟨?_, trivial⟩
          refine Qmt.by_op rfl (by kernel_rfl) ?_
          go_wp2_with fail
          refine ⟨rfl, ?_⟩
          refine Qmt.fork [11] (cls ((Qin.start _ w).alloc (Nat.le_refl _) _)) (by kernel_rfl) (by simp) ⟨?_, trivial⟩
          refine Qmt.by_op rfl (by kernel_rfl) ?_
          go_wp2_with fail
          refine ⟨rfl, ?_⟩
          refine Qmt.by_end (cls hBW.out) (by kernel_rfl) ?_
          go_wp2_with fail
          go_ret
          exact ⟨ret_bool HR.out.symm, hBW.out⟩
set_option maxHeartbeats 4000000 in
set_option maxRecDepth 100000 in
theorem fail_any (ts : List Tok) (s : St) (e : Nat) (R : Nat) (A : Option Addr) (c : Nat) (w : World) (h : Rd w R A c ts s) (he : e ≠ 0) :
    Calls Tryz.prog 47 #[.pointer (some ⟨R, 0, none⟩), .int .i64 (e : Int)] w fun x w' => x = .returned (.tuple #[]) ∧ Rd w' R A c ts (failS ts e s) ∧ Kept R w w' ∧ w'.cell? ⟨R, 1, none⟩ = w.cell? ⟨R, 1, none⟩ := by
  have H := hide h
  obtain ⟨n, e1, a, hS, hB, b, off, rfl, hb, hR, hT⟩ := h
  have hn := hS.1
  obtain ⟨t0, t1, t2⟩ := hT n _ (tk_get hn)
  have hRw := hB.lt
  have c0 := hB.cell (i := 0) rfl
  have c1 := hB.cell (i := 1) rfl
  have c2 := hB.cell (i := 2) rfl
  cases s with
  | bad e' a' =>
    obtain ⟨_, rfl, h0, rfl⟩ := hS
    have he0 : ((e1 : Int) == 0) = false := by simpa using h0
    clear hB hT hn h0
    go_enter Tryz.func47, Tryz.ntmps47
    go_wp2_with fail
    go_end0
    exact ⟨rfl, H.out, Kept.refl _ _, rfl⟩
  | ok m =>
    obtain ⟨_, rfl, rfl, rfl⟩ := hS
    have c2' : w.cell? ⟨R, 2, none⟩ = some (.int .i64 0) := c2
    have HB := hide hB
    have HT := hide hT
    have HN := hide hn
    have H0 := hide he
    have k0 := keptB_own (l := [0, 1]) (R := R) (by decide) c0
    have k1 := keptB_own (l := [0, 1]) (R := R) (by decide) c1
    have l2 := keptB_kin (l := [0, 1]) hb (Nat.ne_of_lt hR) t2
    have g2 := hB.cell (i := 2) rfl
    have g3 := hB.cell (i := 3) rfl
    have f2 := hB.frozen 2
    have f3 := hB.frozen 3
    have hK1 := (KeptB.drawn R [0, 1] w).set (i := 2) (by decide) (.int .i64 (e : Int))
    have hK2 := hK1.set (i := 3) (by decide) (.int .i64 ((tk ts n).off : Int))
    have HK1 := hide hK1
    have HK2 := hide hK2
    clear hB hT c2 he H hK1 hK2
    go_enter Tryz.func47, Tryz.ntmps47
    go_wp2_with fail
    refine Qmt.wp_region (C := Cls (KeptB R [0, 1] w)) (by kernel_rfl) (by kernel_rfl) ?_
    simp only [List.length_cons, List.length_nil]
    refine Qmt.takes [0, 1, 2, 3, 4, 5, 6, 7, 8, 9, 10, 11, 12, 13, 14, 15] 4 _ _ _ (cls (KeptB.drawn R [0, 1] w)) (by kernel_rfl) ?_
    simp only [List.filterMap_cons, List.filterMap_nil, List.getElem?_toArray, List.getElem?_cons_zero, List.getElem?_cons_succ]
    change wpQuiet _ _ _ _ [_, _, _, _, _, _, _, _, _, _, _, _, _, _, _, _] _
    repeat (go_big_quiet_step (fail))
    refine wpQuiet_nil ?_
    refine Qmt.fork [16] (cls (KeptB.drawn R [0, 1] w)) (by kernel_rfl) (by simp) ⟨?_, trivial⟩
    refine Qmt.by_op rfl (by kernel_rfl) ?_
    go_wp2_with fail
    refine ⟨rfl, ?_⟩
    refine Qmt.takes [17, 18] 1 _ _ _ (cls HK1.out) (by kernel_rfl) ?_
    simp only [List.filterMap_cons, List.filterMap_nil, List.getElem?_toArray, List.getElem?_cons_zero, List.getElem?_cons_succ]
    change wpQuiet _ _ _ _ [_, _] _
    repeat (go_big_quiet_step (fail))
    refine wpQuiet_nil ?_
    refine Qmt.fork [19] (cls HK1.out) (by kernel_rfl) (by simp) ⟨?_, trivial⟩
    refine Qmt.by_op rfl (by kernel_rfl) ?_
    go_wp2_with fail
    refine ⟨rfl, ?_⟩
    refine Qmt.by_end (cls HK2.out) (by kernel_rfl) ?_
    go_wp2_with fail
    go_end0
    refine ⟨rfl, ⟨n, e, (tk ts n).off, ⟨HN.out, rfl, H0.out, rfl⟩, (HB.out.set 2 _).set 3 _, ?_⟩, ?_, HK2.out.2 1 (by decide)⟩
    · exact ToksAt.kept (w := w) ⟨b, off, rfl, hb, hR, HT.out⟩ HK2.out.1
    · exact HK2.out.1
/-- what take leaves -/
def TakeP (p : ByteArray × St) (ts : List Tok) (R : Nat) (A : Option Addr) (c : Nat) (w : World) (e : Ending) (w' : World) : Prop := e = .returned (.string p.1) ∧ Rd w' R A c ts p.2 ∧ Kept R w w'
set_option maxHeartbeats 4000000 in
set_option maxRecDepth 100000 in
theorem take_any (ts : List Tok) (hts : Toks ts) (s : St) (kind : Int) (hk : kind ≠ 5) (text : ByteArray) (R : Nat) (A : Option Addr) (c : Nat) (w : World) (h : Rd w R A c ts s) (hl : ts.length ≤ 100000) :
    Calls Tryz.prog 50 #[.pointer (some ⟨R, 0, none⟩), .int .i64 kind, .string text] w (TakeP (take ts kind text s) ts R A c w) := by
  have HI := Lib.hid (is_any ts s kind text R A c w h)
  have H := hide h
  clear h
  unfold TakeP
  cases hi : isB ts kind text s
  · rw [hi] at HI
    have HT := hide (take_no hi)
    have HF := Lib.hid (fun w h => fail_any ts s 10 R A c w h (by decide))
    clear hi
    go_enter Tryz.func50, Tryz.ntmps50
    go_wp2_with fail
    refine HI.out.mono ?_
    rintro e w1 ⟨rfl, hb1⟩
    have H1 := hide (H.out.below hb1)
    go_wp2_with fail
    refine (HF.out _ H1.out).mono ?_
    rintro e w2 ⟨rfl, h2, hk2, _⟩
    go_wp2_with fail
    go_ret
    rw [HT.out]
    exact ⟨rfl, h2, (Kept.of_below hb1).trans hk2⟩
  · rw [hi] at HI
    obtain ⟨n, rfl, hh, ht⟩ := is_ok hi
    have HT := hide ht
    obtain ⟨n1, e1, a1, hS, hB, hT⟩ := H.out
    obtain ⟨hn, rfl, rfl, rfl⟩ := hS
    have hm := hts.more hn (by rw [hit_kind hh]; exact hk)
    clear hi hh ht hk hT hB
    go_enter Tryz.func50, Tryz.ntmps50
    go_wp2_with fail
    refine HI.out.mono ?_
    rintro e w1 ⟨rfl, hb1⟩
    obtain ⟨n2, e2, a2, hS, hB, hTA⟩ := H.out.below hb1
    obtain ⟨_, rfl, rfl, rfl⟩ := hS
    have g1 := hB.cell (i := 1) rfl
    have f1 := hB.frozen 1
    obtain ⟨w2, hw2⟩ : ∃ w2, w1.setCell ⟨R, 1, none⟩ (.int .i64 ((n2 : Int) + 1)) = w2 := ⟨_, rfl⟩
    have hB2 := hB.set 1 (.int .i64 ((n2 : Int) + 1))
    have hK2 := (Kept.refl R w1).setCell 1 (.int .i64 ((n2 : Int) + 1))
    rw [hw2] at hB2 hK2
    have HTA2 := hide (hTA.kept hK2)
    have HK2 := hide ((Kept.of_below hb1).trans hK2)
    have c0 := hB2.cell (i := 0) rfl
    have c1 := hB2.cell (i := 1) rfl
    obtain ⟨b, off, hA, hb, hR, hTT⟩ := HTA2.out
    obtain ⟨_, t1, _⟩ := hTT n2 _ (tk_get hn)
    subst hA
    have HB2 := hide hB2
    clear hB hTA hB2 hK2 hTT H
    go_wp2_with fail
    go_quiet (fail)
    go_wp2_with fail
    go_ret
    rw [HT.out]
    exact ⟨rfl, ⟨n2 + 1, 0, 0, ⟨hm, rfl, rfl, rfl⟩, HB2.out.drew nq, HTA2.out.kept ((Kept.refl R w2).drew nq)⟩, HK2.out.drew nq⟩
end Go.Proofs.YtnbdckfnohagbaaGreatDoor.PqC
