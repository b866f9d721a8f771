/- The walks of the program's class, limit and clause. -/
import Derived.Test.YtnbdckfnohagbaaGreatDoorPqC
import Derived.Test.YtnbdckfnohagbaaGreatDoorRQ
import Derived.Test.YtnbdckfnohagbaaGreatDoorQmu
namespace Go.Proofs.YtnbdckfnohagbaaGreatDoor.PqD
theorem here : True := trivial
open Go.RowKit Lx Wd RnW PqA PqB PqC RoL RnQ RnR RnP RtA RpF
theorem str_info : (Tryz.prog.info? 9).map (fun i => (i.zero, i.size, i.bytes)) = some (some (.string ByteArray.empty), 1, 16) := by kernel_rfl
theorem cl_info : (Tryz.prog.info? 45).map (fun i => (i.zero, i.size, i.bytes)) = some (some (.agg #[.int .i64 0, .string ByteArray.empty, .string ByteArray.empty, .slice none 0 0, .bool false, .string ByteArray.empty, .string ByteArray.empty, .int .i64 0]), 8, 112) := by kernel_rfl
section
variable {w w' a : World} {R K : Nat} {A : Option Addr} {c : Nat} {ts : List Tok} {s : St}
theorem _root_.Go.Proofs.YtnbdckfnohagbaaGreatDoor.PqC.ToksAt.low (h : ToksAt w R A ts) (hb : Below R w w') : ToksAt w' R A ts := by
  obtain ⟨b, off, e, hlt, hR, hc⟩ := h
  refine ⟨b, off, e, Nat.lt_of_lt_of_le hlt hb.size, hR, fun k t ht => ?_⟩
  obtain ⟨h0, h1, h2⟩ := hc k t ht
  exact ⟨(hb.cell (p := ⟨b, _, none⟩) hR).trans h0, (hb.cell (p := ⟨b, _, none⟩) hR).trans h1, (hb.cell (p := ⟨b, _, none⟩) hR).trans h2⟩
theorem _root_.Go.Proofs.YtnbdckfnohagbaaGreatDoor.PqC.Rd.low (h : Rd w R A c ts s) (hb : Below (R + 1) w w') : Rd w' R A c ts s := by
  obtain ⟨n, e, b, hS, hB, hT⟩ := h
  exact ⟨n, e, b, hS, hB.keep hb (by omega), ToksAt.low hT (hb.mono (by omega))⟩
theorem _root_.Go.Proofs.YtnbdckfnohagbaaGreatDoor.PqC.Rf.low (h : Rf w R A c ts s) (hb : Below (R + 1) w w') : Rf w' R A c ts s := by
  obtain ⟨n, e, b, hS, hB, hT⟩ := h
  exact ⟨n, e, b, hS, hB.keep hb (by omega), ToksAt.low hT (hb.mono (by omega))⟩
theorem _root_.Go.Proofs.YtnbdckfnohagbaaGreatDoor.PqB.Kept.new (h : Kept R a w) (hK : a.heap.size ≤ K) (i : Nat) (v : Value) : Kept R a (w.setCell ⟨K, i, none⟩ v) :=
  ⟨h.os, h.tape, h.output, by simp only [World.setCell, Array.size_modify]; exact h.size, fun k hk hr => (Below.heap_setCell _ _ _ _ (by show k ≠ K; omega)).trans (h.block k hk hr)⟩
theorem _root_.Go.Proofs.YtnbdckfnohagbaaGreatDoor.PqB.Kept.grown {row : Option Nat} (h : Kept R a w) (hg : w.grownBy w' row) (hr : ∀ g, row = some g → a.heap.size ≤ g) : Kept R a w' :=
  ⟨hg.os.trans h.os, hg.tape.trans h.tape, hg.output.trans h.output, Nat.le_trans h.size hg.size,
   fun k hk hne => (hg.block k (by have := h.size; omega) (fun e => by have := hr k e.symm; omega)).trans (h.block k hk hne)⟩
theorem _root_.Go.Proofs.YtnbdckfnohagbaaGreatDoor.PqB.Kept.drawn (R : Nat) (w : World) : Kept R w { w with drawn := w.drawn + 1 } := ⟨rfl, rfl, rfl, Nat.le_refl _, fun _ _ _ => rfl⟩
end
/-- the blocks below B but R are as they were -/
structure Kb (R B : Nat) (w w' : World) : Prop where
  os : w'.os = w.os
  tape : w'.tape = w.tape
  output : w'.output = w.output
  size : w.heap.size ≤ w'.heap.size
  block : ∀ k, k < B → k ≠ R → w'.heap[k]? = w.heap[k]?
instance inkb (R B : Nat) (W : World) : Nonempty (Qin.In (Kb R B W)) := ⟨⟨_, rfl, rfl, rfl, Nat.le_refl _, fun _ _ _ => rfl⟩⟩
section
variable {w w' w'' a : World} {R B : Nat}
theorem Kb.drawn (R B : Nat) (w : World) : Kb R B w { w with drawn := w.drawn + 1 } := ⟨rfl, rfl, rfl, Nat.le_refl _, fun _ _ _ => rfl⟩
theorem Kb.kept (h : Kb R B a w) (k : Kept R w w') (hB : B ≤ w.heap.size) : Kb R B a w' :=
  ⟨k.os.trans h.os, k.tape.trans h.tape, k.output.trans h.output, Nat.le_trans h.size k.size, fun i hi hr => (k.block i (by omega) hr).trans (h.block i hi hr)⟩
theorem Kb.below (h : Kb R B a w) (k : Below B w w') : Kb R B a w' :=
  ⟨k.os.trans h.os, k.tape.trans h.tape, k.output.trans h.output, Nat.le_trans h.size k.size, fun i hi hr => (k.block i hi).trans (h.block i hi hr)⟩
theorem Kb.cell (h : Kb R B w w') {p : Addr} (hp : p.block < B) (hr : p.block ≠ R) : w'.cell? p = w.cell? p := World.cell?_of_block (h.block _ hp hr)
theorem kb_kin {b j : Nat} {x : Value} (hb : b < B) (hR : b ≠ R) (h : w.cell? ⟨b, j, none⟩ = some x) (v : Qin.In (Kb R B w)) : v.val.cell? ⟨b, j, none⟩ = some x := (v.ok.cell (p := ⟨b, j, none⟩) hb hR).trans h
theorem _root_.Go.Proofs.YtnbdckfnohagbaaGreatDoor.PqB.Kept.kb (h : Kept R a w) (k : Kb R B w w') (hB : a.heap.size ≤ B) : Kept R a w' :=
  ⟨k.os.trans h.os, k.tape.trans h.tape, k.output.trans h.output, Nat.le_trans h.size k.size, fun i hi hr => (k.block i (by omega) hr).trans (h.block i hi hr)⟩
end
/-- one string more in a list -/
theorem cell_one (w : World) (s : ByteArray) (T : TypeId) : ∀ j u, ([Value.string s] : List Value)[j]? = some u → (w.alloc (.cells #[.string s] T)).cell? ((⟨w.heap.size, 0, none⟩ : Addr).add j) = some u := by
  intro j u h
  match j, h with
  | 0, h =>
    simp only [List.getElem?_cons_zero, Option.some.injEq] at h
    subst h
    simp [Addr.add, World.cell?_alloc_new]
  | j + 1, h => simp at h
/-- a clause as a block -/
def clv (k : Int) (n o : ByteArray) (v : Value) (g : Bool) (x y : ByteArray) (t : Int) : List Value := [.int .i64 k, .string n, .string o, v, .bool g, .string x, .string y, .int .i64 t]
theorem _root_.Go.Proofs.YtnbdckfnohagbaaGreatDoor.PqB.Blk.set8 {w : World} {K : Nat} {l : List Value} (h : Blk w K l) (hl : l.length = 8) (a b c d e f g i : Value) :
    Blk ((((((((w.setCell ⟨K, 0, none⟩ a).setCell ⟨K, 1, none⟩ b).setCell ⟨K, 2, none⟩ c).setCell ⟨K, 3, none⟩ d).setCell ⟨K, 4, none⟩ e).setCell ⟨K, 5, none⟩ f).setCell ⟨K, 6, none⟩ g).setCell ⟨K, 7, none⟩ i) K [a, b, c, d, e, f, g, i] := by
  have H := (((((((h.set 0 a).set 1 b).set 2 c).set 3 d).set 4 e).set 5 f).set 6 g).set 7 i
  match l, hl with
  | [_, _, _, _, _, _, _, _], _ => exact H
theorem cells8 {w : World} {k : Nat} {a b c d e f g i : Value} (h : Blk w k [a, b, c, d, e, f, g, i]) :
    w.cell? ⟨k, 0, none⟩ = some a ∧ w.cell? ⟨k, 1, none⟩ = some b ∧ w.cell? ⟨k, 2, none⟩ = some c ∧ w.cell? ⟨k, 3, none⟩ = some d ∧ w.cell? ⟨k, 4, none⟩ = some e ∧ w.cell? ⟨k, 5, none⟩ = some f ∧ w.cell? ⟨k, 6, none⟩ = some g ∧ w.cell? ⟨k, 7, none⟩ = some i :=
  ⟨h.cell rfl, h.cell rfl, h.cell rfl, h.cell rfl, h.cell rfl, h.cell rfl, h.cell rfl, h.cell rfl⟩
theorem frozen8 {w : World} {k : Nat} {l : List Value} (h : Blk w k l) :
    w.frozen? ⟨k, 0, none⟩ = false ∧ w.frozen? ⟨k, 1, none⟩ = false ∧ w.frozen? ⟨k, 2, none⟩ = false ∧ w.frozen? ⟨k, 3, none⟩ = false ∧ w.frozen? ⟨k, 4, none⟩ = false ∧ w.frozen? ⟨k, 5, none⟩ = false ∧ w.frozen? ⟨k, 6, none⟩ = false ∧ w.frozen? ⟨k, 7, none⟩ = false :=
  ⟨h.frozen 0, h.frozen 1, h.frozen 2, h.frozen 3, h.frozen 4, h.frozen 5, h.frozen 6, h.frozen 7⟩
/-- what is above R stays when the cells of a new block are written -/
theorem below_set8 {B K : Nat} {a w : World} (h : Below B a w) (hK : B ≤ K) (x0 x1 x2 x3 x4 x5 x6 x7 : Value) :
    Below B a ((((((((w.setCell ⟨K, 0, none⟩ x0).setCell ⟨K, 1, none⟩ x1).setCell ⟨K, 2, none⟩ x2).setCell ⟨K, 3, none⟩ x3).setCell ⟨K, 4, none⟩ x4).setCell ⟨K, 5, none⟩ x5).setCell ⟨K, 6, none⟩ x6).setCell ⟨K, 7, none⟩ x7) :=
  (((((((h.setCell (p := ⟨K, 0, none⟩) hK x0).setCell (p := ⟨K, 1, none⟩) hK x1).setCell (p := ⟨K, 2, none⟩) hK x2).setCell (p := ⟨K, 3, none⟩) hK x3).setCell (p := ⟨K, 4, none⟩) hK x4).setCell (p := ⟨K, 5, none⟩) hK x5).setCell (p := ⟨K, 6, none⟩) hK x6).setCell (p := ⟨K, 7, none⟩) hK x7
theorem kept_set8 {K : Nat} {a w : World} (h : Kept K a w) (x0 x1 x2 x3 x4 x5 x6 x7 : Value) :
    Kept K a ((((((((w.setCell ⟨K, 0, none⟩ x0).setCell ⟨K, 1, none⟩ x1).setCell ⟨K, 2, none⟩ x2).setCell ⟨K, 3, none⟩ x3).setCell ⟨K, 4, none⟩ x4).setCell ⟨K, 5, none⟩ x5).setCell ⟨K, 6, none⟩ x6).setCell ⟨K, 7, none⟩ x7) :=
  (((((((h.setCell 0 x0).setCell 1 x1).setCell 2 x2).setCell 3 x3).setCell 4 x4).setCell 5 x5).setCell 6 x6).setCell 7 x7
/-- a kept world is kept below a block that is not in it -/
theorem Kept.out {R K : Nat} {a w w' : World} (h : Kept R a w) (k : Kept K w w') (hK : a.heap.size ≤ K) : Kept R a w' :=
  ⟨k.os.trans h.os, k.tape.trans h.tape, k.output.trans h.output, Nat.le_trans h.size k.size, fun i hi hr => (k.block i (by have := h.size; omega) (by omega)).trans (h.block i hi hr)⟩
theorem load8 {w : World} {k : Nat} {a b c d e f g i : Value} (h : Blk w k [a, b, c, d, e, f, g, i]) : (loadVar 45 ⟨k, 0, none⟩).run Tryz.prog w = .ok (.agg #[a, b, c, d, e, f, g, i]) w := by
  have c0 := h.cell (i := 0) rfl
  have c1 := h.cell (i := 1) rfl
  have c2 := h.cell (i := 2) rfl
  have c3 := h.cell (i := 3) rfl
  have c4 := h.cell (i := 4) rfl
  have c5 := h.cell (i := 5) rfl
  have c6 := h.cell (i := 6) rfl
  have c7 := h.cell (i := 7) rfl
  simp [loadVar, go_sem, c0, c1, c2, c3, c4, c5, c6, c7]
theorem results_cl {fn : Func} {p : Tmp} (h : fn.results = #[.cell p 45]) (tmps : Array Value) {w : World} {k : Nat} {a b c d e f g i : Value} (hp : tmps.getD p undef = .pointer (some ⟨k, 0, none⟩)) (hb : Blk w k [a, b, c, d, e, f, g, i]) :
    (results fn tmps).run Tryz.prog w = .ok (.agg #[a, b, c, d, e, f, g, i]) w := by
  have hp' : tmps[p]?.getD undef = .pointer (some ⟨k, 0, none⟩) := by simpa using hp
  simp [results, h, hp', asAddr, load8 hb]
/-- what a reader of a clause leaves -/
def ClP (p : Cl × St) (ts : List Tok) (R : Nat) (A : Option Addr) (c : Nat) (w : World) (e : Ending) (w' : World) : Prop :=
  ∃ A' c', e = .returned (.agg #[.int .i64 p.1.kind, .string p.1.name, .string p.1.other, .slice A' p.1.list.length c', .bool p.1.neg, .string p.1.num, .string p.1.den, .int .i64 p.1.off]) ∧ Strs (w.heap.size ≤ ·) w' A' c' p.1.list ∧ Rd w' R A c ts p.2 ∧ Kept R w w'
/-- a new clause in a block of its own -/
theorem new8 (w : World) (a b c d e f g i : Value) (T : TypeId) : ∃ V, w.alloc (.cells #[a, b, c, d, e, f, g, i] T) = V ∧ Hid (Blk V w.heap.size [a, b, c, d, e, f, g, i]) ∧ Hid (Below w.heap.size w V) ∧ V.heap.size = w.heap.size + 1 :=
  ⟨_, rfl, Blk.new w [a, b, c, d, e, f, g, i] T, (Below.refl _ _).alloc (Nat.le_refl _) _, by simp⟩
set_option maxHeartbeats 8000000 in
set_option maxRecDepth 100000 in
theorem class_any (ts : List Tok) (hts : Toks ts) (s : St) (R : Nat) (A : Option Addr) (c : Nat) (w : World) (h : Rd w R A c ts s) (hl : ts.length ≤ 100000) :
    Calls Tryz.prog 48 #[.pointer (some ⟨R, 0, none⟩)] w (ClP (⟨1, (classP ts s).1.1, sNo, (classP ts s).1.2, false, sNo, sNo, 0⟩, (classP ts s).2) ts R A c w) := by
  have HTK := Lib.hid (fun s kind hk text w h => take_any ts hts s kind hk text R A c w h hl)
  obtain ⟨i0, hi, hz0, hz1, hz2⟩ := info_parts str_info
  have hRw := h.lt
  rcases h1 : take ts 1 ⟨#[]⟩ s with ⟨nm, s1⟩
  rcases h2 : take ts 4 ⟨#[61]⟩ s1 with ⟨x2, s2⟩
  rcases h3 : take ts 1 ⟨#[]⟩ s2 with ⟨m, s3⟩
  rcases h4 : members ts (ts.length + 1) [m] s3 with ⟨l4, s4⟩
  have hc : classP ts s = ((nm, l4), s4) := by
    unfold classP sNo sEq
    simp only [h1, h2, h3, h4]
  rw [hc]
  have HT1 := Lib.hid (fun w h => HTK.out s 1 (by decide) ⟨#[]⟩ w h)
  rw [h1] at HT1
  have HT2 := Lib.hid (fun w h => HTK.out s1 4 (by decide) ⟨#[61]⟩ w h)
  rw [h2] at HT2
  have HT3 := Lib.hid (fun w h => HTK.out s2 1 (by decide) ⟨#[]⟩ w h)
  rw [h3] at HT3
  have H4 := hide h4
  have H := hide h
  clear h h1 h2 h3 h4 hc
  unfold TakeP at HT1 HT2 HT3
  obtain ⟨V0, hV0, HJ, HBE, hs0⟩ := new8 w (.int .i64 0) (.string ⟨#[]⟩) (.string ⟨#[]⟩) (.slice none 0 0) (.bool false) (.string ⟨#[]⟩) (.string ⟨#[]⟩) (.int .i64 0) 45
  have HR := hide (H.out.below HBE.out)
  have HK := hide ((Kept.refl R w).step HBE.out)
  go_enter Tryz.func48, Tryz.ntmps48
  go_wp2_with fail
  refine (HT1.out _ HR.out).mono ?_
  rintro e w2 ⟨rfl, hr2, hk2⟩
  obtain ⟨V2, hV2, HB, HBV, hs2⟩ := new8 w2 (.int .i64 1) (.string nm) (.string ⟨#[]⟩) (.slice none 0 0) (.bool false) (.string ⟨#[]⟩) (.string ⟨#[]⟩) (.int .i64 0) 45
  replace HJ := hide ((HJ.out.kept hk2 (by omega)).below HBV.out)
  replace HR := hide (hr2.below HBV.out)
  replace HK := hide ((HK.out.trans hk2).step (HBV.out.mono (Nat.le_trans HK.out.size hk2.size)))
  have hJ2 : w.heap.size < w2.heap.size := by have := hk2.size; omega
  have HV2 := hide hV2
  clear hk2 hr2 HBE hs0 HBV hV2
  go_wp2_with fail
  rw [HV2.out]
  have hs3 : w2.heap.size < V2.heap.size := by omega
  clear HV2
  refine (HT2.out _ HR.out).mono ?_
  rintro e w3 ⟨rfl, hr3, hk3⟩
  replace HJ := hide (HJ.out.kept hk3 (by omega))
  replace HB := hide (HB.out.kept hk3 (by omega))
  replace HR := hide hr3
  replace HK := hide (HK.out.trans hk3)
  have hs4 : w2.heap.size < w3.heap.size := by have := hk3.size; omega
  clear hk3 hr3 hs3 hs2
  obtain ⟨K, hKe⟩ : ∃ K, w2.heap.size = K := ⟨_, rfl⟩
  rw [hKe] at HB hJ2 hs4 ⊢
  have hRK : R < K := by omega
  have hKR : R ≠ K := by omega
  have hwK : w.heap.size ≤ K := by omega
  clear hKe hV0
  have HO : Hid (w3.ownsRow (K + 1) 9 1 (.slice none 0 0) 0 []) := World.ownsRow_nil _ _ _ _
  have k3 := kb_kin (R := R) (B := K + 1) (by omega) hKR.symm (HB.out.cell (i := 3) rfl)
  go_wp2_with fail
  refine Qmu.wp_region (C := Cls (Kb R (K + 1) w3)) 7 (by kernel_rfl) (by kernel_rfl) (by kernel_rfl) ?_
  simp only [List.length_cons, List.length_nil]
  refine Qmu.takes (s := 7) (cls (Kb.drawn R (K + 1) w3)) [0, 1, 2] 5 _ _ _ (fun _ => cls (Kb.drawn R (K + 1) w3)) (by decide) (by kernel_rfl) ?_
  simp only [List.filterMap_cons, List.filterMap_nil, List.getElem?_toArray, List.getElem?_cons_zero, List.getElem?_cons_succ]
  change wpQuiet _ _ _ _ [_, _, _] _
  repeat (go_big_quiet_step (fail))
  refine wpQuiet_nil ?_
  refine Qmu.fork [3] (fun _ => cls (Kb.drawn R (K + 1) w3)) (by kernel_rfl) (by simp) ⟨?_, trivial⟩
  refine Qmu.by_op rfl (by kernel_rfl) ?_
  go_wp2_with fail
  refine (HT3.out _ (HR.out.below (Qin.start _ _))).mono ?_
  rintro e wB ⟨rfl, hrB, hkB⟩
  have HKB := hide (((Kb.drawn R (K + 1) w3).kept hkB (by show K + 1 ≤ w3.heap.size; have := HB.out.lt; omega)))
  replace HR := hide hrB
  have HBB := hide (Blk.kept HB.out ((Kept.drawn R w3).trans hkB) hKR.symm)
  have HOB := hide (((Kept.drawn R w3).trans hkB).own HO.out (by omega))
  replace HJ := hide (Blk.kept HJ.out ((Kept.drawn R w3).trans hkB) (by omega))
  clear hrB hkB k3
  go_wp2_with fail
  refine ⟨rfl, ?_⟩
  refine Qmu.fork [4] (fun _ => cls HKB.out) (by kernel_rfl) (by simp) ⟨?_, trivial⟩
  refine Qmu.by_op rfl (by kernel_rfl) ?_
  obtain ⟨V, hV⟩ : ∃ V, wB.alloc (.cells #[.string m] 9) = V := ⟨_, rfl⟩
  have hbV : Below wB.heap.size wB V := by rw [← hV]; exact (Below.refl _ _).alloc (Nat.le_refl _) _
  have hltB := HBB.out.lt
  go_wp2_with fail
  refine ⟨rfl, ?_⟩
  have hcV := cell_one wB m 9
  rw [hV] at hcV
  have HKV := hide (HKB.out.below (hbV.mono (by omega)))
  replace HR := hide (HR.out.below hbV)
  have HBV := hide (HBB.out.below hbV)
  have HOV := hide (own_below HOB.out hbV)
  have HCV := Lib.hid hcV
  replace HJ := hide (HJ.out.below hbV)
  clear hV hcV
  refine Qmu.fork [5] (fun _ => cls HKV.out) (by kernel_rfl) (by simp) ⟨?_, trivial⟩
  refine Qmu.by_op rfl (by kernel_rfl) ?_
  refine wpList_append_own _ rfl (.tmp 10) (.tmp 13) 41 rfl (K + 1) 9 i0 _ 1 16 Tryz.underlying41 hi hz0 hz1 hz2 rfl (by decide) _ _ _ rfl HOV.out ⟨wB.heap.size, 0, none⟩ 1 1 [.string m] rfl rfl ?c1 ?c2 ?c3 ?c4 ?c5 ?_
  case c1 => exact HCV.out
  case c2 => simp [Value.oneCell']
  case c3 => unfold maxLen; omega
  case c4 => omega
  case c5 => have := HBV.out.lt; omega
  intro v5 w5 hown5' hg5 _
  obtain ⟨n5, hn5⟩ : ∃ n5, (([] : List ByteArray) ++ [m]).length = n5 := ⟨_, rfl⟩
  have hown5 : w5.ownsRow (K + 1) 9 1 v5 n5 ((([] : List ByteArray) ++ [m]).map Value.string) := by rw [← hn5]; simpa using hown5'
  have HN5 := hide hn5
  clear hn5 hown5'
  obtain ⟨A5, c5, rfl⟩ := own_slice hown5
  have hg5' : Below (K + 1) V w5 := (Below.refl _ _).grown hg5 (by have := HBV.out.lt; omega) (fun g hg => (HOV.out.lt g hg).1)
  have HK5 := hide (HKV.out.below hg5')
  replace HR := hide (HR.out.low (hg5'.mono (by omega)))
  have HB5 := hide (HBV.out.keep hg5' (by omega))
  have HO5 := hide hown5
  replace HJ := hide (HJ.out.keep hg5' (by omega))
  have g3 := HB5.out.cell (i := 3) rfl
  have f3 := HB5.out.frozen 3
  clear hown5 hg5 hg5'
  go_wp2_with fail
  refine ⟨rfl, ?_⟩
  simp only [Act.put, List.getElem_toArray, List.getElem_cons_succ, List.getElem_cons_zero, List.setIfInBounds_toArray, List.set_cons_succ, List.set_cons_zero]
  refine Qmu.takes (s := 7) (cls (Kb.drawn R (K + 1) w3)) [6] 1 _ _ _ (fun _ => cls HK5.out) (by decide) (by kernel_rfl) ?_
  simp only [List.filterMap_cons, List.filterMap_nil, List.getElem?_toArray, List.getElem?_cons_zero, List.getElem?_cons_succ]
  change wpQuiet _ _ _ _ [_] _
  repeat (go_big_quiet_step (fail))
  refine wpQuiet_nil ?_
  refine Qmu.fork [7] (fun _ => cls HK5.out) (by kernel_rfl) (by simp) ⟨?_, trivial⟩
  refine Qmu.by_op rfl (by kernel_rfl) ?_
  go_wp2_with fail
  refine ⟨rfl, ?_⟩
  refine Qmu.by_end (Qmu.past (by kernel_rfl)) (by kernel_rfl) ?_
  have HR7 := hide (HR.out.low (((Below.refl (R + 1) w5).setCell (p := ⟨K, 3, none⟩) (by show R + 1 ≤ K; omega) (.slice A5 n5 c5))))
  have HB7 := hide (HB5.out.set 3 (.slice A5 n5 c5))
  have HO7 := hide (ownsRow_setCell_below HO5.out (a := ⟨K, 3, none⟩) (by show K < K + 1; omega) (.slice A5 n5 c5))
  have HK7 := hide ((Kept.kb HK.out HK5.out (by omega)).new (K := K) (by omega) 3 (.slice A5 n5 c5))
  replace HJ := hide (HJ.out.other (k := K) (by omega) 3 (.slice A5 n5 c5))
  obtain ⟨w7, hw7⟩ : ∃ w7, w5.setCell ⟨K, 3, none⟩ (.slice A5 n5 c5) = w7 := ⟨_, rfl⟩
  rw [hw7] at HR7 HB7 HO7 HK7 HJ ⊢
  clear hw7 HR HBB HOB HBV HOV HCV HB5 HO5 HK5 HKB HKV g3 f3 hbV hltB
  go_wp2_with fail
  go_loopw [] (fun wr => ∃ (f : Nat) (l : List ByteArray) (sx : St) (A' : Option Addr) (n' c' : Nat), Hid (l.length = n') ∧ l.length + f = ts.length + 2 ∧ (∀ n, sx = .ok n → ts.length + 1 ≤ n + f) ∧ Hid (members ts f l sx = (l4, s4)) ∧ Hid (Rd wr R A c ts sx) ∧ Hid (Kept R w wr) ∧ Hid (Blk wr K (clv 1 nm ⟨#[]⟩ (.slice A' n' c') false ⟨#[]⟩ ⟨#[]⟩ 0)) ∧ Hid (wr.ownsRow (K + 1) 9 1 (.slice A' n' c') n' (l.map Value.string)) ∧ Hid (Blk wr w.heap.size [.int .i64 0, .string ⟨#[]⟩, .string ⟨#[]⟩, .slice none 0 0, .bool false, .string ⟨#[]⟩, .string ⟨#[]⟩, .int .i64 0])) (fun wr => left ts.length R 1 2 wr)
  case atStart => exact ⟨ts.length + 1, [m], s3, A5, n5, c5, HN5, by simp; omega, fun n _ => by omega, H4, HR7, HK7, HB7, HO7, HJ⟩
  case round =>
    clear HR7 HK7 HB7 HO7 HJ HN5 H4 HK H HB HO HT1 HT2 HT3
    obtain ⟨f, l, sx, A', n', c', HN, hlf, hfu, HM, HR, HK, HB, HO, HJ⟩ := hrel
    have HIS := Lib.hid (fun w h => is_any ts sx 4 ⟨#[44]⟩ R A c w h)
    cases hcm : isB ts 4 ⟨#[44]⟩ sx
    · rw [hcm] at HIS
      have hM := HM.out
      rw [members_stop hcm] at hM
      injection hM with e1 e2
      subst e1; subst e2
      go_wp2_with fail
      refine (HIS.out _ HR.out).mono ?_
      rintro e w8 ⟨rfl, hb8⟩
      have hJ8 := HJ.out.below hb8
      have HB8 := hide (HB.out.below hb8)
      have HJ8 := hide hJ8
      have HR8 := hide (HR.out.below hb8)
      have HK8 := hide (HK.out.trans (Kept.of_below hb8))
      have HO8 := hide (own_below HO.out hb8)
      clear hb8 hJ8 HB HJ HR HK HO HM
      obtain ⟨c0, c1, c2, c3, c4, c5, c6, c7⟩ := cells8 HB8.out
      obtain ⟨d0, d1, d2, d3, d4, d5, d6, d7⟩ := cells8 HJ8.out
      obtain ⟨e0, e1, e2, e3, e4, e5, e6, e7⟩ := frozen8 HJ8.out
      go_wp2_with fail
      refine bodyPost_ret (results_cl rfl _ rfl (HJ8.out.set8 rfl _ _ _ _ _ _ _ _)) rfl ?_
      obtain rfl := HN.out
      obtain ⟨A9, c9, e9, hS⟩ := Strs.own (P := fun b => K < b) HO8.out (fun b hb => by omega) (by unfold maxLen; omega)
      injection e9 with e91 e92 e93
      subst e91; subst e93
      have hk8 := kept_set8 (Kept.refl w.heap.size w8) (.int .i64 1) (.string nm) (.string ⟨#[]⟩) (.slice A' l.length c') (.bool false) (.string ⟨#[]⟩) (.string ⟨#[]⟩) (.int .i64 0)
      exact ⟨A', c', rfl, (hS.kept (by omega) hk8).mono (fun b hb => by omega), HR8.out.low (hk8.below (by omega) (by have := HJ8.out.lt; omega)), Kept.out HK8.out hk8 (Nat.le_refl _)⟩
    · rw [hcm] at HIS
      obtain ⟨n, rfl, hh, _⟩ := is_ok hcm
      obtain ⟨_, _, hn⟩ := HR.out.next
      have hf1 := hfu n rfl
      obtain ⟨f, rfl⟩ : ∃ f', f = f' + 1 := ⟨f - 1, by omega⟩
      have hM := HM.out
      rw [members_go hh] at hM
      have HM1 := hide hM
      have hn1 := hts.more hn (by rw [hit_kind hh]; decide)
      have hN := HN.out
      subst hN
      obtain ⟨b2, hb2⟩ : ∃ b, hitT (tk ts (n + 1)) 1 ⟨#[]⟩ = b := ⟨_, rfl⟩
      have HIS2 := Lib.hid (fun w h => is_any ts (.ok (n + 1)) 1 ⟨#[]⟩ R A c w h)
      change Hid (∀ (w : World) (h : Rd w R A c ts (.ok (n + 1))), Calls _ _ _ w fun e w' => e = .returned (.bool (hitT (tk ts (n + 1)) 1 ⟨#[]⟩)) ∧ Below w.heap.size w w') at HIS2
      rw [hb2] at HIS2
      have HF := Lib.hid (fun w h => fail_any ts (.ok (n + 1)) 2 R A c w h (by decide))
      have HR0 := hide HR.out
      obtain ⟨ln, hln⟩ : ∃ k, l.length = k := ⟨_, rfl⟩
      have HLN := hide hln
      rw [hln] at HB HO hlf
      clear hln hfu HN HM hM hcm
      cases b2
      · have hmem : member ts l n = take ts 1 ⟨#[]⟩ (.ok (n + 1)) := by unfold member sNo; rw [hb2]; rfl
        clear hb2
        rcases htt : take ts 1 ⟨#[]⟩ (.ok (n + 1)) with ⟨t, sz⟩
        rw [htt] at hmem
        have HTT := Lib.hid (fun w h => HTK.out (.ok (n + 1)) 1 (by decide) ⟨#[]⟩ w h)
        rw [htt] at HTT
        unfold TakeP at HTT
        have HMEM := hide hmem
        clear htt hmem
        go_wp2_with fail
        refine (HIS.out _ HR.out).mono ?_
        rintro e w8 ⟨rfl, hb8⟩
        replace HR := hide (HR.out.below hb8)
        replace HB := hide (HB.out.below hb8)
        replace HO := hide (own_below HO.out hb8)
        replace HJ := hide (HJ.out.below hb8)
        replace HK := hide (HK.out.trans (Kept.of_below hb8))
        clear hb8
        obtain ⟨g1, f1, _⟩ := HR.out.next
        obtain ⟨w9, hw9⟩ : ∃ w9, w8.setCell ⟨R, 1, none⟩ (.int .i64 ((n : Int) + 1)) = w9 := ⟨_, rfl⟩
        have hk9 := (Kept.refl R w8).setCell 1 (.int .i64 ((n : Int) + 1))
        have hr9 := HR.out.step hn1
        rw [hw9] at hk9 hr9
        replace HR := hide hr9
        replace HB := hide (HB.out.kept hk9 hKR.symm)
        replace HO := hide (hk9.own HO.out (by omega))
        replace HJ := hide (HJ.out.kept hk9 (by omega))
        replace HK := hide (HK.out.trans hk9)
        clear hk9 hr9
        go_wp2_with fail
        clear g1 f1 hw9
        refine (HIS2.out _ HR.out).mono ?_
        rintro e w10 ⟨rfl, hb10⟩
        replace HR := hide (HR.out.below hb10)
        replace HB := hide (HB.out.below hb10)
        replace HO := hide (own_below HO.out hb10)
        replace HJ := hide (HJ.out.below hb10)
        replace HK := hide (HK.out.trans (Kept.of_below hb10))
        clear hb10
        have g3 := HB.out.cell (i := 3) rfl
        go_wp2_with fail
        have k3 := kb_kin (R := R) (B := K + 1) (by omega) hKR.symm g3
        clear g3
        refine Qmu.wp_region (C := Cls (Kb R (K + 1) w10)) 7 (by kernel_rfl) (by kernel_rfl) (by kernel_rfl) ?_
        simp only [List.length_cons, List.length_nil]
        refine Qmu.takes (s := 7) (cls (Kb.drawn R (K + 1) w10)) [0, 1, 2] 5 _ _ _ (fun _ => cls (Kb.drawn R (K + 1) w10)) (by decide) (by kernel_rfl) ?_
        simp only [List.filterMap_cons, List.filterMap_nil, List.getElem?_toArray, List.getElem?_cons_zero, List.getElem?_cons_succ]
        change wpQuiet _ _ _ _ [_, _, _] _
        repeat (go_big_quiet_step (fail))
        refine wpQuiet_nil ?_
        refine Qmu.fork [3] (fun _ => cls (Kb.drawn R (K + 1) w10)) (by kernel_rfl) (by simp) ⟨?_, trivial⟩
        refine Qmu.by_op rfl (by kernel_rfl) ?_
        go_wp2_with fail
        refine (HTT.out _ (HR.out.below (Qin.start _ _))).mono ?_
        rintro e wB ⟨rfl, hrB, hkB⟩
        have HKB := hide (((Kb.drawn R (K + 1) w10).kept hkB (by show K + 1 ≤ w10.heap.size; have := HB.out.lt; omega)))
        replace HR := hide hrB
        have HBB := hide (Blk.kept HB.out ((Kept.drawn R w10).trans hkB) hKR.symm)
        have HOB := hide (((Kept.drawn R w10).trans hkB).own HO.out (by omega))
        replace HJ := hide (Blk.kept HJ.out ((Kept.drawn R w10).trans hkB) (by omega))
        clear hrB hkB k3
        go_wp2_with fail
        refine ⟨rfl, ?_⟩
        refine Qmu.fork [4] (fun _ => cls HKB.out) (by kernel_rfl) (by simp) ⟨?_, trivial⟩
        refine Qmu.by_op rfl (by kernel_rfl) ?_
        obtain ⟨V, hV⟩ : ∃ V, wB.alloc (.cells #[.string t] 9) = V := ⟨_, rfl⟩
        have hbV : Below wB.heap.size wB V := by rw [← hV]; exact (Below.refl _ _).alloc (Nat.le_refl _) _
        have hltB := HBB.out.lt
        go_wp2_with fail
        refine ⟨rfl, ?_⟩
        have hcV := cell_one wB t 9
        rw [hV] at hcV
        have HKV := hide (HKB.out.below (hbV.mono (by omega)))
        replace HR := hide (HR.out.below hbV)
        have HBV := hide (HBB.out.below hbV)
        have HOV := hide (own_below HOB.out hbV)
        have HCV := Lib.hid hcV
        replace HJ := hide (HJ.out.below hbV)
        clear hV hcV
        refine Qmu.fork [5] (fun _ => cls HKV.out) (by kernel_rfl) (by simp) ⟨?_, trivial⟩
        refine Qmu.by_op rfl (by kernel_rfl) ?_
        refine wpList_append_own _ rfl (.tmp 36) (.tmp 39) 41 rfl (K + 1) 9 i0 _ 1 16 Tryz.underlying41 hi hz0 hz1 hz2 rfl (by decide) _ _ _ rfl HOV.out ⟨wB.heap.size, 0, none⟩ 1 1 [.string t] rfl rfl ?c1 ?c2 ?c3 ?c4 ?c5 ?_
        case c1 => exact HCV.out
        case c2 => simp [Value.oneCell']
        case c3 => unfold maxLen; omega
        case c4 => omega
        case c5 => have := HBV.out.lt; omega
        intro v5 w5 hown5' hg5 _
        obtain ⟨n5, hn5⟩ : ∃ n5, (l ++ [t]).length = n5 := ⟨_, rfl⟩
        have hown5 : w5.ownsRow (K + 1) 9 1 v5 n5 ((l ++ [t]).map Value.string) := by rw [← hn5]; rw [List.length_append, HLN.out]; simpa using hown5'
        have HN5 := hide hn5
        clear hn5 hown5'
        obtain ⟨A5, c5, rfl⟩ := own_slice hown5
        have hg5' : Below (K + 1) V w5 := (Below.refl _ _).grown hg5 (by have := HBV.out.lt; omega) (fun g hg => (HOV.out.lt g hg).1)
        have HK5 := hide (HKV.out.below hg5')
        replace HR := hide (HR.out.low (hg5'.mono (by omega)))
        have HB5 := hide (HBV.out.keep hg5' (by omega))
        have HO5 := hide hown5
        replace HJ := hide (HJ.out.keep hg5' (by omega))
        have g3 := HB5.out.cell (i := 3) rfl
        have f3 := HB5.out.frozen 3
        clear hown5 hg5 hg5'
        go_wp2_with fail
        refine ⟨rfl, ?_⟩
        simp only [Act.put, List.getElem_toArray, List.getElem_cons_succ, List.getElem_cons_zero, List.setIfInBounds_toArray, List.set_cons_succ, List.set_cons_zero]
        refine Qmu.takes (s := 7) (cls (Kb.drawn R (K + 1) w10)) [6] 1 _ _ _ (fun _ => cls HK5.out) (by decide) (by kernel_rfl) ?_
        simp only [List.filterMap_cons, List.filterMap_nil, List.getElem?_toArray, List.getElem?_cons_zero, List.getElem?_cons_succ]
        change wpQuiet _ _ _ _ [_] _
        repeat (go_big_quiet_step (fail))
        refine wpQuiet_nil ?_
        refine Qmu.fork [7] (fun _ => cls HK5.out) (by kernel_rfl) (by simp) ⟨?_, trivial⟩
        refine Qmu.by_op rfl (by kernel_rfl) ?_
        go_wp2_with fail
        refine ⟨rfl, ?_⟩
        refine Qmu.by_end (Qmu.past (by kernel_rfl)) (by kernel_rfl) ?_
        have HR7 := hide (HR.out.low (((Below.refl (R + 1) w5).setCell (p := ⟨K, 3, none⟩) (by show R + 1 ≤ K; omega) (.slice A5 n5 c5))))
        have HB7 := hide (HB5.out.set 3 (.slice A5 n5 c5))
        have HO7 := hide (ownsRow_setCell_below HO5.out (a := ⟨K, 3, none⟩) (by show K < K + 1; omega) (.slice A5 n5 c5))
        have HK7 := hide ((Kept.kb HK.out HK5.out (by omega)).new (K := K) (by omega) 3 (.slice A5 n5 c5))
        replace HJ := hide (HJ.out.other (k := K) (by omega) 3 (.slice A5 n5 c5))
        obtain ⟨w7, hw7⟩ : ∃ w7, w5.setCell ⟨K, 3, none⟩ (.slice A5 n5 c5) = w7 := ⟨_, rfl⟩
        rw [hw7] at HR7 HB7 HO7 HK7 HJ ⊢
        clear hw7 HR HBB HOB HBV HOV HCV HB5 HO5 HK5 HKB HKV g3 f3 hbV hltB
        go_wp2_with fail
        go_roundw
        case rel => exact ⟨f, l ++ [t], sz, A5, n5, c5, HN5, by rw [List.length_append, HLN.out]; simp; omega, fun k hk => (by have := member_next (l := l) (n := n) (m := k) (by rw [HMEM.out]; exact hk); omega), by have h9 := HM1.out; rw [HMEM.out] at h9; exact h9, HR7, HK7, HB7, HO7, HJ⟩
        case measure => exact left_lt HR0.out HR7.out (fun k hk => by have := member_next (l := l) (n := n) (m := k) (by rw [HMEM.out]; exact hk); omega)
      · by_cases h32 : 32 ≤ ln
        · have hmem : member ts l n = take ts 1 ⟨#[]⟩ (.bad 2 (tk ts (n + 1)).off) := by unfold member sNo; rw [hb2, HLN.out, decide_eq_true h32]; rfl
          clear hb2
          rcases htt : take ts 1 ⟨#[]⟩ (.bad 2 (tk ts (n + 1)).off) with ⟨t, sz⟩
          rw [htt] at hmem
          have HTT := Lib.hid (fun w h => HTK.out (.bad 2 (tk ts (n + 1)).off) 1 (by decide) ⟨#[]⟩ w h)
          rw [htt] at HTT
          unfold TakeP at HTT
          have HMEM := hide hmem
          clear htt hmem
          go_wp2_with fail
          refine (HIS.out _ HR.out).mono ?_
          rintro e w8 ⟨rfl, hb8⟩
          replace HR := hide (HR.out.below hb8)
          replace HB := hide (HB.out.below hb8)
          replace HO := hide (own_below HO.out hb8)
          replace HJ := hide (HJ.out.below hb8)
          replace HK := hide (HK.out.trans (Kept.of_below hb8))
          clear hb8
          obtain ⟨g1, f1, _⟩ := HR.out.next
          obtain ⟨w9, hw9⟩ : ∃ w9, w8.setCell ⟨R, 1, none⟩ (.int .i64 ((n : Int) + 1)) = w9 := ⟨_, rfl⟩
          have hk9 := (Kept.refl R w8).setCell 1 (.int .i64 ((n : Int) + 1))
          have hr9 := HR.out.step hn1
          rw [hw9] at hk9 hr9
          replace HR := hide hr9
          replace HB := hide (HB.out.kept hk9 hKR.symm)
          replace HO := hide (hk9.own HO.out (by omega))
          replace HJ := hide (HJ.out.kept hk9 (by omega))
          replace HK := hide (HK.out.trans hk9)
          clear hk9 hr9
          go_wp2_with fail
          clear g1 f1 hw9
          refine (HIS2.out _ HR.out).mono ?_
          rintro e w10 ⟨rfl, hb10⟩
          replace HR := hide (HR.out.below hb10)
          replace HB := hide (HB.out.below hb10)
          replace HO := hide (own_below HO.out hb10)
          replace HJ := hide (HJ.out.below hb10)
          replace HK := hide (HK.out.trans (Kept.of_below hb10))
          clear hb10
          have g3 := HB.out.cell (i := 3) rfl
          go_wp2_with fail
          refine (HF.out _ HR.out).mono ?_
          rintro e w11 ⟨rfl, hr11, hk11, _⟩
          change Rd w11 R A c ts (.bad 2 (tk ts (n + 1)).off) at hr11
          replace HR := hide hr11
          replace HB := hide (HB.out.kept hk11 hKR.symm)
          replace HO := hide (hk11.own HO.out (by omega))
          replace HJ := hide (HJ.out.kept hk11 (by omega))
          replace HK := hide (HK.out.trans hk11)
          clear hr11 hk11 g3
          have g3 := HB.out.cell (i := 3) rfl
          go_wp2_with fail
          have k3 := kb_kin (R := R) (B := K + 1) (by omega) hKR.symm g3
          clear g3
          refine Qmu.wp_region (C := Cls (Kb R (K + 1) w11)) 7 (by kernel_rfl) (by kernel_rfl) (by kernel_rfl) ?_
          simp only [List.length_cons, List.length_nil]
          refine Qmu.takes (s := 7) (cls (Kb.drawn R (K + 1) w11)) [0, 1, 2] 5 _ _ _ (fun _ => cls (Kb.drawn R (K + 1) w11)) (by decide) (by kernel_rfl) ?_
          simp only [List.filterMap_cons, List.filterMap_nil, List.getElem?_toArray, List.getElem?_cons_zero, List.getElem?_cons_succ]
          change wpQuiet _ _ _ _ [_, _, _] _
          repeat (go_big_quiet_step (fail))
          refine wpQuiet_nil ?_
          refine Qmu.fork [3] (fun _ => cls (Kb.drawn R (K + 1) w11)) (by kernel_rfl) (by simp) ⟨?_, trivial⟩
          refine Qmu.by_op rfl (by kernel_rfl) ?_
          go_wp2_with fail
          refine (HTT.out _ (HR.out.below (Qin.start _ _))).mono ?_
          rintro e wB ⟨rfl, hrB, hkB⟩
          have HKB := hide (((Kb.drawn R (K + 1) w11).kept hkB (by show K + 1 ≤ w11.heap.size; have := HB.out.lt; omega)))
          replace HR := hide hrB
          have HBB := hide (Blk.kept HB.out ((Kept.drawn R w11).trans hkB) hKR.symm)
          have HOB := hide (((Kept.drawn R w11).trans hkB).own HO.out (by omega))
          replace HJ := hide (Blk.kept HJ.out ((Kept.drawn R w11).trans hkB) (by omega))
          clear hrB hkB k3
          go_wp2_with fail
          refine ⟨rfl, ?_⟩
          refine Qmu.fork [4] (fun _ => cls HKB.out) (by kernel_rfl) (by simp) ⟨?_, trivial⟩
          refine Qmu.by_op rfl (by kernel_rfl) ?_
          obtain ⟨V, hV⟩ : ∃ V, wB.alloc (.cells #[.string t] 9) = V := ⟨_, rfl⟩
          have hbV : Below wB.heap.size wB V := by rw [← hV]; exact (Below.refl _ _).alloc (Nat.le_refl _) _
          have hltB := HBB.out.lt
          go_wp2_with fail
          refine ⟨rfl, ?_⟩
          have hcV := cell_one wB t 9
          rw [hV] at hcV
          have HKV := hide (HKB.out.below (hbV.mono (by omega)))
          replace HR := hide (HR.out.below hbV)
          have HBV := hide (HBB.out.below hbV)
          have HOV := hide (own_below HOB.out hbV)
          have HCV := Lib.hid hcV
          replace HJ := hide (HJ.out.below hbV)
          clear hV hcV
          refine Qmu.fork [5] (fun _ => cls HKV.out) (by kernel_rfl) (by simp) ⟨?_, trivial⟩
          refine Qmu.by_op rfl (by kernel_rfl) ?_
          refine wpList_append_own _ rfl (.tmp 36) (.tmp 39) 41 rfl (K + 1) 9 i0 _ 1 16 Tryz.underlying41 hi hz0 hz1 hz2 rfl (by decide) _ _ _ rfl HOV.out ⟨wB.heap.size, 0, none⟩ 1 1 [.string t] rfl rfl ?c1 ?c2 ?c3 ?c4 ?c5 ?_
          case c1 => exact HCV.out
          case c2 => simp [Value.oneCell']
          case c3 => unfold maxLen; omega
          case c4 => omega
          case c5 => have := HBV.out.lt; omega
          intro v5 w5 hown5' hg5 _
          obtain ⟨n5, hn5⟩ : ∃ n5, (l ++ [t]).length = n5 := ⟨_, rfl⟩
          have hown5 : w5.ownsRow (K + 1) 9 1 v5 n5 ((l ++ [t]).map Value.string) := by rw [← hn5]; rw [List.length_append, HLN.out]; simpa using hown5'
          have HN5 := hide hn5
          clear hn5 hown5'
          obtain ⟨A5, c5, rfl⟩ := own_slice hown5
          have hg5' : Below (K + 1) V w5 := (Below.refl _ _).grown hg5 (by have := HBV.out.lt; omega) (fun g hg => (HOV.out.lt g hg).1)
          have HK5 := hide (HKV.out.below hg5')
          replace HR := hide (HR.out.low (hg5'.mono (by omega)))
          have HB5 := hide (HBV.out.keep hg5' (by omega))
          have HO5 := hide hown5
          replace HJ := hide (HJ.out.keep hg5' (by omega))
          have g3 := HB5.out.cell (i := 3) rfl
          have f3 := HB5.out.frozen 3
          clear hown5 hg5 hg5'
          go_wp2_with fail
          refine ⟨rfl, ?_⟩
          simp only [Act.put, List.getElem_toArray, List.getElem_cons_succ, List.getElem_cons_zero, List.setIfInBounds_toArray, List.set_cons_succ, List.set_cons_zero]
          refine Qmu.takes (s := 7) (cls (Kb.drawn R (K + 1) w11)) [6] 1 _ _ _ (fun _ => cls HK5.out) (by decide) (by kernel_rfl) ?_
          simp only [List.filterMap_cons, List.filterMap_nil, List.getElem?_toArray, List.getElem?_cons_zero, List.getElem?_cons_succ]
          change wpQuiet _ _ _ _ [_] _
          repeat (go_big_quiet_step (fail))
          refine wpQuiet_nil ?_
          refine Qmu.fork [7] (fun _ => cls HK5.out) (by kernel_rfl) (by simp) ⟨?_, trivial⟩
          refine Qmu.by_op rfl (by kernel_rfl) ?_
          go_wp2_with fail
          refine ⟨rfl, ?_⟩
          refine Qmu.by_end (Qmu.past (by kernel_rfl)) (by kernel_rfl) ?_
          have HR7 := hide (HR.out.low (((Below.refl (R + 1) w5).setCell (p := ⟨K, 3, none⟩) (by show R + 1 ≤ K; omega) (.slice A5 n5 c5))))
          have HB7 := hide (HB5.out.set 3 (.slice A5 n5 c5))
          have HO7 := hide (ownsRow_setCell_below HO5.out (a := ⟨K, 3, none⟩) (by show K < K + 1; omega) (.slice A5 n5 c5))
          have HK7 := hide ((Kept.kb HK.out HK5.out (by omega)).new (K := K) (by omega) 3 (.slice A5 n5 c5))
          replace HJ := hide (HJ.out.other (k := K) (by omega) 3 (.slice A5 n5 c5))
          obtain ⟨w7, hw7⟩ : ∃ w7, w5.setCell ⟨K, 3, none⟩ (.slice A5 n5 c5) = w7 := ⟨_, rfl⟩
          rw [hw7] at HR7 HB7 HO7 HK7 HJ ⊢
          clear hw7 HR HBB HOB HBV HOV HCV HB5 HO5 HK5 HKB HKV g3 f3 hbV hltB
          go_wp2_with fail
          go_roundw
          case rel => exact ⟨f, l ++ [t], sz, A5, n5, c5, HN5, by rw [List.length_append, HLN.out]; simp; omega, fun k hk => (by have := member_next (l := l) (n := n) (m := k) (by rw [HMEM.out]; exact hk); omega), by have h9 := HM1.out; rw [HMEM.out] at h9; exact h9, HR7, HK7, HB7, HO7, HJ⟩
          case measure => exact left_lt HR0.out HR7.out (fun k hk => by have := member_next (l := l) (n := n) (m := k) (by rw [HMEM.out]; exact hk); omega)
        · have hmem : member ts l n = take ts 1 ⟨#[]⟩ (.ok (n + 1)) := by unfold member sNo; rw [hb2, HLN.out, decide_eq_false h32]; rfl
          clear hb2
          rcases htt : take ts 1 ⟨#[]⟩ (.ok (n + 1)) with ⟨t, sz⟩
          rw [htt] at hmem
          have HTT := Lib.hid (fun w h => HTK.out (.ok (n + 1)) 1 (by decide) ⟨#[]⟩ w h)
          rw [htt] at HTT
          unfold TakeP at HTT
          have HMEM := hide hmem
          clear htt hmem
          go_wp2_with fail
          refine (HIS.out _ HR.out).mono ?_
          rintro e w8 ⟨rfl, hb8⟩
          replace HR := hide (HR.out.below hb8)
          replace HB := hide (HB.out.below hb8)
          replace HO := hide (own_below HO.out hb8)
          replace HJ := hide (HJ.out.below hb8)
          replace HK := hide (HK.out.trans (Kept.of_below hb8))
          clear hb8
          obtain ⟨g1, f1, _⟩ := HR.out.next
          obtain ⟨w9, hw9⟩ : ∃ w9, w8.setCell ⟨R, 1, none⟩ (.int .i64 ((n : Int) + 1)) = w9 := ⟨_, rfl⟩
          have hk9 := (Kept.refl R w8).setCell 1 (.int .i64 ((n : Int) + 1))
          have hr9 := HR.out.step hn1
          rw [hw9] at hk9 hr9
          replace HR := hide hr9
          replace HB := hide (HB.out.kept hk9 hKR.symm)
          replace HO := hide (hk9.own HO.out (by omega))
          replace HJ := hide (HJ.out.kept hk9 (by omega))
          replace HK := hide (HK.out.trans hk9)
          clear hk9 hr9
          go_wp2_with fail
          clear g1 f1 hw9
          refine (HIS2.out _ HR.out).mono ?_
          rintro e w10 ⟨rfl, hb10⟩
          replace HR := hide (HR.out.below hb10)
          replace HB := hide (HB.out.below hb10)
          replace HO := hide (own_below HO.out hb10)
          replace HJ := hide (HJ.out.below hb10)
          replace HK := hide (HK.out.trans (Kept.of_below hb10))
          clear hb10
          have g3 := HB.out.cell (i := 3) rfl
          go_wp2_with fail
          have k3 := kb_kin (R := R) (B := K + 1) (by omega) hKR.symm g3
          clear g3
          refine Qmu.wp_region (C := Cls (Kb R (K + 1) w10)) 7 (by kernel_rfl) (by kernel_rfl) (by kernel_rfl) ?_
          simp only [List.length_cons, List.length_nil]
          refine Qmu.takes (s := 7) (cls (Kb.drawn R (K + 1) w10)) [0, 1, 2] 5 _ _ _ (fun _ => cls (Kb.drawn R (K + 1) w10)) (by decide) (by kernel_rfl) ?_
          simp only [List.filterMap_cons, List.filterMap_nil, List.getElem?_toArray, List.getElem?_cons_zero, List.getElem?_cons_succ]
          change wpQuiet _ _ _ _ [_, _, _] _
          repeat (go_big_quiet_step (fail))
          refine wpQuiet_nil ?_
          refine Qmu.fork [3] (fun _ => cls (Kb.drawn R (K + 1) w10)) (by kernel_rfl) (by simp) ⟨?_, trivial⟩
          refine Qmu.by_op rfl (by kernel_rfl) ?_
          go_wp2_with fail
          refine (HTT.out _ (HR.out.below (Qin.start _ _))).mono ?_
          rintro e wB ⟨rfl, hrB, hkB⟩
          have HKB := hide (((Kb.drawn R (K + 1) w10).kept hkB (by show K + 1 ≤ w10.heap.size; have := HB.out.lt; omega)))
          replace HR := hide hrB
          have HBB := hide (Blk.kept HB.out ((Kept.drawn R w10).trans hkB) hKR.symm)
          have HOB := hide (((Kept.drawn R w10).trans hkB).own HO.out (by omega))
          replace HJ := hide (Blk.kept HJ.out ((Kept.drawn R w10).trans hkB) (by omega))
          clear hrB hkB k3
          go_wp2_with fail
          refine ⟨rfl, ?_⟩
          refine Qmu.fork [4] (fun _ => cls HKB.out) (by kernel_rfl) (by simp) ⟨?_, trivial⟩
          refine Qmu.by_op rfl (by kernel_rfl) ?_
          obtain ⟨V, hV⟩ : ∃ V, wB.alloc (.cells #[.string t] 9) = V := ⟨_, rfl⟩
          have hbV : Below wB.heap.size wB V := by rw [← hV]; exact (Below.refl _ _).alloc (Nat.le_refl _) _
          have hltB := HBB.out.lt
          go_wp2_with fail
          refine ⟨rfl, ?_⟩
          have hcV := cell_one wB t 9
          rw [hV] at hcV
          have HKV := hide (HKB.out.below (hbV.mono (by omega)))
          replace HR := hide (HR.out.below hbV)
          have HBV := hide (HBB.out.below hbV)
          have HOV := hide (own_below HOB.out hbV)
          have HCV := Lib.hid hcV
          replace HJ := hide (HJ.out.below hbV)
          clear hV hcV
          refine Qmu.fork [5] (fun _ => cls HKV.out) (by kernel_rfl) (by simp) ⟨?_, trivial⟩
          refine Qmu.by_op rfl (by kernel_rfl) ?_
          refine wpList_append_own _ rfl (.tmp 36) (.tmp 39) 41 rfl (K + 1) 9 i0 _ 1 16 Tryz.underlying41 hi hz0 hz1 hz2 rfl (by decide) _ _ _ rfl HOV.out ⟨wB.heap.size, 0, none⟩ 1 1 [.string t] rfl rfl ?c1 ?c2 ?c3 ?c4 ?c5 ?_
          case c1 => exact HCV.out
          case c2 => simp [Value.oneCell']
          case c3 => unfold maxLen; omega
          case c4 => omega
          case c5 => have := HBV.out.lt; omega
          intro v5 w5 hown5' hg5 _
          obtain ⟨n5, hn5⟩ : ∃ n5, (l ++ [t]).length = n5 := ⟨_, rfl⟩
          have hown5 : w5.ownsRow (K + 1) 9 1 v5 n5 ((l ++ [t]).map Value.string) := by rw [← hn5]; rw [List.length_append, HLN.out]; simpa using hown5'
          have HN5 := hide hn5
          clear hn5 hown5'
          obtain ⟨A5, c5, rfl⟩ := own_slice hown5
          have hg5' : Below (K + 1) V w5 := (Below.refl _ _).grown hg5 (by have := HBV.out.lt; omega) (fun g hg => (HOV.out.lt g hg).1)
          have HK5 := hide (HKV.out.below hg5')
          replace HR := hide (HR.out.low (hg5'.mono (by omega)))
          have HB5 := hide (HBV.out.keep hg5' (by omega))
          have HO5 := hide hown5
          replace HJ := hide (HJ.out.keep hg5' (by omega))
          have g3 := HB5.out.cell (i := 3) rfl
          have f3 := HB5.out.frozen 3
          clear hown5 hg5 hg5'
          go_wp2_with fail
          refine ⟨rfl, ?_⟩
          simp only [Act.put, List.getElem_toArray, List.getElem_cons_succ, List.getElem_cons_zero, List.setIfInBounds_toArray, List.set_cons_succ, List.set_cons_zero]
          refine Qmu.takes (s := 7) (cls (Kb.drawn R (K + 1) w10)) [6] 1 _ _ _ (fun _ => cls HK5.out) (by decide) (by kernel_rfl) ?_
          simp only [List.filterMap_cons, List.filterMap_nil, List.getElem?_toArray, List.getElem?_cons_zero, List.getElem?_cons_succ]
          change wpQuiet _ _ _ _ [_] _
          repeat (go_big_quiet_step (fail))
          refine wpQuiet_nil ?_
          refine Qmu.fork [7] (fun _ => cls HK5.out) (by kernel_rfl) (by simp) ⟨?_, trivial⟩
          refine Qmu.by_op rfl (by kernel_rfl) ?_
          go_wp2_with fail
          refine ⟨rfl, ?_⟩
          refine Qmu.by_end (Qmu.past (by kernel_rfl)) (by kernel_rfl) ?_
          have HR7 := hide (HR.out.low (((Below.refl (R + 1) w5).setCell (p := ⟨K, 3, none⟩) (by show R + 1 ≤ K; omega) (.slice A5 n5 c5))))
          have HB7 := hide (HB5.out.set 3 (.slice A5 n5 c5))
          have HO7 := hide (ownsRow_setCell_below HO5.out (a := ⟨K, 3, none⟩) (by show K < K + 1; omega) (.slice A5 n5 c5))
          have HK7 := hide ((Kept.kb HK.out HK5.out (by omega)).new (K := K) (by omega) 3 (.slice A5 n5 c5))
          replace HJ := hide (HJ.out.other (k := K) (by omega) 3 (.slice A5 n5 c5))
          obtain ⟨w7, hw7⟩ : ∃ w7, w5.setCell ⟨K, 3, none⟩ (.slice A5 n5 c5) = w7 := ⟨_, rfl⟩
          rw [hw7] at HR7 HB7 HO7 HK7 HJ ⊢
          clear hw7 HR HBB HOB HBV HOV HCV HB5 HO5 HK5 HKB HKV g3 f3 hbV hltB
          go_wp2_with fail
          go_roundw
          case rel => exact ⟨f, l ++ [t], sz, A5, n5, c5, HN5, by rw [List.length_append, HLN.out]; simp; omega, fun k hk => (by have := member_next (l := l) (n := n) (m := k) (by rw [HMEM.out]; exact hk); omega), by have h9 := HM1.out; rw [HMEM.out] at h9; exact h9, HR7, HK7, HB7, HO7, HJ⟩
          case measure => exact left_lt HR0.out HR7.out (fun k hk => by have := member_next (l := l) (n := n) (m := k) (by rw [HMEM.out]; exact hk); omega)
end Go.Proofs.YtnbdckfnohagbaaGreatDoor.PqD
