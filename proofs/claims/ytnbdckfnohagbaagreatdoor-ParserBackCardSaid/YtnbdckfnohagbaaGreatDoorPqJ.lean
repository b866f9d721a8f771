/- The walk of the reference's class. -/
import Derived.Test.YtnbdckfnohagbaaGreatDoorPqI
namespace Go.Proofs.YtnbdckfnohagbaaGreatDoor.PqJ
theorem here : True := trivial
open Go.RowKit Lx Wd RnW PqA PqB PqC PqD PqI RoL
/-- all blocks of w but R and K are as they were -/
structure Kept2 (R K : Nat) (w w' : World) : Prop where
  os : w'.os = w.os
  tape : w'.tape = w.tape
  output : w'.output = w.output
  size : w.heap.size ≤ w'.heap.size
  block : ∀ k, k < w.heap.size → k ≠ R → k ≠ K → w'.heap[k]? = w.heap[k]?
section
variable {R K B k : Nat} {a w w' : World} {l : List Value}
theorem Kept2.refl (R K : Nat) (w : World) : Kept2 R K w w := ⟨rfl, rfl, rfl, Nat.le_refl _, fun _ _ _ _ => rfl⟩
theorem Kept2.kept (h : Kept2 R K a w) (k : Kept R w w') : Kept2 R K a w' :=
  ⟨k.os.trans h.os, k.tape.trans h.tape, k.output.trans h.output, Nat.le_trans h.size k.size, fun i hi h1 h2 => (k.block i (by have := h.size; omega) h1).trans (h.block i hi h1 h2)⟩
theorem Kept2.below (h : Kept2 R K a w) (hb : Below a.heap.size w w') : Kept2 R K a w' :=
  ⟨hb.os.trans h.os, hb.tape.trans h.tape, hb.output.trans h.output, Nat.le_trans h.size hb.size, fun i hi h1 h2 => (hb.block i hi).trans (h.block i hi h1 h2)⟩
theorem Kept2.kb (h : Kept2 R K a w) (k : Kb R a.heap.size w w') : Kept2 R K a w' :=
  ⟨k.os.trans h.os, k.tape.trans h.tape, k.output.trans h.output, Nat.le_trans h.size k.size, fun i hi h1 h2 => (k.block i hi h1).trans (h.block i hi h1 h2)⟩
theorem Kept2.set (h : Kept2 R K a w) (i : Nat) (v : Value) : Kept2 R K a (w.setCell ⟨K, i, none⟩ v) :=
  ⟨h.os, h.tape, h.output, by simp only [World.setCell, Array.size_modify]; exact h.size, fun k hk h1 h2 => (Below.heap_setCell _ _ _ _ (by show k ≠ K; omega)).trans (h.block k hk h1 h2)⟩
theorem _root_.Go.Proofs.YtnbdckfnohagbaaGreatDoor.PqB.Kept.two (h : Kept R a w) (k : Kept2 R K w w') (hK : a.heap.size ≤ K) : Kept R a w' :=
  ⟨k.os.trans h.os, k.tape.trans h.tape, k.output.trans h.output, Nat.le_trans h.size k.size, fun i hi h1 => (k.block i (by have := h.size; omega) h1 (by omega)).trans (h.block i hi h1)⟩
theorem _root_.Go.Proofs.YtnbdckfnohagbaaGreatDoor.PqB.Blk.two (h : Blk w k l) (hb : Kept2 R K w w') (h1 : k ≠ R) (h2 : k ≠ K) : Blk w' k l := by
  have hl := h.lt
  obtain ⟨T, h⟩ := h
  exact ⟨T, (hb.block k hl h1 h2).trans h⟩
end
set_option maxHeartbeats 8000000 in
set_option maxRecDepth 100000 in
theorem rclass_any (ts : List Tok) (hts : Toks ts) (s : St) (R K : Nat) (A : Option Addr) (c : Nat) (w : World) (a0 a2 a4 a5 a6 a7 : Value) (n0 : ByteArray) (h : Rf w R A c ts s) (hb : Blk w K [a0, .string n0, a2, .slice none 0 0, a4, a5, a6, a7]) (hRK : R < K) (hl : ts.length ≤ 100000) :
    Calls Tryz.prog 53 #[.pointer (some ⟨R, 0, none⟩), .pointer (some ⟨K, 0, none⟩)] w fun e w' => ∃ A' c', e = .returned (.tuple #[]) ∧ Blk w' K [a0, .string (classP ts s).1.1, a2, .slice A' (classP ts s).1.2.length c', a4, a5, a6, a7] ∧ Strs (w.heap.size ≤ ·) w' A' c' (classP ts s).1.2 ∧ Rf w' R A c ts (classP ts s).2 ∧ Kept2 R K w w' := by
  have HTK := Lib.hid (fun s kind hk text w h => rtake_any ts hts s kind hk text R A c w h hl)
  obtain ⟨i0, hi, hz0, hz1, hz2⟩ := info_parts str_info
  have hRw := h.lt
  have hKw := hb.lt
  have hKR : R ≠ K := by omega
  rcases h1 : take ts 1 ⟨#[]⟩ s with ⟨nm, s1⟩
  rcases h2 : take ts 4 ⟨#[61]⟩ s1 with ⟨x2, s2⟩
  rcases h3 : take ts 1 ⟨#[]⟩ s2 with ⟨m, s3⟩
  rcases h4 : members ts (ts.length + 1) [m] s3 with ⟨l4, s4⟩
  have hc : classP ts s = ((nm, l4), s4) := by
    unfold classP sNo sEq
    simp only [h1, h2, h3, h4]
  rw [hc]
  have HT1 := Lib.hid (fun w h => HTK.out s 1 (by decide) ⟨#[]⟩ w h)
  rw [h1] at HT1
  have HT2 := Lib.hid (fun w h => HTK.out s1 4 (by decide) ⟨#[61]⟩ w h)
  rw [h2] at HT2
  have HT3 := Lib.hid (fun w h => HTK.out s2 1 (by decide) ⟨#[]⟩ w h)
  rw [h3] at HT3
  have H4 := hide h4
  have HR := hide h
  have HB := hide hb
  clear h h1 h2 h3 h4 hc hb
  unfold TakeR at HT1 HT2 HT3
  go_enter Tryz.func53, Tryz.ntmps53
  go_wp2_with fail
  refine (HT1.out _ HR.out).mono ?_
  rintro e w2 ⟨rfl, hr2, hk2⟩
  have hB2 := HB.out.kept hk2 hKR.symm
  have g1 := hB2.cell (i := 1) rfl
  have f1 := hB2.frozen 1
  obtain ⟨w3, hw3⟩ : ∃ w3, w2.setCell ⟨K, 1, none⟩ (.string nm) = w3 := ⟨_, rfl⟩
  have hb3 := hB2.set 1 (.string nm)
  have hr3 := hr2.low ((Below.refl (R + 1) w2).setCell (p := ⟨K, 1, none⟩) (by show R + 1 ≤ K; omega) (.string nm))
  have hk3 := ((Kept2.refl R K w).kept hk2).set 1 (.string nm)
  rw [hw3] at hb3 hr3 hk3
  replace HB := hide hb3
  replace HR := hide hr3
  have HK := hide hk3
  clear hb3 hr3 hk3 hk2 hr2 hB2
  go_wp2_with fail
  clear g1 f1 hw3
  refine (HT2.out _ HR.out).mono ?_
  rintro e w4 ⟨rfl, hr4, hk4⟩
  replace HB := hide (HB.out.kept hk4 hKR.symm)
  replace HR := hide hr4
  replace HK := hide (HK.out.kept hk4)
  clear hr4 hk4
  change Hid (Blk w4 K [a0, .string nm, a2, .slice none 0 0, a4, a5, a6, a7]) at HB
  have HO : Hid (w4.ownsRow w.heap.size 9 1 (.slice none 0 0) 0 []) := World.ownsRow_nil _ _ _ _
  have k3 := kb_kin (R := R) (B := w.heap.size) (by omega) hKR.symm (HB.out.cell (i := 3) rfl)
  go_wp2_with fail
  refine Qmu.wp_region (C := Cls (Kb R w.heap.size w4)) 11 (by kernel_rfl) (by kernel_rfl) (by kernel_rfl) ?_
  simp only [List.length_cons, List.length_nil]
  refine Qmu.takes (s := 11) (cls (Kb.drawn R w.heap.size w4)) [0, 1, 2, 3, 4, 5] 6 _ _ _ (fun _ => cls (Kb.drawn R w.heap.size w4)) (by decide) (by kernel_rfl) ?_
  simp only [List.filterMap_cons, List.filterMap_nil, List.getElem?_toArray, List.getElem?_cons_zero, List.getElem?_cons_succ]
  change wpQuiet _ _ _ _ [_, _, _, _, _, _] _
  repeat (go_big_quiet_step (fail))
  refine wpQuiet_nil ?_
  refine Qmu.fork [6] (fun _ => cls (Kb.drawn R w.heap.size w4)) (by kernel_rfl) (by simp) ⟨?_, trivial⟩
  refine Qmu.by_op rfl (by kernel_rfl) ?_
  go_wp2_with fail
  refine (HT3.out _ (HR.out.below (Qin.start _ _))).mono ?_
  rintro e wB ⟨rfl, hrB, hkB⟩
  have HKB := hide (((Kb.drawn R w.heap.size w4).kept hkB (by show w.heap.size ≤ w4.heap.size; exact HK.out.size)))
  replace HR := hide hrB
  have HBB := hide (Blk.kept HB.out ((Kept.drawn R w4).trans hkB) hKR.symm)
  have HOB := hide (((Kept.drawn R w4).trans hkB).own HO.out (by omega))
  clear hrB hkB k3
  go_wp2_with fail
  refine ⟨rfl, ?_⟩
  refine Qmu.fork [7] (fun _ => cls HKB.out) (by kernel_rfl) (by simp) ⟨?_, trivial⟩
  refine Qmu.by_op rfl (by kernel_rfl) ?_
  obtain ⟨V, hV⟩ : ∃ V, wB.alloc (.cells #[.string m] 9) = V := ⟨_, rfl⟩
  have hbV : Below wB.heap.size wB V := by rw [← hV]; exact (Below.refl _ _).alloc (Nat.le_refl _) _
  have hwB : w.heap.size ≤ wB.heap.size := Nat.le_trans HK.out.size HKB.out.size
  go_wp2_with fail
  refine ⟨rfl, ?_⟩
  have hcV := cell_one wB m 9
  rw [hV] at hcV
  have HKV := hide (HKB.out.below (hbV.mono hwB))
  replace HR := hide (HR.out.below hbV)
  have HBV := hide (HBB.out.below hbV)
  have HOV := hide (own_below HOB.out hbV)
  have HCV := Lib.hid hcV
  have hwV : w.heap.size ≤ V.heap.size := Nat.le_trans hwB hbV.size
  clear hV hcV hbV
  refine Qmu.fork [8] (fun _ => cls HKV.out) (by kernel_rfl) (by simp) ⟨?_, trivial⟩
  refine Qmu.by_op rfl (by kernel_rfl) ?_
  refine wpList_append_own _ rfl (.tmp 15) (.tmp 18) 41 rfl w.heap.size 9 i0 _ 1 16 Tryz.underlying41 hi hz0 hz1 hz2 rfl (by decide) _ _ _ rfl HOV.out ⟨wB.heap.size, 0, none⟩ 1 1 [.string m] rfl rfl ?c1 ?c2 ?c3 ?c4 ?c5 ?_
  case c1 => exact HCV.out
  case c2 => simp [Value.oneCell']
  case c3 => unfold maxLen; omega
  case c4 => omega
  case c5 => exact hwV
  intro v5 w5 hown5' hg5 _
  obtain ⟨n5, hn5⟩ : ∃ n5, (([] : List ByteArray) ++ [m]).length = n5 := ⟨_, rfl⟩
  have hown5 : w5.ownsRow w.heap.size 9 1 v5 n5 ((([] : List ByteArray) ++ [m]).map Value.string) := by rw [← hn5]; simpa using hown5'
  have HN5 := hide hn5
  clear hn5 hown5'
  obtain ⟨A5, c5, rfl⟩ := own_slice hown5
  have hg5' : Below w.heap.size V w5 := (Below.refl _ _).grown hg5 hwV (fun g hg => (HOV.out.lt g hg).1)
  have HK5 := hide (HKV.out.below hg5')
  replace HR := hide (HR.out.low (hg5'.mono (by omega)))
  have HB5 := hide (HBV.out.keep hg5' (by omega))
  have HO5 := hide hown5
  have g3 := HB5.out.cell (i := 3) rfl
  have f3 := HB5.out.frozen 3
  clear hown5 hg5 hg5'
  go_wp2_with fail
  refine ⟨rfl, ?_⟩
  simp only [Act.put, List.getElem_toArray, List.getElem_cons_succ, List.getElem_cons_zero, List.setIfInBounds_toArray, List.set_cons_succ, List.set_cons_zero]
  refine Qmu.takes (s := 11) (cls (Kb.drawn R w.heap.size w4)) [9, 10] 1 _ _ _ (fun _ => cls HK5.out) (by decide) (by kernel_rfl) ?_
  simp only [List.filterMap_cons, List.filterMap_nil, List.getElem?_toArray, List.getElem?_cons_zero, List.getElem?_cons_succ]
  change wpQuiet _ _ _ _ [_, _] _
  repeat (go_big_quiet_step (fail))
  refine wpQuiet_nil ?_
  refine Qmu.fork [11] (fun _ => cls HK5.out) (by kernel_rfl) (by simp) ⟨?_, trivial⟩
  refine Qmu.by_op rfl (by kernel_rfl) ?_
  go_wp2_with fail
  refine ⟨rfl, ?_⟩
  refine Qmu.by_end (Qmu.past (by kernel_rfl)) (by kernel_rfl) ?_
  have HR7 := hide (HR.out.low (((Below.refl (R + 1) w5).setCell (p := ⟨K, 3, none⟩) (by show R + 1 ≤ K; omega) (.slice A5 n5 c5))))
  have HB7 := hide (HB5.out.set 3 (.slice A5 n5 c5))
  have HO7 := hide (ownsRow_setCell_below HO5.out (a := ⟨K, 3, none⟩) (by show K < w.heap.size; omega) (.slice A5 n5 c5))
  have HK7 := hide ((HK.out.kb HK5.out).set 3 (.slice A5 n5 c5))
  obtain ⟨w7, hw7⟩ : ∃ w7, w5.setCell ⟨K, 3, none⟩ (.slice A5 n5 c5) = w7 := ⟨_, rfl⟩
  rw [hw7] at HR7 HB7 HO7 HK7 ⊢
  clear hw7 HR HBB HOB HBV HOV HCV HB5 HO5 HK5 HKB HKV g3 f3 hwB hwV
  go_wp2_with fail
  go_loopw [] (fun wr => ∃ (f : Nat) (l : List ByteArray) (sx : St) (A' : Option Addr) (n' c' : Nat), Hid (l.length = n') ∧ l.length + f = ts.length + 2 ∧ (∀ n, sx = .ok n → ts.length + 1 ≤ n + f) ∧ Hid (members ts f l sx = (l4, s4)) ∧ Hid (Rf wr R A c ts sx) ∧ Hid (Kept2 R K w wr) ∧ Hid (Blk wr K [a0, .string nm, a2, .slice A' n' c', a4, a5, a6, a7]) ∧ Hid (wr.ownsRow w.heap.size 9 1 (.slice A' n' c') n' (l.map Value.string))) (fun wr => left ts.length R 1 3 wr)
  case atStart => exact ⟨ts.length + 1, [m], s3, A5, n5, c5, HN5, by simp; omega, fun n _ => by omega, H4, HR7, HK7, HB7, HO7⟩
  case round =>
    clear HR7 HK7 HB7 HO7 HN5 H4 HK HB HO HT1 HT2 HT3
    obtain ⟨f, l, sx, A', n', c', HN, hlf, hfu, HM, HR, HK, HB, HO⟩ := hrel
    have HIS := Lib.hid (fun w h => ris_any ts sx R A c w h)
    cases hcm : isB ts 4 ⟨#[44]⟩ sx
    · rw [hcm] at HIS
      have hM := HM.out
      rw [members_stop hcm] at hM
      injection hM with e1 e2
      subst e1; subst e2
      go_wp2_with fail
      refine (HIS.out _ HR.out).mono ?_
      rintro e w8 ⟨rfl, hb8⟩
      go_wp2_with fail
      go_end0
      obtain rfl := HN.out
      obtain ⟨A9, c9, e9, hS⟩ := Strs.own (P := fun b => w.heap.size ≤ b) HO.out (fun b hb => hb) (by unfold maxLen; omega)
      injection e9 with e91 e92 e93
      subst e91; subst e93
      exact ⟨A', c', rfl, HB.out.below hb8, hS.below hb8, HR.out.below hb8, HK.out.kept (Kept.of_below hb8)⟩
    · rw [hcm] at HIS
      obtain ⟨n, rfl, hh, _⟩ := is_ok hcm
      obtain ⟨_, _, hn⟩ := HR.out.next
      have hf1 := hfu n rfl
      obtain ⟨f, rfl⟩ : ∃ f', f = f' + 1 := ⟨f - 1, by omega⟩
      have hM := HM.out
      rw [members_go hh] at hM
      have HM1 := hide hM
      have hn1 := hts.more hn (by rw [hit_kind hh]; decide)
      have hN := HN.out
      subst hN
      have HF := Lib.hid (fun w h => rfail_any ts (.ok (n + 1)) 2 R A c w h (by decide))
      have HR0 := hide HR.out
      obtain ⟨ln, hln⟩ : ∃ k, l.length = k := ⟨_, rfl⟩
      have HLN := hide hln
      rw [hln] at HB HO hlf
      clear hln hfu HN HM hM hcm
      cases hb2 : ((tk ts (n + 1)).kind == 1)
      · have hit : hitT (tk ts (n + 1)) 1 ⟨#[]⟩ = false := by unfold hitT; rw [hb2]; rfl
        have hmem : member ts l n = take ts 1 ⟨#[]⟩ (.ok (n + 1)) := by unfold member sNo; rw [hit]; rfl
        clear hit
        rcases htt : take ts 1 ⟨#[]⟩ (.ok (n + 1)) with ⟨t, sz⟩
        rw [htt] at hmem
        have HTT := Lib.hid (fun w h => HTK.out (.ok (n + 1)) 1 (by decide) ⟨#[]⟩ w h)
        rw [htt] at HTT
        unfold TakeR at HTT
        have HMEM := hide hmem
        clear htt hmem
        go_wp2_with fail
        refine (HIS.out _ HR.out).mono ?_
        rintro e w8 ⟨rfl, hb8⟩
        replace HR := hide (HR.out.below hb8)
        replace HB := hide (HB.out.below hb8)
        replace HO := hide (own_below HO.out hb8)
        replace HK := hide (HK.out.kept (Kept.of_below hb8))
        clear hb8
        obtain ⟨g1, f1, _⟩ := HR.out.next
        obtain ⟨w9, hw9⟩ : ∃ w9, w8.setCell ⟨R, 1, none⟩ (.int .i64 ((n : Int) + 1)) = w9 := ⟨_, rfl⟩
        have hk9 := (Kept.refl R w8).setCell 1 (.int .i64 ((n : Int) + 1))
        have hr9 := HR.out.step hn1
        rw [hw9] at hk9 hr9
        replace HR := hide hr9
        replace HB := hide (HB.out.kept hk9 hKR.symm)
        replace HO := hide (hk9.own HO.out (by omega))
        replace HK := hide (HK.out.kept hk9)
        clear hk9 hr9
        obtain ⟨b, off, hA, hb, hRw9, c0, c1, hnn, t0, t1, t2, c3⟩ := HR.out.text
        have hAA := Lib.hid hA
        subst hA
        have g3 := HB.out.cell (i := 3) rfl
        go_wp2_with fail
        go_quiet (fail)
        go_wp2_with fail
        clear g1 f1 hw9 t0 t1 t2 c0 c1 c3 g3
        replace HR := hide (HR.out.below (below_drewN (Below.refl _ _) nq))
        replace HB := hide (HB.out.drew nq)
        replace HO := hide (show (w9.drewN nq).ownsRow w.heap.size 9 1 _ _ _ from HO.out)
        replace HK := hide (HK.out.kept ((Kept.refl R w9).drew nq))
        obtain ⟨w10, hw10⟩ : ∃ w10, w9.drewN nq = w10 := ⟨_, rfl⟩
        rw [hw10] at HR HB HO HK ⊢
        clear hw10
        have g3 := HB.out.cell (i := 3) rfl
        have k3 := kb_kin (R := R) (B := w.heap.size) (by omega) hKR.symm g3
        clear g3
        refine Qmu.wp_region (C := Cls (Kb R w.heap.size w10)) 11 (by kernel_rfl) (by kernel_rfl) (by kernel_rfl) ?_
        simp only [List.length_cons, List.length_nil]
        refine Qmu.takes (s := 11) (cls (Kb.drawn R w.heap.size w10)) [0, 1, 2, 3, 4, 5] 6 _ _ _ (fun _ => cls (Kb.drawn R w.heap.size w10)) (by decide) (by kernel_rfl) ?_
        simp only [List.filterMap_cons, List.filterMap_nil, List.getElem?_toArray, List.getElem?_cons_zero, List.getElem?_cons_succ]
        change wpQuiet _ _ _ _ [_, _, _, _, _, _] _
        repeat (go_big_quiet_step (fail))
        refine wpQuiet_nil ?_
        refine Qmu.fork [6] (fun _ => cls (Kb.drawn R w.heap.size w10)) (by kernel_rfl) (by simp) ⟨?_, trivial⟩
        refine Qmu.by_op rfl (by kernel_rfl) ?_
        go_wp2_with fail
        refine (HTT.out _ (HR.out.below (Qin.start _ _))).mono ?_
        rintro e wB ⟨rfl, hrB, hkB⟩
        have HKB := hide (((Kb.drawn R w.heap.size w10).kept hkB (by show w.heap.size ≤ w10.heap.size; exact HK.out.size)))
        replace HR := hide hrB
        have HBB := hide (Blk.kept HB.out ((Kept.drawn R w10).trans hkB) hKR.symm)
        have HOB := hide (((Kept.drawn R w10).trans hkB).own HO.out (by omega))
        clear hrB hkB k3
        go_wp2_with fail
        refine ⟨rfl, ?_⟩
        refine Qmu.fork [7] (fun _ => cls HKB.out) (by kernel_rfl) (by simp) ⟨?_, trivial⟩
        refine Qmu.by_op rfl (by kernel_rfl) ?_
        obtain ⟨V, hV⟩ : ∃ V, wB.alloc (.cells #[.string t] 9) = V := ⟨_, rfl⟩
        have hbV : Below wB.heap.size wB V := by rw [← hV]; exact (Below.refl _ _).alloc (Nat.le_refl _) _
        have hwB : w.heap.size ≤ wB.heap.size := Nat.le_trans HK.out.size HKB.out.size
        go_wp2_with fail
        refine ⟨rfl, ?_⟩
        have hcV := cell_one wB t 9
        rw [hV] at hcV
        have HKV := hide (HKB.out.below (hbV.mono hwB))
        replace HR := hide (HR.out.below hbV)
        have HBV := hide (HBB.out.below hbV)
        have HOV := hide (own_below HOB.out hbV)
        have HCV := Lib.hid hcV
        have hwV : w.heap.size ≤ V.heap.size := Nat.le_trans hwB hbV.size
        clear hV hcV hbV
        refine Qmu.fork [8] (fun _ => cls HKV.out) (by kernel_rfl) (by simp) ⟨?_, trivial⟩
        refine Qmu.by_op rfl (by kernel_rfl) ?_
        refine wpList_append_own _ rfl (.tmp 57) (.tmp 60) 41 rfl w.heap.size 9 i0 _ 1 16 Tryz.underlying41 hi hz0 hz1 hz2 rfl (by decide) _ _ _ rfl HOV.out ⟨wB.heap.size, 0, none⟩ 1 1 [.string t] rfl rfl ?c1 ?c2 ?c3 ?c4 ?c5 ?_
        case c1 => exact HCV.out
        case c2 => simp [Value.oneCell']
        case c3 => unfold maxLen; omega
        case c4 => omega
        case c5 => exact hwV
        intro v5 w5 hown5' hg5 _
        obtain ⟨n5, hn5⟩ : ∃ n5, (l ++ [t]).length = n5 := ⟨_, rfl⟩
        have hown5 : w5.ownsRow w.heap.size 9 1 v5 n5 ((l ++ [t]).map Value.string) := by rw [← hn5]; rw [List.length_append, HLN.out]; simpa using hown5'
        have HN5 := hide hn5
        clear hn5 hown5'
        obtain ⟨A5, c5, rfl⟩ := own_slice hown5
        have hg5' : Below w.heap.size V w5 := (Below.refl _ _).grown hg5 hwV (fun g hg => (HOV.out.lt g hg).1)
        have HK5 := hide (HKV.out.below hg5')
        replace HR := hide (HR.out.low (hg5'.mono (by omega)))
        have HB5 := hide (HBV.out.keep hg5' (by omega))
        have HO5 := hide hown5
        have g3 := HB5.out.cell (i := 3) rfl
        have f3 := HB5.out.frozen 3
        clear hown5 hg5 hg5'
        go_wp2_with fail
        refine ⟨rfl, ?_⟩
        simp only [Act.put, List.getElem_toArray, List.getElem_cons_succ, List.getElem_cons_zero, List.setIfInBounds_toArray, List.set_cons_succ, List.set_cons_zero]
        refine Qmu.takes (s := 11) (cls (Kb.drawn R w.heap.size w10)) [9, 10] 1 _ _ _ (fun _ => cls HK5.out) (by decide) (by kernel_rfl) ?_
        simp only [List.filterMap_cons, List.filterMap_nil, List.getElem?_toArray, List.getElem?_cons_zero, List.getElem?_cons_succ]
        change wpQuiet _ _ _ _ [_, _] _
        repeat (go_big_quiet_step (fail))
        refine wpQuiet_nil ?_
        refine Qmu.fork [11] (fun _ => cls HK5.out) (by kernel_rfl) (by simp) ⟨?_, trivial⟩
        refine Qmu.by_op rfl (by kernel_rfl) ?_
        go_wp2_with fail
        refine ⟨rfl, ?_⟩
        refine Qmu.by_end (Qmu.past (by kernel_rfl)) (by kernel_rfl) ?_
        have HR7 := hide (HR.out.low (((Below.refl (R + 1) w5).setCell (p := ⟨K, 3, none⟩) (by show R + 1 ≤ K; omega) (.slice A5 n5 c5))))
        have HB7 := hide (HB5.out.set 3 (.slice A5 n5 c5))
        have HO7 := hide (ownsRow_setCell_below HO5.out (a := ⟨K, 3, none⟩) (by show K < w.heap.size; omega) (.slice A5 n5 c5))
        have HK7 := hide ((HK.out.kb HK5.out).set 3 (.slice A5 n5 c5))
        obtain ⟨w7, hw7⟩ : ∃ w7, w5.setCell ⟨K, 3, none⟩ (.slice A5 n5 c5) = w7 := ⟨_, rfl⟩
        rw [hw7] at HR7 HB7 HO7 HK7 ⊢
        clear hw7 HR HBB HOB HBV HOV HCV HB5 HO5 HK5 HKB HKV g3 f3 hwB hwV
        go_wp2_with fail
        go_roundw
        case rel => exact ⟨f, l ++ [t], sz, A5, n5, c5, HN5, by rw [List.length_append, HLN.out]; simp; omega, fun k hk => (by have := member_next (l := l) (n := n) (m := k) (by rw [HMEM.out]; exact hk); omega), by have h9 := HM1.out; rw [HMEM.out] at h9; exact h9, HR7, HK7, HB7, HO7⟩
        case measure => exact left_ltf HR0.out HR7.out (fun k hk => by have := member_next (l := l) (n := n) (m := k) (by rw [HMEM.out]; exact hk); omega)
      · have hit : hitT (tk ts (n + 1)) 1 ⟨#[]⟩ = true := by unfold hitT; rw [hb2, tl_mk]; rfl
        by_cases h32 : 32 ≤ ln
        · have hmem : member ts l n = take ts 1 ⟨#[]⟩ (.bad 2 (tk ts (n + 1)).off) := by unfold member sNo; rw [hit, HLN.out, decide_eq_true h32]; rfl
          clear hit
          rcases htt : take ts 1 ⟨#[]⟩ (.bad 2 (tk ts (n + 1)).off) with ⟨t, sz⟩
          rw [htt] at hmem
          have HTT := Lib.hid (fun w h => HTK.out (.bad 2 (tk ts (n + 1)).off) 1 (by decide) ⟨#[]⟩ w h)
          rw [htt] at HTT
          unfold TakeR at HTT
          have HMEM := hide hmem
          clear htt hmem
          go_wp2_with fail
          refine (HIS.out _ HR.out).mono ?_
          rintro e w8 ⟨rfl, hb8⟩
          replace HR := hide (HR.out.below hb8)
          replace HB := hide (HB.out.below hb8)
          replace HO := hide (own_below HO.out hb8)
          replace HK := hide (HK.out.kept (Kept.of_below hb8))
          clear hb8
          obtain ⟨g1, f1, _⟩ := HR.out.next
          obtain ⟨w9, hw9⟩ : ∃ w9, w8.setCell ⟨R, 1, none⟩ (.int .i64 ((n : Int) + 1)) = w9 := ⟨_, rfl⟩
          have hk9 := (Kept.refl R w8).setCell 1 (.int .i64 ((n : Int) + 1))
          have hr9 := HR.out.step hn1
          rw [hw9] at hk9 hr9
          replace HR := hide hr9
          replace HB := hide (HB.out.kept hk9 hKR.symm)
          replace HO := hide (hk9.own HO.out (by omega))
          replace HK := hide (HK.out.kept hk9)
          clear hk9 hr9
          obtain ⟨b, off, hA, hb, hRw9, c0, c1, hnn, t0, t1, t2, c3⟩ := HR.out.text
          have hAA := Lib.hid hA
          subst hA
          have g3 := HB.out.cell (i := 3) rfl
          go_wp2_with fail
          go_quiet (fail)
          go_wp2_with fail
          clear g1 f1 hw9 t0 t1 t2 c0 c1 c3 g3
          replace HR := hide (HR.out.below (below_drewN (Below.refl _ _) nq))
          replace HB := hide (HB.out.drew nq)
          replace HO := hide (show (w9.drewN nq).ownsRow w.heap.size 9 1 _ _ _ from HO.out)
          replace HK := hide (HK.out.kept ((Kept.refl R w9).drew nq))
          obtain ⟨w10, hw10⟩ : ∃ w10, w9.drewN nq = w10 := ⟨_, rfl⟩
          rw [hw10] at HR HB HO HK ⊢
          clear hw10
          refine (HF.out _ HR.out).mono ?_
          rintro e w11 ⟨rfl, hr11, hk11⟩
          change Rf w11 R _ c ts (.bad 2 (tk ts (n + 1)).off) at hr11
          replace HR := hide hr11
          replace HB := hide (HB.out.kept hk11 hKR.symm)
          replace HO := hide (hk11.own HO.out (by omega))
          replace HK := hide (HK.out.kept hk11)
          clear hr11 hk11
          go_wp2_with fail
          have g3 := HB.out.cell (i := 3) rfl
          have k3 := kb_kin (R := R) (B := w.heap.size) (by omega) hKR.symm g3
          clear g3
          refine Qmu.wp_region (C := Cls (Kb R w.heap.size w11)) 11 (by kernel_rfl) (by kernel_rfl) (by kernel_rfl) ?_
          simp only [List.length_cons, List.length_nil]
          refine Qmu.takes (s := 11) (cls (Kb.drawn R w.heap.size w11)) [0, 1, 2, 3, 4, 5] 6 _ _ _ (fun _ => cls (Kb.drawn R w.heap.size w11)) (by decide) (by kernel_rfl) ?_
          simp only [List.filterMap_cons, List.filterMap_nil, List.getElem?_toArray, List.getElem?_cons_zero, List.getElem?_cons_succ]
          change wpQuiet _ _ _ _ [_, _, _, _, _, _] _
          repeat (go_big_quiet_step (fail))
          refine wpQuiet_nil ?_
          refine Qmu.fork [6] (fun _ => cls (Kb.drawn R w.heap.size w11)) (by kernel_rfl) (by simp) ⟨?_, trivial⟩
          refine Qmu.by_op rfl (by kernel_rfl) ?_
          go_wp2_with fail
          refine (HTT.out _ (HR.out.below (Qin.start _ _))).mono ?_
          rintro e wB ⟨rfl, hrB, hkB⟩
          have HKB := hide (((Kb.drawn R w.heap.size w11).kept hkB (by show w.heap.size ≤ w11.heap.size; exact HK.out.size)))
          replace HR := hide hrB
          have HBB := hide (Blk.kept HB.out ((Kept.drawn R w11).trans hkB) hKR.symm)
          have HOB := hide (((Kept.drawn R w11).trans hkB).own HO.out (by omega))
          clear hrB hkB k3
          go_wp2_with fail
          refine ⟨rfl, ?_⟩
          refine Qmu.fork [7] (fun _ => cls HKB.out) (by kernel_rfl) (by simp) ⟨?_, trivial⟩
          refine Qmu.by_op rfl (by kernel_rfl) ?_
          obtain ⟨V, hV⟩ : ∃ V, wB.alloc (.cells #[.string t] 9) = V := ⟨_, rfl⟩
          have hbV : Below wB.heap.size wB V := by rw [← hV]; exact (Below.refl _ _).alloc (Nat.le_refl _) _
          have hwB : w.heap.size ≤ wB.heap.size := Nat.le_trans HK.out.size HKB.out.size
          go_wp2_with fail
          refine ⟨rfl, ?_⟩
          have hcV := cell_one wB t 9
          rw [hV] at hcV
          have HKV := hide (HKB.out.below (hbV.mono hwB))
          replace HR := hide (HR.out.below hbV)
          have HBV := hide (HBB.out.below hbV)
          have HOV := hide (own_below HOB.out hbV)
          have HCV := Lib.hid hcV
          have hwV : w.heap.size ≤ V.heap.size := Nat.le_trans hwB hbV.size
          clear hV hcV hbV
          refine Qmu.fork [8] (fun _ => cls HKV.out) (by kernel_rfl) (by simp) ⟨?_, trivial⟩
          refine Qmu.by_op rfl (by kernel_rfl) ?_
          refine wpList_append_own _ rfl (.tmp 57) (.tmp 60) 41 rfl w.heap.size 9 i0 _ 1 16 Tryz.underlying41 hi hz0 hz1 hz2 rfl (by decide) _ _ _ rfl HOV.out ⟨wB.heap.size, 0, none⟩ 1 1 [.string t] rfl rfl ?c1 ?c2 ?c3 ?c4 ?c5 ?_
          case c1 => exact HCV.out
          case c2 => simp [Value.oneCell']
          case c3 => unfold maxLen; omega
          case c4 => omega
          case c5 => exact hwV
          intro v5 w5 hown5' hg5 _
          obtain ⟨n5, hn5⟩ : ∃ n5, (l ++ [t]).length = n5 := ⟨_, rfl⟩
          have hown5 : w5.ownsRow w.heap.size 9 1 v5 n5 ((l ++ [t]).map Value.string) := by rw [← hn5]; rw [List.length_append, HLN.out]; simpa using hown5'
          have HN5 := hide hn5
          clear hn5 hown5'
          obtain ⟨A5, c5, rfl⟩ := own_slice hown5
          have hg5' : Below w.heap.size V w5 := (Below.refl _ _).grown hg5 hwV (fun g hg => (HOV.out.lt g hg).1)
          have HK5 := hide (HKV.out.below hg5')
          replace HR := hide (HR.out.low (hg5'.mono (by omega)))
          have HB5 := hide (HBV.out.keep hg5' (by omega))
          have HO5 := hide hown5
          have g3 := HB5.out.cell (i := 3) rfl
          have f3 := HB5.out.frozen 3
          clear hown5 hg5 hg5'
          go_wp2_with fail
          refine ⟨rfl, ?_⟩
          simp only [Act.put, List.getElem_toArray, List.getElem_cons_succ, List.getElem_cons_zero, List.setIfInBounds_toArray, List.set_cons_succ, List.set_cons_zero]
          refine Qmu.takes (s := 11) (cls (Kb.drawn R w.heap.size w11)) [9, 10] 1 _ _ _ (fun _ => cls HK5.out) (by decide) (by kernel_rfl) ?_
          simp only [List.filterMap_cons, List.filterMap_nil, List.getElem?_toArray, List.getElem?_cons_zero, List.getElem?_cons_succ]
          change wpQuiet _ _ _ _ [_, _] _
          repeat (go_big_quiet_step (fail))
          refine wpQuiet_nil ?_
          refine Qmu.fork [11] (fun _ => cls HK5.out) (by kernel_rfl) (by simp) ⟨?_, trivial⟩
          refine Qmu.by_op rfl (by kernel_rfl) ?_
          go_wp2_with fail
          refine ⟨rfl, ?_⟩
          refine Qmu.by_end (Qmu.past (by kernel_rfl)) (by kernel_rfl) ?_
          have HR7 := hide (HR.out.low (((Below.refl (R + 1) w5).setCell (p := ⟨K, 3, none⟩) (by show R + 1 ≤ K; omega) (.slice A5 n5 c5))))
          have HB7 := hide (HB5.out.set 3 (.slice A5 n5 c5))
          have HO7 := hide (ownsRow_setCell_below HO5.out (a := ⟨K, 3, none⟩) (by show K < w.heap.size; omega) (.slice A5 n5 c5))
          have HK7 := hide ((HK.out.kb HK5.out).set 3 (.slice A5 n5 c5))
          obtain ⟨w7, hw7⟩ : ∃ w7, w5.setCell ⟨K, 3, none⟩ (.slice A5 n5 c5) = w7 := ⟨_, rfl⟩
          rw [hw7] at HR7 HB7 HO7 HK7 ⊢
          clear hw7 HR HBB HOB HBV HOV HCV HB5 HO5 HK5 HKB HKV g3 f3 hwB hwV
          go_wp2_with fail
          go_roundw
          case rel => exact ⟨f, l ++ [t], sz, A5, n5, c5, HN5, by rw [List.length_append, HLN.out]; simp; omega, fun k hk => (by have := member_next (l := l) (n := n) (m := k) (by rw [HMEM.out]; exact hk); omega), by have h9 := HM1.out; rw [HMEM.out] at h9; exact h9, HR7, HK7, HB7, HO7⟩
          case measure => exact left_ltf HR0.out HR7.out (fun k hk => by have := member_next (l := l) (n := n) (m := k) (by rw [HMEM.out]; exact hk); omega)
        · have hmem : member ts l n = take ts 1 ⟨#[]⟩ (.ok (n + 1)) := by unfold member sNo; rw [hit, HLN.out, decide_eq_false h32]; rfl
          clear hit
          rcases htt : take ts 1 ⟨#[]⟩ (.ok (n + 1)) with ⟨t, sz⟩
          rw [htt] at hmem
          have HTT := Lib.hid (fun w h => HTK.out (.ok (n + 1)) 1 (by decide) ⟨#[]⟩ w h)
          rw [htt] at HTT
          unfold TakeR at HTT
          have HMEM := hide hmem
          clear htt hmem
          go_wp2_with fail
          refine (HIS.out _ HR.out).mono ?_
          rintro e w8 ⟨rfl, hb8⟩
          replace HR := hide (HR.out.below hb8)
          replace HB := hide (HB.out.below hb8)
          replace HO := hide (own_below HO.out hb8)
          replace HK := hide (HK.out.kept (Kept.of_below hb8))
          clear hb8
          obtain ⟨g1, f1, _⟩ := HR.out.next
          obtain ⟨w9, hw9⟩ : ∃ w9, w8.setCell ⟨R, 1, none⟩ (.int .i64 ((n : Int) + 1)) = w9 := ⟨_, rfl⟩
          have hk9 := (Kept.refl R w8).setCell 1 (.int .i64 ((n : Int) + 1))
          have hr9 := HR.out.step hn1
          rw [hw9] at hk9 hr9
          replace HR := hide hr9
          replace HB := hide (HB.out.kept hk9 hKR.symm)
          replace HO := hide (hk9.own HO.out (by omega))
          replace HK := hide (HK.out.kept hk9)
          clear hk9 hr9
          obtain ⟨b, off, hA, hb, hRw9, c0, c1, hnn, t0, t1, t2, c3⟩ := HR.out.text
          have hAA := Lib.hid hA
          subst hA
          have g3 := HB.out.cell (i := 3) rfl
          go_wp2_with fail
          go_quiet (fail)
          go_wp2_with fail
          clear g1 f1 hw9 t0 t1 t2 c0 c1 c3 g3
          replace HR := hide (HR.out.below (below_drewN (Below.refl _ _) nq))
          replace HB := hide (HB.out.drew nq)
          replace HO := hide (show (w9.drewN nq).ownsRow w.heap.size 9 1 _ _ _ from HO.out)
          replace HK := hide (HK.out.kept ((Kept.refl R w9).drew nq))
          obtain ⟨w10, hw10⟩ : ∃ w10, w9.drewN nq = w10 := ⟨_, rfl⟩
          rw [hw10] at HR HB HO HK ⊢
          clear hw10
          have g3 := HB.out.cell (i := 3) rfl
          have k3 := kb_kin (R := R) (B := w.heap.size) (by omega) hKR.symm g3
          clear g3
          refine Qmu.wp_region (C := Cls (Kb R w.heap.size w10)) 11 (by kernel_rfl) (by kernel_rfl) (by kernel_rfl) ?_
          simp only [List.length_cons, List.length_nil]
          refine Qmu.takes (s := 11) (cls (Kb.drawn R w.heap.size w10)) [0, 1, 2, 3, 4, 5] 6 _ _ _ (fun _ => cls (Kb.drawn R w.heap.size w10)) (by decide) (by kernel_rfl) ?_
          simp only [List.filterMap_cons, List.filterMap_nil, List.getElem?_toArray, List.getElem?_cons_zero, List.getElem?_cons_succ]
          change wpQuiet _ _ _ _ [_, _, _, _, _, _] _
          repeat (go_big_quiet_step (fail))
          refine wpQuiet_nil ?_
          refine Qmu.fork [6] (fun _ => cls (Kb.drawn R w.heap.size w10)) (by kernel_rfl) (by simp) ⟨?_, trivial⟩
          refine Qmu.by_op rfl (by kernel_rfl) ?_
          go_wp2_with fail
          refine (HTT.out _ (HR.out.below (Qin.start _ _))).mono ?_
          rintro e wB ⟨rfl, hrB, hkB⟩
          have HKB := hide (((Kb.drawn R w.heap.size w10).kept hkB (by show w.heap.size ≤ w10.heap.size; exact HK.out.size)))
          replace HR := hide hrB
          have HBB := hide (Blk.kept HB.out ((Kept.drawn R w10).trans hkB) hKR.symm)
          have HOB := hide (((Kept.drawn R w10).trans hkB).own HO.out (by omega))
          clear hrB hkB k3
          go_wp2_with fail
          refine ⟨rfl, ?_⟩
          refine Qmu.fork [7] (fun _ => cls HKB.out) (by kernel_rfl) (by simp) ⟨?_, trivial⟩
          refine Qmu.by_op rfl (by kernel_rfl) ?_
          obtain ⟨V, hV⟩ : ∃ V, wB.alloc (.cells #[.string t] 9) = V := ⟨_, rfl⟩
          have hbV : Below wB.heap.size wB V := by rw [← hV]; exact (Below.refl _ _).alloc (Nat.le_refl _) _
          have hwB : w.heap.size ≤ wB.heap.size := Nat.le_trans HK.out.size HKB.out.size
          go_wp2_with fail
          refine ⟨rfl, ?_⟩
          have hcV := cell_one wB t 9
          rw [hV] at hcV
          have HKV := hide (HKB.out.below (hbV.mono hwB))
          replace HR := hide (HR.out.below hbV)
          have HBV := hide (HBB.out.below hbV)
          have HOV := hide (own_below HOB.out hbV)
          have HCV := Lib.hid hcV
          have hwV : w.heap.size ≤ V.heap.size := Nat.le_trans hwB hbV.size
          clear hV hcV hbV
          refine Qmu.fork [8] (fun _ => cls HKV.out) (by kernel_rfl) (by simp) ⟨?_, trivial⟩
          refine Qmu.by_op rfl (by kernel_rfl) ?_
          refine wpList_append_own _ rfl (.tmp 57) (.tmp 60) 41 rfl w.heap.size 9 i0 _ 1 16 Tryz.underlying41 hi hz0 hz1 hz2 rfl (by decide) _ _ _ rfl HOV.out ⟨wB.heap.size, 0, none⟩ 1 1 [.string t] rfl rfl ?c1 ?c2 ?c3 ?c4 ?c5 ?_
          case c1 => exact HCV.out
          case c2 => simp [Value.oneCell']
          case c3 => unfold maxLen; omega
          case c4 => omega
          case c5 => exact hwV
          intro v5 w5 hown5' hg5 _
          obtain ⟨n5, hn5⟩ : ∃ n5, (l ++ [t]).length = n5 := ⟨_, rfl⟩
          have hown5 : w5.ownsRow w.heap.size 9 1 v5 n5 ((l ++ [t]).map Value.string) := by rw [← hn5]; rw [List.length_append, HLN.out]; simpa using hown5'
          have HN5 := hide hn5
          clear hn5 hown5'
          obtain ⟨A5, c5, rfl⟩ := own_slice hown5
          have hg5' : Below w.heap.size V w5 := (Below.refl _ _).grown hg5 hwV (fun g hg => (HOV.out.lt g hg).1)
          have HK5 := hide (HKV.out.below hg5')
          replace HR := hide (HR.out.low (hg5'.mono (by omega)))
          have HB5 := hide (HBV.out.keep hg5' (by omega))
          have HO5 := hide hown5
          have g3 := HB5.out.cell (i := 3) rfl
          have f3 := HB5.out.frozen 3
          clear hown5 hg5 hg5'
          go_wp2_with fail
          refine ⟨rfl, ?_⟩
          simp only [Act.put, List.getElem_toArray, List.getElem_cons_succ, List.getElem_cons_zero, List.setIfInBounds_toArray, List.set_cons_succ, List.set_cons_zero]
          refine Qmu.takes (s := 11) (cls (Kb.drawn R w.heap.size w10)) [9, 10] 1 _ _ _ (fun _ => cls HK5.out) (by decide) (by kernel_rfl) ?_
          simp only [List.filterMap_cons, List.filterMap_nil, List.getElem?_toArray, List.getElem?_cons_zero, List.getElem?_cons_succ]
          change wpQuiet _ _ _ _ [_, _] _
          repeat (go_big_quiet_step (fail))
          refine wpQuiet_nil ?_
          refine Qmu.fork [11] (fun _ => cls HK5.out) (by kernel_rfl) (by simp) ⟨?_, trivial⟩
          refine Qmu.by_op rfl (by kernel_rfl) ?_
          go_wp2_with fail
          refine ⟨rfl, ?_⟩
          refine Qmu.by_end (Qmu.past (by kernel_rfl)) (by kernel_rfl) ?_
          have HR7 := hide (HR.out.low (((Below.refl (R + 1) w5).setCell (p := ⟨K, 3, none⟩) (by show R + 1 ≤ K; omega) (.slice A5 n5 c5))))
          have HB7 := hide (HB5.out.set 3 (.slice A5 n5 c5))
          have HO7 := hide (ownsRow_setCell_below HO5.out (a := ⟨K, 3, none⟩) (by show K < w.heap.size; omega) (.slice A5 n5 c5))
          have HK7 := hide ((HK.out.kb HK5.out).set 3 (.slice A5 n5 c5))
          obtain ⟨w7, hw7⟩ : ∃ w7, w5.setCell ⟨K, 3, none⟩ (.slice A5 n5 c5) = w7 := ⟨_, rfl⟩
          rw [hw7] at HR7 HB7 HO7 HK7 ⊢
          clear hw7 HR HBB HOB HBV HOV HCV HB5 HO5 HK5 HKB HKV g3 f3 hwB hwV
          go_wp2_with fail
          go_roundw
          case rel => exact ⟨f, l ++ [t], sz, A5, n5, c5, HN5, by rw [List.length_append, HLN.out]; simp; omega, fun k hk => (by have := member_next (l := l) (n := n) (m := k) (by rw [HMEM.out]; exact hk); omega), by have h9 := HM1.out; rw [HMEM.out] at h9; exact h9, HR7, HK7, HB7, HO7⟩
          case measure => exact left_ltf HR0.out HR7.out (fun k hk => by have := member_next (l := l) (n := n) (m := k) (by rw [HMEM.out]; exact hk); omega)
end Go.Proofs.YtnbdckfnohagbaaGreatDoor.PqJ
