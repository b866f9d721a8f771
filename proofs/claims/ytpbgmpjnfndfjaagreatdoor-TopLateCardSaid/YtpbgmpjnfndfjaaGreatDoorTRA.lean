/- TrA, TrB, TrC, TrD, TrE, TrF, TrG, in one text. -/
import Derived.Test.YtpbgmpjnfndfjaaGreatDoorTWA
import Derived.Test.YtpbgmpjnfndfjaaGreatDoorPFC
import Derived.Deep.MidRow
import Derived.WalkSpells
namespace Go.Proofs.YtpbgmpjnfndfjaaGreatDoor.TrA
open Go.RowKit Wd RnA RnB RnS RnC RnK RnM RnL RnN RnD RnE RnQ RnR RnG RnP RnW RnX RoA RoB RoC RoD RoE RoF RoG RoH RoI RoJ RoK RoL RoM RoN PnA PnB PnC PnD PnE PnF PnG PnH PnI PnJ PnK PnL RtA RtB RtC RpA RpB RpC RpD RpE RpF RpG RpH RnY RpI RpJ RpK RpL PqB PfA PfB PfD PfH PfO TqA TwA
structure En where
  p : Dc
  st : Int
  late : Bool
  cl : Rat
  fl : Rat
  ad : Rat
  ce : Rat
  acq : Int
  chg : Int
def En.vals (x : En) : List Value := [.string x.p.id, .int .i64 x.p.est, .int .i64 x.p.cred, .string x.p.code, .bool x.p.neg, .string x.p.num, .string x.p.den, .int .i64 x.p.inc, .int .i64 x.p.rank, .bool x.p.rneg, .string x.p.rnum, .string x.p.rden, .int .i64 x.p.rfrom, .int .i64 x.p.sec, .int .i64 x.st, .bool x.late, .bool (negB x.cl), .string (bs (nm x.cl)), .string (dstr x.cl), .bool (negB x.fl), .string (bs (nm x.fl)), .string (dstr x.fl), .bool (negB x.ad), .string (bs (nm x.ad)), .string (dstr x.ad), .bool (negB x.ce), .string (bs (nm x.ce)), .string (dstr x.ce), .int .i64 x.acq, .int .i64 x.chg]
def En.agg (x : En) : Value := .agg #[.string x.p.id, .int .i64 x.p.est, .int .i64 x.p.cred, .string x.p.code, .bool x.p.neg, .string x.p.num, .string x.p.den, .int .i64 x.p.inc, .int .i64 x.p.rank, .bool x.p.rneg, .string x.p.rnum, .string x.p.rden, .int .i64 x.p.rfrom, .int .i64 x.p.sec, .int .i64 x.st, .bool x.late, .bool (negB x.cl), .string (bs (nm x.cl)), .string (dstr x.cl), .bool (negB x.fl), .string (bs (nm x.fl)), .string (dstr x.fl), .bool (negB x.ad), .string (bs (nm x.ad)), .string (dstr x.ad), .bool (negB x.ce), .string (bs (nm x.ce)), .string (dstr x.ce), .int .i64 x.acq, .int .i64 x.chg]
theorem en_len (x : En) : x.vals.length = 30 := rfl
abbrev EnsAt (w : World) (A : Option Addr) (l : List En) : Prop := RowAt 30 En.vals w A l
/-- the cells of an entry -/
def EnAt (w : World) (b o : Nat) (x : En) : Prop :=
  w.cell? ⟨b, o, none⟩ = some (.string x.p.id) ∧ w.cell? ⟨b, o + 1, none⟩ = some (.int .i64 x.p.est) ∧ w.cell? ⟨b, o + 2, none⟩ = some (.int .i64 x.p.cred) ∧ w.cell? ⟨b, o + 3, none⟩ = some (.string x.p.code) ∧ w.cell? ⟨b, o + 4, none⟩ = some (.bool x.p.neg) ∧ w.cell? ⟨b, o + 5, none⟩ = some (.string x.p.num) ∧ w.cell? ⟨b, o + 6, none⟩ = some (.string x.p.den) ∧ w.cell? ⟨b, o + 7, none⟩ = some (.int .i64 x.p.inc) ∧ w.cell? ⟨b, o + 8, none⟩ = some (.int .i64 x.p.rank) ∧ w.cell? ⟨b, o + 9, none⟩ = some (.bool x.p.rneg) ∧ w.cell? ⟨b, o + 10, none⟩ = some (.string x.p.rnum) ∧ w.cell? ⟨b, o + 11, none⟩ = some (.string x.p.rden) ∧ w.cell? ⟨b, o + 12, none⟩ = some (.int .i64 x.p.rfrom) ∧ w.cell? ⟨b, o + 13, none⟩ = some (.int .i64 x.p.sec) ∧ w.cell? ⟨b, o + 14, none⟩ = some (.int .i64 x.st) ∧ w.cell? ⟨b, o + 15, none⟩ = some (.bool x.late) ∧ w.cell? ⟨b, o + 16, none⟩ = some (.bool (negB x.cl)) ∧ w.cell? ⟨b, o + 17, none⟩ = some (.string (bs (nm x.cl))) ∧ w.cell? ⟨b, o + 18, none⟩ = some (.string (dstr x.cl)) ∧ w.cell? ⟨b, o + 19, none⟩ = some (.bool (negB x.fl)) ∧ w.cell? ⟨b, o + 20, none⟩ = some (.string (bs (nm x.fl))) ∧ w.cell? ⟨b, o + 21, none⟩ = some (.string (dstr x.fl)) ∧ w.cell? ⟨b, o + 22, none⟩ = some (.bool (negB x.ad)) ∧ w.cell? ⟨b, o + 23, none⟩ = some (.string (bs (nm x.ad))) ∧ w.cell? ⟨b, o + 24, none⟩ = some (.string (dstr x.ad)) ∧ w.cell? ⟨b, o + 25, none⟩ = some (.bool (negB x.ce)) ∧ w.cell? ⟨b, o + 26, none⟩ = some (.string (bs (nm x.ce))) ∧ w.cell? ⟨b, o + 27, none⟩ = some (.string (dstr x.ce)) ∧ w.cell? ⟨b, o + 28, none⟩ = some (.int .i64 x.acq) ∧ w.cell? ⟨b, o + 29, none⟩ = some (.int .i64 x.chg)
theorem ens_full {w : World} {A : Option Addr} {l : List En} (h : EnsAt w A l) {k : Nat} {x : En} (hk : l[k]? = some x) : ∃ b off, A = some ⟨b, off, none⟩ ∧ b < w.heap.size ∧ EnAt w b (off + k * 30) x := by
  obtain ⟨b, off, e, hb, hc⟩ := h.at_ hk
  exact ⟨b, off, e, hb, hc 0 _ rfl, hc 1 _ rfl, hc 2 _ rfl, hc 3 _ rfl, hc 4 _ rfl, hc 5 _ rfl, hc 6 _ rfl, hc 7 _ rfl, hc 8 _ rfl, hc 9 _ rfl, hc 10 _ rfl, hc 11 _ rfl, hc 12 _ rfl, hc 13 _ rfl, hc 14 _ rfl, hc 15 _ rfl, hc 16 _ rfl, hc 17 _ rfl, hc 18 _ rfl, hc 19 _ rfl, hc 20 _ rfl, hc 21 _ rfl, hc 22 _ rfl, hc 23 _ rfl, hc 24 _ rfl, hc 25 _ rfl, hc 26 _ rfl, hc 27 _ rfl, hc 28 _ rfl, hc 29 _ rfl⟩
theorem en_new (w : World) (x : En) : ∃ V, w.alloc (.cells #[.string x.p.id, .int .i64 x.p.est, .int .i64 x.p.cred, .string x.p.code, .bool x.p.neg, .string x.p.num, .string x.p.den, .int .i64 x.p.inc, .int .i64 x.p.rank, .bool x.p.rneg, .string x.p.rnum, .string x.p.rden, .int .i64 x.p.rfrom, .int .i64 x.p.sec, .int .i64 x.st, .bool x.late, .bool (negB x.cl), .string (bs (nm x.cl)), .string (dstr x.cl), .bool (negB x.fl), .string (bs (nm x.fl)), .string (dstr x.fl), .bool (negB x.ad), .string (bs (nm x.ad)), .string (dstr x.ad), .bool (negB x.ce), .string (bs (nm x.ce)), .string (dstr x.ce), .int .i64 x.acq, .int .i64 x.chg] 103) = V ∧ Hid (BlkT V w.heap.size 103 x.vals) ∧ Hid (Below w.heap.size w V) ∧ V.heap.size = w.heap.size + 1 :=
  ⟨_, rfl, heap_alloc_new w _, (Below.refl _ _).alloc (Nat.le_refl _) _, by simp⟩
theorem en_at {w : World} {g : Nat} {T : TypeId} {x : En} (h : BlkT w g T x.vals) : EnAt w g 0 x :=
  ⟨h.cell (i := 0) rfl, h.cell (i := 1) rfl, h.cell (i := 2) rfl, h.cell (i := 3) rfl, h.cell (i := 4) rfl, h.cell (i := 5) rfl, h.cell (i := 6) rfl, h.cell (i := 7) rfl, h.cell (i := 8) rfl, h.cell (i := 9) rfl, h.cell (i := 10) rfl, h.cell (i := 11) rfl, h.cell (i := 12) rfl, h.cell (i := 13) rfl, h.cell (i := 14) rfl, h.cell (i := 15) rfl, h.cell (i := 16) rfl, h.cell (i := 17) rfl, h.cell (i := 18) rfl, h.cell (i := 19) rfl, h.cell (i := 20) rfl, h.cell (i := 21) rfl, h.cell (i := 22) rfl, h.cell (i := 23) rfl, h.cell (i := 24) rfl, h.cell (i := 25) rfl, h.cell (i := 26) rfl, h.cell (i := 27) rfl, h.cell (i := 28) rfl, h.cell (i := 29) rfl⟩
theorem en_one (x : En) : ∀ u ∈ x.vals, u.oneCell' = true := by
  intro u hu
  simp only [En.vals, List.mem_cons, List.mem_nil_iff, or_false] at hu
  rcases hu with rfl | rfl | rfl | rfl | rfl | rfl | rfl | rfl | rfl | rfl | rfl | rfl | rfl | rfl | rfl | rfl | rfl | rfl | rfl | rfl | rfl | rfl | rfl | rfl | rfl | rfl | rfl | rfl | rfl | rfl <;> rfl
theorem en_info : (Tryz.prog.info? 103).map (fun i => (i.zero, i.size)) = some (some (.agg #[.string ⟨#[]⟩, .int .i64 0, .int .i64 0, .string ⟨#[]⟩, .bool false, .string ⟨#[]⟩, .string ⟨#[]⟩, .int .i64 0, .int .i64 0, .bool false, .string ⟨#[]⟩, .string ⟨#[]⟩, .int .i64 0, .int .i64 0, .int .i64 0, .bool false, .bool false, .string ⟨#[]⟩, .string ⟨#[]⟩, .bool false, .string ⟨#[]⟩, .string ⟨#[]⟩, .bool false, .string ⟨#[]⟩, .string ⟨#[]⟩, .bool false, .string ⟨#[]⟩, .string ⟨#[]⟩, .int .i64 0, .int .i64 0]), 30) := by kernel_rfl
theorem en_size : (Tryz.prog.info? 103).map (·.size) = some 30 := by kernel_rfl
theorem en_agg (x : En) : x.agg = .agg x.vals.toArray := rfl
theorem en_sz (x : En) : (Tryz.prog.info? 103).map (·.size) = some x.vals.length := en_size
/-- an entry is read as one value -/
theorem en_range {w : World} {A : Option Addr} {l : List En} (h : EnsAt w A l) {k : Nat} {x : En} (hk : l[k]? = some x) : ∃ b off, A = some ⟨b, off, none⟩ ∧ b < w.heap.size ∧ w.rangeAt b (off + k * 30) x.vals := by
  obtain ⟨b, off, e, hb, hc⟩ := h.at_ hk
  exact ⟨b, off, e, hb, fun j v hv => hc j v hv⟩
set_option maxHeartbeats 2000000 in
set_option maxRecDepth 100000 in
theorem rank_any (x : En) (w : World) :
    Calls Tryz.prog 31 #[x.agg] w fun e w' => e = .returned (.int .i64 (if x.late then max x.p.rank 4 else x.p.rank)) ∧ Below w.heap.size w w' := by
  unfold En.agg
  cases hl : x.late
  all_goals
    go_enter Tryz.func31, Tryz.ntmps31
    go_wp2_with fail
    go_ret
    exact ⟨rfl, (Below.refl _ _).alloc (Nat.le_refl _) _⟩
set_option maxHeartbeats 2000000 in
set_option maxRecDepth 100000 in
theorem isday_any (d : Int) (w : World) : Calls Tryz.prog 52 #[.int .i64 d] w fun e w' => e = .returned (.bool (decide (0 ≤ d) && decide (d ≤ 1048576))) ∧ w = w' := by
  by_cases h : 0 ≤ d
  · have hd : (decide (0 ≤ d) && decide (d ≤ 1048576)) = decide (d ≤ 1048576) := by rw [decide_eq_true h]; simp
    rw [hd]
    clear hd
    go_enter Tryz.func52, Tryz.ntmps52
    go_wp2_with fail
    go_ret
    exact ⟨rfl, rfl⟩
  · have hd : (decide (0 ≤ d) && decide (d ≤ 1048576)) = false := by rw [decide_eq_false h]; simp
    rw [hd]
    clear hd
    go_enter Tryz.func52, Tryz.ntmps52
    go_wp2_with fail
    go_ret
    exact ⟨rfl, rfl⟩
set_option maxHeartbeats 2000000 in
set_option maxRecDepth 100000 in
theorem new_any (w : World) : Calls Tryz.prog 28 #[.int .i64 100, .int .i64 200] w fun e w' => e = .returned (.tuple #[.agg #[.int .i64 100, .int .i64 200, .int .i64 0, .slice none 0 0], .int .i64 0]) ∧ Below w.heap.size w w' := by
  have H1 := Lib.hid (fun w => isday_any 100 w)
  have H2 := Lib.hid (fun w => isday_any 200 w)
  go_enter Tryz.func28, Tryz.ntmps28
  go_wp2_with fail
  refine (H1.out _).mono ?_
  rintro e w1 ⟨rfl, rfl⟩
  go_wp2_with fail
  refine (H2.out _).mono ?_
  rintro e w1 ⟨rfl, rfl⟩
  go_wp2_with fail
  refine bodyPost_ret (v := .tuple #[.agg #[.int .i64 100, .int .i64 200, .int .i64 0, .slice none 0 0], .int .i64 0]) (by simp [results, Tryz.results28, go_sem]) rfl ⟨rfl, ?_⟩
  exact (Below.refl _ _).alloc (Nat.le_refl _) _
set_option maxHeartbeats 2000000 in
set_option maxRecDepth 100000 in
theorem same_any (x : En) (b : Nat) (id : ByteArray) (w : World) (h : w.cell? ⟨b, 0, none⟩ = some (.string id)) (hb : b < w.heap.size) :
    Calls Tryz.prog 99 #[x.agg, .pointer (some ⟨b, 0, none⟩)] w fun e w' => e = .returned (.bool (x.p.id.toList == id.toList)) ∧ Below w.heap.size w w' := by
  unfold En.agg
  go_enter Tryz.func99, Tryz.ntmps99
  go_wp2_with fail
  go_ret
  exact ⟨rfl, (Below.refl _ _).alloc (Nat.le_refl _) _⟩
/-- where an ID stands first -/
def Hits (l : List En) (id : ByteArray) (i : Int) : Prop := (i = -1 ∧ l.any (fun x => x.p.id.toList == id.toList) = false) ∨ ∃ (k : Nat) (x : En), i = (k : Int) ∧ l[k]? = some x ∧ (x.p.id.toList == id.toList) = true ∧ (l.take k).any (fun x => x.p.id.toList == id.toList) = false
def HitP (l : List En) (id : ByteArray) (w : World) (e : Ending) (w' : World) : Prop := ∃ i : Int, (e = .returned (.int .i64 i) ∧ Hits l id i) ∧ Below w.heap.size w w'
set_option maxHeartbeats 4000000 in
set_option maxRecDepth 100000 in
theorem index_any (l : List En) (A : Option Addr) (c b : Nat) (id : ByteArray) (w : World) (hD : EnsAt w A l) (h : w.cell? ⟨b, 0, none⟩ = some (.string id)) (hb : b < w.heap.size) :
    Calls Tryz.prog 98 #[.slice A l.length c, .func (.func 99) #[] #[.pointer (some ⟨b, 0, none⟩)]] w (HitP l id w) := by
  have hlm := hD.1
  unfold maxLen at hlm
  have HD := hide hD
  have HH := hide h
  clear h hD
  go_enter Tryz.func98, Tryz.ntmps98
  go_wp2_with fail
  go_loopw [8] (fun vi wr => ∃ k : Nat, k ≤ l.length ∧ vi = .int .i64 k ∧ Hid ((l.take k).any (fun x => x.p.id.toList == id.toList) = false) ∧ Hid (Below w.heap.size w wr)) (fun vi _ => l.length - (intOf vi).toNat)
  case atStart => exact ⟨0, by omega, rfl, rfl, Below.refl _ _⟩
  case round =>
    obtain ⟨k, hk, rfl, HA, HBR⟩ := hrel
    by_cases hlt : k < l.length
    · obtain ⟨x, hx⟩ : ∃ x, l[k]? = some x := ⟨_, List.getElem?_eq_getElem hlt⟩
      obtain ⟨g, off, rfl, hg, hrg⟩ := en_range (HD.out.below HBR.out) hx
      have HRG := hide hrg
      have HSZ := hide (en_sz x)
      have HX := hide hx
      have HS := Lib.hid (fun w h hb => same_any x b id w h hb)
      rw [en_agg] at HS
      generalize x.vals = xs at *
      have hid := (HBR.out.cell (p := ⟨b, 0, none⟩) hb).trans HH.out
      have hbr2 := Nat.lt_of_lt_of_le hb HBR.out.size
      clear hx hrg
      cases hq : (x.p.id.toList == id.toList)
      · rw [hq] at HS
        have HN := hide (any_take (f := fun x : En => x.p.id.toList == id.toList) HX.out HA.out hq)
        clear hq
        go_wp2_with (refine wpList_load_mid (op := ⟨some 15, _, _, _, _, _⟩) rfl 103 _ rfl g (off + k * 30) rfl xs _ HRG.out Tryz.underlying103 rfl HSZ.out ?_)
        refine (HS.out _ hid hbr2).mono ?_
        rintro e w3 ⟨rfl, hb3⟩
        go_wp2_with fail
        go_roundw
        case rel => exact ⟨k + 1, by omega, by go_num, HN, HBR.out.trans (hb3.mono HBR.out.size)⟩
        case measure => simp [intOf]; omega
      · rw [hq] at HS
        have HQ := hide hq
        clear hq
        go_wp2_with (refine wpList_load_mid (op := ⟨some 15, _, _, _, _, _⟩) rfl 103 _ rfl g (off + k * 30) rfl xs _ HRG.out Tryz.underlying103 rfl HSZ.out ?_)
        refine (HS.out _ hid hbr2).mono ?_
        rintro e w3 ⟨rfl, hb3⟩
        go_wp2_with fail
        go_ret
        unfold HitP
        exact ⟨k, ⟨rfl, .inr ⟨k, x, rfl, HX.out, HQ.out, HA.out⟩⟩, HBR.out.trans (hb3.mono HBR.out.size)⟩
    · obtain rfl : k = l.length := by omega
      have h2 := HA.out
      rw [List.take_length] at h2
      have HN := hide h2
      clear h2
      go_wp2_with fail
      go_ret
      unfold HitP
      exact ⟨-1, ⟨rfl, .inl ⟨rfl, HN.out⟩⟩, HBR.out⟩
def FindP (l : List En) (id : ByteArray) (w : World) (e : Ending) (w' : World) : Prop := ∃ i : Int, (e = .returned (.tuple #[.int .i64 (max i 0), .bool (decide (0 ≤ i))]) ∧ Hits l id i) ∧ Below w.heap.size w w'
set_option maxHeartbeats 2000000 in
set_option maxRecDepth 100000 in
theorem find_any (c0 b0 d0 : Int) (l : List En) (A : Option Addr) (c : Nat) (id : ByteArray) (w : World) (h : EnsAt w A l) :
    Calls Tryz.prog 55 #[.agg #[.int .i64 c0, .int .i64 b0, .int .i64 d0, .slice A l.length c], .string id] w (FindP l id w) := by
  obtain ⟨V0, hV0, hs0, hc0, HB0⟩ : ∃ V0, w.alloc (.cells #[.int .i64 c0, .int .i64 b0, .int .i64 d0, .slice A l.length c] 28) = V0 ∧ V0.heap.size = w.heap.size + 1 ∧ V0.cell? ⟨w.heap.size, 3, none⟩ = some (.slice A l.length c) ∧ Hid (Below w.heap.size w V0) :=
    ⟨_, rfl, by simp, by rw [World.cell?_alloc_new]; rfl, (Below.refl _ _).alloc (Nat.le_refl _) _⟩
  obtain ⟨V, hV, hr, hr0, HBV1, hsV⟩ : ∃ V, V0.alloc (.cells #[.string id] 9) = V ∧ V.cell? ⟨V0.heap.size, 0, none⟩ = some (.string id) ∧ V.cell? ⟨w.heap.size, 3, none⟩ = some (.slice A l.length c) ∧ Hid (Below V0.heap.size V0 V) ∧ V.heap.size = V0.heap.size + 1 :=
    ⟨_, rfl, by rw [World.cell?_alloc_new]; rfl, by rw [World.cell?_alloc_lt _ _ _ (by show w.heap.size < _; omega)]; exact hc0, (Below.refl _ _).alloc (Nat.le_refl _) _, by simp⟩
  have HBV := hide (HB0.out.trans (HBV1.out.mono (by omega)))
  have HI := Lib.hid (index_any l A c V0.heap.size id V (h.below HBV.out) hr (by omega))
  unfold HitP at HI
  clear h hsV hs0 hc0 hr
  go_enter Tryz.func55, Tryz.ntmps55
  go_wp2_with fail
  refine HI.out.mono ?_
  rintro e w3 ⟨i, ⟨rfl, hh⟩, hb3⟩
  have HHH := hide hh
  have hi0 : -1 ≤ i := by rcases hh with h | ⟨k, _, h, _⟩ <;> omega
  clear hh
  go_wp2_with fail
  go_ret2
  unfold FindP
  exact ⟨i, ⟨rfl, HHH.out⟩, HBV.out.trans (hb3.mono HBV.out.size)⟩
end Go.Proofs.YtpbgmpjnfndfjaaGreatDoor.TrA
namespace Go.Proofs.YtpbgmpjnfndfjaaGreatDoor.TrB
open Go.RowKit Wd RnA RnB RnW RnQ RnR RnP RoA RoC RoL RtA RtB RtC RpB RpC RpE RpF RpG RpH RnY RpI RpJ RpK RpL PqB PfA PfB PfD PfE PfH PfO TqA TwA TwB TrA
theorem ans_in {f : FuncId} {args : Array Value} {r : Rat} {W : World} {v : Qin.In (Below W.heap.size W)} (h : Calls Tryz.prog f args v.val (Ans r v.val)) : Calls Tryz.prog f args v.val fun e w' => e = .returned (.agg #[.bool (negB r), .string (bs (nm r)), .string (dstr r)]) ∧ ∃ y : Qin.In (Below W.heap.size W), w' = y.val :=
  Qin.call (h.mono fun _ _ ⟨h1, h2⟩ => ⟨h1, v.ok.trans (h2.mono v.ok.size)⟩)
theorem lt_one : Lt 1 1 := ⟨by decide, by decide⟩
theorem day_any (d : Int) (w : World) (h0 : 0 ≤ d) (h1 : d ≤ 1000) : Calls Tryz.prog 224 #[.int .i64 d] w fun e w' => e = .returned (.bool true) ∧ w = w' := by
  go_enter Tryz.func224, Tryz.ntmps224
  go_wp2_with fail
  go_ret
  exact ⟨by show Ending.returned (Value.bool (decide (d ≤ 1048576))) = _; rw [decide_eq_true (by omega)], rfl⟩
theorem iday_any (d : Int) (w : World) (h0 : 0 ≤ d) (h1 : d ≤ 1000) : Calls Tryz.prog 226 #[.int .i64 d] w fun e w' => e = .returned (.bool true) ∧ w = w' := by
  go_enter Tryz.func226, Tryz.ntmps226
  go_wp2_with fail
  go_ret
  exact ⟨by show Ending.returned (Value.bool (decide (d ≤ 1048576))) = _; rw [decide_eq_true (by omega)], rfl⟩
set_option maxHeartbeats 4000000 in
set_option maxRecDepth 100000 in
theorem check_any (w : World) : Calls Tryz.prog 223 #[.slice none 0 0] w fun e w' => e = .returned (.int .i64 0) ∧ Below w.heap.size w w' := by
  have hmm := @run_makeMap Tryz.prog
  go_enter Tryz.func223, Tryz.ntmps223
  go_wp2_with fail
  go_loopw [13] (fun vi wr => vi = .int .i64 0 ∧ Hid (Below w.heap.size w wr)) (fun _ _ => 0)
  case atStart => exact ⟨rfl, (Below.refl _ _).alloc (Nat.le_refl _) _⟩
  case round =>
    obtain ⟨rfl, HB⟩ := hrel
    go_wp2_with fail
    go_ret
    exact ⟨rfl, HB.out⟩
set_option maxHeartbeats 4000000 in
set_option maxRecDepth 100000 in
theorem rate_any (w : World) : Calls Tryz.prog 183 #[.slice none 0 0, .string ⟨#[69, 85, 82]⟩, .int .i64 100] w fun e w' => e = .returned (.tuple #[.agg #[.bool (negB 1), .string (bs (nm 1)), .string (dstr 1)], .int .i64 0]) ∧ Below w.heap.size w w' := by
  have HC := Lib.hid (fun w => check_any w)
  have HD := Lib.hid (fun w => day_any 100 w (by omega) (by omega))
  have HI := Lib.hid (fun w => int_e (m := 1) (r := 1) ⟨by omega, by omega⟩ (by rw [intQ_eq]; rfl) w)
  generalize (1 : Rat) = one at *
  obtain ⟨V0, hV0, HJ, hB0, hl0⟩ := box_new w (.bool false) (.string ⟨#[]⟩) (.string ⟨#[]⟩)
  have HB0 := hide hB0
  clear hB0
  go_enter Tryz.func183, Tryz.ntmps183
  go_wp2_with fail
  refine (HC.out _).mono ?_
  rintro e w1 ⟨rfl, hb1⟩
  have HJ1 := hide (HJ.out.keep hb1 hl0)
  have HB1 := hide (HB0.out.trans (hb1.mono (Nat.le_of_lt hl0)))
  clear hb1
  go_wp2_with fail
  refine (HD.out _).mono ?_
  rintro e w2 ⟨rfl, rfl⟩
  go_wp2_with fail
  refine (HI.out _).mono ?_
  rintro e w3 ⟨rfl, hb3⟩
  have HJ3 := hide (HJ1.out.keep hb3 HJ1.out.lt)
  have HB3 := hide (HB1.out.trans (hb3.mono HB1.out.size))
  obtain ⟨c0, c1, c2, f0, f1, f2⟩ := HJ3.out
  clear hb3
  go_wp2_with fail
  refine bodyPost_ret (results_rat2 rfl _ rfl (HJ3.out.set3 _ _ _)) rfl ?_
  exact ⟨rfl, below_set3 HB3.out (Nat.le_refl _) _ _ _⟩
set_option maxHeartbeats 4000000 in
set_option maxRecDepth 100000 in
theorem convert_any {q : Rat} (hq : Lt q 1000) (w : World) : Calls Tryz.prog 149 #[.slice none 0 0, .agg #[.bool (negB q), .string (bs (nm q)), .string (dstr q)], .string ⟨#[69, 85, 82]⟩, .string ⟨#[69, 85, 82]⟩, .int .i64 100] w fun e w' => e = .returned (.tuple #[.agg #[.bool (negB q), .string (bs (nm q)), .string (dstr q)], .int .i64 0]) ∧ Below w.heap.size w w' := by
  have HR := Lib.hid (fun w => rate_any w)
  have HM := Lib.hid (fun w => mul_e (p := q) (q := 1) (r := q) (hq.mono (by omega)) (lt_one.mono (by omega)) (by grind) w)
  have HDV := Lib.hid (fun w => div_e (p := q) (q := 1) (r := q) (hq.mono (by omega)) (lt_one.mono (by omega)) (by decide) (by rw [Rat.div_def]; grind) w)
  generalize (1 : Rat) = one at *
  clear hq
  obtain ⟨V0, hV0, HQ0, hB0, hl0⟩ := box_new w (.bool (negB q)) (.string (bs (nm q))) (.string (dstr q))
  obtain ⟨V1, hV1, HZ1, hB1, hl1⟩ := box_new V0 (.bool false) (.string ⟨#[]⟩) (.string ⟨#[]⟩)
  have HQ1 := hide (HQ0.out.keep hB1 HQ0.out.lt)
  have HB1 := hide (hB0.trans (hB1.mono (Nat.le_of_lt hl0)))
  have hw1 : w.heap.size ≤ V0.heap.size := Nat.le_of_lt hl0
  clear hB0 hB1 hl0 hl1
  go_enter Tryz.func149, Tryz.ntmps149
  go_wp2_with fail
  refine (HR.out _).mono ?_
  rintro e w2 ⟨rfl, hb2⟩
  obtain ⟨V2, hV2, HA2, hB2, hl2⟩ := box_new w2 (.bool (negB one)) (.string (bs (nm one))) (.string (dstr one))
  have hc2 := hb2.trans (hB2.mono hb2.size)
  have HQ2 := hide (HQ1.out.keep hc2 HQ1.out.lt)
  have HZ2 := hide (HZ1.out.keep hc2 HZ1.out.lt)
  have HB2 := hide (HB1.out.trans (hc2.mono HB1.out.size))
  clear hb2 hB2 hc2 hl2
  go_wp2_with fail
  refine (HR.out _).mono ?_
  rintro e w3 ⟨rfl, hb3⟩
  obtain ⟨V3, hV3, HA3, hB3, hl3⟩ := box_new w3 (.bool (negB one)) (.string (bs (nm one))) (.string (dstr one))
  have hc3 := hb3.trans (hB3.mono hb3.size)
  have HQ3 := hide (HQ2.out.keep hc3 HQ2.out.lt)
  have HZ3 := hide (HZ2.out.keep hc3 HZ2.out.lt)
  have HC3 := hide (HA2.out.keep hc3 HA2.out.lt)
  have HB3 := hide (HB2.out.trans (hc3.mono HB2.out.size))
  clear hb3 hB3 hc3 hl3 hV0 hV1 hV2
  obtain ⟨k0, k1, k2⟩ := HQ3.out.kin
  obtain ⟨l0, l1, l2⟩ := HC3.out.kin
  obtain ⟨m0, m1, m2⟩ := HA3.out.kin
  go_wp2_with fail
  refine Qmt.wp_region (C := Cls (Below V3.heap.size V3)) (by kernel_rfl) (by kernel_rfl) ?_
  simp only [List.length_cons, List.length_nil]
  refine Qmt.takes [0, 1, 3] 8 _ _ _ (cls (Qin.start _ _)) (by kernel_rfl) ?_
  simp only [List.filterMap_cons, List.filterMap_nil, List.getElem?_toArray, List.getElem?_cons_zero, List.getElem?_cons_succ]
  change wpQuiet _ _ _ _ [_, _, _] _
  repeat (go_big_quiet_step (fail))
  refine wpQuiet_nil ?_
  have hB := Qin.start V3.heap.size V3
  generalize ({ V3 with drawn := V3.drawn + 1 } : World) = v at hB ⊢
  clear k0 k1 k2 l0 l1 l2 m0 m1 m2 hV3
  have HZN := Lib.hid (fun (w : World) (h : V3.heap.size ≤ w.heap.size) => rz_new w h)
  refine recast (d' := #[true, true, false, true, false, false, false, false, false, false, false]) (by decide) ?_
  apply holes6
    (F0 := fun (G_ : World → Prop) => ∀ (v : World), Below V3.heap.size V3 v → G_ v)
    (F1 := fun (G_ : World → Nat → Prop) => ∀ (v : World) (K8 : Nat), Below V3.heap.size V3 v → Hid (Bx v K8 (.bool false) (.string ⟨#[]⟩) (.string ⟨#[]⟩)) → V3.heap.size ≤ K8 → G_ v K8)
    (F2 := fun (G_ : World → Prop) => ∀ (v : World), Below V3.heap.size V3 v → G_ v)
    (F3 := fun (G_ : World → Nat → Prop) => ∀ (v : World) (K8 : Nat), Below V3.heap.size V3 v → Hid (Bx v K8 (.bool false) (.string ⟨#[]⟩) (.string ⟨#[]⟩)) → V3.heap.size ≤ K8 → G_ v K8)
    (F4 := fun (G_ : World → Nat → Prop) => ∀ (v : World) (K8 : Nat), Below V3.heap.size V3 v → Hid (Bx v K8 (.bool false) (.string ⟨#[]⟩) (.string ⟨#[]⟩)) → V3.heap.size ≤ K8 → G_ v K8)
    (F5 := fun (G_ : World → Nat → Prop) => ∀ (v : World) (K8 : Nat), Below V3.heap.size V3 v → Hid (Bx v K8 (.bool (negB q)) (.string (bs (nm q))) (.string (dstr q))) → V3.heap.size ≤ K8 → G_ v K8)
  · intro S1 S2 S3 S4 S5 S6
    refine Qmt.fork [2, 8] (cls hB) (by kernel_rfl) (by simp) ⟨?_, ?_, trivial⟩
    · refine Qmt.by_op rfl (by kernel_rfl) ?_
      go_wp2_with fail
      refine (HM.out _).mono ?_
      rintro e v2 ⟨rfl, hb⟩
      have hB2 := hB.trans (hb.mono hB.size)
      clear hb
      go_wp2_with fail
      refine ⟨rfl, ?_⟩
      refine recast (d' := #[true, true, true, true, false, false, false, false, false, false, false]) (by decide) ?_
      exact S1 v2 hB2
    · refine Qmt.by_op rfl (by kernel_rfl) ?_
      obtain ⟨v2, K8, hv, hKe, X8, HN, G8⟩ := HZN.out v hB.size
      have hB2 := hB.trans (HN.out.mono hB.size)
      go_wp2_with fail
      refine ⟨rfl, ?_⟩
      clear hv
      try simp only [hKe]
      clear hKe
      refine recast (d' := #[true, true, false, true, false, false, false, false, true, false, false]) (by decide) ?_
      exact S2 v2 K8 hB2 X8 G8
  · intro S2 S3 S4 S5 S6 v hB
    refine Qmt.fork [4, 8] (cls hB) (by kernel_rfl) (by simp) ⟨?_, ?_, trivial⟩
    · refine Qmt.by_op rfl (by kernel_rfl) ?_
      go_wp2_with fail
      refine (HDV.out _).mono ?_
      rintro e v2 ⟨rfl, hb⟩
      have hB2 := hB.trans (hb.mono hB.size)
      clear hb
      go_wp2_with fail
      refine ⟨rfl, ?_⟩
      refine Qmt.takes [5, 6, 7] 3 _ _ _ (cls hB2) (by kernel_rfl) ?_
      simp only [List.filterMap_cons, List.filterMap_nil, List.getElem?_toArray, List.getElem?_cons_zero, List.getElem?_cons_succ]
      change wpQuiet _ _ _ _ [_, _, _] _
      repeat (go_big_quiet_step (fail))
      refine wpQuiet_nil ?_
      refine recast (d' := #[true, true, true, true, true, true, true, true, false, false, false]) (by decide) ?_
      exact S3 v2 hB2
    · refine Qmt.by_op rfl (by kernel_rfl) ?_
      obtain ⟨v2, K8, hv, hKe, X8, HN, G8⟩ := HZN.out v hB.size
      have hB2 := hB.trans (HN.out.mono hB.size)
      go_wp2_with fail
      refine ⟨rfl, ?_⟩
      clear hv
      try simp only [hKe]
      clear hKe
      refine recast (d' := #[true, true, true, true, false, false, false, false, true, false, false]) (by decide) ?_
      exact S4 v2 K8 hB2 X8 G8
  · intro S3 S4 S5 S6 v K8 hB X8 G8
    refine Qmt.fork [2] (cls hB) (by kernel_rfl) (by simp) ⟨?_, trivial⟩
    · refine Qmt.by_op rfl (by kernel_rfl) ?_
      go_wp2_with fail
      refine (HM.out _).mono ?_
      rintro e v2 ⟨rfl, hb⟩
      have hB2 := hB.trans (hb.mono hB.size)
      have Y8 := hide (X8.out.keep hb X8.out.lt)
      clear hb
      go_wp2_with fail
      refine ⟨rfl, ?_⟩
      refine recast (d' := #[true, true, true, true, false, false, false, false, true, false, false]) (by decide) ?_
      exact S4 v2 K8 hB2 Y8 G8
  · intro S4 S5 S6 v hB
    refine Qmt.fork [8] (cls hB) (by kernel_rfl) (by simp) ⟨?_, trivial⟩
    · refine Qmt.by_op rfl (by kernel_rfl) ?_
      obtain ⟨v2, K8, hv, hKe, X8, HN, G8⟩ := HZN.out v hB.size
      have hB2 := hB.trans (HN.out.mono hB.size)
      go_wp2_with fail
      refine ⟨rfl, ?_⟩
      clear hv
      try simp only [hKe]
      clear hKe
      refine recast (d' := #[true, true, true, true, true, true, true, true, true, false, false]) (by decide) ?_
      exact S5 v2 K8 hB2 X8 G8
  · intro S5 S6 v K8 hB X8 G8
    refine Qmt.fork [4] (cls hB) (by kernel_rfl) (by simp) ⟨?_, trivial⟩
    · refine Qmt.by_op rfl (by kernel_rfl) ?_
      go_wp2_with fail
      refine (HDV.out _).mono ?_
      rintro e v2 ⟨rfl, hb⟩
      have hB2 := hB.trans (hb.mono hB.size)
      have Y8 := hide (X8.out.keep hb X8.out.lt)
      clear hb
      go_wp2_with fail
      refine ⟨rfl, ?_⟩
      refine Qmt.takes [5, 6, 7] 2 _ _ _ (cls hB2) (by kernel_rfl) ?_
      simp only [List.filterMap_cons, List.filterMap_nil, List.getElem?_toArray, List.getElem?_cons_zero, List.getElem?_cons_succ]
      change wpQuiet _ _ _ _ [_, _, _] _
      repeat (go_big_quiet_step (fail))
      refine wpQuiet_nil ?_
      refine recast (d' := #[true, true, true, true, true, true, true, true, true, false, false]) (by decide) ?_
      exact S5 v2 K8 hB2 Y8 G8
  · intro S6 v K8 hB X8 G8
    refine Qmt.fork [9] (cls hB) (by kernel_rfl) (by simp) ⟨?_, trivial⟩
    · refine Qmt.by_op rfl (by kernel_rfl) ?_
      obtain ⟨v2, hv, Y8, hB2⟩ := bx_put hB X8.out G8 (.bool (negB q)) (.string (bs (nm q))) (.string (dstr q))
      obtain ⟨c0, c1, c2, f0, f1, f2⟩ := X8.out
      go_wp2_with fail
      refine ⟨rfl, ?_⟩
      try rw [hv]
      clear hv
      refine Qmt.takes [10] 0 _ _ _ (cls hB2) (by kernel_rfl) ?_
      simp only [List.filterMap_cons, List.filterMap_nil, List.getElem?_toArray, List.getElem?_cons_zero, List.getElem?_cons_succ]
      change wpQuiet _ _ _ _ [_] _
      repeat (go_big_quiet_step (fail))
      refine wpQuiet_nil ?_
      refine recast (d' := #[true, true, true, true, true, true, true, true, true, true, true]) (by decide) ?_
      exact S6 v2 K8 hB2 Y8 G8
  · intro v K8 hB X8 G8
    refine Qmt.by_end (cls hB) (by kernel_rfl) ?_
    have HZ4 := hide (HZ3.out.keep hB HZ3.out.lt)
    have HB4 := hide (HB3.out.trans (hB.mono HB3.out.size))
    obtain ⟨c0, c1, c2, f0, f1, f2⟩ := X8.out
    obtain ⟨d0, d1, d2, g0, g1, g2⟩ := HZ4.out
    go_wp2_with fail
    refine bodyPost_ret (results_rat2 rfl _ rfl (HZ4.out.set3 _ _ _)) rfl ?_
    exact ⟨rfl, below_set3 HB4.out hw1 _ _ _⟩
set_option maxHeartbeats 4000000 in
set_option maxRecDepth 100000 in
theorem icheck_any {r : Rat} (hr : Lt r 1000) (h0 : ¬ r < 0) (rf : Int) (a0 : 0 ≤ rf) (a1 : rf ≤ 1000) (S : Nat) (w : World) (hS : BlkT w S 248 [.int .i64 rf, .bool (negB r), .string (bs (nm r)), .string (dstr r)]) :
    Calls Tryz.prog 225 #[.slice (some ⟨S, 0, none⟩) 1 1] w fun e w' => e = .returned (.int .i64 0) ∧ Below w.heap.size w w' := by
  have HS := hide hS
  have HD := Lib.hid (fun w => iday_any rf w a0 a1)
  obtain ⟨sg, hsg⟩ : ∃ sg, sgnQ r = sg := ⟨_, rfl⟩
  have hs0 : 0 ≤ sg ∧ sg ≤ 1 := by rw [← hsg]; exact sgnQ_nn (by grind)
  have HG := Lib.hid (fun w => sgn_e (hr.mono (by omega)) hsg w)
  obtain ⟨s1, s2⟩ := hs0
  clear hS hsg hr h0
  go_enter Tryz.func225, Tryz.ntmps225
  go_wp2_with fail
  go_loopw [10] (fun vi wr => ∃ k : Nat, k ≤ 1 ∧ vi = .int .i64 k ∧ Hid (Below w.heap.size w wr)) (fun vi _ => 1 - (intOf vi).toNat)
  case atStart => exact ⟨0, by omega, rfl, Below.refl _ _⟩
  case round =>
    obtain ⟨k, hk, rfl, HB⟩ := hrel
    rcases (by omega : k = 0 ∨ k = 1) with rfl | rfl
    · have HS1 := hide (HS.out.below HB.out)
      have c0 := HS1.out.cell (i := 0) rfl
      have c1 := HS1.out.cell (i := 1) rfl
      have c2 := HS1.out.cell (i := 2) rfl
      have c3 := HS1.out.cell (i := 3) rfl
      obtain ⟨V, hV, HX, HBV, hsV⟩ : ∃ V, wr.alloc (.cells #[.int .i64 rf, .bool (negB r), .string (bs (nm r)), .string (dstr r)] 248) = V ∧ Hid (BlkT V wr.heap.size 248 [.int .i64 rf, .bool (negB r), .string (bs (nm r)), .string (dstr r)]) ∧ Hid (Below wr.heap.size wr V) ∧ V.heap.size = wr.heap.size + 1 :=
        ⟨_, rfl, heap_alloc_new wr _, (Below.refl _ _).alloc (Nat.le_refl _) _, by simp⟩
      have HB2 := hide (HB.out.trans (HBV.out.mono HB.out.size))
      have d0 := HX.out.cell (i := 0) rfl
      clear hsV
      go_wp2_with fail
      refine (HD.out _).mono ?_
      rintro e w3 ⟨rfl, rfl⟩
      go_wp2_with fail
      go_quiet (fail)
      clear c0 c1 c2 c3 d0
      have d1 := HX.out.cell (i := 1) rfl
      have d2 := HX.out.cell (i := 2) rfl
      have d3 := HX.out.cell (i := 3) rfl
      go_wp2_with fail
      refine (HG.out _).mono ?_
      rintro e w4 ⟨rfl, hb4⟩
      have HB4 := hide ((below_drewN HB2.out _).trans (hb4.mono HB2.out.size))
      clear hb4 d1 d2 d3
      go_wp2_with fail
      exact ⟨⟨1, by omega, rfl, HB4⟩, by simp [intOf]⟩
    · go_wp2_with fail
      go_ret
      exact ⟨rfl, HB.out⟩
end Go.Proofs.YtpbgmpjnfndfjaaGreatDoor.TrB
namespace Go.Proofs.YtpbgmpjnfndfjaaGreatDoor.TrC
open Go.RowKit Wd RnA RnB RnW RnQ RnR RnP RoA RoC RoL RtA RtB RtC RpB RpC RpE RpF RpG RpH RnY RpI RpJ RpK RpL PqB PfA PfB PfD PfE PfH PfO TqA TwA TwB TrA TrB
set_option maxHeartbeats 4000000 in
set_option maxRecDepth 100000 in
theorem scheck_any {q r : Rat} (hq : Lt q 1000) (hq0 : ¬ q < 0) (hr : Lt r 1000) (h0 : ¬ r < 0) (rf : Int) (a0 : 0 ≤ rf) (a1 : rf ≤ 1000) (f t : Int) (f0 : 0 ≤ f) (ft : f ≤ t) (t1 : t ≤ 1000) (S : Nat) (w : World) (hS : BlkT w S 248 [.int .i64 rf, .bool (negB r), .string (bs (nm r)), .string (dstr r)]) :
    Calls Tryz.prog 184 #[.agg #[.bool (negB q), .string (bs (nm q)), .string (dstr q)], .slice (some ⟨S, 0, none⟩) 1 1, .int .i64 f, .int .i64 t, .int .i64 365, .int .i64 1] w fun e w' => e = .returned (.int .i64 0) ∧ Below w.heap.size w w' := by
  have HC := Lib.hid (fun w hS => icheck_any hr h0 rf a0 a1 S w hS)
  have HF := Lib.hid (fun w => iday_any f w f0 (by omega))
  have HT := Lib.hid (fun w => iday_any t w (by omega) t1)
  obtain ⟨sg, hsg⟩ : ∃ sg, sgnQ q = sg := ⟨_, rfl⟩
  have hs0 : 0 ≤ sg ∧ sg ≤ 1 := by rw [← hsg]; exact sgnQ_nn (by grind)
  have HG := Lib.hid (fun w => sgn_e (hq.mono (by omega)) hsg w)
  obtain ⟨s1, s2⟩ := hs0
  obtain ⟨V0, hV0, HQ0, hB0, hl0⟩ := box_new w (.bool (negB q)) (.string (bs (nm q))) (.string (dstr q))
  have HS0 := hide (hS.below hB0)
  have HB0 := hide hB0
  clear hsg hq hq0 hr h0 hS hB0 hl0
  go_enter Tryz.func184, Tryz.ntmps184
  go_wp2_with fail
  refine (HC.out _ HS0.out).mono ?_
  rintro e w1 ⟨rfl, hb1⟩
  have HQ1 := hide (HQ0.out.keep hb1 HQ0.out.lt)
  have HB1 := hide (HB0.out.trans (hb1.mono HB0.out.size))
  clear hb1
  go_wp2_with fail
  refine (HF.out _).mono ?_
  rintro e w2 ⟨rfl, rfl⟩
  go_wp2_with fail
  refine (HT.out _).mono ?_
  rintro e w3 ⟨rfl, rfl⟩
  obtain ⟨c0, c1, c2, g0, g1, g2⟩ := HQ1.out
  go_wp2_with fail
  refine (HG.out _).mono ?_
  rintro e w4 ⟨rfl, hb4⟩
  have HB4 := hide (HB1.out.trans (hb4.mono HB1.out.size))
  clear hb4
  go_wp2_with fail
  go_ret
  exact ⟨rfl, HB4.out⟩
end Go.Proofs.YtpbgmpjnfndfjaaGreatDoor.TrC
namespace Go.Proofs.YtpbgmpjnfndfjaaGreatDoor.TrD
open Go.RowKit Wd RnA RnB RnW RnQ RnR RnP RoA RoC RoL RtA RtB RtC RpB RpC RpE RpF RpG RpH RnY RpI RpJ RpK RpL PqB PfA PfB PfD PfE PfH PfO TqA TwA TwB TwC TrA TrB TrC
theorem in_small {n : Int} (h0 : 0 ≤ n) (h1 : n ≤ 1000) : In64 n := ⟨by omega, by omega⟩
/-- the interest on 1 -/
def simQ (r : Rat) (d : Int) : Rat := (r * (d : Rat)) / 365
theorem sim_lt {r : Rat} (hr : Lt r 1000) {d : Int} (h0 : 0 ≤ d) (h1 : d ≤ 1000) : Lt (r * (d : Rat)) 1008 ∧ Lt (simQ r d) 1016 := by
  have h2 : Lt (d : Rat) 8 := by rw [← intQ_eq]; exact lt_int (in_small h0 h1)
  have h3 : Lt (365 : Rat) 8 := by have := lt_int (n := 365) ⟨by omega, by omega⟩; rw [intQ_eq] at this; exact this
  exact ⟨(hr.mul h2).mono (show 1000 + 8 ≤ 1008 by omega), ((hr.mul h2).div h3 (by decide)).mono (show 1000 + 8 + 8 ≤ 1016 by omega)⟩
set_option maxHeartbeats 4000000 in
set_option maxRecDepth 100000 in
theorem simple_any {r : Rat} (hr : Lt r 1000) (rf t : Int) (a0 : 0 ≤ rf) (a1 : rf < t) (a2 : t ≤ 1000) (S : Nat) (w : World) (hS : BlkT w S 248 [.int .i64 rf, .bool (negB r), .string (bs (nm r)), .string (dstr r)]) :
    Calls Tryz.prog 185 #[.slice (some ⟨S, 0, none⟩) 1 1, .int .i64 rf, .int .i64 t, .int .i64 365] w (Ans (simQ r (t - rf)) w) := by
  have hd : 0 ≤ t - rf ∧ t - rf ≤ 1000 := by omega
  obtain ⟨l1, l2⟩ := sim_lt hr hd.1 hd.2
  have hdl : Lt ((t - rf : Int) : Rat) 8 := by rw [← intQ_eq]; exact lt_int (in_small hd.1 hd.2)
  have h365 : Lt (365 : Rat) 8 := by have := lt_int (n := 365) ⟨by omega, by omega⟩; rw [intQ_eq] at this; exact this
  have HIN := Lib.hid (fun W (v : Qin.In (Below W.heap.size W)) => TwC.q_in (int_e (in_small hd.1 hd.2) (intQ_eq (t - rf)) v.val))
  have HML := Lib.hid (fun W (v : Qin.In (Below W.heap.size W)) => TwC.q_in (mul_e (hr.mono (by omega)) (hdl.mono (by omega)) rfl v.val))
  have HAD := Lib.hid (fun W (v : Qin.In (Below W.heap.size W)) => TwC.q_in (add_e (p := 0) (q := r * ((t - rf : Int) : Rat)) (r := r * ((t - rf : Int) : Rat)) (Lt.zero.mono (by omega)) (l1.mono (by omega)) (by grind) v.val))
  have H365 := Lib.hid (fun w => int_e (m := 365) (r := 365) ⟨by omega, by omega⟩ (by rw [intQ_eq]; rfl) w)
  have HDV := Lib.hid (fun w => div_e (p := r * ((t - rf : Int) : Rat)) (q := 365) (r := simQ r (t - rf)) (l1.mono (by omega)) (h365.mono (by omega)) (by decide) rfl w)
  have hz : [Value.bool (negB 0), .string (bs (nm 0)), .string (dstr 0)] = [.bool false, .string ⟨#[]⟩, .string ⟨#[]⟩] := TwG.qv3_zero
  injection hz with z1 hz
  injection hz with z2 hz
  injection hz with z3 _
  rw [z1, z2, z3] at HAD
  generalize simQ r (t - rf) = out at *
  generalize (365 : Rat) = tsf at *
  generalize r * ((t - rf : Int) : Rat) = pr at *
  generalize hdq : ((t - rf : Int) : Rat) = dq at *
  have hmx : max rf rf = rf := by omega
  clear z1 z2 z3 hr hdl h365 l1 l2 hdq hd
  obtain ⟨V0, hV0, HZ0, hB0, hl0⟩ := box_new w (.bool false) (.string ⟨#[]⟩) (.string ⟨#[]⟩)
  obtain ⟨V1, hV1, HA1, hB1, hl1⟩ := box_new V0 (.bool false) (.string ⟨#[]⟩) (.string ⟨#[]⟩)
  have HZ1 := hide (HZ0.out.keep hB1 HZ0.out.lt)
  have HB1 := hide (hB0.trans (hB1.mono (Nat.le_of_lt hl0)))
  have HS1 := hide (hS.below HB1.out)
  have hw1 : w.heap.size < V0.heap.size := hl0
  have hSw : S < w.heap.size := hS.lt
  clear hB0 hB1 hl0 hl1 hS
  obtain ⟨c0, c1, c2, f0, f1, f2⟩ := HA1.out
  go_enter Tryz.func185, Tryz.ntmps185
  go_wp2_with fail
  clear c0 c1 c2 f0 f1 f2
  go_loopw [19] (fun vi wr => ∃ k : Nat, k ≤ 1 ∧ vi = .int .i64 k ∧ Hid (k = 0 → BlkT wr S 248 [.int .i64 rf, .bool (negB r), .string (bs (nm r)), .string (dstr r)] ∧ Bx wr V0.heap.size (.bool false) (.string ⟨#[]⟩) (.string ⟨#[]⟩)) ∧ Hid (Below w.heap.size w wr) ∧ Hid (Bx wr w.heap.size (.bool false) (.string ⟨#[]⟩) (.string ⟨#[]⟩)) ∧ Hid (k = 1 → Bx wr V0.heap.size (.bool (negB pr)) (.string (bs (nm pr))) (.string (dstr pr)))) (fun vi _ => 1 - (intOf vi).toNat)
  case atStart =>
    have hbz : Below V0.heap.size V1 (((V1.setCell ⟨V0.heap.size, 0, none⟩ (.bool false)).setCell ⟨V0.heap.size, 1, none⟩ (.string ⟨#[]⟩)).setCell ⟨V0.heap.size, 2, none⟩ (.string ⟨#[]⟩)) := below_set3 (Below.refl _ _) (Nat.le_refl _) _ _ _
    exact ⟨0, by omega, rfl, hide (fun _ => ⟨(hbz.block S (by omega)).trans HS1.out, HA1.out.set3 _ _ _⟩), hide (below_set3 HB1.out (Nat.le_of_lt hw1) _ _ _), hide (HZ1.out.keep hbz hw1), hide (fun h => by cases h)⟩
  case round =>
    obtain ⟨k, hk, rfl, HS0, HBr, HZr, HAr⟩ := hrel
    rcases (by omega : k = 0 ∨ k = 1) with rfl | rfl
    · obtain ⟨hS2, hA2⟩ := HS0.out rfl
      have s0 := hS2.cell (i := 0) rfl
      have s1 := hS2.cell (i := 1) rfl
      have s2 := hS2.cell (i := 2) rfl
      have s3 := hS2.cell (i := 3) rfl
      obtain ⟨V2, hV2, HX2, HB2, hl2⟩ : ∃ V, wr.alloc (.cells #[.int .i64 rf, .bool (negB r), .string (bs (nm r)), .string (dstr r)] 248) = V ∧ Hid (BlkT V wr.heap.size 248 [.int .i64 rf, .bool (negB r), .string (bs (nm r)), .string (dstr r)]) ∧ Hid (Below wr.heap.size wr V) ∧ wr.heap.size < V.heap.size :=
        ⟨_, rfl, heap_alloc_new wr _, (Below.refl _ _).alloc (Nat.le_refl _) _, by simp⟩
      have d0 := HX2.out.cell (i := 0) rfl
      have HZ2 := hide (HZr.out.keep HB2.out HZr.out.lt)
      have HA2 := hide (hA2.keep HB2.out hA2.lt)
      have HBB := hide (HBr.out.trans (HB2.out.mono HBr.out.size))
      have hwr : w.heap.size ≤ V2.heap.size := Nat.le_trans HBr.out.size HB2.out.size
      clear hS2 hA2 HS0 HAr HBr HZr
      go_wp2_with fail
      clear s0 s1 s2 s3 d0
      have d1 := blk_kin HX2.out (i := 1) rfl
      have d2 := blk_kin HX2.out (i := 2) rfl
      have d3 := blk_kin HX2.out (i := 3) rfl
      obtain ⟨k0, k1, k2⟩ := HA2.out.kin
      refine Qtl.region (I := Below V2.heap.size V2) 9 (Qin.start _ _) (by kernel_rfl) (by kernel_rfl) ?_
      simp only [List.take_succ_cons, List.take_zero, List.drop_succ_cons, List.drop_zero]
      repeat (go_big_quiet_step (first | (go_at_call 38; with_reducible exact HIN.out _ _) | (go_at_call 142; with_reducible exact HML.out _ _) | (go_at_call 16; with_reducible exact HAD.out _ _)))
      refine wpQuiet_nil ?_
      intro u
      obtain ⟨u, hu⟩ := u
      dsimp only
      have HZu := hide (HZ2.out.keep hu HZ2.out.lt)
      have HAu := hide (HA2.out.keep hu HA2.out.lt)
      have HBu := hide (HBB.out.trans (hu.mono hwr))
      obtain ⟨c0, c1, c2, f0, f1, f2⟩ := HAu.out
      clear hu d1 d2 d3 k0 k1 k2
      go_wp2_with fail
      refine ⟨⟨1, by omega, rfl, hide (fun h => by cases h), hide (below_set3 HBu.out (Nat.le_of_lt hw1) _ _ _), hide (HZu.out.other3 (by omega) _ _ _), hide (fun _ => HAu.out.set3 _ _ _)⟩, by simp [intOf]⟩
    · have HA2 := hide (HAr.out rfl)
      clear HS0 HAr
      go_wp2_with fail
      obtain ⟨k0, k1, k2⟩ := HA2.out.kin
      refine Qmt.wp_region (C := Cls (Below wr.heap.size wr)) (by kernel_rfl) (by kernel_rfl) ?_
      simp only [List.length_cons, List.length_nil]
      refine Qmt.takes [0, 1] 8 _ _ _ (cls (Qin.start _ _)) (by kernel_rfl) ?_
      simp only [List.filterMap_cons, List.filterMap_nil, List.getElem?_toArray, List.getElem?_cons_zero, List.getElem?_cons_succ]
      change wpQuiet _ _ _ _ [_, _] _
      repeat (go_big_quiet_step (fail))
      refine wpQuiet_nil ?_
      have hB := Qin.start wr.heap.size wr
      generalize ({ wr with drawn := wr.drawn + 1 } : World) = v at hB ⊢
      clear k0 k1 k2
      have HZN := Lib.hid (fun (w : World) (h : wr.heap.size ≤ w.heap.size) => rz_new w h)
      refine recast (d' := #[true, true, false, false, false, false, false, false, false, false]) (by decide) ?_
      apply holes6
        (F0 := fun (G_ : World → Prop) => ∀ (v : World), Below wr.heap.size wr v → G_ v)
        (F1 := fun (G_ : World → Nat → Prop) => ∀ (v : World) (K7 : Nat), Below wr.heap.size wr v → Hid (Bx v K7 (.bool false) (.string ⟨#[]⟩) (.string ⟨#[]⟩)) → wr.heap.size ≤ K7 → G_ v K7)
        (F2 := fun (G_ : World → Prop) => ∀ (v : World), Below wr.heap.size wr v → G_ v)
        (F3 := fun (G_ : World → Nat → Prop) => ∀ (v : World) (K7 : Nat), Below wr.heap.size wr v → Hid (Bx v K7 (.bool false) (.string ⟨#[]⟩) (.string ⟨#[]⟩)) → wr.heap.size ≤ K7 → G_ v K7)
        (F4 := fun (G_ : World → Nat → Prop) => ∀ (v : World) (K7 : Nat), Below wr.heap.size wr v → Hid (Bx v K7 (.bool false) (.string ⟨#[]⟩) (.string ⟨#[]⟩)) → wr.heap.size ≤ K7 → G_ v K7)
        (F5 := fun (G_ : World → Nat → Prop) => ∀ (v : World) (K7 : Nat), Below wr.heap.size wr v → Hid (Bx v K7 (.bool (negB out)) (.string (bs (nm out))) (.string (dstr out))) → wr.heap.size ≤ K7 → G_ v K7)
      · intro S1 S2 S3 S4 S5 S6
        refine Qmt.fork [2, 7] (cls hB) (by kernel_rfl) (by simp) ⟨?_, ?_, trivial⟩
        · refine Qmt.by_op rfl (by kernel_rfl) ?_
          go_wp2_with fail
          refine (H365.out _).mono ?_
          rintro e v2 ⟨rfl, hb⟩
          have hB2 := hB.trans (hb.mono hB.size)
          clear hb
          go_wp2_with fail
          refine ⟨rfl, ?_⟩
          refine recast (d' := #[true, true, true, false, false, false, false, false, false, false]) (by decide) ?_
          exact S1 v2 hB2
        · refine Qmt.by_op rfl (by kernel_rfl) ?_
          obtain ⟨v2, K7, hv, hKe, X7, HN, G7⟩ := HZN.out v hB.size
          have hB2 := hB.trans (HN.out.mono hB.size)
          go_wp2_with fail
          refine ⟨rfl, ?_⟩
          clear hv
          try simp only [hKe]
          clear hKe
          refine recast (d' := #[true, true, false, false, false, false, false, true, false, false]) (by decide) ?_
          exact S2 v2 K7 hB2 X7 G7
      · intro S2 S3 S4 S5 S6 v hB
        refine Qmt.fork [3, 7] (cls hB) (by kernel_rfl) (by simp) ⟨?_, ?_, trivial⟩
        · refine Qmt.by_op rfl (by kernel_rfl) ?_
          go_wp2_with fail
          refine (HDV.out _).mono ?_
          rintro e v2 ⟨rfl, hb⟩
          have hB2 := hB.trans (hb.mono hB.size)
          clear hb
          go_wp2_with fail
          refine ⟨rfl, ?_⟩
          refine Qmt.takes [4, 5, 6] 3 _ _ _ (cls hB2) (by kernel_rfl) ?_
          simp only [List.filterMap_cons, List.filterMap_nil, List.getElem?_toArray, List.getElem?_cons_zero, List.getElem?_cons_succ]
          change wpQuiet _ _ _ _ [_, _, _] _
          repeat (go_big_quiet_step (fail))
          refine wpQuiet_nil ?_
          refine recast (d' := #[true, true, true, true, true, true, true, false, false, false]) (by decide) ?_
          exact S3 v2 hB2
        · refine Qmt.by_op rfl (by kernel_rfl) ?_
          obtain ⟨v2, K7, hv, hKe, X7, HN, G7⟩ := HZN.out v hB.size
          have hB2 := hB.trans (HN.out.mono hB.size)
          go_wp2_with fail
          refine ⟨rfl, ?_⟩
          clear hv
          try simp only [hKe]
          clear hKe
          refine recast (d' := #[true, true, true, false, false, false, false, true, false, false]) (by decide) ?_
          exact S4 v2 K7 hB2 X7 G7
      · intro S3 S4 S5 S6 v K7 hB X7 G7
        refine Qmt.fork [2] (cls hB) (by kernel_rfl) (by simp) ⟨?_, trivial⟩
        · refine Qmt.by_op rfl (by kernel_rfl) ?_
          go_wp2_with fail
          refine (H365.out _).mono ?_
          rintro e v2 ⟨rfl, hb⟩
          have hB2 := hB.trans (hb.mono hB.size)
          have Y7 := hide (X7.out.keep hb X7.out.lt)
          clear hb
          go_wp2_with fail
          refine ⟨rfl, ?_⟩
          refine recast (d' := #[true, true, true, false, false, false, false, true, false, false]) (by decide) ?_
          exact S4 v2 K7 hB2 Y7 G7
      · intro S4 S5 S6 v hB
        refine Qmt.fork [7] (cls hB) (by kernel_rfl) (by simp) ⟨?_, trivial⟩
        · refine Qmt.by_op rfl (by kernel_rfl) ?_
          obtain ⟨v2, K7, hv, hKe, X7, HN, G7⟩ := HZN.out v hB.size
          have hB2 := hB.trans (HN.out.mono hB.size)
          go_wp2_with fail
          refine ⟨rfl, ?_⟩
          clear hv
          try simp only [hKe]
          clear hKe
          refine recast (d' := #[true, true, true, true, true, true, true, true, false, false]) (by decide) ?_
          exact S5 v2 K7 hB2 X7 G7
      · intro S5 S6 v K7 hB X7 G7
        refine Qmt.fork [3] (cls hB) (by kernel_rfl) (by simp) ⟨?_, trivial⟩
        · refine Qmt.by_op rfl (by kernel_rfl) ?_
          go_wp2_with fail
          refine (HDV.out _).mono ?_
          rintro e v2 ⟨rfl, hb⟩
          have hB2 := hB.trans (hb.mono hB.size)
          have Y7 := hide (X7.out.keep hb X7.out.lt)
          clear hb
          go_wp2_with fail
          refine ⟨rfl, ?_⟩
          refine Qmt.takes [4, 5, 6] 2 _ _ _ (cls hB2) (by kernel_rfl) ?_
          simp only [List.filterMap_cons, List.filterMap_nil, List.getElem?_toArray, List.getElem?_cons_zero, List.getElem?_cons_succ]
          change wpQuiet _ _ _ _ [_, _, _] _
          repeat (go_big_quiet_step (fail))
          refine wpQuiet_nil ?_
          refine recast (d' := #[true, true, true, true, true, true, true, true, false, false]) (by decide) ?_
          exact S5 v2 K7 hB2 Y7 G7
      · intro S6 v K7 hB X7 G7
        refine Qmt.fork [8] (cls hB) (by kernel_rfl) (by simp) ⟨?_, trivial⟩
        · refine Qmt.by_op rfl (by kernel_rfl) ?_
          obtain ⟨v2, hv, Y7, hB2⟩ := bx_put hB X7.out G7 (.bool (negB out)) (.string (bs (nm out))) (.string (dstr out))
          obtain ⟨c0, c1, c2, f0, f1, f2⟩ := X7.out
          go_wp2_with fail
          refine ⟨rfl, ?_⟩
          try rw [hv]
          clear hv
          refine Qmt.takes [9] 0 _ _ _ (cls hB2) (by kernel_rfl) ?_
          simp only [List.filterMap_cons, List.filterMap_nil, List.getElem?_toArray, List.getElem?_cons_zero, List.getElem?_cons_succ]
          change wpQuiet _ _ _ _ [_] _
          repeat (go_big_quiet_step (fail))
          refine wpQuiet_nil ?_
          refine recast (d' := #[true, true, true, true, true, true, true, true, true, true]) (by decide) ?_
          exact S6 v2 K7 hB2 Y7 G7
      · intro v K7 hB X7 G7
        refine Qmt.by_end (cls hB) (by kernel_rfl) ?_
        have HZ4 := hide (HZr.out.keep hB HZr.out.lt)
        have HB4 := hide (HBr.out.trans (hB.mono HBr.out.size))
        obtain ⟨c0, c1, c2, f0, f1, f2⟩ := X7.out
        obtain ⟨d0, d1, d2, g0, g1, g2⟩ := HZ4.out
        go_wp2_with fail
        refine bodyPost_ret (results_rat rfl _ rfl (HZ4.out.set3 _ _ _)) rfl ?_
        exact ⟨rfl, below_set3 HB4.out (Nat.le_refl _) _ _ _⟩
set_option maxHeartbeats 4000000 in
set_option maxRecDepth 100000 in
theorem ssimple_any {q r : Rat} (hq : Lt q 1000) (hq0 : ¬ q < 0) (hr : Lt r 1000) (h0 : ¬ r < 0) (rf t : Int) (a0 : 0 ≤ rf) (a1 : rf < t) (a2 : t ≤ 1000) (S : Nat) (w : World) (hS : BlkT w S 248 [.int .i64 rf, .bool (negB r), .string (bs (nm r)), .string (dstr r)]) :
    Calls Tryz.prog 150 #[.agg #[.bool (negB q), .string (bs (nm q)), .string (dstr q)], .slice (some ⟨S, 0, none⟩) 1 1, .int .i64 rf, .int .i64 t, .int .i64 365] w fun e w' => e = .returned (.tuple #[.agg #[.bool (negB (q * simQ r (t - rf))), .string (bs (nm (q * simQ r (t - rf)))), .string (dstr (q * simQ r (t - rf)))], .int .i64 0]) ∧ Below w.heap.size w w' := by
  have hl := (sim_lt hr (d := t - rf) (by omega) (by omega)).2
  have HC := Lib.hid (fun w hS => scheck_any hq hq0 hr h0 rf a0 (by omega) rf t a0 (by omega) a2 S w hS)
  obtain ⟨V0, hV0, HQ0, hB0, hl0⟩ := box_new w (.bool (negB q)) (.string (bs (nm q))) (.string (dstr q))
  obtain ⟨V1, hV1, HZ1, hB1, hl1⟩ := box_new V0 (.bool false) (.string ⟨#[]⟩) (.string ⟨#[]⟩)
  have HQ1 := hide (HQ0.out.keep hB1 HQ0.out.lt)
  have HB1 := hide (hB0.trans (hB1.mono (Nat.le_of_lt hl0)))
  have HS1 := hide (hS.below HB1.out)
  have HSI := Lib.hid (fun w hS => simple_any hr rf t a0 a1 a2 S w hS)
  have HML := Lib.hid (fun W (v : Qin.In (Below W.heap.size W)) => TwC.q_in (mul_e (r := q * simQ r (t - rf)) (hq.mono (by omega)) (hl.mono (by omega)) rfl v.val))
  generalize q * simQ r (t - rf) = out at *
  generalize simQ r (t - rf) = sv at *
  have hw1 : w.heap.size < V0.heap.size := hl0
  obtain ⟨c0, c1, c2, f0, f1, f2⟩ := HQ1.out
  clear hB0 hB1 hl0 hl1 hS hq hq0 hr h0 hl
  go_enter Tryz.func150, Tryz.ntmps150
  go_wp2_with fail
  refine (HC.out _ HS1.out).mono ?_
  rintro e w2 ⟨rfl, hb2⟩
  have HQ2 := hide (HQ1.out.keep hb2 HQ1.out.lt)
  have HZ2 := hide (HZ1.out.keep hb2 HZ1.out.lt)
  have HB2 := hide (HB1.out.trans (hb2.mono HB1.out.size))
  have HS2 := hide (HS1.out.below hb2)
  clear hb2 c0 c1 c2 f0 f1 f2
  obtain ⟨k0, k1, k2⟩ := HQ2.out.kin
  have HSJ := Lib.hid (fun (v : Qin.In (Below w2.heap.size w2)) => TwC.q_in (HSI.out v.val (HS2.out.below v.ok)))
  go_wp2_with fail
  refine Qtl.region (I := Below w2.heap.size w2) 7 (Qin.start _ _) (by kernel_rfl) (by kernel_rfl) ?_
  simp only [List.take_succ_cons, List.take_zero, List.drop_succ_cons, List.drop_zero]
  repeat (go_big_quiet_step (first | (go_at_call 185; with_reducible exact HSJ.out _) | (go_at_call 142; with_reducible exact HML.out _ _)))
  refine wpQuiet_nil ?_
  intro u
  obtain ⟨u, hu⟩ := u
  dsimp only
  have HZu := hide (HZ2.out.keep hu HZ2.out.lt)
  have HBu := hide (HB2.out.trans (hu.mono HB2.out.size))
  obtain ⟨c0, c1, c2, f0, f1, f2⟩ := HZu.out
  clear hu k0 k1 k2
  go_wp2_with fail
  refine bodyPost_ret (results_rat2 rfl _ rfl (HZu.out.set3 _ _ _)) rfl ?_
  exact ⟨rfl, below_set3 HBu.out (Nat.le_of_lt hw1) _ _ _⟩
end Go.Proofs.YtpbgmpjnfndfjaaGreatDoor.TrD
namespace Go.Proofs.YtpbgmpjnfndfjaaGreatDoor.TrE
open Go.RowKit Wd RnA RnB RnW RnQ RnR RnP RoA RoC RoL RtA RtB RtC RpB RpC RpE RpF RpG RpH RnY RpI RpJ RpK RpL PqB PfA PfB PfD PfE PfH PfO TqA TwA TwB TwC TrA TrB TrC TrD
/-- a document with valid numbers against estate 0 in EUR -/
structure Pd where
  id : ByteArray
  cred : Int
  q : Rat
  inc : Int
  rank : Int
  r : Rat
  rf : Int
  sec : Int
def Pd.dc (x : Pd) : Dc := ⟨x.id, 0, x.cred, ⟨#[69, 85, 82]⟩, negB x.q, bs (nm x.q), dstr x.q, x.inc, x.rank, negB x.r, bs (nm x.r), dstr x.r, x.rf, x.sec⟩
structure PdOk (x : Pd) : Prop where
  nm : NmA.nmB x.id = true
  sz : x.id.size ≤ 100
  c0 : 0 ≤ x.cred
  c1 : x.cred ≤ 31
  q0 : ¬ x.q < 0
  ql : Lt x.q 900
  i0 : 0 ≤ x.inc
  i1 : x.inc ≤ 49
  k0 : 1 ≤ x.rank
  k1 : x.rank ≤ 3
  r0 : ¬ x.r < 0
  rl : Lt x.r 900
  f0 : 0 ≤ x.rf
  f1 : x.rf ≤ 59
  rz : x.r = 0 → x.rf = 0
  s0 : -1 ≤ x.sec
  s1 : x.sec ≤ 7
/-- the value of a document -/
def valD (x : Pd) : Rat := if x.r = 0 then x.q else x.q + x.q * simQ x.r (100 - x.rf)
theorem fix_b (q : Rat) : fixQ (negB q) (bs (nm q)).data.toList (dstr q).data.toList = q := fix_enc q
theorem sgn_nonneg {q : Rat} (h : ¬ q < 0) : ¬ sgnQ q < 0 := by have := (sgnQ_nn (p := q) (by grind)).1; omega
theorem sgn_ne {q : Rat} (h : ¬ q < 0) (h0 : q ≠ 0) : sgnQ q = 1 := sgnQ_pos (by grind)
theorem inB_of {n m : Int} (h0 : 0 ≤ n) (h1 : n ≤ m) : inB n m = true := by simp [inB, h0, h1]
theorem pd_check {x : Pd} (h : PdOk x) : checkD x.dc = 0 := by
  have e1 : x.dc.amt = x.q := fix_b x.q
  have e2 : x.dc.rate = x.r := fix_b x.r
  have g1 : NmA.nmB x.dc.id = true := h.nm
  have g2 : inB x.dc.est 7 = true := (show inB 0 7 = true by decide)
  have g3 : inB x.dc.cred 31 = true := inB_of h.c0 h.c1
  have g4 : codeB x.dc.code.data.toList = true := (show codeB (⟨#[69, 85, 82]⟩ : ByteArray).data.toList = true by decide)
  have g5 : inB x.dc.inc 1048576 = true := inB_of h.i0 (by have := h.i1; show x.inc ≤ _; omega)
  have g6 : inB x.dc.rank 7 = true := inB_of (by have := h.k0; show 0 ≤ x.rank; omega) (by have := h.k1; show x.rank ≤ 7; omega)
  have g7 : inB x.dc.rfrom 1048576 = true := inB_of h.f0 (by have := h.f1; show x.rf ≤ _; omega)
  have g8 : inB (x.dc.sec + 1) 8 = true := inB_of (by have := h.s0; show 0 ≤ x.sec + 1; omega) (by have := h.s1; show x.sec + 1 ≤ 8; omega)
  unfold checkD
  rw [e1, e2, if_neg (by simp [g1]), if_neg (by simp [g2]), if_neg (by simp [g3]), if_neg (by simp [g4]), if_neg (sgn_nonneg h.q0), if_neg (by simp [g5]), if_neg (by simp [g6]), if_neg (sgn_nonneg h.r0), if_neg (by simp [g7]), if_neg, if_neg (by simp [g8])]
  rintro ⟨k1, k2⟩
  by_cases h0 : x.r = 0
  · exact k2 (h.rz h0)
  · have := sgn_ne h.r0 h0; omega
theorem pd_ok {x : Pd} (h : PdOk x) : Dc.Ok x.dc := by
  refine ⟨?_, ?_, ?_, ?_, ?_, ?_, ?_, ?_⟩
  · have := h.sz; show x.id.size ≤ _; omega
  · show (3 : Nat) ≤ 100000; omega
  · exact Nat.le_trans h.ql.num (by omega)
  · exact Nat.le_trans h.ql.dstr (by omega)
  · exact Nat.le_trans h.rl.num (by omega)
  · exact Nat.le_trans h.rl.dstr (by omega)
  · have := h.s0; show _ ≤ x.sec; omega
  · have := h.s1; show x.sec ≤ _; omega
theorem val_lt {x : Pd} (h : PdOk x) : Lt (valD x) 4000 := by
  have h1 := h.f0
  have h2 := h.f1
  unfold valD
  split
  · exact h.ql.mono (by omega)
  · have hs := (sim_lt (h.rl.mono (show 900 ≤ 1000 by omega)) (d := 100 - x.rf) (by omega) (by omega)).2
    exact (h.ql.add (h.ql.mul hs)).mono (show 900 + (900 + 1016) + 1 ≤ 4000 by omega)
theorem sim_nn {r : Rat} (hr : ¬ r < 0) {d : Int} (hd : 0 ≤ d) : ¬ simQ r d < 0 := by
  unfold simQ
  have h1 : (0 : Rat) ≤ (d : Rat) := by exact_mod_cast hd
  have h2 : (0 : Rat) ≤ r * (d : Rat) := Rat.mul_nonneg (by grind) h1
  rw [Rat.div_def]
  have h3 : (0 : Rat) ≤ (365 : Rat)⁻¹ := by decide +kernel
  have := Rat.mul_nonneg h2 h3
  grind
theorem val_nn {x : Pd} (h : PdOk x) : ¬ valD x < 0 := by
  unfold valD
  have hq := h.q0
  split
  · exact hq
  · have hs := sim_nn h.r0 (d := 100 - x.rf) (by have := h.f1; omega)
    have := Rat.mul_nonneg (a := x.q) (b := simQ x.r (100 - x.rf)) (by grind) (by grind)
    grind
set_option maxHeartbeats 8000000 in
set_option maxRecDepth 100000 in
theorem value_any (x : Pd) (h : PdOk x) (w : World) :
    Calls Tryz.prog 97 #[x.dc.agg, .int .i64 100, .slice none 0 0] w fun e w' => e = .returned (.tuple #[.agg #[.bool (negB (valD x)), .string (bs (nm (valD x))), .string (dstr (valD x))], .int .i64 0]) ∧ Below w.heap.size w w' := by
  have HCK := Lib.hid (fun w => check_any x.dc w (pd_ok h))
  rw [pd_check h] at HCK
  have HDY := Lib.hid (fun w => isday_any 100 w)
  have HCV := Lib.hid (fun w => convert_any (q := x.q) (h.ql.mono (by omega)) w)
  have hs0 : sgnQ x.r = if x.r = 0 then 0 else 1 := by
    split
    · rename_i e; rw [e]; decide
    · rename_i e; exact sgn_ne h.r0 e
  have HSG := Lib.hid (fun w => sgn_e (p := x.r) (h.rl.mono (by omega)) hs0 w)
  have HSI := Lib.hid (fun w S hS => ssimple_any (q := x.q) (r := x.r) (h.ql.mono (by omega)) h.q0 (h.rl.mono (by omega)) h.r0 x.rf 100 h.f0 (by have := h.f1; omega) (by omega) S w hS)
  have hsl := (sim_lt (h.rl.mono (show 900 ≤ 1000 by omega)) (d := 100 - x.rf) (by have := h.f1; omega) (by have := h.f0; omega)).2
  have HAD := Lib.hid (fun w => add_e (p := x.q) (q := x.q * simQ x.r (100 - x.rf)) (h.ql.mono (by omega)) ((h.ql.mul hsl).mono (by omega)) rfl w)
  have hi1 := h.i1
  have hf1 := h.f1
  have HV : Hid (valD x = if x.r = 0 then x.q else x.q + x.q * simQ x.r (100 - x.rf)) := hide rfl
  obtain ⟨V0, hV0, HX0, hB0, hs0⟩ := doc_new w x.dc
  obtain ⟨id, cred, q, inc, rank, r, rf, sec⟩ := x
  unfold Pd.dc at *
  dsimp only at *
  generalize valD _ = vd at *
  generalize q * simQ r (100 - rf) = ex at *
  generalize q + ex = sm at *
  obtain ⟨V1, hV1, HZ1, hB1, hl1⟩ := box_new V0 (.bool false) (.string ⟨#[]⟩) (.string ⟨#[]⟩)
  have HX1 := hide (HX0.out.below hB1)
  have HB1 := hide (hB0.out.trans (hB1.mono hB0.out.size))
  have hw1 : w.heap.size < V0.heap.size := by omega
  clear h hsl hB0 hB1 hs0 HX0
  obtain ⟨p0, p1, p2, p3, p4, p5, p6, p7, p8, p9, p10, p11, p12, p13⟩ := doc_at HX1.out
  dsimp only at *
  unfold Dc.agg at *
  dsimp only at *
  go_enter Tryz.func97, Tryz.ntmps97
  go_wp2_with fail
  refine (HCK.out _).mono ?_
  rintro e w2 ⟨rfl, hb2⟩
  have HX2 := hide (HX1.out.below hb2)
  have HZ2 := hide (HZ1.out.keep hb2 HZ1.out.lt)
  have HB2 := hide (HB1.out.trans (hb2.mono HB1.out.size))
  clear hb2 p0 p1 p2 p3 p4 p5 p6 p7 p8 p9 p10 p11 p12 p13
  obtain ⟨p0, p1, p2, p3, p4, p5, p6, p7, p8, p9, p10, p11, p12, p13⟩ := doc_at HX2.out
  dsimp only at *
  go_wp2_with fail
  refine (HDY.out _).mono ?_
  rintro e w3 ⟨rfl, rfl⟩
  go_wp2_with fail
  refine (HCV.out _).mono ?_
  rintro e w4 ⟨rfl, hb4⟩
  obtain ⟨V4, hV4, HA4, hB4, hl4⟩ := box_new w4 (.bool (negB q)) (.string (bs (nm q))) (.string (dstr q))
  have hc4 := hb4.trans (hB4.mono hb4.size)
  have HX4 := hide (HX2.out.below hc4)
  have HZ4 := hide (HZ2.out.keep hc4 HZ2.out.lt)
  have HB4 := hide (HB2.out.trans (hc4.mono HB2.out.size))
  clear hb4 hB4 hc4 p0 p1 p2 p3 p4 p5 p6 p7 p8 p9 p10 p11 p12 p13
  obtain ⟨p0, p1, p2, p3, p4, p5, p6, p7, p8, p9, p10, p11, p12, p13⟩ := doc_at HX4.out
  dsimp only at *
  by_cases hr0 : r = 0
  · rw [if_pos hr0] at HSG HV
    have hvd := HV.out
    subst hvd
    clear hr0
    obtain ⟨a0, a1, a2, e0, e1, e2⟩ := HA4.out
    obtain ⟨c0, c1, c2, f0, f1, f2⟩ := HZ4.out
    go_wp2_with fail
    refine (HSG.out _).mono ?_
    rintro e w5 ⟨rfl, hb5⟩
    have HZ5 := hide (HZ4.out.keep hb5 HZ4.out.lt)
    have HA5 := hide (HA4.out.keep hb5 HA4.out.lt)
    have HB5 := hide (HB4.out.trans (hb5.mono HB4.out.size))
    clear hb5 a0 a1 a2 e0 e1 e2 c0 c1 c2 f0 f1 f2 p0 p1 p2 p3 p4 p5 p6 p7 p8 p9 p10 p11 p12 p13
    obtain ⟨a0, a1, a2, e0, e1, e2⟩ := HA5.out
    obtain ⟨c0, c1, c2, f0, f1, f2⟩ := HZ5.out
    go_wp2_with fail
    refine bodyPost_ret (results_rat2 rfl _ rfl (HZ5.out.set3 _ _ _)) rfl ?_
    exact ⟨rfl, below_set3 HB5.out (Nat.le_of_lt hw1) _ _ _⟩
  · rw [if_neg hr0] at HSG HV
    have hvd := HV.out
    subst hvd
    clear hr0
    go_wp2_with fail
    refine (HSG.out _).mono ?_
    rintro e w5 ⟨rfl, hb5⟩
    have HX5 := hide (HX4.out.below hb5)
    have HZ5 := hide (HZ4.out.keep hb5 HZ4.out.lt)
    have HA5 := hide (HA4.out.keep hb5 HA4.out.lt)
    have HB5 := hide (HB4.out.trans (hb5.mono HB4.out.size))
    clear hb5 p0 p1 p2 p3 p4 p5 p6 p7 p8 p9 p10 p11 p12 p13
    obtain ⟨p0, p1, p2, p3, p4, p5, p6, p7, p8, p9, p10, p11, p12, p13⟩ := doc_at HX5.out
    dsimp only at *
    obtain ⟨V6, hV6, HS6, HB65, hs6⟩ : ∃ V, w5.alloc (.cells #[.int .i64 rf, .bool (negB r), .string (bs (nm r)), .string (dstr r)] 248) = V ∧ Hid (BlkT V w5.heap.size 248 [.int .i64 rf, .bool (negB r), .string (bs (nm r)), .string (dstr r)]) ∧ Hid (Below w5.heap.size w5 V) ∧ w5.heap.size < V.heap.size :=
      ⟨_, rfl, heap_alloc_new w5 _, (Below.refl _ _).alloc (Nat.le_refl _) _, by simp⟩
    have HX6 := hide (HX5.out.below HB65.out)
    have HZ6 := hide (HZ5.out.keep HB65.out HZ5.out.lt)
    have HA6 := hide (HA5.out.keep HB65.out HA5.out.lt)
    have HB6 := hide (HB5.out.trans (HB65.out.mono HB5.out.size))
    obtain ⟨a0, a1, a2, e0, e1, e2⟩ := HA6.out
    obtain ⟨q0, q1, q2, q3, q4, q5, q6, q7, q8, q9, q10, q11, q12, q13⟩ := doc_at HX6.out
    dsimp only at *
    go_wp2_with fail
    refine (HSI.out _ _ HS6.out).mono ?_
    rintro e w7 ⟨rfl, hb7⟩
    obtain ⟨V7, hV7, HE7, hB7, hl7⟩ := box_new w7 (.bool (negB ex)) (.string (bs (nm ex))) (.string (dstr ex))
    have hc7 := hb7.trans (hB7.mono hb7.size)
    have HZ7 := hide (HZ6.out.keep hc7 HZ6.out.lt)
    have HA7 := hide (HA6.out.keep hc7 HA6.out.lt)
    have HB7 := hide (HB6.out.trans (hc7.mono HB6.out.size))
    clear hb7 hB7 hc7 a0 a1 a2 e0 e1 e2 p0 p1 p2 p3 p4 p5 p6 p7 p8 p9 p10 p11 p12 p13 q0 q1 q2 q3 q4 q5 q6 q7 q8 q9 q10 q11 q12 q13
    obtain ⟨a0, a1, a2, e0, e1, e2⟩ := HA7.out
    obtain ⟨b0, b1, b2, g0, g1, g2⟩ := HE7.out
    go_wp2_with fail
    refine (HAD.out _).mono ?_
    rintro e w8 ⟨rfl, hb8⟩
    have HZ8 := hide (HZ7.out.keep hb8 HZ7.out.lt)
    have HB8 := hide (HB7.out.trans (hb8.mono HB7.out.size))
    clear hb8
    obtain ⟨c0, c1, c2, f0, f1, f2⟩ := HZ8.out
    go_wp2_with fail
    refine bodyPost_ret (results_rat2 rfl _ rfl (HZ8.out.set3 _ _ _)) rfl ?_
    exact ⟨rfl, below_set3 HB8.out (Nat.le_of_lt hw1) _ _ _⟩
end Go.Proofs.YtpbgmpjnfndfjaaGreatDoor.TrE
namespace Go.Proofs.YtpbgmpjnfndfjaaGreatDoor.TrF
open Go.RowKit Wd RnA RnB RnW RnQ RnR RnP RoA RoC RoL RtA RtB RtC RpB RpC RpE RpF RpG RpH RnY RpI RpJ RpK RpL PqB PfA PfB PfD PfE PfH PfO TqA TwA TwB TwC TwH TqB TrA TrB TrC TrD TrE
set_option maxHeartbeats 4000000 in
set_option maxRecDepth 100000 in
theorem clean_any {q : Rat} (hq : Lt q 30000000000) (w : World) :
    Calls Tryz.prog 101 #[.agg #[.bool (negB q), .string (bs (nm q)), .string (dstr q)]] w (Ans q w) := by
  have hz : [Value.bool (negB 0), .string (bs (nm 0)), .string (dstr 0)] = [.bool false, .string ⟨#[]⟩, .string ⟨#[]⟩] := TwG.qv3_zero
  have HA := Lib.hid (fun w => add_e (p := q) (q := 0) (r := q) (hq.mono (by omega)) (Lt.zero.mono (by omega)) (by grind) w)
  injection hz with z1 hz
  injection hz with z2 hz
  injection hz with z3 _
  rw [z1, z2, z3] at HA
  obtain ⟨V0, hV0, HQ0, hB0, hl0⟩ := box_new w (.bool (negB q)) (.string (bs (nm q))) (.string (dstr q))
  obtain ⟨V1, hV1, HZ1, hB1, hl1⟩ := box_new V0 (.bool false) (.string ⟨#[]⟩) (.string ⟨#[]⟩)
  have HQ1 := hide (HQ0.out.keep hB1 HQ0.out.lt)
  have HB1 := hide (hB0.trans (hB1.mono (Nat.le_of_lt hl0)))
  have hw1 : w.heap.size < V0.heap.size := hl0
  clear hB0 hB1 hl0 hl1 z1 z2 z3 hq
  obtain ⟨a0, a1, a2, e0, e1, e2⟩ := HQ1.out
  go_enter Tryz.func101, Tryz.ntmps101
  go_wp2_with fail
  refine (HA.out _).mono ?_
  rintro e w2 ⟨rfl, hb2⟩
  have HZ2 := hide (HZ1.out.keep hb2 HZ1.out.lt)
  have HB2 := hide (HB1.out.trans (hb2.mono HB1.out.size))
  clear hb2 a0 a1 a2 e0 e1 e2
  obtain ⟨c0, c1, c2, f0, f1, f2⟩ := HZ2.out
  go_wp2_with fail
  refine bodyPost_ret (results_rat rfl _ rfl (HZ2.out.set3 _ _ _)) rfl ?_
  exact ⟨rfl, below_set3 HB2.out (Nat.le_of_lt hw1) _ _ _⟩
set_option maxHeartbeats 4000000 in
set_option maxRecDepth 100000 in
theorem allows_any (w : World) : Calls Tryz.prog 100 #[.int .i64 2, .int .i64 1] w fun e w' => e = .returned (.bool true) ∧ w = w' := by
  go_enter Tryz.func100, Tryz.ntmps100
  go_wp2_with fail
  go_ret
  exact ⟨rfl, rfl⟩
theorem en_binfo : (Tryz.prog.info? 103).map (fun i => (i.zero, i.size, i.bytes)) = some (some (.agg #[.string ⟨#[]⟩, .int .i64 0, .int .i64 0, .string ⟨#[]⟩, .bool false, .string ⟨#[]⟩, .string ⟨#[]⟩, .int .i64 0, .int .i64 0, .bool false, .string ⟨#[]⟩, .string ⟨#[]⟩, .int .i64 0, .int .i64 0, .int .i64 0, .bool false, .bool false, .string ⟨#[]⟩, .string ⟨#[]⟩, .bool false, .string ⟨#[]⟩, .string ⟨#[]⟩, .bool false, .string ⟨#[]⟩, .string ⟨#[]⟩, .bool false, .string ⟨#[]⟩, .string ⟨#[]⟩, .int .i64 0, .int .i64 0]), 30, 352) := by kernel_rfl
theorem ens_one : ∀ (l : List En), ∀ u ∈ l.flatMap En.vals, u.oneCell' = true
  | [], u, h => by simp at h
  | x :: l, u, h => by
    rw [List.flatMap_cons, List.mem_append] at h
    rcases h with h | h
    · exact en_one x u h
    · exact ens_one l u h
def CloneEP (l : List En) (w : World) (e : Ending) (w' : World) : Prop := ∃ A c, e = .returned (.slice A l.length c) ∧ w'.ownsRow w.heap.size 103 30 (.slice A l.length c) l.length (l.flatMap En.vals) ∧ Below w.heap.size w w'
set_option maxHeartbeats 4000000 in
set_option maxRecDepth 100000 in
theorem eclone_any {l : List En} {A : Option Addr} {c0 : Nat} (hl : l.length ≤ 100) (hA : A = none → c0 = 0) (w : World) (h : EnsAt w A l) :
    Calls Tryz.prog 53 #[.slice A l.length c0] w (CloneEP l w) := by
  cases A with
  | none =>
    have h0 : l = [] := by
      rcases l with _ | ⟨x, l⟩
      · rfl
      · obtain ⟨b, off, e, _⟩ := h.2 (by simp); cases e
    subst h0
    rw [hA rfl]
    unfold CloneEP
    have heq := fun (w : World) => Lib.run_eql_slice_nil (P := Tryz.prog) w 26 _ none 0 0 0 0 Tryz.underlying26
    go_enter Tryz.func53, Tryz.ntmps53
    go_wp2_with fail
    go_ret
    exact ⟨none, 0, rfl, World.ownsRow_nil _ _ _ _, Below.refl _ _⟩
  | some ad =>
    obtain ⟨i0, hi, hz0, hz1, hz2⟩ := info_parts en_binfo
    obtain ⟨V, hV, HV, hBV, hlV⟩ : ∃ V, w.alloc (.cells #[] 103) = V ∧ BlkT V w.heap.size 103 [] ∧ (Below w.heap.size w V) ∧ w.heap.size < V.heap.size :=
      ⟨_, rfl, heap_alloc_new w _, (Below.refl _ _).alloc (Nat.le_refl _) _, by simp⟩
    have hown : V.ownsRow w.heap.size 103 30 (.slice (some ⟨w.heap.size, 0, none⟩) 0 0) 0 [] := ⟨rfl, .inr ⟨w.heap.size, 0, #[], rfl, Nat.le_refl _, HV, Nat.le_refl _, Nat.zero_le _, rfl, rfl⟩⟩
    have hrd := row_reads en_len (by omega) (h.below hBV)
    have h1 := ens_one l
    unfold CloneEP
    have hxl : (l.flatMap En.vals).length = l.length * 30 := flat_len en_len l
    generalize l.flatMap En.vals = xs at *
    generalize l.length = n at *
    have heq := fun (w : World) => Lib.run_eql_slice_nil (P := Tryz.prog) w 26 _ (some ad) n c0 0 0 Tryz.underlying26
    clear h
    go_enter Tryz.func53, Tryz.ntmps53
    go_wp2_with (at_builtin
                 refine wpList_append_any _ rfl (.tmp 5) (.tmp 6) 26 rfl w.heap.size 103 i0 _ 30 352 Tryz.underlying26 hi hz0 hz1 hz2 rfl (by decide) _ _ _ rfl hown _ _ n c0 xs rfl hrd h1 ?c3 ?c4 ?c5 ?_
                 case c3 => unfold maxLen; omega
                 case c4 => omega
                 case c5 => omega
                 intro v1 w1 hown1 hg1 hob1)
    go_ret
    obtain ⟨A1, c1, rfl⟩ := TqA.own_slice hown1
    rw [Nat.zero_add] at *
    exact ⟨A1, c1, rfl, hown1, hBV.grown hg1 (by omega) (fun g hg => (hown.lt g hg).1)⟩
theorem find_new (c0 b0 d0 : Int) {l : List En} (A : Option Addr) (c : Nat) {id : ByteArray} (hn : l.any (fun x => x.p.id.toList == id.toList) = false) (w : World) (h : EnsAt w A l) :
    Calls Tryz.prog 55 #[.agg #[.int .i64 c0, .int .i64 b0, .int .i64 d0, .slice A l.length c], .string id] w fun e w' => e = .returned (.tuple #[.int .i64 0, .bool false]) ∧ Below w.heap.size w w' :=
  (find_any c0 b0 d0 l A c id w h).mono fun e w' ⟨i, ⟨he, hh⟩, hb⟩ => by
    rcases hh with ⟨rfl, _⟩ | ⟨k, x, rfl, hk, hx, _⟩
    · exact ⟨he, hb⟩
    · rw [List.any_eq_false] at hn
      exact absurd hx (by have := hn x (List.mem_of_getElem? hk); simpa using this)
theorem find_last (c0 b0 d0 : Int) {l : List En} {x : En} (A : Option Addr) (c : Nat) {id : ByteArray} (hn : l.any (fun x => x.p.id.toList == id.toList) = false) (hx : (x.p.id.toList == id.toList) = true) (w : World) (h : EnsAt w A (l ++ [x])) :
    Calls Tryz.prog 55 #[.agg #[.int .i64 c0, .int .i64 b0, .int .i64 d0, .slice A (l ++ [x]).length c], .string id] w fun e w' => e = .returned (.tuple #[.int .i64 l.length, .bool true]) ∧ Below w.heap.size w w' :=
  (find_any c0 b0 d0 (l ++ [x]) A c id w h).mono fun e w' ⟨i, ⟨he, hh⟩, hb⟩ => by
    rcases hh with ⟨rfl, h0⟩ | ⟨k, y, rfl, hk, hy, _⟩
    · rw [List.any_append, hn] at h0
      simp [hx] at h0
    · have hkl : k = l.length := by
        rcases Nat.lt_or_ge k l.length with hlt | hge
        · rw [List.getElem?_append_left hlt] at hk
          rw [List.any_eq_false] at hn
          exact absurd hy (by have := hn y (List.mem_of_getElem? hk); simpa using this)
        · have := (List.getElem?_eq_some_iff.1 hk).1
          simp at this
          omega
      subst hkl
      refine ⟨?_, hb⟩
      rw [he, show max (l.length : Int) 0 = l.length by omega, decide_eq_true (by omega)]
end Go.Proofs.YtpbgmpjnfndfjaaGreatDoor.TrF
namespace Go.Proofs.YtpbgmpjnfndfjaaGreatDoor.TrG
open Go.RowKit Wd RnA RnB RnW RnQ RnR RnP RoA RoC RoL RtA RtB RtC RpB RpC RpE RpF RpG RpH RnY RpI RpJ RpK RpL PqB PfA PfB PfD PfE PfH PfO TqA TwA TwB TwC TwH TwP TqB TrA TrB TrC TrD TrE TrF
theorem mid_cell {w : World} {g : Nat} {T : TypeId} {pre xs post : List Value} (h : BlkT w g T (pre ++ (xs ++ post))) {i : Nat} {v : Value} (hv : xs[i]? = some v) : w.cell? ⟨g, pre.length + i, none⟩ = some v := by
  have hi := (List.getElem?_eq_some_iff.1 hv).1
  refine h.cell ?_
  rw [List.getElem?_append_right (by omega), Nat.add_sub_cancel_left, List.getElem?_append_left hi, hv]
theorem mid_set {w : World} {g : Nat} {T : TypeId} {pre xs post : List Value} (h : BlkT w g T (pre ++ (xs ++ post))) {i : Nat} (hi : i < xs.length) (v : Value) : BlkT (w.setCell ⟨g, pre.length + i, none⟩ v) g T (pre ++ (xs.set i v ++ post)) := by
  have := h.set (pre.length + i) v
  rw [set_mid _ _ _ _ _ hi] at this
  exact this
/-- an event in memory: its 21 cells -/
theorem ev_new (w : World) (a0 a1 a2 a3 a4 a5 a6 a7 a8 a9 a10 a11 a12 a13 a14 a15 a16 a17 a18 a19 a20 : Value) : ∃ V, w.alloc (.cells #[a0, a1, a2, a3, a4, a5, a6, a7, a8, a9, a10, a11, a12, a13, a14, a15, a16, a17, a18, a19, a20] 100) = V ∧ Hid (BlkT V w.heap.size 100 [a0, a1, a2, a3, a4, a5, a6, a7, a8, a9, a10, a11, a12, a13, a14, a15, a16, a17, a18, a19, a20]) ∧ Hid (Below w.heap.size w V) ∧ w.heap.size < V.heap.size :=
  ⟨_, rfl, heap_alloc_new w _, (Below.refl _ _).alloc (Nat.le_refl _) _, by simp⟩
def En.adm (x : En) (day : Int) : En := { x with st := 2, fl := x.ce, ad := x.ce, chg := day }
def ChP (g : Nat) (pre post : List Value) (y : En) (w : World) (e : Ending) (w' : World) : Prop := e = .returned (.int .i64 0) ∧ BlkT w' g 103 (pre ++ (y.vals ++ post)) ∧ Ks (fun k => k = g) w w'
set_option maxHeartbeats 8000000 in
set_option maxRecDepth 100000 in
theorem change_any {g : Nat} {pre post : List Value} {x : En} {day : Int} {id : ByteArray} (hst : x.st = 1) (hce : Lt x.ce 5000) (w : World) (h : BlkT w g 103 (pre ++ (x.vals ++ post))) :
    Calls Tryz.prog 56 #[.pointer (some ⟨g, pre.length, none⟩), .agg #[.int .i64 2, .int .i64 day, .string id, .bool false, .string ⟨#[]⟩, .string ⟨#[]⟩, .int .i64 0, .string ⟨#[]⟩, .int .i64 0, .int .i64 0, .string ⟨#[]⟩, .bool false, .string ⟨#[]⟩, .string ⟨#[]⟩, .int .i64 0, .int .i64 0, .bool false, .string ⟨#[]⟩, .string ⟨#[]⟩, .int .i64 0, .int .i64 0]] w (ChP g pre post (En.adm x day) w) := by
  have hz : [Value.bool (negB 0), .string (bs (nm 0)), .string (dstr 0)] = [.bool false, .string ⟨#[]⟩, .string ⟨#[]⟩] := TwG.qv3_zero
  have HC0 := Lib.hid (fun w => clean_any (q := 0) (Lt.zero.mono (by omega)) w)
  have HCC := Lib.hid (fun w => clean_any (q := x.ce) (hce.mono (by omega)) w)
  have HAL := Lib.hid (fun W (v : Qin.In (Below W.heap.size W)) => (Qin.call (I := Below W.heap.size W) (v := .bool true) ((allows_any v.val).mono fun _ _ ⟨h1, h2⟩ => ⟨h1, by rw [← h2]; exact v.ok⟩)))
  injection hz with z1 hz
  injection hz with z2 hz
  injection hz with z3 _
  unfold Ans at HC0
  rw [z1, z2, z3] at HC0
  obtain ⟨V0, hV0, HE0, HB0, hl0⟩ := ev_new w (.int .i64 2) (.int .i64 day) (.string id) (.bool false) (.string ⟨#[]⟩) (.string ⟨#[]⟩) (.int .i64 0) (.string ⟨#[]⟩) (.int .i64 0) (.int .i64 0) (.string ⟨#[]⟩) (.bool false) (.string ⟨#[]⟩) (.string ⟨#[]⟩) (.int .i64 0) (.int .i64 0) (.bool false) (.string ⟨#[]⟩) (.string ⟨#[]⟩) (.int .i64 0) (.int .i64 0)
  obtain ⟨⟨pid, pest, pcred, pcode, pneg, pnum, pden, pinc, prank, prneg, prnum, prden, prfrom, psec⟩, st, late, cl, fl, ad, ce, acq, chg⟩ := x
  dsimp only at *
  subst hst
  unfold ChP En.adm En.vals at *
  dsimp only at *
  have HG := hide (h.below HB0.out)
  have hgl : g < w.heap.size := h.lt
  generalize ho : pre.length = o at *
  have HO := hide ho
  clear h ho z1 z2 z3 hce
  have e0 := blk_kin HE0.out (i := 0) rfl
  have hs14 : ∀ v : Qin.In (Below V0.heap.size V0), v.val.cell? ⟨g, o + 14, none⟩ = some (.int .i64 1) := fun v => by rw [← HO.out]; exact mid_cell (HG.out.below v.ok) rfl
  go_enter Tryz.func56, Tryz.ntmps56
  go_wp2_with fail
  refine Qin.region (I := Below V0.heap.size V0) (Qin.start _ _) (by kernel_rfl) (by kernel_rfl) ?_
  repeat (go_big_quiet_step ((go_at_call 100; with_reducible exact HAL.out _ _)))
  refine wpQuiet_nil ?_
  intro u
  obtain ⟨u, hu⟩ := u
  dsimp only
  clear e0 hs14
  have HE1 := hide (HE0.out.below hu)
  have HG1 := hide (HG.out.below hu)
  have HB1 := hide (HB0.out.trans (hu.mono HB0.out.size))
  have hul : w.heap.size < u.heap.size := Nat.lt_of_lt_of_le hl0 hu.size
  clear hu
  have q0 := HE1.out.cell (i := 3) rfl
  have q1 := HE1.out.cell (i := 4) rfl
  have q2 := HE1.out.cell (i := 5) rfl
  go_wp2_with fail
  refine (HC0.out _).mono ?_
  rintro e w2 ⟨rfl, hb2⟩
  obtain ⟨V2, hV2, HA2, hB2, hl2⟩ := box_new w2 (.bool false) (.string ⟨#[]⟩) (.string ⟨#[]⟩)
  have hc2 := hb2.trans (hB2.mono hb2.size)
  have HE2 := hide (HE1.out.below hc2)
  have HG2 := hide (HG1.out.below hc2)
  have HB2 := hide (HB1.out.trans (hc2.mono HB1.out.size))
  have HGw := HG1.out.below hb2
  have q0' := (HE1.out.below hb2).cell (i := 0) rfl
  have hu2 : u.heap.size ≤ w2.heap.size := hb2.size
  have HV2 := hide hV2
  have r0 : w2.cell? ⟨g, o + 25, none⟩ = some (.bool (negB ce)) := by rw [← HO.out]; exact mid_cell HGw (i := 25) rfl
  have r1 : w2.cell? ⟨g, o + 26, none⟩ = some (.string (bs (nm ce))) := by rw [← HO.out]; exact mid_cell HGw (i := 26) rfl
  have r2 : w2.cell? ⟨g, o + 27, none⟩ = some (.string (dstr ce)) := by rw [← HO.out]; exact mid_cell HGw (i := 27) rfl
  have hgw : g < w2.heap.size := by omega
  have hww : w.heap.size < w2.heap.size := by omega
  clear hb2 hB2 hc2 q0 q1 q2 hV2 HGw
  go_wp2_with fail
  rw [HV2.out]
  refine (HCC.out _).mono ?_
  rintro e w3 ⟨rfl, hb3⟩
  obtain ⟨V3, hV3, HA3, hB3, hl3⟩ := box_new w3 (.bool (negB ce)) (.string (bs (nm ce))) (.string (dstr ce))
  have hA3b : Hid (BlkT V3 w3.heap.size 32 [.bool (negB ce), .string (bs (nm ce)), .string (dstr ce)]) := hide (by rw [← hV3]; exact heap_alloc_new w3 _)
  have hc3 := hb3.trans (hB3.mono hb3.size)
  have HE3 := hide (HE2.out.below hc3)
  have HG3 := hide (HG2.out.below hc3)
  have HB3 := hide (HB2.out.trans (hc3.mono HB2.out.size))
  have hu3 : V2.heap.size ≤ w3.heap.size := hb3.size
  have hgA : ¬ (fun k => k = g) w3.heap.size := by show ¬ w3.heap.size = g; omega
  clear hb3 hB3 hc3 q0' r0 r1 r2
  obtain ⟨a0, a1, a2, b0, b1, b2⟩ := HA3.out
  have l0 := fun v => ks_kin (S := fun k => k = g) (W := V3) (hA3b.out) hgA (i := 0) (x := .bool (negB ce)) rfl v
  have l1 := fun v => ks_kin (S := fun k => k = g) (W := V3) (hA3b.out) hgA (i := 1) (x := .string (bs (nm ce))) rfl v
  have l2 := fun v => ks_kin (S := fun k => k = g) (W := V3) (hA3b.out) hgA (i := 2) (x := .string (dstr ce)) rfl v
  go_wp2_with fail
  have hI := ks_drawn (fun k => k = g) V3
  have HG4 : Hid (BlkT { V3 with drawn := V3.drawn + 1 } g 103 _) := HG3
  have HI4 := hide hI
  refine Qmt.wp_region (C := Cls (Ks (fun k => k = g) V3)) (by kernel_rfl) (by kernel_rfl) ?_
  simp only [List.length_cons, List.length_nil]
  refine Qmt.takes [0, 1, 2, 3, 4, 5, 6] 7 _ _ _ (cls hI) (by kernel_rfl) ?_
  simp only [List.filterMap_cons, List.filterMap_nil, List.getElem?_toArray, List.getElem?_cons_zero, List.getElem?_cons_succ]
  change wpQuiet _ _ _ _ [_, _, _, _, _, _, _] _
  repeat (go_big_quiet_step (fail))
  refine wpQuiet_nil ?_
  clear l0 l1 l2 hI
  generalize ({ V3 with drawn := V3.drawn + 1 } : World) = v4 at HG4 HI4 ⊢
  have c14 : v4.cell? ⟨g, o + 14, none⟩ = some (.int .i64 1) := by rw [← HO.out]; exact mid_cell HG4.out (i := 14) rfl
  have f14 := HG4.out.frozen (o + 14)
  refine Qmt.fork [7] (cls HI4.out) (by kernel_rfl) (by simp) ⟨?_, trivial⟩
  refine Qmt.by_op rfl (by kernel_rfl) ?_
  go_wp2_with fail
  refine ⟨rfl, ?_⟩
  have hm := HG4.out
  have hm := mid_set hm (i := 14) (by simp) (.int .i64 2)
  rw [HO.out] at hm
  have hk := (HI4.out.setCell (p := ⟨g, o + 14, none⟩) (.inl rfl) (.int .i64 2))
  obtain ⟨v5, hw⟩ : ∃ y, v4.setCell ⟨g, o + 14, none⟩ (.int .i64 2) = y := ⟨_, rfl⟩
  rw [hw] at hm hk ⊢
  have HG5 := hide hm
  have HI5 := hide hk
  clear hw hm hk c14 f14
  refine Qmt.takes [8, 9] 4 _ _ _ (cls HI5.out) (by kernel_rfl) ?_
  simp only [List.filterMap_cons, List.filterMap_nil, List.getElem?_toArray, List.getElem?_cons_zero, List.getElem?_cons_succ]
  change wpQuiet _ _ _ _ [_, _] _
  repeat (go_big_quiet_step (fail))
  refine wpQuiet_nil ?_
  have c19 : v5.cell? ⟨g, o + 19, none⟩ = some (.bool (negB fl)) := by rw [← HO.out]; exact mid_cell HG5.out (i := 19) rfl
  have c20 : v5.cell? ⟨g, o + 20, none⟩ = some (.string (bs (nm fl))) := by rw [← HO.out]; exact mid_cell HG5.out (i := 20) rfl
  have c21 : v5.cell? ⟨g, o + 21, none⟩ = some (.string (dstr fl)) := by rw [← HO.out]; exact mid_cell HG5.out (i := 21) rfl
  have f19 := HG5.out.frozen (o + 19)
  have f20 := HG5.out.frozen (o + 20)
  have f21 := HG5.out.frozen (o + 21)
  refine Qmt.fork [10] (cls HI5.out) (by kernel_rfl) (by simp) ⟨?_, trivial⟩
  refine Qmt.by_op rfl (by kernel_rfl) ?_
  go_wp2_with fail
  refine ⟨rfl, ?_⟩
  have hm := HG5.out
  have hm := mid_set hm (i := 19) (by simp) (.bool (negB ce))
  have hm := mid_set hm (i := 20) (by simp) (.string (bs (nm ce)))
  have hm := mid_set hm (i := 21) (by simp) (.string (dstr ce))
  rw [HO.out] at hm
  have hk := (((HI5.out.setCell (p := ⟨g, o + 19, none⟩) (.inl rfl) (.bool (negB ce))).setCell (p := ⟨g, o + 20, none⟩) (.inl rfl) (.string (bs (nm ce)))).setCell (p := ⟨g, o + 21, none⟩) (.inl rfl) (.string (dstr ce)))
  obtain ⟨v6, hw⟩ : ∃ y, ((v5.setCell ⟨g, o + 19, none⟩ (.bool (negB ce))).setCell ⟨g, o + 20, none⟩ (.string (bs (nm ce)))).setCell ⟨g, o + 21, none⟩ (.string (dstr ce)) = y := ⟨_, rfl⟩
  rw [hw] at hm hk ⊢
  have HG6 := hide hm
  have HI6 := hide hk
  clear hw hm hk c19 f19 c20 f20 c21 f21
  refine Qmt.takes [11, 12] 1 _ _ _ (cls HI6.out) (by kernel_rfl) ?_
  simp only [List.filterMap_cons, List.filterMap_nil, List.getElem?_toArray, List.getElem?_cons_zero, List.getElem?_cons_succ]
  change wpQuiet _ _ _ _ [_, _] _
  repeat (go_big_quiet_step (fail))
  refine wpQuiet_nil ?_
  have c22 : v6.cell? ⟨g, o + 22, none⟩ = some (.bool (negB ad)) := by rw [← HO.out]; exact mid_cell HG6.out (i := 22) rfl
  have c23 : v6.cell? ⟨g, o + 23, none⟩ = some (.string (bs (nm ad))) := by rw [← HO.out]; exact mid_cell HG6.out (i := 23) rfl
  have c24 : v6.cell? ⟨g, o + 24, none⟩ = some (.string (dstr ad)) := by rw [← HO.out]; exact mid_cell HG6.out (i := 24) rfl
  have f22 := HG6.out.frozen (o + 22)
  have f23 := HG6.out.frozen (o + 23)
  have f24 := HG6.out.frozen (o + 24)
  refine Qmt.fork [13] (cls HI6.out) (by kernel_rfl) (by simp) ⟨?_, trivial⟩
  refine Qmt.by_op rfl (by kernel_rfl) ?_
  go_wp2_with fail
  refine ⟨rfl, ?_⟩
  have hm := HG6.out
  have hm := mid_set hm (i := 22) (by simp) (.bool (negB ce))
  have hm := mid_set hm (i := 23) (by simp) (.string (bs (nm ce)))
  have hm := mid_set hm (i := 24) (by simp) (.string (dstr ce))
  rw [HO.out] at hm
  have hk := (((HI6.out.setCell (p := ⟨g, o + 22, none⟩) (.inl rfl) (.bool (negB ce))).setCell (p := ⟨g, o + 23, none⟩) (.inl rfl) (.string (bs (nm ce)))).setCell (p := ⟨g, o + 24, none⟩) (.inl rfl) (.string (dstr ce)))
  obtain ⟨v7, hw⟩ : ∃ y, ((v6.setCell ⟨g, o + 22, none⟩ (.bool (negB ce))).setCell ⟨g, o + 23, none⟩ (.string (bs (nm ce)))).setCell ⟨g, o + 24, none⟩ (.string (dstr ce)) = y := ⟨_, rfl⟩
  rw [hw] at hm hk ⊢
  have HG7 := hide hm
  have HI7 := hide hk
  clear hw hm hk c22 f22 c23 f23 c24 f24
  refine Qmt.by_end (cls HI7.out) (by kernel_rfl) ?_
  have HE7 := hide (HI7.out.blk HE3.out (by show ¬ w.heap.size = g; omega))
  have e1 := HE7.out.cell (i := 1) rfl
  have c29 : v7.cell? ⟨g, o + 29, none⟩ = some (.int .i64 chg) := by rw [← HO.out]; exact mid_cell HG7.out (i := 29) rfl
  have f29 := HG7.out.frozen (o + 29)
  go_wp2_with fail
  have hm := HG7.out
  have hm := mid_set hm (i := 29) (by simp) (.int .i64 day)
  rw [HO.out] at hm
  have hk := (HI7.out.setCell (p := ⟨g, o + 29, none⟩) (.inl rfl) (.int .i64 day))
  obtain ⟨v8, hw⟩ : ∃ y, v7.setCell ⟨g, o + 29, none⟩ (.int .i64 day) = y := ⟨_, rfl⟩
  rw [hw] at hm hk ⊢
  have HG8 := hide hm
  have HI8 := hide hk
  clear hw hm hk c29 f29
  go_ret
  refine ⟨rfl, HG8.out, ?_⟩
  exact (Ks.of_below HB3.out).trans HI8.out
end Go.Proofs.YtpbgmpjnfndfjaaGreatDoor.TrG
