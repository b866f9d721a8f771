/- TgX, TrN, TrO, TrP, in one text. -/
import Derived.Test.YtpbgmpjnfndfjaaGreatDoorPGB
import Derived.Test.YtpbgmpjnfndfjaaGreatDoorRK
import Derived.OpenShut
import Derived.SliceStrings
import Derived.Deep.Slices
import Derived.Deep.Fields
import Derived.ProofKit
import Derived.Test.YtpbgmpjnfndfjaaGreatDoorTgN
import Derived.Test.YtpbgmpjnfndfjaaGreatDoorTRH
import Derived.Laws.BitsLemmas
namespace Go.Proofs.YtpbgmpjnfndfjaaGreatDoor.TgX
open Go.RowKit Go.ChangeShapes Go.WideShapes Go.ChangeAt Go.Deep PfA PfD PfH PfI PgG RsX
theorem plain_of {w : World} {a : Addr} {v : Value} (h : w.cell? (a.add 0) = some v) : ∃ b off, a = ⟨b, off, none⟩ ∧ b < w.heap.size := by
  obtain ⟨b, off, spot⟩ := a
  have hspot : spot = none := by simpa [Addr.add] using World.cell?_spot h
  subst hspot
  exact ⟨b, off, rfl, by simpa [Addr.add] using World.block_lt_of_cell? w _ h⟩
/-- six numbers in a row -/
def SixAt (w : World) (b o : Nat) : Prop := ∃ z0 z1 z2 z3 z4 z5 : Nat, z0 < 65536 ∧ z1 < 65536 ∧ z2 < 65536 ∧ z3 < 65536 ∧ z4 < 65536 ∧ z5 < 65536 ∧
  w.cell? ⟨b, o, none⟩ = some (.int .u16 z0) ∧ w.cell? ⟨b, o + 1, none⟩ = some (.int .u16 z1) ∧ w.cell? ⟨b, o + 2, none⟩ = some (.int .u16 z2) ∧ w.cell? ⟨b, o + 3, none⟩ = some (.int .u16 z3) ∧ w.cell? ⟨b, o + 4, none⟩ = some (.int .u16 z4) ∧ w.cell? ⟨b, o + 5, none⟩ = some (.int .u16 z5)
def SixesAt (w : World) (B : Nat) (A : Option Addr) (n : Nat) : Prop := n ≤ maxLen ∧ (0 < n → ∃ b off, A = some ⟨b, off, none⟩ ∧ b < B ∧ ∀ k, k < n → SixAt w b (off + k * 6))
theorem SixesAt.below {w w' : World} {B n : Nat} {A : Option Addr} (h : SixesAt w B A n) (hb : Below B w w') : SixesAt w' B A n :=
  ⟨h.1, fun hp => by
    obtain ⟨b, off, e, hlt, hc⟩ := h.2 hp
    refine ⟨b, off, e, hlt, fun k hk => ?_⟩
    obtain ⟨z0, z1, z2, z3, z4, z5, g0, g1, g2, g3, g4, g5, c0, c1, c2, c3, c4, c5⟩ := hc k hk
    exact ⟨z0, z1, z2, z3, z4, z5, g0, g1, g2, g3, g4, g5, (hb.cell (p := ⟨b, _, none⟩) hlt).trans c0, (hb.cell (p := ⟨b, _, none⟩) hlt).trans c1, (hb.cell (p := ⟨b, _, none⟩) hlt).trans c2, (hb.cell (p := ⟨b, _, none⟩) hlt).trans c3, (hb.cell (p := ⟨b, _, none⟩) hlt).trans c4, (hb.cell (p := ⟨b, _, none⟩) hlt).trans c5⟩⟩
section
variable {H : Type} {enc : TypeId × Value → H} {W : World} {base : Nat}
theorem six_cells : Tryz.prog.cellsOf 94 = 6 := by kernel_rfl
theorem u16_cells : Tryz.prog.cellsOf 23 = 1 := by kernel_rfl
set_option maxRecDepth 100000 in
theorem open_sixes {v : Value} {d : DataW H} {p : List MemPlace} (hv : Value.okWide Tryz.prog W .any base 22 v) (h : DataW.Trod enc Tryz.prog W 0 (fun _ => true) true 22 v d p) :
    ∃ (A : Option Addr) (n : Nat) (c : Nat), v = .slice A n c ∧ SixesAt W W.heap.size A n := by
  obtain ⟨a0, len, cap, rfl⟩ := okWide_slice Tryz.underlying22 hv
  obtain ⟨fuel, hf⟩ := h
  rcases open_slice Tryz.underlying22 hf with ⟨hcs, _⟩ | ⟨a, len', cap', m, n, D, Pl, hcs, _, hl, hm, hmm, _, hi⟩
  · have e : Value.slice a0 len cap = .slice none 0 0 := by simpa [Value.cells] using hcs
    injection e with e1 e2 e3
    subst e1; subst e2; subst e3
    exact ⟨none, 0, 0, rfl, Nat.zero_le _, fun h => by cases h⟩
  · have e : Value.slice a0 len cap = .slice (some a) len' cap' := by simpa [Value.cells] using hcs
    injection e with e1 e2 e3
    subst e1; subst e2; subst e3
    simp only [if_true] at hmm
    rw [six_cells] at hi
    have key0 : ∀ i, i < len → ∀ j, j < 6 → ∃ z : Nat, z < 65536 ∧ W.cell? (a.add (i * 6 + j)) = some (.int .u16 z) := by
      intro i hilt j hj
      obtain ⟨cs', hc, ht⟩ := hi i (by omega)
      obtain ⟨xs, m', _, _, hlen, hxl, hg⟩ := DataW.trod_array Tryz.underlying94 ht
      obtain ⟨_, hcl, hat⟩ := World.cells?_some hc
      have h1 := hg j hj
      rw [u16_cells, Nat.mul_one] at h1
      have hone : (cs'.drop j).take 1 = [cs'[j]'(by omega)] := by
        rw [List.drop_eq_getElem_cons (by omega)]; rfl
      have hv : cs'[j]? = some (cs'[j]'(by omega)) := List.getElem?_eq_getElem (by omega)
      rw [hone, List.getElem?_eq_getElem (by omega)] at h1
      obtain ⟨z, hz, _, hwf⟩ := DataW.trod_int Tryz.underlying23 h1
      have hz' : cs'[j]'(by omega) = .int .u16 z := by simpa using hz
      have hb := bounds_u16 hwf
      have hcell := hat j hj
      refine ⟨z.toNat, by omega, ?_⟩
      rw [← Go.Deep.add_add, hcell, hv, hz']
      congr 2
      omega
    refine ⟨some a, len, cap, rfl, by omega, fun hp => ?_⟩
    obtain ⟨_, _, h0⟩ := key0 0 hp 0 (by omega)
    obtain ⟨b, off, rfl, hb⟩ := plain_of h0
    refine ⟨b, off, rfl, hb, fun k hk => ?_⟩
    obtain ⟨z0, g0, c0⟩ := key0 k hk 0 (by omega)
    obtain ⟨z1, g1, c1⟩ := key0 k hk 1 (by omega)
    obtain ⟨z2, g2, c2⟩ := key0 k hk 2 (by omega)
    obtain ⟨z3, g3, c3⟩ := key0 k hk 3 (by omega)
    obtain ⟨z4, g4, c4⟩ := key0 k hk 4 (by omega)
    obtain ⟨z5, g5, c5⟩ := key0 k hk 5 (by omega)
    rw [Go.WideShapes.add_plain] at c0 c1 c2 c3 c4 c5
    exact ⟨z0, z1, z2, z3, z4, z5, g0, g1, g2, g3, g4, g5, by rw [← c0]; congr 2, by rw [← c1]; congr 2, by rw [← c2]; congr 2, by rw [← c3]; congr 2, by rw [← c4]; congr 2, by rw [← c5]; congr 2⟩
end
end Go.Proofs.YtpbgmpjnfndfjaaGreatDoor.TgX
namespace Go.Proofs.YtpbgmpjnfndfjaaGreatDoor.TrN
open Go.RowKit Wd RnA RnB RnW RnQ RnR RnP RoA RoC RoL RtA RtB RtC RpB RpC RpE RpF RpG RpH RnY RpI RpJ RpK RpL PqB PfA PfB PfD PfE PfH PfO TqA TwA TwB TwC TwD TwE TwH TwI TwP TqB TrA TrE TgN TgX
/-- the name of document i -/
def nameK (i : Nat) : ByteArray := ⟨#[UInt8.ofNat (97 + i)]⟩
theorem nameK_at (j : Nat) (hj : j < 8) : NmA.nmB (nameK j) = true ∧ (nameK j).size ≤ 100 ∧ (#[.string ⟨#[97]⟩, .string ⟨#[98]⟩, .string ⟨#[99]⟩, .string ⟨#[100]⟩, .string ⟨#[101]⟩, .string ⟨#[102]⟩, .string ⟨#[103]⟩, .string ⟨#[104]⟩, .string ⟨#[115, 49]⟩, .string ⟨#[115, 45, 50]⟩, .string ⟨#[116, 95, 51]⟩, .string ⟨#[117]⟩] : Array Value)[j]? = some (.string (nameK j)) := by
  match j, hj with
  | 0, _ => exact ⟨by decide, by decide, rfl⟩
  | 1, _ => exact ⟨by decide, by decide, rfl⟩
  | 2, _ => exact ⟨by decide, by decide, rfl⟩
  | 3, _ => exact ⟨by decide, by decide, rfl⟩
  | 4, _ => exact ⟨by decide, by decide, rfl⟩
  | 5, _ => exact ⟨by decide, by decide, rfl⟩
  | 6, _ => exact ⟨by decide, by decide, rfl⟩
  | 7, _ => exact ⟨by decide, by decide, rfl⟩
  | n + 8, h => exact absurd h (by omega)
theorem nameK_ne {i j : Nat} (hi : i < 8) (hj : j < 8) (h : i ≠ j) : (nameK i).toList ≠ (nameK j).toList := by
  intro e
  rw [ByteArray.toList_eq, ByteArray.toList_eq] at e
  have h1 : [UInt8.ofNat (97 + i)] = [UInt8.ofNat (97 + j)] := e
  injection h1 with h1 _
  have h2 := congrArg UInt8.toNat h1
  simp at h2
  omega
set_option maxHeartbeats 8000000 in
set_option maxRecDepth 100000 in
theorem name8_any (j : Nat) (hj : j < 8) (w : World) : Calls Tryz.prog 27 #[.int .u16 (j : Int)] w fun e w' => e = .returned (.string (nameK j)) ∧ Below w.heap.size w w' := by
  have hc : (w.alloc (.cells #[.string ⟨#[97]⟩, .string ⟨#[98]⟩, .string ⟨#[99]⟩, .string ⟨#[100]⟩, .string ⟨#[101]⟩, .string ⟨#[102]⟩, .string ⟨#[103]⟩, .string ⟨#[104]⟩, .string ⟨#[115, 49]⟩, .string ⟨#[115, 45, 50]⟩, .string ⟨#[116, 95, 51]⟩, .string ⟨#[117]⟩] 9)).cell? ⟨w.heap.size, j, none⟩ = some (.string (nameK j)) := by rw [World.cell?_alloc_new]; exact (nameK_at j hj).2.2
  have hm : j % 12 = j := Nat.mod_eq_of_lt (by omega)
  go_enter Tryz.func27, Tryz.ntmps27
  go_wp2_with fail
  go_ret
  exact ⟨rfl, (Below.refl _ _).alloc (Nat.le_refl _) _⟩
theorem lt2 {q : Rat} (h1 : nm q < 10000) (h2 : q.den < 10000) : Lt q 2 := ⟨by show nm q < 65536; omega, by show q.den < 65536; omega⟩
/-- a generated document, turned to the law's estate -/
theorem pd_of {d : Dc} (h : Gd d) (i : Nat) (hi : i < 8) : ∃ x : Pd, PdOk x ∧ x.id = nameK i ∧ x.dc = { d with id := nameK i, est := 0, code := ⟨#[69, 85, 82]⟩, rank := 1 + d.rank % 3 } := by
  obtain ⟨hg, hinc, hrf⟩ := h
  obtain ⟨_, _, hcr, _, ha, hi0, hrk, hra, hf0, hrz, hsc⟩ := PfV.check_all hg.chk
  have e1 := enc_fix_val hg.v1
  have e2 := enc_fix_val hg.v2
  unfold enc at e1 e2
  injection e1 with e1
  injection e2 with e2
  have l1 := congrArg Array.toList e1
  have l2 := congrArg Array.toList e2
  simp only [List.cons.injEq, Value.bool.injEq, Value.string.injEq, and_true] at l1 l2
  obtain ⟨a1, a2, a3⟩ := l1
  obtain ⟨b1, b2, b3⟩ := l2
  obtain ⟨n1, n2, _⟩ := nameK_at i hi
  refine ⟨⟨nameK i, d.cred, d.amt, d.inc, 1 + d.rank % 3, d.rate, d.rfrom, d.sec⟩, ⟨n1, n2, hcr.1, hcr.2, ?_, (lt2 hg.n1 hg.n2).mono (by omega), hi0.1, hinc, ?_, ?_, ?_, (lt2 hg.n3 hg.n4).mono (by omega), hf0.1, hrf, ?_, hsc.1, hsc.2⟩, rfl, ?_⟩
  · intro hq; exact ha (by rw [sgnQ_neg hq]; decide)
  · show 1 ≤ 1 + d.rank % 3; omega
  · show 1 + d.rank % 3 ≤ 3; omega
  · intro hq; exact hra (by rw [sgnQ_neg hq]; decide)
  · intro hq; exact hrz (by have : d.rate = 0 := hq; rw [this]; decide)
  · unfold Pd.dc
    dsimp only
    have k1 : negB d.amt = d.neg := a1
    have k2 : bs (nm d.amt) = d.num := a2
    have k3 : dstr d.amt = d.den := a3
    have k4 : negB d.rate = d.rneg := b1
    have k5 : bs (nm d.rate) = d.rnum := b2
    have k6 : dstr d.rate = d.rden := b3
    rw [k1, k2, k3, k4, k5, k6]
/-- what documents leaves -/
def DocP (w : World) (e : Ending) (w' : World) : Prop :=
  ∃ (l : List Pd) (A : Option Addr) (c : Nat), (e = .returned (.slice A l.length c) ∧ l.length ≤ 8 ∧ (∀ x ∈ l, PdOk x) ∧ ∀ k x, l[k]? = some x → x.id = nameK k) ∧ RowAt 14 Dc.vals w' A (l.map Pd.dc) ∧ Below w.heap.size w w'
theorem dcs_snoc (l : List Dc) (y : Dc) : (l ++ [y]).flatMap Dc.vals = l.flatMap Dc.vals ++ y.vals := by simp
theorem dc_one (x : Dc) : ∀ u ∈ x.vals, u.oneCell' = true := by
  intro u hu
  simp only [Dc.vals, List.mem_cons, List.mem_nil_iff, or_false] at hu
  rcases hu with rfl | rfl | rfl | rfl | rfl | rfl | rfl | rfl | rfl | rfl | rfl | rfl | rfl | rfl <;> rfl
theorem pr_binfo : (Tryz.prog.info? 34).map (fun i => (i.zero, i.size, i.bytes)) = some (some (.agg #[.string ByteArray.empty, .int .i64 0, .int .i64 0, .string ByteArray.empty, .bool false, .string ByteArray.empty, .string ByteArray.empty, .int .i64 0, .int .i64 0, .bool false, .string ByteArray.empty, .string ByteArray.empty, .int .i64 0, .int .i64 0]), 14, 160) := by kernel_rfl
end Go.Proofs.YtpbgmpjnfndfjaaGreatDoor.TrN
namespace Go.Proofs.YtpbgmpjnfndfjaaGreatDoor.TrO
open Go.RowKit Wd RnA RnB RnW RnQ RnR RnP RoA RoC RoL RtA RtB RtC RpB RpC RpE RpF RpG RpH RnY RpI RpJ RpK RpL PqB PfA PfB PfD PfE PfH PfO TqA TwA TwB TwC TwD TwE TwH TwI TwP TqB TrA TrE TgN TgX TrN
set_option maxHeartbeats 8000000 in
set_option maxRecDepth 100000 in
theorem documents_any (A : Option Addr) (n c : Nat) (w : World) (h : SixesAt w w.heap.size A n) :
    Calls Tryz.prog 7 #[.slice A n c] w (DocP w) := by
  obtain ⟨i0, hi, hz0, hz1, hz2⟩ := info_parts pr_binfo
  have hlen := h.1
  unfold maxLen at hlen
  have H := hide h
  unfold DocP
  clear h
  go_enter Tryz.func7, Tryz.ntmps7
  go_wp2_with fail
  go_loopw [3, 4] (fun vo vi wr => ∃ (k : Nat) (l : List Pd) (A' : Option Addr) (c' : Nat), k ≤ n ∧ k ≤ 8 ∧ Hid (l.length = k) ∧ vi = .int .i64 k ∧ vo = .slice A' k c' ∧ Hid (wr.ownsRow w.heap.size 34 14 (.slice A' k c') k ((l.map Pd.dc).flatMap Dc.vals)) ∧ Hid ((∀ x ∈ l, PdOk x) ∧ ∀ j x, l[j]? = some x → x.id = nameK j) ∧ Hid (Below w.heap.size w wr)) (fun _ vi _ => n - (intOf vi).toNat)
  case atStart => exact ⟨0, [], none, 0, by omega, by omega, hide rfl, rfl, rfl, hide (World.ownsRow_nil _ _ _ _), hide ⟨fun x hx => (by cases hx), fun j x hx => (by simp at hx)⟩, hide (Below.refl _ _)⟩
  case round =>
    obtain ⟨k, l, A', c', hk, hk8, HLK, rfl, rfl, HO, HG, HB⟩ := hrel
    by_cases hlt : k < n
    · by_cases h8 : k < 8
      · obtain ⟨b, off, rfl, hb, hc⟩ := (H.out.below HB.out).2 (by omega)
        obtain ⟨z0, z1, z2, z3, z4, z5, g0, g1, g2, g3, g4, g5, c0, c1, c2, c3, c4, c5⟩ := hc k hlt
        have HPR := Lib.hid (fun w => proof_any z0 z1 z2 z3 z4 z5 g0 g1 g2 g3 g4 g5 w)
        have HNM := Lib.hid (fun w => name8_any k h8 w)
        unfold GenP at HPR
        clear hc
        go_wp2_with fail
        refine (HPR.out _).mono ?_
        rintro e w3 ⟨d, ⟨rfl, hgd⟩, hb3⟩
        obtain ⟨x, hxo, hxi, hxd⟩ := pd_of hgd k h8
        have HXO := hide hxo
        have HXI := hide hxi
        have HXD := hide hxd
        have hrk := (PfV.check_all hgd.good.chk).2.2.2.2.2.2.1
        obtain ⟨hr0, hr7⟩ := hrk
        have HB3 := hide (HB.out.trans (hb3.mono HB.out.size))
        have HO3 := hide (TqA.own_below HO.out hb3)
        clear hb3 hgd c0 c1 c2 c3 c4 c5 hxo hxi hxd
        obtain ⟨V, hV, HX, HBV, hsV⟩ := doc_new w3 d
        have HBT := hide (HB3.out.trans (HBV.out.mono HB3.out.size))
        have HOT := hide (TqA.own_below HO3.out HBV.out)
        have hsw : w.heap.size ≤ w3.heap.size := HB3.out.size
        unfold PfA.Dc.agg
        have hk16 : k < 65536 := by omega
        go_wp2_with fail
        refine (HNM.out _).mono ?_
        rintro e w4 ⟨rfl, hb4⟩
        have HX4 := hide (HX.out.below hb4)
        have HB4 := hide (HBT.out.trans (hb4.mono HBT.out.size))
        have HO4 := hide (TqA.own_below HOT.out hb4)
        have hs4 := hb4.size
        clear hb4
        have e0 := HX4.out.cell (i := 0) rfl
        have e1 := HX4.out.cell (i := 1) rfl
        have e3 := HX4.out.cell (i := 3) rfl
        have e8 := HX4.out.cell (i := 8) rfl
        have y0 := HX4.out.frozen 0
        have y1 := HX4.out.frozen 1
        have y3 := HX4.out.frozen 3
        have y8 := HX4.out.frozen 8
        have HX5 := hide ((((HX4.out.set 0 (.string (nameK k))).set 1 (.int .i64 0)).set 3 (.string ⟨#[69, 85, 82]⟩)).set 8 (.int .i64 (1 + d.rank % 3)))
        have HK5 := hide (((((Ks.refl (fun j => j = w3.heap.size) w4).setCell (p := ⟨w3.heap.size, 0, none⟩) (.inl rfl) (.string (nameK k))).setCell (p := ⟨w3.heap.size, 1, none⟩) (.inl rfl) (.int .i64 0)).setCell (p := ⟨w3.heap.size, 3, none⟩) (.inl rfl) (.string ⟨#[69, 85, 82]⟩)).setCell (p := ⟨w3.heap.size, 8, none⟩) (.inl rfl) (.int .i64 (1 + d.rank % 3)))
        go_upto_region 8 with fail
        generalize ((((w4.setCell ⟨w3.heap.size, 0, none⟩ (.string (nameK k))).setCell ⟨w3.heap.size, 1, none⟩ (.int .i64 0)).setCell ⟨w3.heap.size, 3, none⟩ (.string ⟨#[69, 85, 82]⟩)).setCell ⟨w3.heap.size, 8, none⟩ (.int .i64 (1 + d.rank % 3)) : World) = V5 at HX5 HK5 ⊢
        have HX6 : Hid (BlkT V5 w3.heap.size 34 [.string (nameK k), .int .i64 0, .int .i64 d.cred, .string ⟨#[69, 85, 82]⟩, .bool d.neg, .string d.num, .string d.den, .int .i64 d.inc, .int .i64 (1 + d.rank % 3), .bool d.rneg, .string d.rnum, .string d.rden, .int .i64 d.rfrom, .int .i64 d.sec]) := HX5
        have HB5 := hide (HB4.out.trans (HK5.out.below HB4.out.size (by rintro j rfl; exact hsw)))
        have HO5 := hide (own_ks HO4.out HK5.out (fun gg hg e => by have h1 := (HO3.out.lt gg hg).2; have h2 : gg = w3.heap.size := e; omega))
        have HXV : Hid (x.dc.vals = [.string (nameK k), .int .i64 0, .int .i64 d.cred, .string ⟨#[69, 85, 82]⟩, .bool d.neg, .string d.num, .string d.den, .int .i64 d.inc, .int .i64 (1 + d.rank % 3), .bool d.rneg, .string d.rnum, .string d.rden, .int .i64 d.rfrom, .int .i64 d.sec]) := hide (by rw [HXD.out]; rfl)
        have hs5 := HK5.out.size
        clear e0 e1 e3 e8 y0 y1 y3 y8 HX4 HX5 HB4 HO4 HK5 HB3 HO3 HBT HOT HX HBV
        obtain ⟨V6, hV6⟩ : ∃ V6, V5.alloc (.cells #[.string (nameK k), .int .i64 0, .int .i64 d.cred, .string ⟨#[69, 85, 82]⟩, .bool d.neg, .string d.num, .string d.den, .int .i64 d.inc, .int .i64 (1 + d.rank % 3), .bool d.rneg, .string d.rnum, .string d.rden, .int .i64 d.rfrom, .int .i64 d.sec] 34) = V6 := ⟨_, rfl⟩
        have hB6 : Below V5.heap.size V5 V6 := by rw [← hV6]; exact (Below.refl _ _).alloc (Nat.le_refl _) _
        have hrd : Reads V6 (V5.heap.size + 1) 14 (some ⟨V5.heap.size, 0, none⟩) 1 [.string (nameK k), .int .i64 0, .int .i64 d.cred, .string ⟨#[69, 85, 82]⟩, .bool d.neg, .string d.num, .string d.den, .int .i64 d.inc, .int .i64 (1 + d.rank % 3), .bool d.rneg, .string d.rnum, .string d.rden, .int .i64 d.rfrom, .int .i64 d.sec] := by rw [← hV6]; exact reads_one V5 [.string (nameK k), .int .i64 0, .int .i64 d.cred, .string ⟨#[69, 85, 82]⟩, .bool d.neg, .string d.num, .string d.den, .int .i64 d.inc, .int .i64 (1 + d.rank % 3), .bool d.rneg, .string d.rnum, .string d.rden, .int .i64 d.rfrom, .int .i64 d.sec] 34 rfl
        have hone : ∀ u ∈ ([.string (nameK k), .int .i64 0, .int .i64 d.cred, .string ⟨#[69, 85, 82]⟩, .bool d.neg, .string d.num, .string d.den, .int .i64 d.inc, .int .i64 (1 + d.rank % 3), .bool d.rneg, .string d.rnum, .string d.rden, .int .i64 d.rfrom, .int .i64 d.sec] : List Value), u.oneCell' = true := by have := dc_one x.dc; rw [HXV.out] at this; exact this
        have hown := TqA.own_below HO5.out hB6
        have HB6 := hide (HB5.out.trans (hB6.mono HB5.out.size))
        have hsv6 := HB6.out.size
        have e0 := HX6.out.cell (i := 0) rfl
        have e1 := HX6.out.cell (i := 1) rfl
        have e2 := HX6.out.cell (i := 2) rfl
        have e3 := HX6.out.cell (i := 3) rfl
        have e4 := HX6.out.cell (i := 4) rfl
        have e5 := HX6.out.cell (i := 5) rfl
        have e6 := HX6.out.cell (i := 6) rfl
        have e7 := HX6.out.cell (i := 7) rfl
        have e8 := HX6.out.cell (i := 8) rfl
        have e9 := HX6.out.cell (i := 9) rfl
        have e10 := HX6.out.cell (i := 10) rfl
        have e11 := HX6.out.cell (i := 11) rfl
        have e12 := HX6.out.cell (i := 12) rfl
        have e13 := HX6.out.cell (i := 13) rfl
        clear hB6
        go_wp2_with (at_builtin
                     refine wpList_append_any _ rfl (.tmp 32) (.tmp 34) 24 rfl w.heap.size 34 i0 _ 14 160 Tryz.underlying24 hi hz0 hz1 hz2 rfl (by decide) _ _ _ rfl hown (V5.heap.size + 1) _ 1 1 _ rfl hrd hone ?c3 ?c4 ?c5 ?_
                     case c3 => unfold maxLen; omega
                     case c4 => omega
                     case c5 => omega
                     intro v7 w7 hown7 hg7 hob7)
        obtain ⟨A7, c7, rfl⟩ := TqA.own_slice hown7
        refine ⟨⟨k + 1, l ++ [x], A7, c7, by omega, by omega, hide (by rw [List.length_append, HLK.out]; rfl), rfl, rfl, ?_, hide ⟨fun y hy => ?_, fun j y hj => ?_⟩, hide (HB6.out.grown hg7 HB6.out.size (fun g hg => (hown.lt g hg).1))⟩, by simp only [intOf]; omega⟩
        · rw [List.map_append, List.map_cons, List.map_nil, dcs_snoc, HXV.out]
          exact hide hown7
        · rcases List.mem_append.1 hy with hy | hy
          · exact HG.out.1 y hy
          · rw [List.mem_singleton.1 hy]; exact HXO.out
        · rcases Nat.lt_or_ge j l.length with hlt2 | hge
          · rw [List.getElem?_append_left hlt2] at hj
            exact HG.out.2 j y hj
          · have hjl := (List.getElem?_eq_some_iff.1 hj).1
            have hjk : j = l.length := by simp at hjl; omega
            subst hjk
            rw [List.getElem?_append_right (Nat.le_refl _), Nat.sub_self] at hj
            have : y = x := by simpa using hj.symm
            rw [this, HXI.out, HLK.out]
      · have h8' : k = 8 := by omega
        go_wp2_with fail
        go_ret
        have hd : RowAt 14 Dc.vals wr A' (l.map Pd.dc) := own_at (fun _ => rfl) (c := c') (by rw [List.length_map, HLK.out]; exact HO.out) (by rw [List.length_map, HLK.out]; unfold maxLen; omega)
        exact ⟨l, A', c', ⟨by rw [HLK.out, h8']; rfl, by rw [HLK.out]; omega, HG.out.1, HG.out.2⟩, hd, HB.out⟩
    · have hkn : k = n := by omega
      go_wp2_with fail
      go_ret
      have hd : RowAt 14 Dc.vals wr A' (l.map Pd.dc) := own_at (fun _ => rfl) (c := c') (by rw [List.length_map, HLK.out]; exact HO.out) (by rw [List.length_map, HLK.out]; unfold maxLen; omega)
      exact ⟨l, A', c', ⟨by rw [HLK.out, hkn]; rfl, by rw [HLK.out]; omega, HG.out.1, HG.out.2⟩, hd, HB.out⟩
end Go.Proofs.YtpbgmpjnfndfjaaGreatDoor.TrO
namespace Go.Proofs.YtpbgmpjnfndfjaaGreatDoor.TrP
open Go.RowKit Wd RnA RnB RnW RnQ RnR RnP RoA RoC RoL RtA RtB RtC RpB RpC RpE RpF RpG RpH RnY RpI RpJ RpK RpL PqB PfA PfB PfD PfE PfH PfO TqA TwA TwB TwC TwD TwE TwH TwI TwP TqB TrA TrE TrF TrG TrH TrI TrJ TgN TgX TrN TrO
/-- the elements whose index is picked -/
def sel (p : Nat → Bool) : Nat → List Pd → List Pd
  | _, [] => []
  | i, x :: l => if p i then x :: sel p (i + 1) l else sel p (i + 1) l
theorem sel_app (p : Nat → Bool) : ∀ (i : Nat) (l m : List Pd), sel p i (l ++ m) = sel p i l ++ sel p (i + l.length) m
  | i, [], m => by simp [sel]
  | i, x :: l, m => by
    simp only [List.cons_append, sel, sel_app p (i + 1) l m, List.length_cons]
    rw [show i + 1 + l.length = i + (l.length + 1) by omega]
    split <;> simp
theorem sel_snoc {p : Nat → Bool} {l : List Pd} {j : Nat} {x : Pd} (h : l[j]? = some x) : sel p 0 (l.take (j + 1)) = sel p 0 (l.take j) ++ if p j then [x] else [] := by
  have hj := (List.getElem?_eq_some_iff.1 h).1
  rw [TwE.take_snoc h, sel_app, List.length_take, Nat.zero_add, Nat.min_eq_left (by omega)]
  simp only [sel]
theorem sel_mem {p : Nat → Bool} {y : Pd} : ∀ (i : Nat) (l : List Pd), y ∈ sel p i l → ∃ k, l[k]? = some y ∧ p (i + k) = true
  | i, [], h => by simp [sel] at h
  | i, x :: l, h => by
    unfold sel at h
    split at h
    · rename_i hp
      rcases List.mem_cons.1 h with rfl | h
      · exact ⟨0, rfl, hp⟩
      · obtain ⟨k, h1, h2⟩ := sel_mem (i + 1) l h
        exact ⟨k + 1, h1, by rw [show i + (k + 1) = i + 1 + k by omega]; exact h2⟩
    · obtain ⟨k, h1, h2⟩ := sel_mem (i + 1) l h
      exact ⟨k + 1, h1, by rw [show i + (k + 1) = i + 1 + k by omega]; exact h2⟩
theorem sel_len (p : Nat → Bool) : ∀ (i : Nat) (l : List Pd), (sel p i l).length ≤ l.length
  | i, [] => Nat.le_refl _
  | i, x :: l => by
    unfold sel
    have := sel_len p (i + 1) l
    split <;> simp <;> omega
/-- is document i late? -/
def lateB (z i : Nat) : Bool := z / 2 ^ i % 2 == 1
def entOf (x : Pd) (day : Int) : En := En.adm (newEn x day) day
/-- the entries of a register -/
def admL (z : Nat) (l : List Pd) : List En := (sel (fun i => !lateB z i) 0 l).map (entOf · 150) ++ (sel (lateB z) 0 l).map (entOf · 250)
/-- different IDs -/
def Dst (l : List Pd) : Prop := ∀ (i j : Nat) (x y : Pd), l[i]? = some x → l[j]? = some y → i ≠ j → x.id.toList ≠ y.id.toList
def AdP (es : List En) (w : World) (e : Ending) (w' : World) : Prop :=
  ∃ A c d0, (e = .returned (.tuple #[.agg #[.int .i64 100, .int .i64 200, .int .i64 d0, .slice A es.length c], .bool true]) ∧ EnsAt w' A es) ∧ Below w.heap.size w w'
theorem bit_eq (z j : Nat) (hz : z < 65536) : (bits BinOp.and IntKind.i64 ((z : Int) / 2 ^ j) 1 == 1) = lateB z j := by
  have e : ((z / 2 ^ j : Nat) : Int) = (z : Int) / 2 ^ j := by push_cast; rfl
  have hd : z / 2 ^ j ≤ z := Nat.div_le_self _ _
  unfold lateB
  rw [← e]
  generalize z / 2 ^ j = y at *
  have h := bits_mask .i64 16 (by decide) (fun n h0 h1 => by rw [IntKind.wrap_i64]; omega) 1 (by decide) (y : Int) (by omega) (by omega)
  have h' : bits BinOp.and IntKind.i64 (y : Int) 1 = (y : Int) % 2 := h
  rw [h']
  clear h h' e
  by_cases hy : y % 2 = 1
  · rw [hy]
    have : (y : Int) % 2 = 1 := by omega
    rw [this]; rfl
  · have h0 : y % 2 = 0 := by omega
    rw [h0]
    have : (y : Int) % 2 = 0 := by omega
    rw [this]; rfl
theorem ent_id (x : Pd) (day : Int) : (entOf x day).p.id = x.id := rfl
theorem new_id {l : List Pd} {es0 : List En} {pk : Nat → Bool} {j : Nat} {x : Pd} {day : Int} (hds : Dst l) (hx : l[j]? = some x) (he0 : ∀ y ∈ es0, ∃ i p, l[i]? = some p ∧ y.p.id = p.id ∧ i ≠ j) :
    (es0 ++ (sel pk 0 (l.take j)).map (entOf · day)).any (fun y => y.p.id.toList == x.id.toList) = false := by
  rw [List.any_eq_false]
  intro y hy
  have key : ∃ i p, l[i]? = some p ∧ y.p.id = p.id ∧ i ≠ j := by
    rcases List.mem_append.1 hy with hy | hy
    · exact he0 y hy
    · obtain ⟨p, hp, rfl⟩ := List.mem_map.1 hy
      obtain ⟨i, hi, _⟩ := sel_mem 0 _ hp
      have hij : i < j := by have := (List.getElem?_eq_some_iff.1 hi).1; rw [List.length_take] at this; omega
      rw [List.getElem?_take, if_pos hij] at hi
      exact ⟨i, p, hi, rfl, by omega⟩
  obtain ⟨i, p, hi, hid, hne⟩ := key
  have := hds i j p x hi hx hne
  rw [hid]
  simpa using this
theorem sel_all {l : List Pd} {p : Nat → Bool} {j : Nat} {y : En} {day : Int} (hy : y ∈ (sel p 0 l).map (entOf · day)) (hj : p j = false) : ∃ i q, l[i]? = some q ∧ y.p.id = q.id ∧ i ≠ j := by
  obtain ⟨q, hq, rfl⟩ := List.mem_map.1 hy
  obtain ⟨i, hi, hp⟩ := sel_mem 0 _ hq
  rw [Nat.zero_add] at hp
  exact ⟨i, q, hi, rfl, fun e => by rw [e, hj] at hp; cases hp⟩
theorem ks4 (w : World) (K : Nat) (a b c d : Value) : Ks (fun k => k = K) w ((((w.setCell ⟨K, 0, none⟩ a).setCell ⟨K, 1, none⟩ b).setCell ⟨K, 2, none⟩ c).setCell ⟨K, 3, none⟩ d) :=
  ((((Ks.refl (fun k => k = K) w).setCell (p := ⟨K, 0, none⟩) (.inl rfl) a).setCell (p := ⟨K, 1, none⟩) (.inl rfl) b).setCell (p := ⟨K, 2, none⟩) (.inl rfl) c).setCell (p := ⟨K, 3, none⟩) (.inl rfl) d
theorem new_any2 (w : World) : Calls Tryz.prog 28 #[.int .i64 100, .int .i64 200] w fun e w' => e = .returned (.tuple #[.agg #[.int .i64 100, .int .i64 200, .int .i64 0, .slice none 0 0], .int .i64 0]) ∧ Below w.heap.size w w' := new_any w
set_option maxHeartbeats 8000000 in
set_option maxRecDepth 100000 in
theorem admitted_any {l : List Pd} {z : Nat} (hz : z < 65536) (hl : l.length ≤ 8) (hok : ∀ x ∈ l, PdOk x) (hds : Dst l) {A : Option Addr} {c : Nat} (w : World) (h : RowAt 14 Dc.vals w A (l.map Pd.dc)) :
    Calls Tryz.prog 8 #[.slice A l.length c, .int .u16 (z : Int)] w (AdP (admL z l) w) := by
  have HNW := Lib.hid (fun w => new_any w)
  have HOK := hide hok
  have HDS := hide hds
  have HN := hide (RowAt.toB h)
  obtain ⟨n, hn⟩ : ∃ n, l.length = n := ⟨_, rfl⟩
  have HNL := hide hn
  have hn8 : n ≤ 8 := by omega
  unfold AdP
  rw [hn]
  obtain ⟨V0, hV0, HT0, HB0, hl0⟩ := reg_new w (.int .i64 0) (.int .i64 0) (.int .i64 0) (.slice none 0 0)
  clear h hok hds hn hl
  go_enter Tryz.func8, Tryz.ntmps8
  go_wp2_with fail
  refine (HNW.out _).mono ?_
  rintro e w1 ⟨rfl, hb1⟩
  obtain ⟨V2, hV2, HR2, HB2, hl2⟩ := reg_new w1 (.int .i64 100) (.int .i64 200) (.int .i64 0) (.slice none 0 0)
  have hc2 := hb1.trans (HB2.out.mono hb1.size)
  have HT2 := hide (HT0.out.below hc2)
  have HBB := hide (HB0.out.trans (hc2.mono HB0.out.size))
  have hw1 : V0.heap.size ≤ w1.heap.size := hb1.size
  have HV2 := hide hV2
  clear hb1 hc2 HB2 hV2
  go_wp2_with fail
  rw [HV2.out]
  go_loopw [9, 8] (fun vk vo wr => ∃ (k : Nat) (d0 : Int) (Ae : Option Addr) (ce : Nat) (es : List En), k ≤ 2 ∧ vk = .int .i64 k ∧ vo = .bool true ∧ Hid (es = (if k = 0 then [] else (sel (fun i => !lateB z i) 0 l).map (entOf · 150)) ++ (if k = 2 then (sel (lateB z) 0 l).map (entOf · 250) else [])) ∧ Hid (0 ≤ d0 ∧ (k = 0 → d0 ≤ 150) ∧ d0 ≤ 250) ∧ Hid (es.length ≤ 8 * k) ∧ Hid (BlkT wr w1.heap.size 28 [.int .i64 100, .int .i64 200, .int .i64 d0, .slice Ae es.length ce]) ∧ Hid (BlkT wr w.heap.size 28 [.int .i64 0, .int .i64 0, .int .i64 0, .slice none 0 0]) ∧ Hid (EnsAt wr Ae es) ∧ Hid (∀ b off, Ae = some ⟨b, off, none⟩ → V2.heap.size ≤ b) ∧ Hid (Ae = none → ce = 0) ∧ Hid (Below w.heap.size w wr) ∧ V2.heap.size ≤ wr.heap.size) (fun vk _ _ => 2 - (intOf vk).toNat)
  case atStart => exact ⟨0, 0, none, 0, [], by omega, rfl, rfl, hide (by simp), hide ⟨by omega, fun _ => by omega, by omega⟩, hide (by simp), HR2, HT2, hide (RowAt.nil _ _), hide (fun b off e => (by cases e)), hide (fun _ => rfl), HBB, Nat.le_refl _⟩
  case round =>
    obtain ⟨k, d0, Ae, ce, es, hk, rfl, rfl, HES, HD, HEL, HR, HT, HE, HNE, HAN, HB, hs⟩ := hrel
    by_cases hlt : k < 2
    · obtain ⟨es0, hes0⟩ : ∃ es0, es0 = es := ⟨_, rfl⟩
      have HE0 := hide hes0
      clear hes0
      rcases (by omega : k = 0 ∨ k = 1) with rfl | rfl
      · go_wp2_with fail
        go_loopw [29, 8] (fun vj vo wx => ∃ (j : Nat) (d1 : Int) (Ax : Option Addr) (cx : Nat) (ex : List En), j ≤ n ∧ vj = .int .i64 j ∧ vo = .bool true ∧ Hid (ex = es0 ++ (sel (fun i => !lateB z i) 0 (l.take j)).map (entOf · 150)) ∧ Hid (d1 ≤ 150 ∧ 0 ≤ d1) ∧ Hid (ex.length ≤ 8 * 0 + j) ∧ Hid (BlkT wx w1.heap.size 28 [.int .i64 100, .int .i64 200, .int .i64 d1, .slice Ax ex.length cx]) ∧ Hid (BlkT wx w.heap.size 28 [.int .i64 0, .int .i64 0, .int .i64 0, .slice none 0 0]) ∧ Hid (EnsAt wx Ax ex) ∧ Hid (∀ b off, Ax = some ⟨b, off, none⟩ → V2.heap.size ≤ b) ∧ Hid (Ax = none → cx = 0) ∧ Hid (Below w.heap.size w wx) ∧ V2.heap.size ≤ wx.heap.size) (fun vj _ _ => n - (intOf vj).toNat)
        case atStart => exact ⟨0, d0, Ae, ce, es, by omega, rfl, rfl, hide (by rw [HE0.out]; simp [sel]), hide ⟨HD.out.2.1 (by simp), HD.out.1⟩, hide (by have := HEL.out; omega), HR, HT, HE, HNE, HAN, HB, hs⟩
        case round =>
          obtain ⟨j, d1, Ax, cx, ex, hj, rfl, rfl, HEX, HD1, HXL, HRx, HTx, HEx, HNx, HAx, HBx, hsx⟩ := hrel
          by_cases hjt : j < n
          · obtain ⟨x, hx⟩ : ∃ x, l[j]? = some x := ⟨_, List.getElem?_eq_getElem (by rw [HNL.out]; exact hjt)⟩
            have HX := hide hx
            obtain ⟨g, off, rfl, hg, hc⟩ := (HN.out.below HBx.out).at_ (k := j) (x := x.dc) (by rw [List.getElem?_map, hx]; rfl)
            have x0 : wr.cell? ⟨g, off + j * 14, none⟩ = _ := hc 0 _ rfl
            have x1 := hc 1 _ rfl
            have x2 := hc 2 _ rfl
            have x3 := hc 3 _ rfl
            have x4 := hc 4 _ rfl
            have x5 := hc 5 _ rfl
            have x6 := hc 6 _ rfl
            have x7 := hc 7 _ rfl
            have x8 := hc 8 _ rfl
            have x9 := hc 9 _ rfl
            have x10 := hc 10 _ rfl
            have x11 := hc 11 _ rfl
            have x12 := hc 12 _ rfl
            have x13 := hc 13 _ rfl
            unfold Pd.dc at x0 x1 x2 x3 x4 x5 x6 x7 x8 x9 x10 x11 x12 x13
            dsimp only at x0 x1 x2 x3 x4 x5 x6 x7 x8 x9 x10 x11 x12 x13
            clear hx hc
            obtain ⟨V, hV, HC, HBV, hsV⟩ := doc_new wr x.dc
            have hbit := bit_eq z j hz
            unfold Pd.dc at hV HC
            dsimp only at hV HC
            have HRV := hide (HRx.out.below HBV.out)
            have HTV := hide (HTx.out.below HBV.out)
            have HEV := hide (HEx.out.below HBV.out)
            have HBW := hide (HBx.out.trans (HBV.out.mono HBx.out.size))
            cases hlb : lateB z j
            · rw [hlb] at hbit
              have HLB := hide hlb
              have hnew : ex.any (fun y => y.p.id.toList == x.id.toList) = false := by
                rw [HEX.out]
                refine new_id HDS.out HX.out (fun y hy => ?_)
                rw [HE0.out, HES.out] at hy
                simp at hy
              have hxok := HOK.out x (List.mem_of_getElem? HX.out)
              have hel : ex.length < 64 := by have := HXL.out; omega
              have HAF := Lib.hid (fun w h => @apply_file d1 150 ex x hxok hel hnew HD1.out.1 (by omega) (by omega) Ax cx HAx.out w h)
              have hvl : Lt (newEn x 150).ce 5000 := (val_lt hxok).mono (by omega)
              have HAA := Lib.hid (fun w A c hA h => @apply_adm 150 150 ex (newEn x 150) rfl hvl hel hnew (by omega) (by omega) (by omega) A c hA w h)
              have hm1 : (ex ++ [newEn x 150]).length = ex.length + 1 := by simp
              have hm2 : (ex ++ [En.adm (newEn x 150) 150]).length = ex.length + 1 := by simp
              have HX2 : Hid (ex ++ [En.adm (newEn x 150) 150] = es0 ++ (sel (fun i => !lateB z i) 0 (l.take (j + 1))).map (entOf · 150)) := hide (by
                rw [HEX.out, sel_snoc HX.out, if_pos (by simp [HLB.out]), List.map_append, List.append_assoc]
                rfl)
              unfold AppP at HAF HAA
              rw [hm1] at HAF HAA
              rw [hm2] at HAA
              have HXL2 : Hid ((ex ++ [En.adm (newEn x 150) 150]).length ≤ 8 * 0 + (j + 1)) := hide (by rw [hm2]; have := HXL.out; omega)
              have HM2 := hide hm2
              generalize ex ++ [En.adm (newEn x 150) 150] = ex2 at *
              generalize ex ++ [newEn x 150] = ex1 at *
              obtain ⟨m, hm⟩ : ∃ m, ex.length = m := ⟨_, rfl⟩
              rw [hm] at HAF HAA HRx HRV HM2
              have hid0 : (newEn x 150).p.id = x.id := rfl
              rw [hid0] at HAA
              clear hlb hnew hxok hel hvl hm1 hm2 hm hid0
              have r0 := HRV.out.cell (i := 0) rfl
              have r1 := HRV.out.cell (i := 1) rfl
              have r2 := HRV.out.cell (i := 2) rfl
              have r3 := HRV.out.cell (i := 3) rfl
              have d0_ := HC.out.cell (i := 0) rfl
              have d1_ := HC.out.cell (i := 1) rfl
              have d2_ := HC.out.cell (i := 2) rfl
              have d3_ := HC.out.cell (i := 3) rfl
              have d4_ := HC.out.cell (i := 4) rfl
              have d5_ := HC.out.cell (i := 5) rfl
              have d6_ := HC.out.cell (i := 6) rfl
              have d7_ := HC.out.cell (i := 7) rfl
              have d8_ := HC.out.cell (i := 8) rfl
              have d9_ := HC.out.cell (i := 9) rfl
              have d10_ := HC.out.cell (i := 10) rfl
              have d11_ := HC.out.cell (i := 11) rfl
              have d12_ := HC.out.cell (i := 12) rfl
              have d13_ := HC.out.cell (i := 13) rfl
              clear HBV
              go_wp2_with fail
              refine (HAF.out _ HEV.out).mono ?_
              rintro e w4 ⟨A4, c4, rfl, he4, ha4, _, hb4⟩
              obtain ⟨V5, hV5, HR5, HB5, hl5⟩ := reg_new w4 (.int .i64 100) (.int .i64 200) (.int .i64 150) (.slice A4 (m + 1) c4)
              have hc5 := hb4.trans (HB5.out.mono hb4.size)
              have HC5 := hide (HC.out.below hc5)
              have HRO5 := hide (HRV.out.below hc5)
              have HTO5 := hide (HTV.out.below hc5)
              have HE5 := hide (he4.below HB5.out)
              have HA4 := hide ha4
              have HBO5 := hide (HBW.out.trans (hc5.mono HBW.out.size))
              have hs5 := hb4.size
              clear hb4 he4 ha4 hc5 HB5 r0 r1 r2 r3 x0 x1 x2 x3 x4 x5 x6 x7 x8 x9 x10 x11 x12 x13 d0_ d1_ d2_ d3_ d4_ d5_ d6_ d7_ d8_ d9_ d10_ d11_ d12_ d13_ HRx HTx HEx HRV HTV HEV
              have r0 := HR5.out.cell (i := 0) rfl
              have r1 := HR5.out.cell (i := 1) rfl
              have r2 := HR5.out.cell (i := 2) rfl
              have r3 := HR5.out.cell (i := 3) rfl
              have t0 := HC5.out.cell (i := 0) rfl
              go_wp2_with fail
              refine (HAA.out _ A4 c4 HA4.out HE5.out).mono ?_
              rintro e w6 ⟨A6, c6, rfl, he6, ha6, hn6, hb6⟩
              obtain ⟨V7, hV7, HR7, HB7, hl7⟩ := reg_new w6 (.int .i64 100) (.int .i64 200) (.int .i64 150) (.slice A6 (m + 1) c6)
              have hc7 := hb6.trans (HB7.out.mono hb6.size)
              have HRO7 := hide (HRO5.out.below hc7)
              have HTO7 := hide (HTO5.out.below hc7)
              have HE7 := hide (he6.below HB7.out)
              have HA6 := hide ha6
              have HBO7 := hide (HBO5.out.trans (hc7.mono HBO5.out.size))
              have hs7 := hb6.size
              clear hb6 he6 ha6 hc7 HB7 r0 r1 r2 r3 t0
              have r0 := HR7.out.cell (i := 0) rfl
              have r1 := HR7.out.cell (i := 1) rfl
              have r2 := HR7.out.cell (i := 2) rfl
              have r3 := HR7.out.cell (i := 3) rfl
              have q0 := HRO7.out.cell (i := 0) rfl
              have q1 := HRO7.out.cell (i := 1) rfl
              have q2 := HRO7.out.cell (i := 2) rfl
              have q3 := HRO7.out.cell (i := 3) rfl
              have y0 := HRO7.out.frozen 0
              have y1 := HRO7.out.frozen 1
              have y2 := HRO7.out.frozen 2
              have y3 := HRO7.out.frozen 3
              have hk8 := ks4 V7 w1.heap.size (.int .i64 100) (.int .i64 200) (.int .i64 150) (.slice A6 (m + 1) c6)
              have HR8 := hide (set4 HRO7.out (.int .i64 100) (.int .i64 200) (.int .i64 150) (.slice A6 (m + 1) c6))
              have HT8 := hide (hk8.blk HTO7.out (by show ¬ w.heap.size = w1.heap.size; omega))
              have HB8 := hide (HBO7.out.trans (hk8.below HBO7.out.size (by rintro i rfl; omega)))
              have hs8 := hk8.size
              have HN8 : Hid (∀ b off, A6 = some ⟨b, off, none⟩ → V2.heap.size ≤ b) := hide (fun b off e => by have := hn6 b off e; omega)
              have HE8 := hide (hk8.row HE7.out (fun b off e => by have := HN8.out b off e; show ¬ b = w1.heap.size; omega))
              clear hk8
              go_wp2_with fail
              refine ⟨⟨j + 1, 150, A6, c6, ex2, by omega, rfl, rfl, HX2, hide ⟨by omega, by omega⟩, HXL2, ?_, HT8, HE8, HN8, HA6, HB8, by omega⟩, by simp only [intOf]; omega⟩
              rw [HM2.out]
              exact HR8
            · rw [hlb] at hbit
              have HLB := hide hlb
              clear hlb
              go_wp2_with fail
              refine ⟨⟨j + 1, d1, Ax, cx, ex, by omega, rfl, rfl, hide ?_, HD1, hide (by have := HXL.out; omega), HRV, HTV, HEV, HNx, HAx, HBW, by omega⟩, by simp only [intOf]; omega⟩
              rw [HEX.out, sel_snoc HX.out, if_neg (by simp [HLB.out]), List.append_nil]
          · have hjn : j = n := by omega
            subst hjn
            go_wp2_with fail
            refine ⟨⟨1, d1, Ax, cx, ex, by omega, rfl, rfl, hide ?_, hide ⟨HD1.out.2, fun h => by omega, by have := HD1.out.1; omega⟩, hide (by have := HXL.out; omega), HRx, HTx, HEx, HNx, HAx, HBx, hsx⟩, by simp [intOf]⟩
            rw [HEX.out, HE0.out, HES.out, List.take_of_length_le (by rw [HNL.out]; omega)]
            simp
      · rw [show ((1 : Nat) : Int) = (1 : Int) from rfl]
        go_wp2_with fail
        go_loopw [29, 8] (fun vj vo wx => ∃ (j : Nat) (d1 : Int) (Ax : Option Addr) (cx : Nat) (ex : List En), j ≤ n ∧ vj = .int .i64 j ∧ vo = .bool true ∧ Hid (ex = es0 ++ (sel (lateB z) 0 (l.take j)).map (entOf · 250)) ∧ Hid (d1 ≤ 250 ∧ 0 ≤ d1) ∧ Hid (ex.length ≤ 8 * 1 + j) ∧ Hid (BlkT wx w1.heap.size 28 [.int .i64 100, .int .i64 200, .int .i64 d1, .slice Ax ex.length cx]) ∧ Hid (BlkT wx w.heap.size 28 [.int .i64 0, .int .i64 0, .int .i64 0, .slice none 0 0]) ∧ Hid (EnsAt wx Ax ex) ∧ Hid (∀ b off, Ax = some ⟨b, off, none⟩ → V2.heap.size ≤ b) ∧ Hid (Ax = none → cx = 0) ∧ Hid (Below w.heap.size w wx) ∧ V2.heap.size ≤ wx.heap.size) (fun vj _ _ => n - (intOf vj).toNat)
        case atStart => exact ⟨0, d0, Ae, ce, es, by omega, rfl, rfl, hide (by rw [HE0.out]; simp [sel]), hide ⟨HD.out.2.2, HD.out.1⟩, hide (by have := HEL.out; omega), HR, HT, HE, HNE, HAN, HB, hs⟩
        case round =>
          obtain ⟨j, d1, Ax, cx, ex, hj, rfl, rfl, HEX, HD1, HXL, HRx, HTx, HEx, HNx, HAx, HBx, hsx⟩ := hrel
          by_cases hjt : j < n
          · obtain ⟨x, hx⟩ : ∃ x, l[j]? = some x := ⟨_, List.getElem?_eq_getElem (by rw [HNL.out]; exact hjt)⟩
            have HX := hide hx
            obtain ⟨g, off, rfl, hg, hc⟩ := (HN.out.below HBx.out).at_ (k := j) (x := x.dc) (by rw [List.getElem?_map, hx]; rfl)
            have x0 : wr.cell? ⟨g, off + j * 14, none⟩ = _ := hc 0 _ rfl
            have x1 := hc 1 _ rfl
            have x2 := hc 2 _ rfl
            have x3 := hc 3 _ rfl
            have x4 := hc 4 _ rfl
            have x5 := hc 5 _ rfl
            have x6 := hc 6 _ rfl
            have x7 := hc 7 _ rfl
            have x8 := hc 8 _ rfl
            have x9 := hc 9 _ rfl
            have x10 := hc 10 _ rfl
            have x11 := hc 11 _ rfl
            have x12 := hc 12 _ rfl
            have x13 := hc 13 _ rfl
            unfold Pd.dc at x0 x1 x2 x3 x4 x5 x6 x7 x8 x9 x10 x11 x12 x13
            dsimp only at x0 x1 x2 x3 x4 x5 x6 x7 x8 x9 x10 x11 x12 x13
            clear hx hc
            obtain ⟨V, hV, HC, HBV, hsV⟩ := doc_new wr x.dc
            have hbit := bit_eq z j hz
            unfold Pd.dc at hV HC
            dsimp only at hV HC
            have HRV := hide (HRx.out.below HBV.out)
            have HTV := hide (HTx.out.below HBV.out)
            have HEV := hide (HEx.out.below HBV.out)
            have HBW := hide (HBx.out.trans (HBV.out.mono HBx.out.size))
            cases hlb : lateB z j
            · rw [hlb] at hbit
              have HLB := hide hlb
              clear hlb
              go_wp2_with fail
              refine ⟨⟨j + 1, d1, Ax, cx, ex, by omega, rfl, rfl, hide ?_, HD1, hide (by have := HXL.out; omega), HRV, HTV, HEV, HNx, HAx, HBW, by omega⟩, by simp only [intOf]; omega⟩
              rw [HEX.out, sel_snoc HX.out, if_neg (by simp [HLB.out]), List.append_nil]
            · rw [hlb] at hbit
              have HLB := hide hlb
              have hnew : ex.any (fun y => y.p.id.toList == x.id.toList) = false := by
                rw [HEX.out]
                refine new_id HDS.out HX.out (fun y hy => ?_)
                rw [HE0.out, HES.out] at hy
                have hy2 : y ∈ (sel (fun i => !lateB z i) 0 l).map (entOf · 150) := by simpa using hy
                exact sel_all hy2 (by simp [hlb])
              have hxok := HOK.out x (List.mem_of_getElem? HX.out)
              have hel : ex.length < 64 := by have := HXL.out; omega
              have HAF := Lib.hid (fun w h => @apply_file d1 250 ex x hxok hel hnew HD1.out.1 (by omega) (by omega) Ax cx HAx.out w h)
              have hvl : Lt (newEn x 250).ce 5000 := (val_lt hxok).mono (by omega)
              have HAA := Lib.hid (fun w A c hA h => @apply_adm 250 250 ex (newEn x 250) rfl hvl hel hnew (by omega) (by omega) (by omega) A c hA w h)
              have hm1 : (ex ++ [newEn x 250]).length = ex.length + 1 := by simp
              have hm2 : (ex ++ [En.adm (newEn x 250) 250]).length = ex.length + 1 := by simp
              have HX2 : Hid (ex ++ [En.adm (newEn x 250) 250] = es0 ++ (sel (lateB z) 0 (l.take (j + 1))).map (entOf · 250)) := hide (by
                rw [HEX.out, sel_snoc HX.out, if_pos (by simp [HLB.out]), List.map_append, List.append_assoc]
                rfl)
              unfold AppP at HAF HAA
              rw [hm1] at HAF HAA
              rw [hm2] at HAA
              have HXL2 : Hid ((ex ++ [En.adm (newEn x 250) 250]).length ≤ 8 * 1 + (j + 1)) := hide (by rw [hm2]; have := HXL.out; omega)
              have HM2 := hide hm2
              generalize ex ++ [En.adm (newEn x 250) 250] = ex2 at *
              generalize ex ++ [newEn x 250] = ex1 at *
              obtain ⟨m, hm⟩ : ∃ m, ex.length = m := ⟨_, rfl⟩
              rw [hm] at HAF HAA HRx HRV HM2
              have hid0 : (newEn x 250).p.id = x.id := rfl
              rw [hid0] at HAA
              clear hlb hnew hxok hel hvl hm1 hm2 hm hid0
              have r0 := HRV.out.cell (i := 0) rfl
              have r1 := HRV.out.cell (i := 1) rfl
              have r2 := HRV.out.cell (i := 2) rfl
              have r3 := HRV.out.cell (i := 3) rfl
              have d0_ := HC.out.cell (i := 0) rfl
              have d1_ := HC.out.cell (i := 1) rfl
              have d2_ := HC.out.cell (i := 2) rfl
              have d3_ := HC.out.cell (i := 3) rfl
              have d4_ := HC.out.cell (i := 4) rfl
              have d5_ := HC.out.cell (i := 5) rfl
              have d6_ := HC.out.cell (i := 6) rfl
              have d7_ := HC.out.cell (i := 7) rfl
              have d8_ := HC.out.cell (i := 8) rfl
              have d9_ := HC.out.cell (i := 9) rfl
              have d10_ := HC.out.cell (i := 10) rfl
              have d11_ := HC.out.cell (i := 11) rfl
              have d12_ := HC.out.cell (i := 12) rfl
              have d13_ := HC.out.cell (i := 13) rfl
              clear HBV
              go_wp2_with fail
              refine (HAF.out _ HEV.out).mono ?_
              rintro e w4 ⟨A4, c4, rfl, he4, ha4, _, hb4⟩
              obtain ⟨V5, hV5, HR5, HB5, hl5⟩ := reg_new w4 (.int .i64 100) (.int .i64 200) (.int .i64 250) (.slice A4 (m + 1) c4)
              have hc5 := hb4.trans (HB5.out.mono hb4.size)
              have HC5 := hide (HC.out.below hc5)
              have HRO5 := hide (HRV.out.below hc5)
              have HTO5 := hide (HTV.out.below hc5)
              have HE5 := hide (he4.below HB5.out)
              have HA4 := hide ha4
              have HBO5 := hide (HBW.out.trans (hc5.mono HBW.out.size))
              have hs5 := hb4.size
              clear hb4 he4 ha4 hc5 HB5 r0 r1 r2 r3 x0 x1 x2 x3 x4 x5 x6 x7 x8 x9 x10 x11 x12 x13 d0_ d1_ d2_ d3_ d4_ d5_ d6_ d7_ d8_ d9_ d10_ d11_ d12_ d13_ HRx HTx HEx HRV HTV HEV
              have r0 := HR5.out.cell (i := 0) rfl
              have r1 := HR5.out.cell (i := 1) rfl
              have r2 := HR5.out.cell (i := 2) rfl
              have r3 := HR5.out.cell (i := 3) rfl
              have t0 := HC5.out.cell (i := 0) rfl
              go_wp2_with fail
              refine (HAA.out _ A4 c4 HA4.out HE5.out).mono ?_
              rintro e w6 ⟨A6, c6, rfl, he6, ha6, hn6, hb6⟩
              obtain ⟨V7, hV7, HR7, HB7, hl7⟩ := reg_new w6 (.int .i64 100) (.int .i64 200) (.int .i64 250) (.slice A6 (m + 1) c6)
              have hc7 := hb6.trans (HB7.out.mono hb6.size)
              have HRO7 := hide (HRO5.out.below hc7)
              have HTO7 := hide (HTO5.out.below hc7)
              have HE7 := hide (he6.below HB7.out)
              have HA6 := hide ha6
              have HBO7 := hide (HBO5.out.trans (hc7.mono HBO5.out.size))
              have hs7 := hb6.size
              clear hb6 he6 ha6 hc7 HB7 r0 r1 r2 r3 t0
              have r0 := HR7.out.cell (i := 0) rfl
              have r1 := HR7.out.cell (i := 1) rfl
              have r2 := HR7.out.cell (i := 2) rfl
              have r3 := HR7.out.cell (i := 3) rfl
              have q0 := HRO7.out.cell (i := 0) rfl
              have q1 := HRO7.out.cell (i := 1) rfl
              have q2 := HRO7.out.cell (i := 2) rfl
              have q3 := HRO7.out.cell (i := 3) rfl
              have y0 := HRO7.out.frozen 0
              have y1 := HRO7.out.frozen 1
              have y2 := HRO7.out.frozen 2
              have y3 := HRO7.out.frozen 3
              have hk8 := ks4 V7 w1.heap.size (.int .i64 100) (.int .i64 200) (.int .i64 250) (.slice A6 (m + 1) c6)
              have HR8 := hide (set4 HRO7.out (.int .i64 100) (.int .i64 200) (.int .i64 250) (.slice A6 (m + 1) c6))
              have HT8 := hide (hk8.blk HTO7.out (by show ¬ w.heap.size = w1.heap.size; omega))
              have HB8 := hide (HBO7.out.trans (hk8.below HBO7.out.size (by rintro i rfl; omega)))
              have hs8 := hk8.size
              have HN8 : Hid (∀ b off, A6 = some ⟨b, off, none⟩ → V2.heap.size ≤ b) := hide (fun b off e => by have := hn6 b off e; omega)
              have HE8 := hide (hk8.row HE7.out (fun b off e => by have := HN8.out b off e; show ¬ b = w1.heap.size; omega))
              clear hk8
              go_wp2_with fail
              refine ⟨⟨j + 1, 250, A6, c6, ex2, by omega, rfl, rfl, HX2, hide ⟨by omega, by omega⟩, HXL2, ?_, HT8, HE8, HN8, HA6, HB8, by omega⟩, by simp only [intOf]; omega⟩
              rw [HM2.out]
              exact HR8
          · have hjn : j = n := by omega
            subst hjn
            go_wp2_with fail
            refine ⟨⟨2, d1, Ax, cx, ex, by omega, rfl, rfl, hide ?_, hide ⟨HD1.out.2, fun h => by omega, by have := HD1.out.1; omega⟩, hide (by have := HXL.out; omega), HRx, HTx, HEx, HNx, HAx, HBx, hsx⟩, by simp [intOf]⟩
            rw [HEX.out, HE0.out, HES.out, List.take_of_length_le (by rw [HNL.out]; omega)]
            simp
    · have hk2 : k = 2 := by omega
      subst hk2
      have he : es = admL z l := by rw [HES.out]; simp [admL]
      have HEE := hide he
      have r0 := HR.out.cell (i := 0) rfl
      have r1 := HR.out.cell (i := 1) rfl
      have r2 := HR.out.cell (i := 2) rfl
      have r3 := HR.out.cell (i := 3) rfl
      have q0 := HT.out.cell (i := 0) rfl
      have q1 := HT.out.cell (i := 1) rfl
      have q2 := HT.out.cell (i := 2) rfl
      have q3 := HT.out.cell (i := 3) rfl
      have y0 := HT.out.frozen 0
      have y1 := HT.out.frozen 1
      have y2 := HT.out.frozen 2
      have y3 := HT.out.frozen 3
      clear he
      go_wp2_with fail
      refine bodyPost_ret (results_reg rfl _ rfl (set4 HT.out _ _ _ _)) rfl ?_
      have hk8 := ks4 wr w.heap.size (.int .i64 100) (.int .i64 200) (.int .i64 d0) (.slice Ae es.length ce)
      refine ⟨⟨Ae, ⟨ce, d0, by rw [← HEE.out]; rfl⟩, ?_⟩, HB.out.trans (hk8.below HB.out.size (by rintro i rfl; omega))⟩
      rw [← HEE.out]
      exact hk8.row HE.out (fun b off e => by have := HNE.out b off e; show ¬ b = w.heap.size; omega)
end Go.Proofs.YtpbgmpjnfndfjaaGreatDoor.TrP
