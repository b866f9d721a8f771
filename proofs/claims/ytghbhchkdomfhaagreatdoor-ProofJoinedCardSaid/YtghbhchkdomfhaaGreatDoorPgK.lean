/- The walks of the reference's dec and Format. -/
import Derived.Test.YtghbhchkdomfhaaGreatDoorPgJ
import Derived.Test.YtghbhchkdomfhaaGreatDoorPfV
import Derived.Test.YtghbhchkdomfhaaGreatDoorRtD
namespace Go.Proofs.YtghbhchkdomfhaaGreatDoor.PgK
open Go.RowKit Wd RoL RoA RoC RnA RnB RnW RnQ RnR RnP RtA RpC RpE RpF PqB PfS PfB PfA PfD PfE PfG PfH PfI PfO PfP PfQ PfR PfT PfU PgA PgC PgJ
theorem dec_decOf : ∀ (n u : Nat), u ≤ n → RnD.decOf u = Lib.decDigits u := by
  intro n
  induction n with
  | zero =>
    intro u hu
    obtain rfl : u = 0 := by omega
    rw [RnD.decOf_small (by omega), PfV.dec_step, if_pos (by omega)]
  | succ n ih =>
    intro u hu
    rw [PfV.dec_step]
    by_cases h : u < 10
    · rw [RnD.decOf_small h, if_pos h]
    · rw [RnD.decOf_big h, if_neg h, ih (u / 10) (by omega)]
theorem itoa_decOf (u : Nat) : Lib.itoa (u : Int) = RnD.decOf u := by rw [Lib.itoa_nonneg, dec_decOf u u (Nat.le_refl _)]
set_option maxHeartbeats 4000000 in
theorem dec_any (n : Int) (w : World) (h0 : 0 ≤ n) (h1 : n ≤ 9223372036854775807) :
    Calls Tryz.prog 47 #[.int .i64 n] w fun e w' => e = .returned (.string (st (Lib.itoa n))) ∧ Below w.heap.size w w' := by
  obtain ⟨u, rfl⟩ := Int.eq_ofNat_of_zero_le h0
  have HF := Lib.hid (fun w => RoD.rfrom_any u w (by omega))
  have hsz : (bs u).size ≤ 19 := bs_pow (k := 19) (by omega)
  have HN := Lib.hid (fun w => PnJ.rnatformat_any (bs u) w (by omega))
  rw [nv_bs, ← itoa_decOf] at HN
  have hu : u ≤ 9223372036854775807 := by omega
  clear hsz h0 h1
  go_enter Tryz.func47, Tryz.ntmps47
  go_wp2_with fail
  refine (HF.out _).mono ?_
  rintro e w1 ⟨rfl, hb1⟩
  go_wp2_with fail
  refine (HN.out _).mono ?_
  rintro e w2 ⟨rfl, hb2⟩
  go_wp2_with fail
  go_ret
  exact ⟨rfl, below_next hb1 hb2⟩
/-- the first six lines of a document, and the others -/
def six (d : Dc) : List UInt8 := ln [kProof, d.id.data.toList] ++ ln [kEstate, Lib.itoa d.est] ++ ln [kCreditor, Lib.itoa d.cred] ++ ln [kAmount, d.code.data.toList, formatQ d.amt] ++ ln [kIncurred, Lib.itoa d.inc] ++ ln [kRank, Lib.itoa d.rank]
def intL (d : Dc) : List UInt8 := if 0 < sgnQ d.rate then ln [kInterest, formatQ d.rate, kFrom, Lib.itoa d.rfrom] else []
def secL (d : Dc) : List UInt8 := if 0 ≤ d.sec then ln [kSecured, Lib.itoa d.sec] else []
theorem doc_parts (d : Dc) : docL d = six d ++ intL d ++ secL d := rfl
theorem ln_two (a b : List UInt8) : ln [a, b] = a ++ 32 :: b ++ [10] := by unfold ln; rw [PfV.join_two, Lib.join_one]
theorem ln_three (a b c : List UInt8) : ln [a, b, c] = a ++ 32 :: (b ++ 32 :: c) ++ [10] := by unfold ln; rw [PfV.join_two, PfV.join_two, Lib.join_one]
theorem ln_four (a b c d : List UInt8) : ln [a, b, c, d] = a ++ 32 :: (b ++ 32 :: (c ++ 32 :: d)) ++ [10] := by unfold ln; rw [PfV.join_two, PfV.join_two, PfV.join_two, Lib.join_one]
theorem six_sum (L : List UInt8) (d : Dc) : st L ++ ⟨#[112, 114, 111, 111, 102, 32]⟩ ++ d.id ++ ⟨#[10, 101, 115, 116, 97, 116, 101, 32]⟩ ++ st (Lib.itoa d.est) ++ ⟨#[10, 99, 114, 101, 100, 105, 116, 111, 114, 32]⟩ ++ st (Lib.itoa d.cred) ++ ⟨#[10, 97, 109, 111, 117, 110, 116, 32]⟩ ++ d.code ++ ⟨#[32]⟩ ++ st (formatQ d.amt) ++ ⟨#[10, 105, 110, 99, 117, 114, 114, 101, 100, 32]⟩ ++ st (Lib.itoa d.inc) ++ ⟨#[10, 114, 97, 110, 107, 32]⟩ ++ st (Lib.itoa d.rank) ++ ⟨#[10]⟩ = st (L ++ six d) := by
  apply ext_bytes
  simp only [app_data, st_data]
  unfold six
  rw [ln_two, ln_two, ln_two, ln_three, ln_two, ln_two]
  simp [kProof, kEstate, kCreditor, kAmount, kIncurred, kRank]
theorem int_sum (L : List UInt8) (d : Dc) (h : 0 < sgnQ d.rate) : st L ++ ⟨#[105, 110, 116, 101, 114, 101, 115, 116, 32]⟩ ++ st (formatQ d.rate) ++ ⟨#[32, 102, 114, 111, 109, 32]⟩ ++ st (Lib.itoa d.rfrom) ++ ⟨#[10]⟩ = st (L ++ intL d) := by
  apply ext_bytes
  simp only [app_data, st_data]
  unfold intL
  rw [if_pos h, ln_four]
  simp [kInterest, kFrom]
theorem sec_sum (L : List UInt8) (d : Dc) (h : 0 ≤ d.sec) : st L ++ ⟨#[115, 101, 99, 117, 114, 101, 100, 32]⟩ ++ st (Lib.itoa d.sec) ++ ⟨#[10]⟩ = st (L ++ secL d) := by
  apply ext_bytes
  simp only [app_data, st_data]
  unfold secL
  rw [if_pos h, ln_two]
  simp [kSecured]
theorem int_none (d : Dc) (h : ¬ 0 < sgnQ d.rate) : intL d = [] := if_neg h
theorem sec_none (d : Dc) (h : ¬ 0 ≤ d.sec) : secL d = [] := if_neg h
theorem spl_last (c : UInt8) : ∀ (s cur : List UInt8), (splA c cur (s ++ [c])).getLast? = some []
  | [], cur => by simp [splA]
  | x :: s, cur => by
    rw [List.cons_append, splA]
    have hne := fun q => (splA_len c (s ++ [c]) q).2
    split
    · rw [List.getLast?_cons, spl_last c s []]; rfl
    · exact spl_last c s _
theorem lines_len {s : List UInt8} (h : s = [] ∨ ∃ t, s = t ++ [10]) : (linesL s).length = Lib.count s [10] := by
  have hc := splA_count 10 s.length s [] (Nat.le_refl _)
  have hl : (splA 10 [] s).getLast?.getD [] = [] := by
    rcases h with rfl | ⟨t, rfl⟩
    · rfl
    · rw [spl_last]; rfl
  unfold linesL
  rw [if_pos hl, List.length_dropLast, hc]
  rfl
theorem ln_end (ws : List (List UInt8)) : ∃ t, ln ws = t ++ [10] := ⟨_, rfl⟩
theorem app_end {a b : List UInt8} (h : ∃ t, a = t ++ [10]) (h2 : b = [] ∨ ∃ t, b = t ++ [10]) : ∃ t, a ++ b = t ++ [10] := by
  rcases h2 with rfl | ⟨t, rfl⟩
  · rw [List.append_nil]; exact h
  · exact ⟨a ++ t, by rw [List.append_assoc]⟩
theorem doc_end (d : Dc) : ∃ t, docL d = t ++ [10] := by
  rw [doc_parts]
  refine app_end (app_end ?_ ?_) ?_
  · unfold six ln
    exact ⟨_, (List.append_assoc _ _ _).symm⟩
  · unfold intL
    split
    · exact .inr (ln_end _)
    · exact .inl rfl
  · unfold secL
    split
    · exact .inr (ln_end _)
    · exact .inl rfl
theorem text_end (l : List Dc) : textD l = [] ∨ ∃ t, textD l = t ++ [10] := by
  rcases List.eq_nil_or_concat l with rfl | ⟨m, x, rfl⟩
  · exact .inl rfl
  · right
    rw [List.concat_eq_append, textD_snoc]
    obtain ⟨t, ht⟩ := doc_end x
    exact ⟨textD m ++ t, by rw [ht, List.append_assoc]⟩
theorem DocsAt.take {w : World} {A : Option Addr} {l : List Dc} (h : DocsAt w A l) (k : Nat) : DocsAt w A (l.take k) := by
  refine ⟨by have := h.1; rw [List.length_take]; omega, fun hp => ?_⟩
  obtain ⟨b, off, e, hb, hc⟩ := h.2 (by rw [List.length_take] at hp; omega)
  refine ⟨b, off, e, hb, fun i x hx j v hv => hc i x ?_ j v hv⟩
  have hi := (List.getElem?_eq_some_iff.1 hx).1
  rw [List.length_take] at hi
  rwa [List.getElem?_take_of_lt (by omega)] at hx
theorem seen_take (l : List Dc) (k : Nat) (s : ByteArray) : (l.take k).any (fun d => d.id.toList == s.toList) = seenB ((l.take k).map (·.id)) s := by
  unfold seenB
  rw [List.any_map]
  rfl
/-- the state of Format's first loop -/
structure Ck (l : List Dc) (k : Nat) : Prop where
  err : errD [] l = errD ((l.take k).map (·.id)) (l.drop k)
  ok : okAll (l.take k)
theorem ck_start (l : List Dc) : Ck l 0 := ⟨rfl, fun d hd => by simp at hd⟩
theorem ck_next {l : List Dc} {k : Nat} {x : Dc} (h : Ck l k) (hx : l[k]? = some x) (h0 : checkD x = 0) (h1 : seenB ((l.take k).map (·.id)) x.id = false) : Ck l (k + 1) :=
  ⟨by rw [h.err, err_on hx h0 h1, take_snoc hx, List.map_append]; rfl, ok_snoc hx h.ok h0⟩
theorem b6 {l : List Dc} {k : Nat} (hb : l.length ≤ 64) (hk : k ≤ l.length) (ha : okAll (l.take k)) (hf : ∀ x ∈ l, Wr x) : (st (textD (l.take k))).size ≤ 60000000 := by
  have := text_len (l.take k) ha (fun y hy => hf y (List.mem_of_mem_take hy))
  rw [List.length_take] at this
  rw [st_size]
  omega
theorem all_take {l : List Dc} (h : okAll l) (k : Nat) : okAll (l.take k) := fun d hd => h d (List.mem_of_mem_take hd)
theorem fmt_post2 {l : List Dc} {q : List UInt8 × Int} {w w' : World} (h : fmtD l = q) (hb : Below w.heap.size w w') : FmtP (fmtD l) w (.returned (.tuple #[.string (st q.1), .int .i64 q.2])) w' := fmt_post h hb
set_option maxHeartbeats 16000000 in
set_option maxRecDepth 100000 in
theorem rformat_docs (l : List Dc) (A : Option Addr) (c : Nat) (w : World) (h : DocsAt w A l) (hcap : l.length ≤ c) (hf : ∀ x ∈ l, Wr x) :
    Calls Tryz.prog 21 #[.slice A l.length c] w (FmtP (fmtD l) w) := by
  have hlen := h.1
  unfold maxLen at hlen
  have H := hide h
  have HF := Lib.hid hf
  obtain ⟨r, hr⟩ : ∃ r, fmtD l = r := ⟨_, rfl⟩
  rw [hr]
  have HR := hide hr
  clear h hf hr
  by_cases hbig : 64 < l.length
  · have hout := hide (HR.out.symm.trans (fmt_long hbig))
    go_enter Tryz.func21, Tryz.ntmps21
    go_wp2_with fail
    go_ret2
    exact fmt_post hout.out (Below.refl _ _)
  · have HB := hide hbig
    have hb' : l.length ≤ 64 := by omega
    clear hbig
    go_enter Tryz.func21, Tryz.ntmps21
    go_wp2_with fail
    go_loopw [4, 5] (fun vi _ wr => ∃ (k : Nat), k ≤ l.length ∧ vi = .int .i64 k ∧ Hid (Ck l k) ∧ Hid (Below w.heap.size w wr)) (fun vi _ _ => l.length - (intOf vi).toNat)
    case atStart => exact ⟨0, by omega, rfl, hide (ck_start l), Below.refl _ _⟩
    case round =>
      obtain ⟨k, hk, rfl, HC, HBR⟩ := hrel
      by_cases hlt : k < l.length
      · obtain ⟨x, hx⟩ : ∃ r, l[k]? = some r := ⟨_, List.getElem?_eq_getElem hlt⟩
        have hfx := HF.out x (List.mem_of_getElem? hx)
        have HDR := hide (H.out.below HBR.out)
        obtain ⟨b1, o1, rfl, hb1, p0, p1, p2, p3, p4, p5, p6, p7, p8, p9, p10, p11, p12, p13⟩ := HDR.out.full hx
        have HCK := Lib.hid (rcheck_any x wr (Wr.ok hfx))
        unfold PfA.Dc.agg at HCK
        have HXX := hide hx
        obtain ⟨cd, hcd⟩ : ∃ cd, checkD x = cd := ⟨_, rfl⟩
        rw [hcd] at HCK
        have HCD := hide hcd
        clear hx hcd
        by_cases h0 : cd = 0
        · subst h0
          obtain ⟨sn, hsn⟩ : ∃ sn, seenB ((l.take k).map (·.id)) x.id = sn := ⟨_, rfl⟩
          have HSN := hide hsn
          go_wp2_with fail
          refine HCK.out.mono ?_
          rintro e w3 ⟨rfl, hb3⟩
          have HD3 := hide (HDR.out.below hb3)
          have HB3 := hide (HBR.out.trans (hb3.mono HBR.out.size))
          have q0 := at_in (p := ⟨b1, o1 + k * 14, none⟩) (w := w3) (by show b1 < w3.heap.size; have := hb3.size; omega) ((hb3.cell (p := ⟨b1, o1 + k * 14, none⟩) hb1).trans p0)
          have HKN : Hid (∀ v : Qin.In (Below w3.heap.size w3), Calls Tryz.prog 43 #[.slice (some ⟨b1, o1, none⟩) k c, .string x.id] v.val fun e w' => e = .returned (.bool sn) ∧ ∃ y : Qin.In (Below w3.heap.size w3), w' = y.val) := fun v => by
            have := known_any (l.take k) (some ⟨b1, o1, none⟩) c x.id v.val (DocsAt.take (HD3.out.below v.ok) k)
            rw [seen_take, HSN.out, List.length_take, Nat.min_eq_left hk] at this
            exact Qin.call (this.mono fun e w' ⟨h1, h2⟩ => ⟨h1, by rw [h2]; exact v.ok⟩)
          clear hb3 p0 p1 p2 p3 p4 p5 p6 p7 p8 p9 p10 p11 p12 p13 hsn
          go_wp2_with fail
          refine Qin.region (I := Below w3.heap.size w3) (Qin.start _ w3) (by kernel_rfl) (by kernel_rfl) ?_
          repeat (go_big_quiet_step ((go_at_call 43; with_reducible exact HKN.out _)))
          refine wpQuiet_nil ?_
          intro v
          have HBV := hide (HB3.out.trans (v.ok.mono HB3.out.size))
          clear q0
          cases sn
          · have HN := hide (ck_next HC.out HXX.out HCD.out HSN.out)
            go_wp2_with fail
            go_roundw
            case rel => exact ⟨k + 1, by omega, by go_num, HN, HBV⟩
            case measure => simp [intOf]; omega
          · have HER := hide (HR.out.symm.trans (fmt_err HB.out (HC.out.err.trans (err_twice HXX.out HCD.out HSN.out)) (by decide)))
            go_wp2_with fail
            go_ret2
            exact fmt_post HER.out HBV.out
        · have HER := hide (HR.out.symm.trans (fmt_err HB.out ((HC.out.err.trans (err_check HXX.out (by rw [HCD.out]; exact h0))).trans HCD.out) h0))
          have hb0 : (cd != 0) = true := by simpa using h0
          have hb2 : (cd == 0) = false := by simpa using h0
          clear h0
          go_wp2_with fail
          refine HCK.out.mono ?_
          rintro e w3 ⟨rfl, hb3⟩
          have HB3 := hide (HBR.out.trans (hb3.mono HBR.out.size))
          clear hb3 p0 p1 p2 p3 p4 p5 p6 p7 p8 p9 p10 p11 p12 p13
          go_wp2_with fail
          refine Qin.region (I := Below w3.heap.size w3) (Qin.start _ w3) (by kernel_rfl) (by kernel_rfl) ?_
          repeat (go_big_quiet_step (fail))
          refine wpQuiet_nil ?_
          intro v
          have HBV := hide (HB3.out.trans (v.ok.mono HB3.out.size))
          go_wp2_with fail
          go_ret2
          exact fmt_post HER.out HBV.out
      · obtain rfl : k = l.length := by omega
        have hal := HC.out.ok
        rw [List.take_length] at hal
        have HOK := Lib.hid hal
        have HER := hide (HC.out.err.trans (err_end l _))
        have HBX := HBR
        clear hal
        go_wp2_with fail
        clear HBR
        go_loopw [6, 7, 8] (fun vs vi _ wr => ∃ (j : Nat), j ≤ l.length ∧ vi = .int .i64 j ∧ vs = .string (st (textD (l.take j))) ∧ Hid (Below w.heap.size w wr)) (fun _ vi _ _ => l.length - (intOf vi).toNat)
        case atStart => exact ⟨0, by omega, rfl, rfl, HBX⟩
        case round =>
          obtain ⟨j, hj, rfl, rfl, HBT⟩ := hrel
          have hsz := b6 hb' hj (all_take HOK.out j) HF.out
          by_cases hlt : j < l.length
          · obtain ⟨x, hx⟩ : ∃ r, l[j]? = some r := ⟨_, List.getElem?_eq_getElem hlt⟩
            have hxm := List.mem_of_getElem? hx
            have hfx := HF.out x hxm
            obtain ⟨c1, c2, c3, c4, c5, c6, c7, c8, c9, c10, c11⟩ := PfV.check_all (HOK.out x hxm)
            obtain ⟨b1, o1, rfl, hb1, p0, p1, p2, p3, p4, p5, p6, p7, p8, p9, p10, p11, p12, p13⟩ := (H.out.below HBT.out).full hx
            obtain ⟨V, hV, HX, HBV, hsV⟩ := doc_new wr x
            have HVT := hide (HBT.out.trans (HBV.out.mono HBT.out.size))
            have zid : x.id.size ≤ 100000 := hfx.id
            have zcode : x.code.size ≤ 100000 := hfx.code
            have ze := itoa_sz hfx.est0 hfx.est1
            have zc := itoa_sz hfx.cred0 hfx.cred1
            have zi := itoa_sz hfx.inc0 hfx.inc1
            have zr := itoa_sz hfx.rank0 hfx.rank1
            have zf := itoa_sz hfx.from0 hfx.from1
            have zs := itoa_sz hfx.sec0 hfx.sec1
            have za := fq_size (b := x.neg) hfx.num hfx.den
            have zt := fq_size (b := x.rneg) hfx.rnum hfx.rden
            change (st (formatQ x.amt)).size ≤ _ at za
            change (st (formatQ x.rate)).size ≤ _ at zt
            have D1 := Lib.hid (fun v : Qin.In (Below V.heap.size V) => Qin.call ((dec_any x.est v.val c2.1 (by omega)).mono fun e w' ⟨h1, h2⟩ => ⟨h1, v.ok.trans (h2.mono v.ok.size)⟩))
            have D2 := Lib.hid (fun v : Qin.In (Below V.heap.size V) => Qin.call ((dec_any x.cred v.val c3.1 (by omega)).mono fun e w' ⟨h1, h2⟩ => ⟨h1, v.ok.trans (h2.mono v.ok.size)⟩))
            have D3 := Lib.hid (fun v : Qin.In (Below V.heap.size V) => Qin.call ((dec_any x.inc v.val c6.1 (by omega)).mono fun e w' ⟨h1, h2⟩ => ⟨h1, v.ok.trans (h2.mono v.ok.size)⟩))
            have D4 := Lib.hid (fun v : Qin.In (Below V.heap.size V) => Qin.call ((dec_any x.rank v.val c7.1 (by omega)).mono fun e w' ⟨h1, h2⟩ => ⟨h1, v.ok.trans (h2.mono v.ok.size)⟩))
            have D5 := Lib.hid (fun v : Qin.In (Below V.heap.size V) => Qin.call ((RtD.rformat_any x.neg x.num x.den v.val hfx.num hfx.den).mono fun e w' ⟨h1, h2⟩ => ⟨h1, v.ok.trans (h2.mono v.ok.size)⟩))
            change Hid (∀ v : Qin.In (Below V.heap.size V), Calls _ _ _ _ fun e w' => e = .returned (.string (st (formatQ x.amt))) ∧ _) at D5
            have HSG := Lib.hid (fun w => RtH.rsign_any x.rneg x.rnum x.rden w (by have := hfx.rnum; omega) (by have := hfx.rden; omega))
            change Hid (∀ (w : World), Calls _ _ _ w fun e w' => e = .returned (.int .i64 (sgnQ x.rate)) ∧ Below w.heap.size w w') at HSG
            have HFR := Lib.hid (fun w => RtD.rformat_any x.rneg x.rnum x.rden w hfx.rnum hfx.rden)
            unfold SPost at HFR
            change Hid (∀ (w : World), Calls _ _ _ w fun e w' => e = .returned (.string (st (formatQ x.rate))) ∧ Below w.heap.size w w') at HFR
            have HDF := Lib.hid (fun w => dec_any x.rfrom w c9.1 (by omega))
            have HDS := Lib.hid (fun w (h : 0 ≤ x.sec) => dec_any x.sec w h (by omega))
            have S6 := hide (six_sum (textD (l.take j)) x)
            have SI := Lib.hid (fun h => int_sum (textD (l.take j) ++ six x) x h)
            have SS := Lib.hid (fun L h => sec_sum L x h)
            have SN := hide (show textD (l.take (j + 1)) = textD (l.take j) ++ six x ++ intL x ++ secL x by rw [take_snoc hx, textD_snoc, doc_parts]; simp [List.append_assoc])
            have SIN := Lib.hid (fun h => int_none x h)
            have SSN := Lib.hid (fun h => sec_none x h)
            have hs6 : (st (textD (l.take j) ++ six x)).size ≤ 61000000 := by
              rw [← S6.out]
              simp only [ByteArray.size_append]
              change _ + 6 + _ + 8 + _ + 10 + _ + 8 + _ + 1 + _ + 10 + _ + 6 + _ + 1 ≤ _
              omega
            obtain ⟨a0, a1, a2, a3, a4, a5, a6, a7, a8, a9, a10, a11, a12, a13⟩ := doc_at HX.out
            have m0 := at_in (p := ⟨wr.heap.size, 0, none⟩) hsV a0
            have m1 := at_in (p := ⟨wr.heap.size, 0 + 1, none⟩) hsV a1
            have m2 := at_in (p := ⟨wr.heap.size, 0 + 2, none⟩) hsV a2
            have m3 := at_in (p := ⟨wr.heap.size, 0 + 3, none⟩) hsV a3
            have m4 := at_in (p := ⟨wr.heap.size, 0 + 4, none⟩) hsV a4
            have m5 := at_in (p := ⟨wr.heap.size, 0 + 5, none⟩) hsV a5
            have m6 := at_in (p := ⟨wr.heap.size, 0 + 6, none⟩) hsV a6
            have m7 := at_in (p := ⟨wr.heap.size, 0 + 7, none⟩) hsV a7
            have m8 := at_in (p := ⟨wr.heap.size, 0 + 8, none⟩) hsV a8
            clear hx a0 a1 a2 a3 a4 a5 a6 a7 a8 a9 a10 a11 a12 a13 hxm
            generalize hT0 : st (textD (l.take j)) = T0 at *
            generalize hT1 : st (textD (l.take j) ++ six x) = T1 at *
            generalize st (Lib.itoa x.est) = E1 at *
            generalize st (Lib.itoa x.cred) = E2 at *
            generalize st (Lib.itoa x.inc) = E3 at *
            generalize st (Lib.itoa x.rank) = E4 at *
            generalize st (Lib.itoa x.rfrom) = E5 at *
            generalize st (Lib.itoa x.sec) = E6 at *
            generalize st (formatQ x.amt) = F1 at *
            generalize st (formatQ x.rate) = F2 at *
            have HT1 := hide hT1
            clear hT0 hT1
            go_wp2_with fail
            refine Qin.region (I := Below V.heap.size V) (Qin.start _ V) (by kernel_rfl) (by kernel_rfl) ?_
            repeat (go_big_quiet_step (first | (go_at_call 47; first | with_reducible exact D1.out _ | with_reducible exact D2.out _ | with_reducible exact D3.out _ | with_reducible exact D4.out _) | (go_at_call 48; with_reducible exact D5.out _)))
            refine wpQuiet_nil ?_
            intro v
            rw [S6.out]
            have HXV := hide (HX.out.below v.ok)
            have HBW := hide (HVT.out.trans (v.ok.mono HVT.out.size))
            have hwv : wr.heap.size < v.val.heap.size := HXV.out.lt
            clear m0 m1 m2 m3 m4 m5 m6 m7 m8 D1 D2 D3 D4 D5 hV
            obtain ⟨wv, hwe⟩ : ∃ wv, wv = v.val := ⟨_, rfl⟩
            rw [← hwe] at HXV HBW hwv ⊢
            clear hwe v
            obtain ⟨a0, a1, a2, a3, a4, a5, a6, a7, a8, a9, a10, a11, a12, a13⟩ := doc_at HXV.out
            by_cases hr : 0 < sgnQ x.rate
            · obtain ⟨T2, hT2⟩ : ∃ T2, st (textD (l.take j) ++ six x ++ intL x) = T2 := ⟨_, rfl⟩
              have hsi := SI.out hr
              rw [hT2] at hsi
              have HSI := hide hsi
              have HT2 := hide hT2
              have hs7 : T2.size ≤ 62000000 := by
                rw [← hsi]
                simp only [ByteArray.size_append]
                change _ + 9 + _ + 6 + _ + 1 ≤ _
                omega
              clear hsi hT2
              go_wp2_with fail
              refine (HSG.out _).mono ?_
              rintro e w3 ⟨rfl, hb3⟩
              have HX3 := hide (HXV.out.below hb3)
              have HB3 := hide (HBW.out.trans (hb3.mono HBW.out.size))
              have hw3 : wr.heap.size < w3.heap.size := HX3.out.lt
              clear hb3 a0 a1 a2 a3 a4 a5 a6 a7 a8 a9 a10 a11 a12 a13
              obtain ⟨a0, a1, a2, a3, a4, a5, a6, a7, a8, a9, a10, a11, a12, a13⟩ := doc_at HX3.out
              have m9 := at_in (p := ⟨wr.heap.size, 0 + 9, none⟩) hw3 a9
              have m10 := at_in (p := ⟨wr.heap.size, 0 + 10, none⟩) hw3 a10
              have m11 := at_in (p := ⟨wr.heap.size, 0 + 11, none⟩) hw3 a11
              have m12 := at_in (p := ⟨wr.heap.size, 0 + 12, none⟩) hw3 a12
              have G1 := Lib.hid (fun v : Qin.In (Below w3.heap.size w3) => Qin.call ((HFR.out v.val).mono fun e w' ⟨h1, h2⟩ => ⟨h1, v.ok.trans (h2.mono v.ok.size)⟩))
              have G2 := Lib.hid (fun v : Qin.In (Below w3.heap.size w3) => Qin.call ((HDF.out v.val).mono fun e w' ⟨h1, h2⟩ => ⟨h1, v.ok.trans (h2.mono v.ok.size)⟩))
              clear a0 a1 a2 a3 a4 a5 a6 a7 a8 a9 a10 a11 a12 a13
              go_wp2_with fail
              refine Qin.region (I := Below w3.heap.size w3) (Qin.start _ w3) (by kernel_rfl) (by kernel_rfl) ?_
              repeat (go_big_quiet_step (first | (go_at_call 47; with_reducible exact G2.out _) | (go_at_call 48; with_reducible exact G1.out _)))
              refine wpQuiet_nil ?_
              intro v
              rw [HSI.out]
              have HX4 := hide (HX3.out.below v.ok)
              have HB4 := hide (HB3.out.trans (v.ok.mono HB3.out.size))
              obtain ⟨wv, hwe⟩ : ∃ wv, wv = v.val := ⟨_, rfl⟩
              rw [← hwe] at HX4 HB4 ⊢
              clear hwe v m9 m10 m11 m12 G1 G2
              obtain ⟨a0, a1, a2, a3, a4, a5, a6, a7, a8, a9, a10, a11, a12, a13⟩ := doc_at HX4.out
              by_cases hs : 0 ≤ x.sec
              · have HDD := Lib.hid (fun w => HDS.out w hs)
                have hss := SS.out (textD (l.take j) ++ six x ++ intL x) hs
                rw [HT2.out] at hss
                have HSS := hide hss
                clear hss
                go_wp2_with fail
                refine (HDD.out _).mono ?_
                rintro e w5 ⟨rfl, hb5⟩
                have HB5 := hide (HB4.out.trans (hb5.mono HB4.out.size))
                clear hb5 a0 a1 a2 a3 a4 a5 a6 a7 a8 a9 a10 a11 a12 a13
                go_wp2_with fail
                go_roundw
                case rel => exact ⟨j + 1, by omega, by go_num, by rw [HSS.out, SN.out], HB5⟩
                case measure => simp [intOf]; omega
              · have HSNN := hide (SSN.out (by omega))
                go_wp2_with fail
                go_roundw
                case rel => exact ⟨j + 1, by omega, by go_num, by rw [SN.out, HSNN.out, List.append_nil, HT2.out], HB4⟩
                case measure => simp [intOf]; omega
            · have hin := SIN.out (by omega)
              have HIN := hide hin
              clear hin
              go_wp2_with fail
              refine (HSG.out _).mono ?_
              rintro e w3 ⟨rfl, hb3⟩
              have HX4 := hide (HXV.out.below hb3)
              have HB4 := hide (HBW.out.trans (hb3.mono HBW.out.size))
              clear hb3 a0 a1 a2 a3 a4 a5 a6 a7 a8 a9 a10 a11 a12 a13
              obtain ⟨a0, a1, a2, a3, a4, a5, a6, a7, a8, a9, a10, a11, a12, a13⟩ := doc_at HX4.out
              by_cases hs : 0 ≤ x.sec
              · have HDD := Lib.hid (fun w => HDS.out w hs)
                have hss := SS.out (textD (l.take j) ++ six x) hs
                rw [HT1.out] at hss
                have HSS := hide hss
                clear hss
                go_wp2_with fail
                refine (HDD.out _).mono ?_
                rintro e w5 ⟨rfl, hb5⟩
                have HB5 := hide (HB4.out.trans (hb5.mono HB4.out.size))
                clear hb5 a0 a1 a2 a3 a4 a5 a6 a7 a8 a9 a10 a11 a12 a13
                go_wp2_with fail
                go_roundw
                case rel => exact ⟨j + 1, by omega, by go_num, by rw [HSS.out, SN.out, HIN.out, List.append_nil], HB5⟩
                case measure => simp [intOf]; omega
              · have HSNN := hide (SSN.out (by omega))
                go_wp2_with fail
                go_roundw
                case rel => exact ⟨j + 1, by omega, by go_num, by rw [SN.out, HSNN.out, HIN.out, List.append_nil, List.append_nil, HT1.out], HB4⟩
                case measure => simp [intOf]; omega
          · obtain rfl : j = l.length := by omega
            rw [List.take_length] at hsz ⊢
            have HLN := Lib.hid (fun w => lines_any (st (textD l)) w hsz)
            unfold LinesP at HLN
            rw [st_data, lines_len (text_end l)] at HLN
            have hst2 := st_size (textD l)
            have H1 := Lib.hid (fun hb hc => fmt_ok (l := l) HB.out HER.out hb hc)
            have H2 := Lib.hid (fun hb => fmt_big (l := l) HB.out HER.out hb)
            rw [← hst2] at H1 H2
            obtain ⟨cn, hcc⟩ : ∃ cn, Lib.count (textD l) [10] = cn := ⟨_, rfl⟩
            rw [hcc] at H1 H2 HLN
            generalize hT : st (textD l) = T at *
            have HT := hide hT
            generalize endedL (textD l) = en at *
            clear hst2 hcc hT
            by_cases h8 : 8192 < T.size
            · have HQ := hide (HR.out.symm.trans (H2.out (.inl h8)))
              clear H1 H2
              go_wp2_with fail
              refine (HLN.out _).mono ?_
              rintro e w3 ⟨A3, c3, rfl, _, hb3⟩
              have HB3 := hide (HBT.out.trans (hb3.mono HBT.out.size))
              clear hb3
              go_wp2_with fail
              go_ret2
              exact fmt_post HQ.out HB3.out
            · by_cases h5 : 512 < cn
              · have HQ := hide (HR.out.symm.trans (H2.out (.inr h5)))
                clear H1 H2
                go_wp2_with fail
                refine (HLN.out _).mono ?_
                rintro e w3 ⟨A3, c3, rfl, _, hb3⟩
                have HB3 := hide (HBT.out.trans (hb3.mono HBT.out.size))
                clear hb3
                go_wp2_with fail
                go_ret2
                exact fmt_post HQ.out HB3.out
              · have HQ := hide (HR.out.symm.trans (H1.out h8 h5))
                clear H1 H2
                go_wp2_with fail
                refine (HLN.out _).mono ?_
                rintro e w3 ⟨A3, c3, rfl, _, hb3⟩
                have HB3 := hide (HBT.out.trans (hb3.mono HBT.out.size))
                clear hb3
                go_wp2_with fail
                go_ret2
                have hf := fmt_post HQ.out HB3.out
                rw [show st (textD l, (0 : Int)).1 = T from HT.out] at hf
                exact hf
end Go.Proofs.YtghbhchkdomfhaaGreatDoor.PgK
