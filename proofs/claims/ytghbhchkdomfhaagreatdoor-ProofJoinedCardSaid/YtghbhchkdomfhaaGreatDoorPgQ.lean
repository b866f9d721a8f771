/- The walk of the law ProofBack. -/
import Derived.Test.YtghbhchkdomfhaaGreatDoorPgP
namespace Go.Proofs.YtghbhchkdomfhaaGreatDoor.PgQ
open Go.RowKit Wd RoL RnB RnW RnQ RnR RtA RpE RpF PqB PfS PfB PfA PfD PfE PfH PfI PfN PfO PfQ PfU PgG PgH PgP
theorem small_bs {q : Rat} (h1 : nm q < 10000) (h2 : q.den < 10000) : (bs (nm q)).size ≤ 4 ∧ (dstr q).size ≤ 4 := by
  refine ⟨bs_pow (k := 4) (by omega), ?_⟩
  unfold dstr encD
  split
  · simp [st_size]
  · exact bs_pow (k := 4) (by omega)
theorem good_wr {d : Dc} (h : PfV.Good d) : Wr d := by
  obtain ⟨c1, c2, c3, c4, c5, c6, c7, c8, c9, c10, c11⟩ := PfV.check_all h.chk
  obtain ⟨e1, e2, e3⟩ := enc_fix h.v1
  obtain ⟨e4, e5, e6⟩ := enc_fix h.v2
  obtain ⟨s1, s2⟩ := small_bs h.n1 h.n2
  obtain ⟨s3, s4⟩ := small_bs h.n3 h.n4
  have z : ∀ {s : ByteArray} {l : List UInt8}, l = s.data.toList → s = ⟨l.toArray⟩ := fun {s l} e => by rw [e]
  have k1 : d.num = bs (nm d.amt) := z e2
  have k2 : d.den = dstr d.amt := z e3
  have k3 : d.rnum = bs (nm d.rate) := z e5
  have k4 : d.rden = dstr d.rate := z e6
  have hc := code_small c4
  have hcs : d.code.size = 3 := by rw [← PfR.data_len]; exact hc
  have hi := nm_small c1
  exact ⟨by omega, by omega, by rw [k1]; omega, by rw [k2]; omega, by rw [k3]; omega, by rw [k4]; omega, by omega, by omega, by omega, by omega, by omega, by omega, by omega, by omega, by omega, by omega, by omega, by omega⟩
/-- what Format returns for documents of the generator, and what Parse makes of it -/
theorem fmt_good {l : List Dc} (h : ∀ x ∈ l, PfV.Good x) (hu : (l.map (·.id)).Nodup) (hl : l.length ≤ 10) : fmtD l = (textD l, 0) := by
  have := PfV.text_short l h
  exact PfV.fmt_text h hu (by omega) (by omega) (by omega)
theorem parse_good {l : List Dc} (h : ∀ x ∈ l, PfV.Good x) (hu : (l.map (·.id)).Nodup) (hl : l.length ≤ 10) : parseOf (textD l) = (l, 0, 0) := by
  have := PfV.text_short l h
  exact PfV.parse_text h hu (by omega) (by omega) (by omega)
theorem text_size {l : List Dc} (h : ∀ x ∈ l, PfV.Good x) (hl : l.length ≤ 10) : (st (textD l)).size ≤ 2500 := by
  have := PfV.text_short l h
  rw [st_size]; omega
set_option maxHeartbeats 8000000 in
set_option maxRecDepth 100000 in
theorem back_law (A : Option Addr) (n c : Nat) (w : World) (h : PgO.SixesAt w w.heap.size A n) (he : EnvT w) :
    Calls Tryz.prog 7 #[.slice A n c] w fun e w' => e = .returned (.bool true) ∧ Below w.heap.size w w' := by
  have HAW := Lib.hid (fun w (h : EnvT w) => awake_docs w h)
  have HBU := Lib.hid (built_any A n c w h)
  have HE := hide he
  clear h he
  go_enter Tryz.func7, Tryz.ntmps7
  go_wp2_with fail
  refine HBU.out.mono ?_
  rintro e w1 ⟨l, A1, c1, rfl, ⟨hd, _⟩, hl10, hg, hu, hb1⟩
  have HD1 := hide hd
  have HB1 := hide hb1
  have HE1 := hide (HE.out.below hb1)
  have HF := Lib.hid (format_docs l A1 c1 w1 hd (fun x hx => good_wr (hg x hx)) HE1.out)
  rw [fmt_good hg hu hl10] at HF
  unfold FmtP at HF
  dsimp only at HF
  have hts := text_size hg hl10
  have HP := Lib.hid (fun w (he : Env w) => parse_docs (st (textD l)) w (by omega) he)
  rw [show (st (textD l)).data.toList = textD l from rfl, parse_good hg hu hl10] at HP
  unfold ParseP at HP
  dsimp only at HP
  generalize st (textD l) = T at *
  clear hd hg hu hb1
  go_wp2_with fail
  refine HF.out.mono ?_
  rintro e w2 ⟨rfl, hb2⟩
  have HB2 := hide (HB1.out.trans (hb2.mono HB1.out.size))
  have HE2 := hide (HE1.out.below hb2)
  have HD2 := hide (HD1.out.below hb2)
  clear hb2
  go_wp2_with fail
  refine (HP.out _ HE2.out.2.1).mono ?_
  rintro e w3 ⟨A3, c3, rfl, hd3, hb3⟩
  have HB3 := hide (HB2.out.trans (hb3.mono HB2.out.size))
  have HE3 := hide (HE2.out.below hb3)
  have HD3 := hide (HD2.out.below hb3)
  have HM3 := hide hd3
  clear hb3 hd3
  go_wp2_with fail
  refine (HAW.out _ HE3.out).mono ?_
  rintro e w4 ⟨rfl, hb4⟩
  have HB4 := hide (HB3.out.trans (hb4.mono HB3.out.size))
  have HD4 := hide (HD3.out.below hb4)
  have HM4 := hide (HM3.out.below hb4)
  clear hb4
  go_wp2_with fail
  refine (same_docs l A1 A3 c1 c3 _ HD4.out HM4.out).mono ?_
  rintro e w5 ⟨rfl, hb5⟩
  have HB5 := hide (HB4.out.trans (hb5.mono HB4.out.size))
  clear hb5
  go_wp2_with fail
  go_ret
  exact ⟨rfl, HB5.out⟩
end Go.Proofs.YtghbhchkdomfhaaGreatDoor.PgQ
