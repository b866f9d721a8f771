/- The walk of the program's Match: its two loops. -/
import Derived.Test.YtkllpfijeglppaaDoorHsMg
namespace Go.Proofs.YtkllpfijeglppaaDoor.HsMh
open Go.RowKit Hs HsB HsC HsD HsF HsG HsH HsE HsI HsJ HsK HsL HsM HsN HsO HsP HsQ HsR HsS HsT HsU HsV HsMa HsLaw6 HsMb HsMc HsMd HsMe HsMf HsMe2 HsMg
theorem corr_in (W : World) (a b : HRow) (s : Int) (x : Qin.In (Below W.heap.size W)) (ha : DayIn a) (hb : DayIn b) :
    Calls Tryd.prog 47 #[.agg #[.int .i64 a.day, .int .i64 a.kind, .int .i64 a.src, .int .i64 a.dst, .int .i64 a.amount, .int .i64 a.worth], .agg #[.int .i64 b.day, .int .i64 b.kind, .int .i64 b.src, .int .i64 b.dst, .int .i64 b.amount, .int .i64 b.worth], .int .i64 s] x.val
      fun e w' => e = .returned (.bool (near s a b)) ∧ ∃ y : Qin.In (Below W.heap.size W), w' = y.val :=
  Qin.call ((corr_any a b s _ ha hb).mono fun _ _ ⟨h1, h2⟩ => ⟨h1, x.ok.trans (h2.mono x.ok.size)⟩)
theorem grow_below {w w' : World} {b o : Nat} {r : HRow} (h : RowCells w b o r) (hb : Below w.heap.size w w') (hlt : b < w.heap.size) : RowCells w' b o r := h.keep fun j => hb.cell (p := ⟨b, j, none⟩) hlt
theorem row_new (w : World) (x : HRow) (t : TypeId) : RowCells (w.alloc (.cells #[.int .i64 x.day, .int .i64 x.kind, .int .i64 x.src, .int .i64 x.dst, .int .i64 x.amount, .int .i64 x.worth] t)) w.heap.size 0 x := by
  refine ⟨?_, ?_, ?_, ?_, ?_, ?_⟩ <;> simp
theorem row_alloc {w : World} {b o : Nat} {r : HRow} (h : RowCells w b o r) (hb : b < w.heap.size) (ob : Obj) : RowCells (w.alloc ob) b o r := h.keep fun j => World.cell?_alloc_lt w ob ⟨b, j, none⟩ hb
set_option maxHeartbeats 8000000 in
set_option maxRecDepth 100000 in
theorem pmatch_go (a b : List HRow) (A B : Option Addr) (c c' : Nat) (s : Int) (w : World) (ha : RowsAt w w.heap.size A a) (hb : RowsAt w w.heap.size B b) (hE : matchErr a b s = 0) :
    Calls Tryd.prog 29 #[.slice A a.length c, .slice B b.length c', .int .i64 s] w (MatchPost (pairs s b 0 a (List.replicate b.length false)) 0 w) := by
  obtain ⟨hla, hlb, dA, dB, hs0, hs1, sA, sB⟩ := matchErr_ok hE
  have SA := hide (stepsErr0 sA).symm
  have SB := hide (stepsErr0 sB).symm
  have DA := hide dA
  have DB := hide dB
  have HA := hide ha
  have HB := hide hb
  obtain ⟨ib, hib, hbz0, hbz1, hbz2⟩ := info_parts boolInfo
  obtain ⟨i0, hi0, hz0, hz1, hz2⟩ := info_parts pairInfo
  clear ha hb dA dB sA sB
  go_enter Tryd.func29, Tryd.ntmps29
  go_wp2_with fail
  refine (days_any a _ _ _ HA.out).mono ?_
  rintro e w1 ⟨rfl, hb1⟩
  rw [DA.out]
  go_wp2_with fail
  refine (days_any b _ _ _ ((HB.out.below hb1).mono hb1.size)).mono ?_
  rintro e w2 ⟨rfl, hb2⟩
  rw [DB.out]
  have hb12 := hb1.trans (hb2.mono hb1.size)
  clear hb1 hb2
  go_wp2_with fail
  refine (ordered_any a _ _ _ ((HA.out.below hb12).mono hb12.size)).mono ?_
  rintro e w3 ⟨rfl, hb3⟩
  rw [SA.out]
  have hb13 := hb12.trans (hb3.mono hb12.size)
  clear hb12 hb3
  go_wp2_with fail
  refine (ordered_any b _ _ _ ((HB.out.below hb13).mono hb13.size)).mono ?_
  rintro e w4 ⟨rfl, hb4⟩
  rw [SB.out]
  have hb1 := hb13.trans (hb4.mono hb13.size)
  clear hb13 hb4
  go_wp2_with (first
    | (at_make
       refine wpList_make_full _ rfl (.tmp 47) (.tmp 47) 61 rfl w.heap.size 4 ib _ 1 Tryd.underlying61 hib hbz0 hbz1 .i64 .i64 _ _ b.length rfl rfl ?c1 ?c2 ?c3 ?c4 ?c5 ?_
       case c1 => rfl
       case c2 => rfl
       case c3 => rw [hbz2]; omega
       case c4 => unfold maxLen; omega
       case c5 => exact hb1.size
       intro w5 hown hg))
  rw [made_bvals] at hown
  have hb2 : Below w.heap.size w w5 := hb1.grown hg hb1.size (by simp)
  have hgsz : w.heap.size ≤ w4.heap.size := hb1.size
  have hgl : w4.heap.size < w5.heap.size := (hown.lt _ rfl).2
  have S0 := hide hE
  clear hE hg hb1
  generalize w4.heap.size = g at hown hgsz hgl ⊢
  go_loopw [9, 51] (fun vo vi wr => ∃ (i : Nat) (us : List Bool) (got : List (Nat × Nat)), i ≤ a.length ∧ vi = .int .i64 i ∧ us.length = b.length ∧ got.length ≤ i ∧ Hid (pairs s b 0 a (List.replicate b.length false) = got ++ pairs s b i (a.drop i) us) ∧ wr.ownsRow w.heap.size 4 1 (.slice (some ⟨g, 0, none⟩) b.length b.length) b.length (bvals us) ∧ wr.ownsRow w.heap.size 62 2 vo got.length (pvals got) ∧ vo.ownBlock ≠ some g ∧ Below w.heap.size w wr) (fun _ vi _ => a.length - (intOf vi).toNat)
  case atStart => exact ⟨0, List.replicate b.length false, [], by omega, rfl, by simp, by simp, rfl, hown, World.ownsRow_nil _ _ _ _, by simp [Value.ownBlock], hb2⟩
  case round =>
    obtain ⟨i, us, got, hi, rfl, hus, hgot, HP, ho1, ho2, hne, hbr⟩ := hrel
    clear hown hb2
    by_cases hlt : i < a.length
    · obtain ⟨x, hx⟩ : ∃ r, a[i]? = some r := ⟨_, List.getElem?_eq_getElem hlt⟩
      have hdx : DayIn x := dayIn_of DA.out hx
      have HX := hide hx
      have HD := hide (drop_get hx)
      obtain ⟨wo, rfl⟩ : ∃ wo : World, wo = wr := ⟨_, rfl⟩
      obtain ⟨b1, o1, rfl, hbw1, hc1⟩ := (HA.out.below hbr).2 (by omega)
      obtain ⟨x0, x1, x2, x3, x4, x5⟩ := hc1 i x hx
      clear hx hc1
      go_wp2_with fail
      go_loopw [9, 58] (fun vo vk wq => ∃ (k : Nat), k ≤ b.length ∧ vk = .int .i64 k ∧ vo = u9 ∧ Hid (pick s x b us b.length = pick s x b us (b.length - k)) ∧ wq.ownsRow w.heap.size 4 1 (.slice (some ⟨g, 0, none⟩) b.length b.length) b.length (bvals us) ∧ wq.ownsRow w.heap.size 62 2 u9 got.length (pvals got) ∧ RowCells wq wo.heap.size 0 x ∧ wo.heap.size < wq.heap.size ∧ Below w.heap.size w wq) (fun _ vk _ => b.length - (intOf vk).toNat)
      case atStart => exact ⟨0, by omega, rfl, rfl, rfl, ho1.alloc _, ho2.alloc _, row_new _ _ _, by simp, hbr.alloc hbr.size _⟩
      case round =>
        clear ho1 ho2 x0 x1 x2 x3 x4 x5
        have hbo := hbr.size
        clear hbr
        obtain ⟨k, hk, rfl, rfl, HK, ho1, ho2, hrx, hgx, hbr⟩ := hrel
        by_cases hkl : k < b.length
        · obtain ⟨y, hy⟩ : ∃ r, b[k]? = some r := ⟨_, List.getElem?_eq_getElem hkl⟩
          obtain ⟨u, hu⟩ : ∃ r, us[k]? = some r := ⟨_, List.getElem?_eq_getElem (by omega)⟩
          have hdy : DayIn y := dayIn_of DB.out hy
          obtain ⟨b2, o2, rfl, hbw2, hc2⟩ := (HB.out.below hbr).2 (by omega)
          obtain ⟨c0, c1, c2, c3, c4, c5⟩ := hc2 k y hy
          have hgq : g < wr.heap.size := (ho1.lt _ rfl).2
          have qu : (wr.alloc (.cells #[.int .i64 y.day, .int .i64 y.kind, .int .i64 y.src, .int .i64 y.dst, .int .i64 y.amount, .int .i64 y.worth] 39)).cell? ⟨g, k, none⟩ = some (.bool u) :=
            (World.cell?_alloc_lt _ _ ⟨g, k, none⟩ hgq).trans ((ho1.cellAt k (by omega)).trans (bvals_get _ _ hu))
          have hal := hbr.alloc hbr.size (.cells #[.int .i64 y.day, .int .i64 y.kind, .int .i64 y.src, .int .i64 y.dst, .int .i64 y.amount, .int .i64 y.worth] 39)
          have hoa1 := ho1.alloc (.cells #[.int .i64 y.day, .int .i64 y.kind, .int .i64 y.src, .int .i64 y.dst, .int .i64 y.amount, .int .i64 y.worth] 39)
          have hoa2 := ho2.alloc (.cells #[.int .i64 y.day, .int .i64 y.kind, .int .i64 y.src, .int .i64 y.dst, .int .i64 y.amount, .int .i64 y.worth] 39)
          have hra := row_alloc hrx hgx (.cells #[.int .i64 y.day, .int .i64 y.kind, .int .i64 y.src, .int .i64 y.dst, .int .i64 y.amount, .int .i64 y.worth] 39)
          have HY := hide hy
          have HU := hide hu
          clear hc2 hy hu ho1 ho2 hrx
          have HRA := hide hra
          obtain ⟨a0, a1, a2, a3, a4, a5⟩ := hra
          cases u
          · cases hn : near s x y
            · have HN := Lib.hid hn
              have HNC := fun W => (corr_any x y s W hdx hdy)
              rw [hn] at HNC
              clear hn
              go_wp2_with fail
              refine (HNC _).mono ?_
              rintro e wz ⟨rfl, hbz⟩
              have hoz1 := own_below hoa1 hbz
              have hoz2 := own_below hoa2 hbz
              have hrz := grow_below HRA.out hbz (by simp; omega)
              have hzz := hbz.size
              simp only [World.size_alloc] at hzz
              have hbb := hal.trans (hbz.mono hal.size)
              clear a0 a1 a2 a3 a4 a5 c0 c1 c2 c3 c4 c5 qu HRA
              go_wp2_with fail
              go_roundw
              case rel => exact ⟨k + 1, by omega, by go_num, rfl, by show pick s x b us b.length = _; rw [HK.out]; exact pick_miss HY.out HU.out (.inr HN.out), hoz1, hoz2, hrz, by omega, hbb⟩
              case measure => simp [intOf]; omega
            · have HN := Lib.hid hn
              have HNC := fun W => (corr_any x y s W hdx hdy)
              rw [hn] at HNC
              clear hn
              go_wp2_with fail
              refine (HNC _).mono ?_
              rintro e wz ⟨rfl, hbz⟩
              have hoz1 := own_below hoa1 hbz
              have hoz2 := own_below hoa2 hbz
              have hzz := hbz.size
              simp only [World.size_alloc] at hzz
              have hbb := hal.trans (hbz.mono hal.size)
              have hcz : wz.cell? ⟨g, k, none⟩ = some (.bool false) := (hbz.cell (p := ⟨g, k, none⟩) (by simp; omega)).trans qu
              have hfz := hoz1.frozenAt k
              obtain ⟨hos, hgs⟩ := hoz1.stored k (.bool true)
              have hos2 := hoz2.kept hgs (.inr hne)
              have hbs := hbb.size
              clear a0 a1 a2 a3 a4 a5 c0 c1 c2 c3 c4 c5 qu HRA hbz hal hoa1 hoa2
              go_wp2_with (first
                | (at_builtin
                   refine wpList_append_own _ rfl (.tmp 77) (.tmp 81) 54 rfl w.heap.size 62 i0 _ 2 16 Tryd.underlying54 hi0 hz0 hz1 hz2 rfl (by decide) _ _ _ rfl (hos2.alloc _) ⟨wz.heap.size, 0, none⟩ 1 1 [.int .i64 (i : Int), .int .i64 (k : Int)] rfl rfl ?c1 ?c2 ?c3 ?c4 ?c5 ?_
                   case c1 => simpa using cells_new (wz.setCell ⟨g, k, none⟩ (.bool true)) [.int .i64 (i : Int), .int .i64 (k : Int)] _
                   case c2 => simp [Value.oneCell']
                   case c3 => unfold maxLen; omega
                   case c4 => omega
                   case c5 => simp; omega
                   intro v1 w6 hown1 hg1 _))
              have hoa := (hos.alloc (.cells #[.int .i64 (i : Int), .int .i64 (k : Int)] 62)).kept hg1 (.inr (fun e => hne e.symm))
              have hne1 := own_ne hown1 hoa (by decide)
              go_roundw
              case rel =>
                refine ⟨i + 1, us.set k true, got ++ [(i, k)], by omega, by go_num, by simpa using hus, by simp; omega, ?_, by rw [← bvals_set]; exact hoa, by rw [pvals_snoc, List.length_append]; exact hown1, hne1, ?_⟩
                · show pairs _ _ _ _ _ = _
                  rw [HP.out, HD.out, pairs_drop (k := k) (by rw [HK.out]; exact pick_hit HY.out HU.out HN.out)]
                  simp
                · refine (((hbb.setCell (by show w.heap.size ≤ g; exact hgsz) _).alloc (by simp; omega) _).grown hg1 (by simp; omega) ?_)
                  intro j hj
                  exact (hoz2.lt j hj).1
              case measure => simp [intOf]; omega
          · have hfz := hoa1.frozenAt k
            go_wp2_with fail
            go_roundw
            case rel => exact ⟨k + 1, by omega, by go_num, rfl, by show pick s x b us b.length = _; rw [HK.out]; exact pick_miss HY.out HU.out (.inl rfl), hoa1, hoa2, HRA.out, by simp; omega, hal⟩
            case measure => simp [intOf]; omega
        · have HK0 : Hid (pick s x b us b.length = none) := by
            show _ = _
            rw [HK.out, show b.length - k = 0 by omega]; rfl
          clear hrx
          go_wp2_with fail
          go_roundw
          case rel => exact ⟨i + 1, us, got, by omega, by go_num, hus, by omega, by show pairs _ _ _ _ _ = _; rw [HP.out, HD.out, pairs_skip HK0.out], ho1, ho2, hne, hbr⟩
          case measure => simp [intOf]; omega
    · have HF : Hid (pairs s b 0 a (List.replicate b.length false) = got) := by
        show _ = _
        rw [HP.out, List.drop_eq_nil_of_le (by omega)]; simp [pairs]
      go_wp2_with fail
      go_ret2
      rw [HF.out]
      exact ⟨_, rfl, ho2, hbr⟩
end Go.Proofs.YtkllpfijeglppaaDoor.HsMh
