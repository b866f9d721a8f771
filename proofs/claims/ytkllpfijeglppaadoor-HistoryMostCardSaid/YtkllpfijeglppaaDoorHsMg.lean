/- The walk of the reference's Match: its two loops. -/
import Derived.Test.YtkllpfijeglppaaDoorHsMe2
import Derived.Test.YtkllpfijeglppaaDoorQin
namespace Go.Proofs.YtkllpfijeglppaaDoor.HsMg
open Go.RowKit Hs HsB HsC HsD HsF HsG HsH HsE HsI HsJ HsK HsL HsM HsN HsO HsP HsQ HsR HsS HsT HsU HsV HsMa HsLaw6 HsMb HsMc HsMd HsMe HsMf HsMe2
def bvals (l : List Bool) : List Value := l.map .bool
theorem bvals_set (l : List Bool) (k : Nat) : (bvals l).set k (.bool true) = bvals (l.set k true) := by simp [bvals, List.map_set]
theorem bvals_get (l : List Bool) (k : Nat) {u : Bool} (h : l[k]? = some u) : (bvals l)[k]? = some (.bool u) := by simp [bvals, h]
theorem pairs_drop {s : Int} {b : List HRow} {i : Nat} {x : HRow} {a : List HRow} {used : List Bool} {k : Nat} (h : pick s x b used b.length = some k) : pairs s b i (x :: a) used = (i, k) :: pairs s b (i + 1) a (used.set k true) := by rw [pairs, h]
theorem pairs_skip {s : Int} {b : List HRow} {i : Nat} {x : HRow} {a : List HRow} {used : List Bool} (h : pick s x b used b.length = none) : pairs s b i (x :: a) used = pairs s b (i + 1) a used := by rw [pairs, h]
theorem made_bvals (n : Nat) : (madeCells (Value.bool false).cells (n * 1)).toList = bvals (List.replicate n false) := by
  simp [madeCells, Value.cells, bvals, Nat.mod_one, List.map_const']
/-- two rows of different types lie in different blocks -/
theorem own_ne {w : World} {B B' e e' size size' n n' c g : Nat} {v : Value} {xs xs' : List Value} (h : w.ownsRow B e size v n xs) (h' : w.ownsRow B' e' size' (.slice (some ⟨g, 0, none⟩) n' c) n' xs') (hne : e ≠ e') : v.ownBlock ≠ some g := by
  intro hv
  rcases h.2 with ⟨rfl, _⟩ | ⟨g1, cap, cur, rfl, _, hh, _⟩
  · simp [Value.ownBlock] at hv
  · rcases h'.2 with ⟨h0, _⟩ | ⟨g2, cap', cur', h0, _, hh', _⟩
    · cases h0
    · simp only [Value.slice.injEq, Option.some.injEq, Addr.mk.injEq, and_true, true_and] at h0
      obtain ⟨rfl, rfl⟩ := h0
      have : g1 = g := by simpa [Value.ownBlock] using hv
      subst this
      rw [hh] at hh'
      injection hh' with hh'
      injection hh' with _ ht
      exact hne ht
/-- the rows of a list in every world that grew out of one -/
theorem rows_in {w : World} {b' off B : Nat} {l : List HRow} {k : Nat} {r : HRow} (h : ∀ k r, l[k]? = some r → RowCells w b' (off + k * 6) r) (hk : l[k]? = some r) (hB : b' < B) (hBs : B ≤ w.heap.size) (y : Qin.In (Below w.heap.size w)) : RowCells y.val b' (off + k * 6) r :=
  (h k r hk).keep fun j => y.ok.cell (p := ⟨b', j, none⟩) (by show b' < _; omega)
theorem near_in (W : World) (a b : HRow) (s : Int) (x : Qin.In (Below W.heap.size W)) (ha : DayIn a) (hb : DayIn b) :
    Calls Tryd.prog 49 #[.agg #[.int .i64 a.day, .int .i64 a.kind, .int .i64 a.src, .int .i64 a.dst, .int .i64 a.amount, .int .i64 a.worth], .agg #[.int .i64 b.day, .int .i64 b.kind, .int .i64 b.src, .int .i64 b.dst, .int .i64 b.amount, .int .i64 b.worth], .int .i64 s] x.val
      fun e w' => e = .returned (.bool (near s a b)) ∧ ∃ y : Qin.In (Below W.heap.size W), w' = y.val :=
  Qin.call ((near_any a b s _ ha hb).mono fun _ _ ⟨h1, h2⟩ => ⟨h1, x.ok.trans (h2.mono x.ok.size)⟩)
set_option maxHeartbeats 8000000 in
set_option maxRecDepth 100000 in
theorem rmatch_go (a b : List HRow) (A B : Option Addr) (c c' : Nat) (s : Int) (w : World) (ha : RowsAt w w.heap.size A a) (hb : RowsAt w w.heap.size B b) (hE : matchErr a b s = 0) :
    Calls Tryd.prog 30 #[.slice A a.length c, .slice B b.length c', .int .i64 s] w (MatchPost (pairs s b 0 a (List.replicate b.length false)) 0 w) := by
  obtain ⟨hla, hlb, dA, dB, _, _, _, _⟩ := matchErr_ok hE
  have DA := hide dA
  have DB := hide dB
  have HA := hide ha
  have HB := hide hb
  obtain ⟨ib, hib, hbz0, hbz1, hbz2⟩ := info_parts boolInfo
  obtain ⟨i0, hi0, hz0, hz1, hz2⟩ := info_parts pairInfo
  clear ha hb dA dB
  go_enter Tryd.func30, Tryd.ntmps30
  go_wp2_with fail
  refine (check_any a b _ _ _ _ s _ HA.out HB.out).mono ?_
  rintro e w1 ⟨rfl, hb1⟩
  rw [hE]
  go_wp2_with (first
    | (at_make
       refine wpList_make_full _ rfl (.tmp 21) (.tmp 21) 61 rfl w.heap.size 4 ib _ 1 Tryd.underlying61 hib hbz0 hbz1 .i64 .i64 _ _ b.length rfl rfl ?c1 ?c2 ?c3 ?c4 ?c5 ?_
       case c1 => rfl
       case c2 => rfl
       case c3 => rw [hbz2]; omega
       case c4 => unfold maxLen; omega
       case c5 => exact hb1.size
       intro w2 hown hg))
  rw [made_bvals] at hown
  have hb2 : Below w.heap.size w w2 := hb1.grown hg hb1.size (by simp)
  have hgsz : w.heap.size ≤ w1.heap.size := hb1.size
  have hgl : w1.heap.size < w2.heap.size := (hown.lt _ rfl).2
  have S0 := hide hE
  clear hE hg hb1
  generalize w1.heap.size = g at hown hgsz hgl ⊢
  go_loopw [10, 11] (fun vo vi wr => ∃ (i : Nat) (us : List Bool) (got : List (Nat × Nat)), i ≤ a.length ∧ vi = .int .i64 i ∧ us.length = b.length ∧ got.length ≤ i ∧ Hid (pairs s b 0 a (List.replicate b.length false) = got ++ pairs s b i (a.drop i) us) ∧ wr.ownsRow w.heap.size 4 1 (.slice (some ⟨g, 0, none⟩) b.length b.length) b.length (bvals us) ∧ wr.ownsRow w.heap.size 62 2 vo got.length (pvals got) ∧ vo.ownBlock ≠ some g ∧ Below w.heap.size w wr) (fun _ vi _ => a.length - (intOf vi).toNat)
  case atStart => exact ⟨0, List.replicate b.length false, [], by omega, rfl, by simp, by simp, rfl, hown, World.ownsRow_nil _ _ _ _, by simp [Value.ownBlock], hb2⟩
  case round =>
    obtain ⟨i, us, got, hi, rfl, hus, hgot, HP, ho1, ho2, hne, hbr⟩ := hrel
    clear hown hb2
    by_cases hlt : i < a.length
    · obtain ⟨x, hx⟩ : ∃ r, a[i]? = some r := ⟨_, List.getElem?_eq_getElem hlt⟩
      have hdx : DayIn x := dayIn_of DA.out hx
      have HX := hide hx
      have HD := hide (drop_get hx)
      clear hx
      obtain ⟨wo, rfl⟩ : ∃ wo : World, wo = wr := ⟨_, rfl⟩
      go_wp2_with fail
      go_loopw [10, 12] (fun vo vk wq => ∃ (k : Nat), k ≤ b.length ∧ vk = .int .i64 k ∧ vo = u10 ∧ Hid (pick s x b us b.length = pick s x b us (b.length - k)) ∧ wq.ownsRow w.heap.size 4 1 (.slice (some ⟨g, 0, none⟩) b.length b.length) b.length (bvals us) ∧ wq.ownsRow w.heap.size 62 2 u10 got.length (pvals got) ∧ Below w.heap.size w wq) (fun _ vk _ => b.length - (intOf vk).toNat)
      case atStart => exact ⟨0, by omega, rfl, rfl, rfl, ho1, ho2, hbr⟩
      case round =>
        clear ho1 ho2 hbr
        obtain ⟨k, hk, rfl, rfl, HK, ho1, ho2, hbr⟩ := hrel
        by_cases hkl : k < b.length
        · obtain ⟨y, hy⟩ : ∃ r, b[k]? = some r := ⟨_, List.getElem?_eq_getElem hkl⟩
          obtain ⟨u, hu⟩ : ∃ r, us[k]? = some r := ⟨_, List.getElem?_eq_getElem (by omega)⟩
          have hdy : DayIn y := dayIn_of DB.out hy
          obtain ⟨b1, o1, rfl, hbw1, hc1⟩ := (HA.out.below hbr).2 (by omega)
          obtain ⟨b2, o2, rfl, hbw2, hc2⟩ := (HB.out.below hbr).2 (by omega)
          have q1 := fun z => rows_in hc1 HX.out hbw1 hbr.size z
          have q2 := fun z => rows_in hc2 hy hbw2 hbr.size z
          have hgq : g < wr.heap.size := (ho1.lt _ rfl).2
          have qu : ∀ z : Qin.In (Below wr.heap.size wr), z.val.cell? ⟨g, k, none⟩ = some (.bool u) := fun z =>
            (z.ok.cell (p := ⟨g, k, none⟩) hgq).trans ((ho1.cellAt k (by omega)).trans (bvals_get _ _ hu))
          haveI : Nonempty (Qin.In (Below wr.heap.size wr)) := ⟨⟨wr, Below.refl _ _⟩⟩
          have HY := hide hy
          have HU := hide hu
          clear hc1 hc2 hy hu
          have Q1 := Lib.hid q1
          have Q2 := Lib.hid q2
          clear q1 q2
          cases u
          · have a0 := fun z => (Q1.out z).1
            have a1 := fun z => (Q1.out z).2.1
            have a2 := fun z => (Q1.out z).2.2.1
            have a3 := fun z => (Q1.out z).2.2.2.1
            have a4 := fun z => (Q1.out z).2.2.2.2.1
            have a5 := fun z => (Q1.out z).2.2.2.2.2
            have c0 := fun z => (Q2.out z).1
            have c1 := fun z => (Q2.out z).2.1
            have c2 := fun z => (Q2.out z).2.2.1
            have c3 := fun z => (Q2.out z).2.2.2.1
            have c4 := fun z => (Q2.out z).2.2.2.2.1
            have c5 := fun z => (Q2.out z).2.2.2.2.2
            go_wp2_with fail
            refine Qin.region (I := Below wr.heap.size wr) (Qin.start _ wr) (by kernel_rfl) (by kernel_rfl) ?_
            repeat (go_big_quiet_step ((go_at_call 49; exact near_in _ x y s _ hdx hdy)))
            refine wpQuiet_nil ?_
            intro z
            have hoz1 := own_below ho1 z.ok
            have hoz2 := own_below ho2 z.ok
            have hbz := hbr.trans (z.ok.mono hbr.size)
            have hcz := qu z
            have hfz := hoz1.frozenAt k
            clear a0 a1 a2 a3 a4 a5 c0 c1 c2 c3 c4 c5 qu Q1 Q2
            cases hn : near s x y
            · have HN := Lib.hid hn
              go_wp2_with fail
              go_roundw
              case rel => exact ⟨k + 1, by omega, by go_num, rfl, by show pick s x b us b.length = _; rw [HK.out]; exact pick_miss HY.out HU.out (.inr HN.out), hoz1, hoz2, hbz⟩
              case measure => simp [intOf]; omega
            · have HN := Lib.hid hn
              obtain ⟨hos, hgs⟩ := hoz1.stored k (.bool true)
              have hos2 := hoz2.kept hgs (.inr hne)
              go_wp2_with (first
                | (at_builtin
                   refine wpList_append_own _ rfl (.tmp 55) (.tmp 59) 54 rfl w.heap.size 62 i0 _ 2 16 Tryd.underlying54 hi0 hz0 hz1 hz2 rfl (by decide) _ _ _ rfl (hos2.alloc _) ⟨z.val.heap.size, 0, none⟩ 1 1 [.int .i64 (i : Int), .int .i64 (k : Int)] rfl rfl ?c1 ?c2 ?c3 ?c4 ?c5 ?_
                   case c1 => simpa using cells_new (z.val.setCell ⟨g, k, none⟩ (.bool true)) [.int .i64 (i : Int), .int .i64 (k : Int)] _
                   case c2 => simp [Value.oneCell']
                   case c3 => unfold maxLen; omega
                   case c4 => omega
                   case c5 => have h1 := hbr.size; have h2 := z.ok.size; simp; omega
                   intro v1 w4 hown1 hg1 _))
              have hoa := (hos.alloc (.cells #[.int .i64 (i : Int), .int .i64 (k : Int)] 62)).kept hg1 (.inr (fun e => hne e.symm))
              have hne1 := own_ne hown1 hoa (by decide)
              go_roundw
              case rel =>
                refine ⟨i + 1, us.set k true, got ++ [(i, k)], by omega, by go_num, by simpa using hus, by simp; omega, ?_, by rw [← bvals_set]; exact hoa, by rw [pvals_snoc, List.length_append]; exact hown1, hne1, ?_⟩
                · show pairs _ _ _ _ _ = _
                  rw [HP.out, HD.out, pairs_drop (k := k) (by rw [HK.out]; exact pick_hit HY.out HU.out HN.out)]
                  simp
                · refine (((hbz.setCell (by show w.heap.size ≤ g; exact hgsz) _).alloc (by have := hbz.size; simp; omega) _).grown hg1 (by have := hbz.size; simp; omega) ?_)
                  intro j hj
                  exact (hoz2.lt j hj).1
              case measure => simp [intOf]; omega
          · have hfz := ho1.frozenAt k
            go_wp2_with fail
            refine Qin.region (I := Below wr.heap.size wr) (Qin.start _ wr) (by kernel_rfl) (by kernel_rfl) ?_
            repeat (go_big_quiet_step (fail))
            refine wpQuiet_nil ?_
            intro z
            have hoz1 := own_below ho1 z.ok
            have hoz2 := own_below ho2 z.ok
            have hbz := hbr.trans (z.ok.mono hbr.size)
            go_wp2_with fail
            go_roundw
            case rel => exact ⟨k + 1, by omega, by go_num, rfl, by show pick s x b us b.length = _; rw [HK.out]; exact pick_miss HY.out HU.out (.inl rfl), hoz1, hoz2, hbz⟩
            case measure => simp [intOf]; omega
        · have HK0 : Hid (pick s x b us b.length = none) := by
            show _ = _
            rw [HK.out, show b.length - k = 0 by omega]; rfl
          go_wp2_with fail
          go_roundw
          case rel => exact ⟨i + 1, us, got, by omega, by go_num, hus, by omega, by show pairs _ _ _ _ _ = _; rw [HP.out, HD.out, pairs_skip HK0.out], ho1, ho2, hne, hbr⟩
          case measure => simp [intOf]; omega
    · have HF : Hid (pairs s b 0 a (List.replicate b.length false) = got) := by
        show _ = _
        rw [HP.out, List.drop_eq_nil_of_le (by omega)]; simp [pairs]
      go_wp2_with fail
      go_ret2
      rw [HF.out]
      exact ⟨_, rfl, ho2, hbr⟩
end Go.Proofs.YtkllpfijeglppaaDoor.HsMg
