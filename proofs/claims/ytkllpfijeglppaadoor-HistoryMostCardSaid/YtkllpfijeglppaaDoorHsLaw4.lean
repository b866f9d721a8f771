/- The law HistoryLowest: the plain part and the walk. -/
import Derived.Test.YtkllpfijeglppaaDoorHsLaw3
namespace Go.Proofs.YtkllpfijeglppaaDoor.HsLaw4
open Go.RowKit Hs HsB HsC HsD HsF HsG HsH HsE HsI HsJ HsK HsL HsM HsN HsO HsP HsQ HsR HsS HsT HsU HsV HsW HsLaw1 HsPa HsLaw2 HsLaw3
/-- what the rows of a property add to a balance -/
def sumIf (p : Int) (P : Int → Bool) : List HRow → Int
  | [] => 0
  | r :: l => (if P r.day then money r p else 0) + sumIf p P l
def AllOK (l : List HRow) : Prop := ∀ r ∈ l, RowOK 4 r
theorem AllOK.tail {r : HRow} {l : List HRow} (h : AllOK (r :: l)) : AllOK l := fun x hx => h x (by simp [hx])
theorem balance_eq (p d : Int) (l : List HRow) : ∀ (o : Int), AllOK l → -1000000 + 39 * (l.length : Int) ≤ o → o ≤ 1000000 - 39 * (l.length : Int) → balance p d o l = o + sumIf p (fun x => decide (x ≤ d)) l := by
  induction l with
  | nil => intro o _ _ _; simp [balance, sumIf]
  | cons r l ih =>
    intro o h h1 h2
    have hm := (money_small (h r (by simp)) p).2
    simp only [List.length_cons] at h1 h2
    have hw : wrap64 (o + money r p) = o + money r p := by unfold wrap64; omega
    by_cases hd : r.day ≤ d
    · rw [balance, if_pos hd, hw, ih _ h.tail (by omega) (by omega), sumIf, if_pos (by simpa using hd)]; omega
    · rw [balance, if_neg hd, ih _ h.tail (by omega) (by omega), sumIf, if_neg (by simpa using hd)]; omega
theorem before_eq (p f : Int) (l : List HRow) : ∀ (o : Int), AllOK l → -1000000 + 39 * (l.length : Int) ≤ o → o ≤ 1000000 - 39 * (l.length : Int) → before p f o l = o + sumIf p (fun x => decide (x < f)) l := by
  induction l with
  | nil => intro o _ _ _; simp [before, sumIf]
  | cons r l ih =>
    intro o h h1 h2
    have hm := (money_small (h r (by simp)) p).2
    simp only [List.length_cons] at h1 h2
    have hw : wrap64 (o + money r p) = o + money r p := by unfold wrap64; omega
    by_cases hd : r.day < f
    · rw [before, if_pos hd, hw, ih _ h.tail (by omega) (by omega), sumIf, if_pos (by simpa using hd)]; omega
    · rw [before, if_neg hd, ih _ h.tail (by omega) (by omega), sumIf, if_neg (by simpa using hd)]; omega
theorem sumIf_split (p f d : Int) (h : f - 1 ≤ d) : ∀ l : List HRow, sumIf p (fun x => decide (x ≤ d)) l = sumIf p (fun x => decide (x < f)) l + sumIf p (fun x => decide (f ≤ x ∧ x ≤ d)) l
  | [] => by simp [sumIf]
  | r :: l => by
    have ih := sumIf_split p f d h l
    simp only [sumIf, decide_eq_true_eq]
    rw [ih]
    by_cases h1 : r.day < f
    · rw [if_pos (by omega), if_pos h1, if_neg (by omega)]; omega
    · by_cases h2 : r.day ≤ d
      · rw [if_pos h2, if_neg h1, if_pos ⟨by omega, h2⟩]; omega
      · rw [if_neg h2, if_neg h1, if_neg (by omega)]; omega
theorem sumIf_none (p f d : Int) : ∀ l : List HRow, (∀ r ∈ l, d < r.day) → sumIf p (fun x => decide (f ≤ x ∧ x ≤ d)) l = 0
  | [], _ => rfl
  | r :: l, h => by
    have := h r (by simp)
    rw [sumIf, sumIf_none p f d l (fun x hx => h x (by simp [hx])), if_neg (by simp; omega)]; rfl
theorem sumIf_le (p : Int) (P : Int → Bool) : ∀ l : List HRow, AllOK l → -(39 * (l.length : Int)) ≤ sumIf p P l ∧ sumIf p P l ≤ 39 * (l.length : Int)
  | [], _ => by simp [sumIf]
  | r :: l, h => by
    have hm := (money_small (h r (by simp)) p).2
    have ih := sumIf_le p P l h.tail
    simp only [sumIf, List.length_cons]
    split <;> omega
theorem during_le (p f t : Int) : ∀ (l : List HRow) (o m : Int), during p f t o m l ≤ m
  | [], _, _ => by simp [during]
  | r :: l, o, m => by
    rw [during]
    split
    · have := during_le p f t l (wrap64 (o + money r p)) (if wrap64 (o + money r p) < m then wrap64 (o + money r p) else m)
      split at this <;> rename_i h <;> first | (rw [if_pos h]; omega) | (rw [if_neg h]; omega)
    · exact during_le p f t l o m
theorem during_low (p f t d : Int) (hd : d ≤ t) (l : List HRow) : ∀ (o m : Int), AllOK l → l.Pairwise (fun a b => a.day ≤ b.day) → -1000000 + 39 * (l.length : Int) ≤ o → o ≤ 1000000 - 39 * (l.length : Int) → m ≤ o →
    during p f t o m l ≤ o + sumIf p (fun x => decide (f ≤ x ∧ x ≤ d)) l := by
  induction l with
  | nil => intro o m _ _ _ _ h; simp [during, sumIf]; omega
  | cons r l ih =>
    intro o m hok hs h1 h2 hm
    have hmm := (money_small (hok r (by simp)) p).2
    have hrest : ∀ x ∈ l, r.day ≤ x.day := fun x hx => List.rel_of_pairwise_cons hs hx
    have hs' := (List.pairwise_cons.1 hs).2
    simp only [List.length_cons] at h1 h2
    have hw : wrap64 (o + money r p) = o + money r p := by unfold wrap64; omega
    by_cases hin : f ≤ r.day ∧ r.day ≤ t
    · by_cases hrd : r.day ≤ d
      · rw [during, if_pos hin, hw, sumIf, if_pos (show decide (f ≤ r.day ∧ r.day ≤ d) = true from decide_eq_true ⟨hin.1, hrd⟩)]
        have ih' := ih (o + money r p) (if o + money r p < m then o + money r p else m) hok.tail hs' (by omega) (by omega) (by split <;> omega)
        omega
      · have hz : sumIf p (fun x => decide (f ≤ x ∧ x ≤ d)) (r :: l) = 0 := sumIf_none p f d _ (fun x hx => by
          rcases List.mem_cons.1 hx with rfl | hx
          · omega
          · have := hrest x hx; omega)
        have := during_le p f t (r :: l) o m
        omega
    · rw [during, if_neg hin, sumIf, if_neg (show ¬ decide (f ≤ r.day ∧ r.day ≤ d) = true by rw [decide_eq_true_eq]; omega)]
      have ih' := ih o m hok.tail hs' (by omega) (by omega) hm
      omega
theorem low_ok {x : List HRow} {p f t o d : Int} (hok : AllOK x) (hs : x.Pairwise (fun a b => a.day ≤ b.day)) (hl : x.length ≤ 20) (ho : -32768 ≤ o ∧ o ≤ 32767) (h1 : f - 1 ≤ d) (h2 : d ≤ t) : lowest p f t o x ≤ balance p d o x := by
  obtain ⟨o1, o2⟩ := ho
  have hb := before_eq p f x o hok (by omega) (by omega)
  have hbal := balance_eq p d x o hok (by omega) (by omega)
  have hsum := sumIf_le p (fun x => decide (x < f)) x hok
  have hd := during_low p f t d h2 x (before p f o x) (before p f o x) hok hs (by omega) (by omega) (Int.le_refl _)
  have hsp := sumIf_split p f d h1 x
  unfold lowest
  omega
/-- whether some balance between the rows of a period is the lowest one -/
def metOf (p f t low : Int) : Int → Bool → List HRow → Bool
  | _, met, [] => met
  | s, met, r :: l => if f ≤ r.day ∧ r.day ≤ t then metOf p f t low (wrap64 (s + money r p)) (met || wrap64 (s + money r p) == low) l else metOf p f t low s met l
theorem met_ok (p f t : Int) : ∀ (l : List HRow) (o m : Int) (met : Bool), (m = during p f t o m l → met = true) → metOf p f t (during p f t o m l) o met l = true
  | [], o, m, met, h => h rfl
  | r :: l, o, m, met, h => by
    rw [during] at h ⊢
    rw [metOf]
    split
    · rename_i hin
      rw [if_pos hin] at h
      refine met_ok p f t l _ _ _ (fun he => ?_)
      by_cases hlt : wrap64 (o + money r p) < m
      · rw [if_pos hlt] at he ⊢
        rw [← he]; simp
      · rw [if_neg hlt] at he h
        rw [if_neg hlt, h he]; rfl
    · rename_i hin
      rw [if_neg hin] at h
      exact met_ok p f t l o m met h
theorem before_pred (p f : Int) : ∀ (l : List HRow) (o : Int), balance p (f - 1) o l = before p f o l
  | [], _ => rfl
  | r :: l, o => by
    rw [balance, before]
    by_cases h : r.day < f
    · rw [if_pos (by omega), if_pos h]; exact before_pred p f l _
    · rw [if_neg (by omega), if_neg h]; exact before_pred p f l _
set_option maxHeartbeats 4000000 in
set_option maxRecDepth 100000 in
theorem lowest_law (A : Option Addr) (n c : Nat) (q o f g : Int) (w : World) (hf : FivesAt w w.heap.size A n) (hq : 0 ≤ q ∧ q ≤ 255) (ho : -32768 ≤ o ∧ o ≤ 32767) (hff : 0 ≤ f ∧ f ≤ 255) (hgg : 0 ≤ g ∧ g ≤ 255) (he : Env w) :
    Calls Tryd.prog 9 #[.slice A n c, .int .u8 q, .int .i16 o, .int .u8 f, .int .u8 g] w fun e w' => e = .returned (.bool true) ∧ Below w.heap.size w w' := by
  obtain ⟨hq0, hq1⟩ := hq
  obtain ⟨ho0, ho1⟩ := ho
  obtain ⟨hf0, hf1⟩ := hff
  obtain ⟨hg0, hg1⟩ := hgg
  have HF := hide hf
  clear hf
  go_enter Tryd.func9, Tryd.ntmps9
  go_wp2_with fail
  refine (rows4_any A n c 20 w HF.out (by omega)).mono ?_
  rintro e w1 ⟨v, x, rfl, hbu, hxm, hown, hb1⟩
  obtain ⟨B, cp, rfl⟩ := own_slice hown
  have hx := rows_of_own hown (own_len hown)
  have hlow : Hid (∀ d, f % 60 - 1 ≤ d → d ≤ f % 60 + g % 40 → lowest (q % 4) (f % 60) (f % 60 + g % 40) o x ≤ balance (q % 4) d o x) := fun d h1 h2 => low_ok (fun r hr => (hbu.1 r hr).1) hbu.2 hxm ⟨ho0, ho1⟩ h1 h2
  have hmet : Hid (metOf (q % 4) (f % 60) (f % 60 + g % 40) (lowest (q % 4) (f % 60) (f % 60 + g % 40) o x) (balance (q % 4) (f % 60 - 1) o x) (balance (q % 4) (f % 60 - 1) o x == lowest (q % 4) (f % 60) (f % 60 + g % 40) o x) x = true) := by
    show metOf _ _ _ _ _ _ _ = true
    rw [before_pred]
    exact met_ok _ _ _ x _ _ _ (fun h => by rw [beq_iff_eq]; exact h)
  have HX := hide hx
  clear hown hbu hx
  go_wp2_with (go_at_call 24; (with_reducible refine (lowest_any x B cp _ _ _ _ w1 HX.out).mono ?_); rintro e w2 ⟨rfl, hb2⟩; have hbb2 := hb1.trans (hb2.mono hb1.size))
  go_loopw [16] (fun vd wr => ∃ d : Int, f % 60 - 1 ≤ d ∧ d ≤ f % 60 + g % 40 + 1 ∧ vd = .int .i64 d ∧ Below w2.heap.size w2 wr) (fun vd _ => (f % 60 + g % 40 + 1 - intOf vd).toNat)
  case atStart => exact ⟨_, by omega, by omega, rfl, Below.refl _ _⟩
  case round =>
    obtain ⟨d, hd1, hd2, rfl, hbr⟩ := hrel
    have hbr2 := hb2.trans (hbr.mono hb2.size)
    have hxr := (HX.out.below hbr2).mono hbr2.size
    have HXR := hide hxr
    clear hxr
    by_cases hle : d ≤ f % 60 + g % 40
    · have hlo : ¬ balance (q % 4) d o x < lowest (q % 4) (f % 60) (f % 60 + g % 40) o x := by have := hlow.out d hd1 hle; omega
      go_wp2_with (go_at_call 22; (with_reducible refine (balance_any x B cp _ _ _ wr HXR.out).mono ?_); rintro e w3 ⟨rfl, hb3⟩)
      go_roundw
      case rel => exact ⟨d + 1, by omega, by omega, by go_num, hbr.trans (hb3.mono hbr.size)⟩
      case measure => simp [intOf]; omega
    · clear hd1 hd2
      go_wp2_with (go_at_call 22; (with_reducible refine (balance_any x B cp _ _ _ wr HXR.out).mono ?_); rintro e w3 ⟨rfl, hb3⟩)
      have hbr3 := hbr2.trans (hb3.mono hbr2.size)
      go_loopw [17, 18, 19] (fun vs vm vi wz => ∃ (k : Nat) (s : Int) (met : Bool), k ≤ x.length ∧ vi = .int .i64 k ∧ vs = .int .i64 s ∧ vm = .bool met ∧ metOf (q % 4) (f % 60) (f % 60 + g % 40) (lowest (q % 4) (f % 60) (f % 60 + g % 40) o x) s met (x.drop k) = true ∧ Below w1.heap.size w1 wz) (fun _ _ vi _ => x.length - (intOf vi).toNat)
      case atStart => exact ⟨0, _, _, by omega, rfl, rfl, rfl, hmet.out, hbr3⟩
      case round =>
        obtain ⟨k, s, met, hk, rfl, rfl, rfl, hm, hbz⟩ := hrel
        have HM := hide hm
        clear hm
        by_cases hlt : k < x.length
        · obtain ⟨r, hr⟩ : ∃ r, x[k]? = some r := ⟨_, List.getElem?_eq_getElem hlt⟩
          obtain ⟨b, off, rfl, hbw, hc⟩ := (HX.out.below hbz).2 (by omega)
          obtain ⟨c0, c1, c2, c3, c4, c5⟩ := hc k r hr
          have hdr := hide (drop_get hr)
          clear hr hc
          by_cases h1 : f % 60 ≤ r.day
          · by_cases h2 : r.day ≤ f % 60 + g % 40
            · have hnext : Hid (metOf (q % 4) (f % 60) (f % 60 + g % 40) (lowest (q % 4) (f % 60) (f % 60 + g % 40) o x) (wrap64 (s + money r (q % 4))) (met || wrap64 (s + money r (q % 4)) == lowest (q % 4) (f % 60) (f % 60 + g % 40) o x) (x.drop (k + 1)) = true) := by
                have := HM.out
                rw [hdr.out, metOf, if_pos ⟨h1, h2⟩] at this
                exact this
              cases met
              all_goals
                go_wp2_with (go_at_call 20; refine (money_any r _ _).mono ?_; rintro e w' ⟨rfl, rfl⟩)
                go_roundw
                case rel => exact ⟨k + 1, _, _, by omega, by go_num, rfl, rfl, hnext.out, hbz.alloc hbz.size _⟩
                case measure => simp [intOf]; omega
            · have hnext : Hid (metOf (q % 4) (f % 60) (f % 60 + g % 40) (lowest (q % 4) (f % 60) (f % 60 + g % 40) o x) s met (x.drop (k + 1)) = true) := by
                have := HM.out
                rw [hdr.out, metOf, if_neg (fun h => h2 h.2)] at this
                exact this
              go_wp2_with fail
              go_roundw
              case rel => exact ⟨k + 1, s, met, by omega, by go_num, rfl, rfl, hnext.out, hbz⟩
              case measure => simp [intOf]; omega
          · have hnext : Hid (metOf (q % 4) (f % 60) (f % 60 + g % 40) (lowest (q % 4) (f % 60) (f % 60 + g % 40) o x) s met (x.drop (k + 1)) = true) := by
              have := HM.out
              rw [hdr.out, metOf, if_neg (fun h => h1 h.1)] at this
              exact this
            go_wp2_with fail
            go_roundw
            case rel => exact ⟨k + 1, s, met, by omega, by go_num, rfl, rfl, hnext.out, hbz⟩
            case measure => simp [intOf]; omega
        · have hfin : met = true := by
            have := HM.out
            rw [List.drop_eq_nil_of_le (by omega)] at this
            exact this
          subst hfin
          go_wp2_with (go_at_call 13; refine (awake_any _ (he.below (hb1.trans (hbz.mono hb1.size)))).mono ?_; rintro e w4 ⟨rfl, hb4⟩)
          go_ret
          exact ⟨rfl, (hb1.trans (hbz.mono hb1.size)).trans (hb4.mono (Nat.le_trans hb1.size hbz.size))⟩
end Go.Proofs.YtkllpfijeglppaaDoor.HsLaw4
