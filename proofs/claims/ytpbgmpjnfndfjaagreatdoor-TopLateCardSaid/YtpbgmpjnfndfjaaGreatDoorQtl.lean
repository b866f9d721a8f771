/- A region that draws its order: a head whose operations and calls keep a class of worlds, then stores in one order. -/
import Derived.Test.YtpbgmpjnfndfjaaGreatDoorQin
import Derived.StillTail
namespace Go.Proofs.YtpbgmpjnfndfjaaGreatDoor.Qtl
theorem here : True := trivial
open Go.RowKit
section
variable {P : Program} {ops : Array Oper} {md : Region.Mode} {C : World → Prop}
/-- whatever order is picked: the head's operations first, then L -/
def heads (P : Program) (md : Region.Mode) (ops : Array Oper) (C : World → Prop) (n : Nat) (L : Array Bool → Act → Prop) : Nat → Array Bool → Act → Prop
  | 0, done, a => L done a
  | f + 1, done, a => Region.ready md ops done ≠ [] ∧ ∀ i ∈ Region.ready md ops done, i < n ∧ qOp P ops C i (heads P md ops C n L f (done.setIfInBounds i true)) a
theorem heads_wp {n g : Nat} {L : Array Bool → Act → Prop} {Q' : Exit → Act → World → Prop} (hL : ∀ done a w, C w → L done a → wpAny P md ops Q' g done a w) :
    ∀ (f : Nat) (done : Array Bool) (a : Act) (w : World), C w → heads P md ops C n L f done a → wpAny P md ops Q' (f + g) done a w
  | 0, _, _, _, hw, h => by rw [Nat.zero_add]; exact hL _ _ _ hw h
  | f + 1, _, _, _, hw, h => by
    rw [Nat.add_right_comm f 1 g]
    exact ⟨fun h0 => absurd h0 h.1, fun i hi => wpOp_of_qOp hw (fun a' w' hw' h' => heads_wp hL f _ a' w' hw' h') (h.2 i hi).2⟩
/-- an operation of the head that may come now may be taken first -/
theorem heads_first {n i : Nat} {oi : Oper} {v : Value} {L : Array Bool → Act → Prop} (hi : ops[i]? = some oi) (hsel : ∀ (j : Nat) (o : Oper) cs b, ops[j]? = some o → o.op ≠ .select cs b)
    (hs : Region.sinkB md ops n = true) (hc : Region.chainB md ops n = true) (hn : n < ops.size) (hin : i < n) (hL : ∀ done a, L done a → ∀ j ∈ Region.ready md ops done, n ≤ j) :
    ∀ (f : Nat) (done : Array Bool) (a : Act), HeadInv md ops n done →
      (∀ j oj, ops[j]? = some oj → j ≠ i → done.getD j true = false → (∀ e ∈ oj.after, Region.binds md e = true → e.on ≠ i) → oi.apart ops oj = true) →
      i ∈ Region.ready md ops done → YieldsIn P ops C oi v a → heads P md ops C n L f (done.setIfInBounds i true) (a.put oi.dst v) → heads P md ops C n L (f + 1) done a
  | f, done, a, inv, hfree, hr, hy, H => by
    have hun := (mem_ready.1 hr).1
    have low : ∀ j ∈ Region.ready md ops done, j < n := fun j hj => by
      rcases Nat.lt_or_ge j n with h | h
      · exact h
      · exact absurd hj (tail_waits hs hc hn inv _ i rfl hin hun j h)
    refine ⟨fun h => (by rw [h] at hr; cases hr), fun j hj => ⟨low j hj, ?_⟩⟩
    by_cases hji : j = i
    · subst hji; exact hy.qOp hi H
    · match f, H with
      | 0, H =>
        have h1 := hL _ _ H j (ready_mono hj hji)
        have h2 := low j hj
        omega
      | f + 1, H =>
        have h1 := (H.2 j (ready_mono hj hji)).2
        obtain ⟨hjun, oj, hoj, hall⟩ := mem_ready.1 hj
        have hnot : ∀ e ∈ oj.after, Region.binds md e = true → e.on ≠ i := fun e he hb heq => by
          have h3 := hall e he hb
          rw [heq, getD_both hun] at h3
          cases h3
        have h2 := qOp_put hoj (hfree j oj hoj hji hjun hnot) (fun cs b => hsel i oi cs b hi) (fun cs b => hsel j oj cs b hoj) hy h1
        refine qOp_mono (fun a' h3 => heads_first hi hsel hs hc hn hin hL f _ a' (inv.set hj (low j hj)) ?_ (ready_mono hr (Ne.symm hji)) h3.1 ?_) h2
        · intro k ok hk hki hkun hno
          refine hfree k ok hk hki ?_ hno
          by_cases hjk : j = k
          · subst hjk; exact hjun
          · rwa [getD_set_ne true hjk] at hkun
        · rw [Array.setIfInBounds_comm _ _ hji]
          exact h3.2
/-- the head walked in the text's order -/
theorem heads_lex {n g : Nat} {Lq : Act → Prop} (hsel : Region.noSelect ops = true) (hs : Region.sinkB md ops n = true) (hc : Region.chainB md ops n = true) (hn : n < ops.size) :
    ∀ (l : List Oper) (k : Nat) (done : Array Bool) (a : Act), (∀ j, j < l.length → l[j]? = ops[k + j]?) → k + l.length = n → HeadInv md ops n done →
    Region.lexHead md ops g l.length k done = true → wpQuiet P ops C Lq l a → heads P md ops C n (fun d a' => Region.seqB md ops g n d = true ∧ Lq a') l.length done a
  | [], k, done, a, _, hk, _, hB, h => by
    obtain rfl : k = n := hk
    exact ⟨hB, h⟩
  | o :: l, k, done, a, hl, hk, inv, hB, h => by
    have h0 : ops[k]? = some o := (hl 0 (Nat.succ_pos _)).symm
    simp only [List.length_cons, Region.lexHead, Bool.and_eq_true] at hB
    rw [List.length_cons] at hk
    have hr : k ∈ Region.ready md ops done := by simpa using hB.1.1
    have hq : qOp P ops C k (wpQuiet P ops C Lq l) a := by unfold qOp; rw [h0]; exact h
    obtain ⟨v, hy, hK⟩ := yieldsIn_of_qOp h0 hq
    refine heads_first h0 (Region.noSelect_spec hsel) hs hc hn (by omega) (fun d a' hL => seqB_ready hL.1) l.length done a inv (Region.free_spec h0 hB.1.2) hr hy ?_
    refine heads_lex hsel hs hc hn l (k + 1) _ _ (fun j hj => ?_) (by omega) (inv.set hr (by omega)) hB.2 hK
    have h1 := hl (j + 1) (by rw [List.length_cons]; omega)
    rw [show k + 1 + j = k + (j + 1) by omega]
    exact h1
theorem wp_region {id : Nat} {Q : Exit → Act → World → Prop} {a : Act} {w : World} {l : List Oper} (n : Nat) (hm : P.follows .mixedOrders = true) (hB : Region.lexTailB .any l.toArray n = true) (hC : C { w with drawn := w.drawn + 1 })
    (h : wpQuiet P l.toArray C (fun a' => ∀ w', C w' → wpList P l.toArray Q (l.drop n) a' w') (l.take n) a) : (Code.region id l.toArray true).wp P Q a w := by
  simp only [Region.lexTailB, Bool.and_eq_true, decide_eq_true_eq] at hB
  obtain ⟨⟨⟨⟨hsel, hn⟩, hs⟩, hc⟩, hlex⟩ := hB
  have hnl : n < l.length := by simpa using hn
  have htl : (l.take n).length = n := by rw [List.length_take]; omega
  have hdl : (l.drop n).length = l.toArray.size - n := by simp
  have inv : HeadInv .any l.toArray n (Array.replicate l.toArray.size false) :=
    ⟨Array.size_replicate, fun j oj _ hl => (by rw [getD_replicate_false] at hl; cases hl), fun t _ ht => getD_in (by simpa using ht) (getD_replicate_false _ _)⟩
  have H := heads_lex (md := .any) (g := l.toArray.size - n) hsel hs hc hn (l.take n) 0 _ a (fun j hj => by
    rw [htl] at hj
    simp [hj]) (by rw [htl]; omega) inv (by rw [htl]; exact hlex) h
  refine wp_region_any hm ?_
  have h2 := heads_wp (Q' := Q) (g := l.toArray.size - n) (fun d a' w' hw' hL => by
    have h3 := wpAny_of_seq (md := .any) (Q' := Q) (l.drop n) n d a' w' (fun j => by simp [List.getElem?_drop]) (by rw [hdl]; exact hL.1) (hL.2 w' hw')
    rwa [hdl] at h3) _ _ _ _ hC H
  rw [htl, show n + (l.toArray.size - n) = l.toArray.size by omega] at h2
  exact h2
end
/-- the same at the worlds of a property (Qin) -/
theorem region {P : Program} {I : World → Prop} {id : Nat} {Q : Exit → Act → World → Prop} {a : Act} {w : World} {l : List Oper} (n : Nat) (hI : I { w with drawn := w.drawn + 1 }) (hm : P.follows .mixedOrders = true) (hB : Region.lexTailB .any l.toArray n = true)
    (h : wpQuiet P l.toArray (fun w' => ∃ x : Qin.In I, w' = x.val) (fun a' => ∀ x : Qin.In I, wpList P l.toArray Q (l.drop n) a' x.val) (l.take n) a) : (Code.region id l.toArray true).wp P Q a w := by
  refine wp_region (C := fun w' => ∃ x : Qin.In I, w' = x.val) n hm hB ⟨⟨_, hI⟩, rfl⟩ ?_
  have hmono : ∀ (l' : List Oper) (a' : Act), wpQuiet P l.toArray (fun w' => ∃ x : Qin.In I, w' = x.val) (fun a' => ∀ x : Qin.In I, wpList P l.toArray Q (l.drop n) a' x.val) l' a' →
      wpQuiet P l.toArray (fun w' => ∃ x : Qin.In I, w' = x.val) (fun a' => ∀ w', (∃ x : Qin.In I, w' = x.val) → wpList P l.toArray Q (l.drop n) a' w') l' a' := by
    intro l'
    induction l' with
    | nil => intro a' h' w' hw; obtain ⟨x, rfl⟩ := hw; exact h' x
    | cons o rest ih =>
      intro a' h'
      unfold wpQuiet at h' ⊢
      split
      · rename_i hw
        rw [if_pos hw] at h'
        exact Oper.quiet_mono ih h'
      · rename_i hw
        rw [if_neg hw] at h'
        exact ih _ h'
  exact hmono _ _ h
end Go.Proofs.YtpbgmpjnfndfjaaGreatDoor.Qtl
