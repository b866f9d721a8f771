/- A region that draws its order: operations that only look (they may float) between calls that make memory and come in one order, then stores. -/
import Derived.Test.YtpbgmpjnfndfjaaGreatDoorQtl
namespace Go.Proofs.YtpbgmpjnfndfjaaGreatDoor.Qny
theorem here : True := trivial
open Go.RowKit
/-- an operation that only looks; a load of a string is taken as it comes -/
def light (o : Oper) : Bool := match o.op with
  | .move .. | .assign .. | .pick .. | .binOp .. | .unOp .. | .convert .. | .fieldAddr .. | .field .. | .indexAddr .. | .index .. | .extract .. | .nilCheck .. | .build .. => true
  | .load t .. => !(t == 9)
  | _ => false
def lightAt (ops : Array Oper) (j : Nat) : Bool := match ops[j]? with | some o => light o | none => true
/-- the others wait for each other in the text's order -/
def serial (md : Region.Mode) (ops : Array Oper) (n : Nat) : Bool :=
  (List.range n).all fun j => lightAt ops j || (List.range j).all fun m => lightAt ops m || (List.range j).any fun k => decide (m ≤ k) && !lightAt ops k && Region.waitsFor md ops j k
section
variable {P : Program} {ops : Array Oper} {md : Region.Mode} {C : World → Prop}
def calm (P : Program) (C : World → Prop) (o : Oper) (a : Act) (v : Value) : Prop := ∀ w, C w → (execOp a.eval o).run P w = .ok (.value v) w
def goes (P : Program) (o : Oper) (a : Act) (w : World) (K : Act → World → Prop) : Prop := o.wp P a w K (fun _ _ _ => False)
theorem goes_mono {o : Oper} {a : Act} {w : World} {K K' : Act → World → Prop} (h : ∀ a w, K a w → K' a w) (hh : goes P o a w K) : goes P o a w K' := Oper.wp_mono h hh
theorem goes_wp {o : Oper} {a : Act} {w : World} {K : Act → World → Prop} {Q : Exit → Act → World → Prop} (h : goes P o a w K) : o.wp P a w K Q := by
  unfold goes Oper.wp at *
  generalize (execOp a.eval o).run P w = r at *
  cases r with
  | ok n w' =>
    cases n <;> simp only [Oper.upon] at h ⊢
    case value => exact h
    case skip => exact h
    case defer => exact h
    case enter f args =>
      refine Calls.mono h fun e w'' he => ?_
      cases e with
      | returned u => exact he
      | panicked c => exact he.elim
      | outgrown => obtain ⟨_, _, hf⟩ := he; exact hf.elim
    case row => exact h
  | halt x w' => cases x <;> simp only [Oper.upon] at h
theorem goes_some {o : Oper} {a : Act} {w : World} {K : Act → World → Prop} (h : goes P o a w K) : ∃ a' w', K a' w' := by
  unfold goes Oper.wp at h
  generalize (execOp a.eval o).run P w = r at *
  cases r with
  | ok n w' =>
    cases n <;> simp only [Oper.upon] at h
    case value => exact ⟨_, _, h⟩
    case skip => exact ⟨_, _, h⟩
    case defer => exact ⟨_, _, h⟩
    case enter f args =>
      obtain ⟨e, w'', fr, he, _⟩ := h []
      cases e with
      | returned u => exact ⟨_, _, he⟩
      | panicked c => exact he.elim
      | outgrown => obtain ⟨_, _, hf⟩ := he; exact hf.elim
    case row row args =>
      obtain ⟨v, w'', hk, _⟩ := h (Frame.enter P 0 #[] .normal) []
      exact ⟨_, _, hk⟩
  | halt x w' => cases x <;> simp only [Oper.upon] at h
def opM (P : Program) (ops : Array Oper) (C : World → Prop) (i : Nat) (K : Act → World → Prop) (a : Act) (w : World) : Prop :=
  match ops[i]? with
  | none => K a w
  | some o => if Region.wanted o (yielded ops a.tmps) then (if light o then ∃ v, calm P C o a v ∧ K (a.put o.dst v) w else goes P o a w K) else K (a.put o.dst undef) w
theorem opM_mono {i : Nat} {a : Act} {w : World} {K K' : Act → World → Prop} (h : ∀ a w, K a w → K' a w) (hh : opM P ops C i K a w) : opM P ops C i K' a w := by
  unfold opM at *
  split
  · rename_i ho; simp only [ho] at hh; exact h _ _ hh
  · rename_i o ho
    simp only [ho] at hh
    split
    · rename_i hw
      rw [if_pos hw] at hh
      split
      · rename_i hl; rw [if_pos hl] at hh; obtain ⟨v, h1, h2⟩ := hh; exact ⟨v, h1, h _ _ h2⟩
      · rename_i hl; rw [if_neg hl] at hh; exact goes_mono h hh
    · rename_i hw; rw [if_neg hw] at hh; exact h _ _ hh
theorem opM_wp {i : Nat} {a : Act} {w : World} {K : Act → World → Prop} {Q : Exit → Act → World → Prop} (hC : C w) (hh : opM P ops C i K a w) : wpOp P ops Q i K a w := by
  unfold opM at hh
  unfold wpOp
  split
  · rename_i ho; simp only [ho] at hh; exact hh
  · rename_i o ho
    simp only [ho] at hh
    split
    · rename_i hw
      rw [if_pos hw] at hh
      refine .inl ?_
      split at hh
      · obtain ⟨v, h1, h2⟩ := hh
        unfold Oper.wp
        rw [h1 w hC]
        exact h2
      · exact goes_wp hh
    · rename_i hw; rw [if_neg hw] at hh; exact hh
def Steady (P : Program) (ops : Array Oper) (C : World → Prop) (o : Oper) (v : Value) (a : Act) : Prop :=
  (Region.wanted o (yielded ops a.tmps) = true ∧ light o = true ∧ calm P C o a v) ∨ (Region.wanted o (yielded ops a.tmps) = false ∧ v = undef)
theorem Steady.opM {i : Nat} {o : Oper} {v : Value} {a : Act} {w : World} (hi : ops[i]? = some o) (hy : Steady P ops C o v a) {K : Act → World → Prop} (h : K (a.put o.dst v) w) : opM P ops C i K a w := by
  unfold Qny.opM
  simp only [hi]
  rcases hy with ⟨hw, hl, hv⟩ | ⟨hw, rfl⟩
  · rw [if_pos hw, if_pos hl]; exact ⟨v, hv, h⟩
  · rw [if_neg (by rw [hw]; exact Bool.false_ne_true)]; exact h
theorem Steady.of_same {o : Oper} {v : Value} {a a' : Act} (hy : Steady P ops C o v a) (he : execOp a'.eval o = execOp a.eval o)
    (hw : Region.wanted o (yielded ops a'.tmps) = Region.wanted o (yielded ops a.tmps)) : Steady P ops C o v a' := by
  unfold Steady calm at *
  rw [he, hw]
  exact hy
/-- what follows a call when another operation's slot is written ahead of it -/
theorem goes_put {oj ok : Oper} (hap : ok.apart ops oj = true) (hsj : ∀ cs b, oj.op ≠ .select cs b) (hsk : ∀ cs b, ok.op ≠ .select cs b) {K : Act → World → Prop} {a : Act} {w : World} {v : Value} (h : goes P ok a w K) :
    goes P ok (a.put oj.dst v) w fun a' w' => ∃ a0, K a0 w' ∧ a' = a0.put oj.dst v ∧ execOp a0.eval oj = execOp a.eval oj ∧ Region.wanted oj (yielded ops a0.tmps) = Region.wanted oj (yielded ops a.tmps) := by
  obtain ⟨h1, h2, h3⟩ := Oper.apart_spec hap
  have comm : ∀ (a : Act) u, (a.put oj.dst v).put ok.dst u = (a.put ok.dst u).put oj.dst v := fun a u => (Act.put_comm a u v h2).symm
  have same : ∀ (b : Act) u, execOp b.eval oj = execOp a.eval oj → Region.wanted oj (yielded ops b.tmps) = Region.wanted oj (yielded ops a.tmps) → execOp (b.put ok.dst u).eval oj = execOp a.eval oj ∧ Region.wanted oj (yielded ops (b.put ok.dst u).tmps) = Region.wanted oj (yielded ops a.tmps) :=
    fun b u e1 e2 => ⟨(execOp_put oj hsj b ok.dst u h1).trans e1, (wanted_put oj b ok.dst u h1).trans e2⟩
  unfold goes Oper.wp at *
  rw [execOp_put ok hsk a oj.dst v h3]
  generalize (execOp a.eval ok).run P w = r at *
  cases r with
  | ok n w' =>
    cases n <;> simp only [Oper.upon] at h ⊢
    case value u => exact ⟨_, h, comm a u, same a u rfl rfl⟩
    case skip => exact ⟨_, h, comm a _, same a _ rfl rfl⟩
    case defer d =>
      refine ⟨_, h, ?_, same _ _ rfl rfl⟩
      rw [Act.put_defers, comm]
    case enter f args =>
      refine Calls.mono h fun e w'' he => ?_
      cases e with
      | returned u => exact ⟨_, he, comm a u, same a u rfl rfl⟩
      | panicked c => exact he
      | outgrown => exact he
    case row row args => exact Rows.mono h fun u w'' he => ⟨_, he, comm a u, same a u rfl rfl⟩
  | halt x w' => cases x <;> simp only [Oper.upon] at h
/-- an operation that comes when a steady one's slot is written already may come ahead of it -/
theorem opM_put {j : Nat} {oi oj : Oper} {v : Value} (hj : ops[j]? = some oj) (hap : oi.apart ops oj = true)
    (hsi : ∀ cs b, oi.op ≠ .select cs b) (hsj : ∀ cs b, oj.op ≠ .select cs b) {K : Act → World → Prop} {a : Act} {w : World}
    (hy : Steady P ops C oi v a) (h : opM P ops C j K (a.put oi.dst v) w) : opM P ops C j (fun a' w' => Steady P ops C oi v a' ∧ K (a'.put oi.dst v) w') a w := by
  obtain ⟨h1, h2, h3⟩ := Oper.apart_spec hap
  have keep : ∀ (b : Act), Steady P ops C oi v b → ∀ u, Steady P ops C oi v (b.put oj.dst u) := fun b hb u =>
    hb.of_same (execOp_put oi hsi b oj.dst u h3) (wanted_put oi b oj.dst u h3)
  unfold opM at *
  simp only [hj] at *
  rw [wanted_put oj a oi.dst v h1] at h
  split
  · rename_i hw
    rw [if_pos hw] at h
    split
    · rename_i hl
      rw [if_pos hl] at h
      obtain ⟨u, hu, hn⟩ := h
      refine ⟨u, fun w' hw' => ?_, keep a hy u, by rw [← Act.put_comm a v u h2]; exact hn⟩
      have := hu w' hw'
      rwa [execOp_put oj hsj a oi.dst v h1] at this
    · rename_i hl
      rw [if_neg hl] at h
      unfold goes Oper.wp at *
      rw [execOp_put oj hsj a oi.dst v h1] at h
      generalize (execOp a.eval oj).run P w = r at *
      cases r with
      | ok n w' =>
        cases n <;> simp only [Oper.upon] at h ⊢
        case value u => exact ⟨keep a hy u, by rw [← Act.put_comm a v u h2]; exact h⟩
        case skip => exact ⟨keep a hy _, by rw [← Act.put_comm a v undef h2]; exact h⟩
        case defer d =>
          refine ⟨keep { a with defers := d :: a.defers } (hy.of_same rfl rfl) _, ?_⟩
          rw [← Act.put_comm _ v undef h2, ← Act.put_defers]
          exact h
        case enter f args =>
          refine Calls.mono h fun e w'' he => ?_
          cases e with
          | returned u => exact ⟨keep a hy u, by rw [← Act.put_comm a v u h2]; exact he⟩
          | panicked c => exact he
          | outgrown => exact he
        case row row args => exact Rows.mono h fun u w'' he => ⟨keep a hy u, by rw [← Act.put_comm a v u h2]; exact he⟩
      | halt x w' => cases x <;> simp only [Oper.upon] at h
  · rename_i hw
    rw [if_neg hw] at h
    exact ⟨keep a hy _, by rw [← Act.put_comm a v undef h2]; exact h⟩
def mix (P : Program) (md : Region.Mode) (ops : Array Oper) (C : World → Prop) (n : Nat) (L : Array Bool → Act → World → Prop) : Nat → Array Bool → Act → World → Prop
  | 0, done, a, w => C w ∧ L done a w
  | f + 1, done, a, w => C w ∧ Region.ready md ops done ≠ [] ∧ ∀ i ∈ Region.ready md ops done, i < n ∧ opM P ops C i (mix P md ops C n L f (done.setIfInBounds i true)) a w
theorem mix_in {n f : Nat} {L : Array Bool → Act → World → Prop} {done : Array Bool} {a : Act} {w : World} (h : mix P md ops C n L f done a w) : C w := by
  cases f with
  | zero => exact h.1
  | succ f => exact h.1
theorem mix_wp {n g : Nat} {L : Array Bool → Act → World → Prop} {Q' : Exit → Act → World → Prop} (hL : ∀ done a w, L done a w → wpAny P md ops Q' g done a w) :
    ∀ (f : Nat) (done : Array Bool) (a : Act) (w : World), mix P md ops C n L f done a w → wpAny P md ops Q' (f + g) done a w
  | 0, _, _, _, h => by rw [Nat.zero_add]; exact hL _ _ _ h.2
  | f + 1, _, _, _, h => by
    rw [Nat.add_right_comm f 1 g]
    exact ⟨fun h0 => absurd h0 h.2.1, fun i hi => wpOp_mono (fun a' w' h' => mix_wp hL f _ a' w' h') (opM_wp h.1 (h.2.2 i hi).2)⟩
/-- while one of the first n operations is left, none behind them may come -/
def Lows (md : Region.Mode) (ops : Array Oper) (n : Nat) : Prop := ∀ (done : Array Bool) (i : Nat), HeadInv md ops n done → i < n → done.getD i true = false → ∀ j ∈ Region.ready md ops done, j < n
theorem lows_tail {n : Nat} (hs : Region.sinkB md ops n = true) (hc : Region.chainB md ops n = true) (hn : n < ops.size) : Lows md ops n := fun done i inv hin hun j hj => by
  rcases Nat.lt_or_ge j n with h | h
  · exact h
  · exact absurd hj (tail_waits hs hc hn inv _ i rfl hin hun j h)
theorem lows_all : Lows md ops ops.size := fun done i inv hin hun j hj => by
  obtain ⟨_, o, ho, _⟩ := mem_ready.1 hj
  exact (Array.getElem?_eq_some_iff.1 ho).1
theorem mix_first {n i : Nat} {oi : Oper} {v : Value} {L : Array Bool → Act → World → Prop} (hi : ops[i]? = some oi) (hsel : ∀ (j : Nat) (o : Oper) cs b, ops[j]? = some o → o.op ≠ .select cs b)
    (hlow : Lows md ops n) (hin : i < n) (hL : ∀ done a w, L done a w → ∀ j ∈ Region.ready md ops done, n ≤ j) :
    ∀ (f : Nat) (done : Array Bool) (a : Act) (w : World), HeadInv md ops n done →
      (∀ j oj, ops[j]? = some oj → j ≠ i → done.getD j true = false → (∀ e ∈ oj.after, Region.binds md e = true → e.on ≠ i) → oi.apart ops oj = true) →
      i ∈ Region.ready md ops done → Steady P ops C oi v a → mix P md ops C n L f (done.setIfInBounds i true) (a.put oi.dst v) w → mix P md ops C n L (f + 1) done a w
  | f, done, a, w, inv, hfree, hr, hy, H => by
    have hun := (mem_ready.1 hr).1
    have low : ∀ j ∈ Region.ready md ops done, j < n := hlow done i inv hin hun
    refine ⟨mix_in H, fun h => (by rw [h] at hr; cases hr), fun j hj => ⟨low j hj, ?_⟩⟩
    by_cases hji : j = i
    · subst hji; exact hy.opM hi H
    · match f, H with
      | 0, H =>
        have h1 := hL _ _ _ H.2 j (ready_mono hj hji)
        have h2 := low j hj
        omega
      | f + 1, H =>
        have h1 := (H.2.2 j (ready_mono hj hji)).2
        obtain ⟨hjun, oj, hoj, hall⟩ := mem_ready.1 hj
        have hnot : ∀ e ∈ oj.after, Region.binds md e = true → e.on ≠ i := fun e he hb heq => by
          have h3 := hall e he hb
          rw [heq, getD_both hun] at h3
          cases h3
        have h2 := opM_put hoj (hfree j oj hoj hji hjun hnot) (fun cs b => hsel i oi cs b hi) (fun cs b => hsel j oj cs b hoj) hy h1
        refine opM_mono (fun a' w' h3 => mix_first hi hsel hlow hin hL f _ a' w' (inv.set hj (low j hj)) ?_ (ready_mono hr (Ne.symm hji)) h3.1 ?_) h2
        · intro k ok hk hki hkun hno
          refine hfree k ok hk hki ?_ hno
          by_cases hjk : j = k
          · subst hjk; exact hjun
          · rwa [getD_set_ne true hjk] at hkun
        · rw [Array.setIfInBounds_comm _ _ hji]
          exact h3.2
theorem waits_listed {done : Array Bool} {j k : Nat} {oj : Oper} (hj : ops[j]? = some oj) (hall : ∀ e ∈ oj.after, Region.binds md e = true → done.getD e.on false = true) (h : Region.waitsFor md ops j k = true) : done.getD k false = true := by
  obtain ⟨o, ho, e, he, hb, hon⟩ := Region.waitsFor_spec h
  obtain rfl : o = oj := Option.some.inj (ho.symm.trans hj)
  rw [← hon]
  exact hall e he hb
/-- what is no light operation comes after all such ahead of it -/
theorem chain_listed {n : Nat} {done : Array Bool} (hser : serial md ops n = true) (inv : HeadInv md ops n done) {x : Nat} (hx : lightAt ops x = false) :
    ∀ (m j : Nat) (oj : Oper), j ≤ m → j < n → x < j → lightAt ops j = false → ops[j]? = some oj → (∀ e ∈ oj.after, Region.binds md e = true → done.getD e.on false = true) → done.getD x false = true := by
  intro m
  induction m with
  | zero => intro j oj hjm _ hxj; omega
  | succ m ih =>
    intro j oj hjm hjn hxj hlj hj hall
    have h1 := List.all_eq_true.1 hser j (List.mem_range.2 hjn)
    rw [hlj, Bool.false_or] at h1
    have h2 := List.all_eq_true.1 h1 x (List.mem_range.2 hxj)
    rw [hx, Bool.false_or] at h2
    obtain ⟨k, hk, hk2⟩ := List.any_eq_true.1 h2
    simp only [Bool.and_eq_true, decide_eq_true_eq, Bool.not_eq_true'] at hk2
    obtain ⟨⟨hxk, hlk⟩, hwt⟩ := hk2
    have hkj := List.mem_range.1 hk
    have hlisted := waits_listed hj hall hwt
    by_cases hkx : k = x
    · rw [← hkx]; exact hlisted
    · cases hok : ops[k]? with
      | none => unfold lightAt at hlk; rw [hok] at hlk; cases hlk
      | some ok => exact ih k ok (by omega) (by omega) (by omega) hlk hok (inv.closed k ok hok hlisted)
theorem mix_call {n k : Nat} {ok : Oper} {L : Array Bool → Act → World → Prop} (hk : ops[k]? = some ok) (hlk : light ok = false) (hsel : ∀ (j : Nat) (o : Oper) cs b, ops[j]? = some o → o.op ≠ .select cs b)
    (hlow : Lows md ops n) (hser : serial md ops n = true) (hkn : k < n) (hL : ∀ done a w, L done a w → ∀ j ∈ Region.ready md ops done, n ≤ j) :
    ∀ (f : Nat) (done : Array Bool) (a : Act) (w : World), C w → HeadInv md ops n done →
      (∀ j oj, ops[j]? = some oj → j ≠ k → done.getD j true = false → (∀ e ∈ oj.after, Region.binds md e = true → e.on ≠ k) → ok.apart ops oj = true) →
      k ∈ Region.ready md ops done → Region.wanted ok (yielded ops a.tmps) = true → goes P ok a w (mix P md ops C n L f (done.setIfInBounds k true)) → mix P md ops C n L (f + 1) done a w
  | f, done, a, w, hC, inv, hfree, hr, hw, H => by
    obtain ⟨hun, ok', hok', hkall⟩ := mem_ready.1 hr
    obtain rfl : ok' = ok := Option.some.inj (hok'.symm.trans hk)
    have hlk' : lightAt ops k = false := by unfold lightAt; rw [hk]; exact hlk
    have low : ∀ j ∈ Region.ready md ops done, j < n := hlow done k inv hkn hun
    refine ⟨hC, fun h => (by rw [h] at hr; cases hr), fun j hj => ⟨low j hj, ?_⟩⟩
    by_cases hjk : j = k
    · subst hjk
      unfold opM
      simp only [hk]
      rw [if_pos hw, if_neg (by rw [hlk]; exact Bool.false_ne_true)]
      exact H
    · obtain ⟨hjun, oj, hoj, hall⟩ := mem_ready.1 hj
      have hl : light oj = true := by
        cases hlj : light oj with
        | true => rfl
        | false =>
          have hlj' : lightAt ops j = false := by unfold lightAt; rw [hoj]; exact hlj
          rcases Nat.lt_or_ge k j with h | h
          · have h1 := chain_listed hser inv hlk' j j oj (Nat.le_refl _) (low j hj) h hlj' hoj hall
            rw [getD_both hun] at h1
            cases h1
          · have h1 := chain_listed hser inv hlj' k k ok' (Nat.le_refl _) hkn (by omega) hlk' hk hkall
            rw [getD_both hjun] at h1
            cases h1
      have hnot : ∀ e ∈ oj.after, Region.binds md e = true → e.on ≠ k := fun e he hb heq => by
        have h3 := hall e he hb
        rw [heq, getD_both hun] at h3
        cases h3
      have hap := hfree j oj hoj hjk hjun hnot
      have hsj := fun cs b => hsel j oj cs b hoj
      have hsk := fun cs b => hsel k ok' cs b hk
      match f, H with
      | 0, H =>
        obtain ⟨_, _, a0, h0, _⟩ := goes_some (goes_put (v := undef) hap hsj hsk H)
        have h1 := hL _ _ _ h0.2 j (ready_mono hj hjk)
        have h2 := low j hj
        omega
      | f + 1, H =>
        obtain ⟨_, w0, a0, h0, _, e1, e2⟩ := goes_some (goes_put (v := undef) hap hsj hsk H)
        have h1 := (h0.2.2 j (ready_mono hj hjk)).2
        have fr : ∀ j', (∀ oj', ops[j']? = some oj' → j' ≠ k → (done.setIfInBounds j true).getD j' true = false → (∀ e ∈ oj'.after, Region.binds md e = true → e.on ≠ k) → ok'.apart ops oj' = true) := by
          intro j' oj' hk' hne hkun hno
          refine hfree j' oj' hk' hne ?_ hno
          by_cases hjk' : j = j'
          · subst hjk'; exact hjun
          · rwa [getD_set_ne true hjk'] at hkun
        unfold opM at h1 ⊢
        simp only [hoj] at h1 ⊢
        rw [e2] at h1
        by_cases hwj : Region.wanted oj (yielded ops a.tmps) = true
        · rw [if_pos hwj, if_pos hl] at h1 ⊢
          obtain ⟨v, hv, _⟩ := h1
          have hva : calm P C oj a v := fun w' hw' => by have := hv w' hw'; rwa [e1] at this
          refine ⟨v, hva, mix_call hk hlk hsel hlow hser hkn hL f _ _ w hC (inv.set hj (low j hj)) fr (ready_mono hr (Ne.symm hjk)) ?_ (goes_mono ?_ (goes_put (v := v) hap hsj hsk H))⟩
          · rw [wanted_put ok' a oj.dst v (Oper.apart_spec hap).2.2]; exact hw
          · rintro a' w' ⟨a1, h3, rfl, e3, e4⟩
            have h4 := (h3.2.2 j (ready_mono hj hjk)).2
            unfold opM at h4
            simp only [hoj] at h4
            rw [e4, if_pos hwj, if_pos hl] at h4
            obtain ⟨v', hv', h5⟩ := h4
            have h6 := hv' w' (mix_in h3)
            rw [e3, hva w' (mix_in h3)] at h6
            injection h6 with h6
            injection h6 with h6
            rw [h6, Array.setIfInBounds_comm _ _ hjk]
            exact h5
        · rw [if_neg hwj]
          refine mix_call hk hlk hsel hlow hser hkn hL f _ _ w hC (inv.set hj (low j hj)) fr (ready_mono hr (Ne.symm hjk)) ?_ (goes_mono ?_ (goes_put (v := undef) hap hsj hsk H))
          · rw [wanted_put ok' a oj.dst undef (Oper.apart_spec hap).2.2]; exact hw
          · rintro a' w' ⟨a1, h3, rfl, e3, e4⟩
            have h4 := (h3.2.2 j (ready_mono hj hjk)).2
            unfold opM at h4
            simp only [hoj] at h4
            rw [e4, if_neg hwj] at h4
            rw [Array.setIfInBounds_comm _ _ hjk]
            exact h4
/-- the walk in the text's order -/
def wpMix (P : Program) (ops : Array Oper) (C : World → Prop) (R : Act → World → Prop) : List Oper → Act → World → Prop
  | [], a, w => C w ∧ R a w
  | o :: rest, a, w => if Region.wanted o (yielded ops a.tmps) then (if light o then ∃ v, calm P C o a v ∧ wpMix P ops C R rest (a.put o.dst v) w else C w ∧ goes P o a w (wpMix P ops C R rest)) else wpMix P ops C R rest (a.put o.dst undef) w
theorem mix_lex {n g : Nat} {R : Act → World → Prop} (hsel : Region.noSelect ops = true) (hlow : Lows md ops n) (hser : serial md ops n = true) :
    ∀ (l : List Oper) (k : Nat) (done : Array Bool) (a : Act) (w : World), (∀ j, j < l.length → l[j]? = ops[k + j]?) → k + l.length = n → HeadInv md ops n done →
    Region.lexHead md ops g l.length k done = true → wpMix P ops C R l a w → mix P md ops C n (fun d a' w' => Region.seqB md ops g n d = true ∧ R a' w') l.length done a w
  | [], k, done, a, w, _, hk, _, hB, h => by
    obtain rfl : k = n := hk
    exact ⟨h.1, hB, h.2⟩
  | o :: l, k, done, a, w, hl, hk, inv, hB, h => by
    have h0 : ops[k]? = some o := (hl 0 (Nat.succ_pos _)).symm
    simp only [List.length_cons, Region.lexHead, Bool.and_eq_true] at hB
    rw [List.length_cons] at hk
    have hr : k ∈ Region.ready md ops done := by simpa using hB.1.1
    have hl' : ∀ j, j < l.length → l[j]? = ops[k + 1 + j]? := fun j hj => by
      have h1 := hl (j + 1) (by rw [List.length_cons]; omega)
      rw [show k + 1 + j = k + (j + 1) by omega]
      exact h1
    have next : ∀ a w, wpMix P ops C R l a w → mix P md ops C n (fun d a' w' => Region.seqB md ops g n d = true ∧ R a' w') l.length (done.setIfInBounds k true) a w :=
      fun a w hm => mix_lex hsel hlow hser l (k + 1) _ a w hl' (by omega) (inv.set hr (by omega)) hB.2 hm
    have hLd : ∀ (d : Array Bool) (a' : Act) (w' : World), (Region.seqB md ops g n d = true ∧ R a' w') → ∀ j ∈ Region.ready md ops d, n ≤ j := fun d a' w' hL => seqB_ready hL.1
    unfold wpMix at h
    by_cases hw : Region.wanted o (yielded ops a.tmps) = true
    · rw [if_pos hw] at h
      by_cases hlt : light o = true
      · rw [if_pos hlt] at h
        obtain ⟨v, hv, hm⟩ := h
        exact mix_first h0 (Region.noSelect_spec hsel) hlow (by omega) hLd l.length done a w inv (Region.free_spec h0 hB.1.2) hr (.inl ⟨hw, hlt, hv⟩) (next _ _ hm)
      · rw [if_neg hlt] at h
        exact mix_call h0 (by simpa using hlt) (Region.noSelect_spec hsel) hlow hser (by omega) hLd l.length done a w h.1 inv (Region.free_spec h0 hB.1.2) hr hw (goes_mono next h.2)
    · rw [if_neg hw] at h
      exact mix_first h0 (Region.noSelect_spec hsel) hlow (by omega) hLd l.length done a w inv (Region.free_spec h0 hB.1.2) hr (.inr ⟨by simpa using hw, rfl⟩) (next _ _ h)
end
section
variable {P : Program} {ops : Array Oper} {C : World → Prop}
theorem bind_val {α : Type} {s : Sem α} {f : α → Sem Next} {w w' : World} {n : Next} (hr : (s >>= f).run P w = .ok n w') (h : ∀ a w1, (f a).run P w1 = .ok n w' → ∃ u, n = .value u) : ∃ u, n = .value u := by
  rw [Sem.run_bind] at hr
  cases hb : s.run P w with
  | ok u w1 => rw [hb] at hr; exact h u w1 hr
  | halt x w1 => rw [hb] at hr; cases hr
theorem panic_val {w w' : World} {n : Next} (hr : (runtimePanic .nilDeref : Sem Next).run P w = .ok n w') : ∃ u, n = .value u := by
  unfold runtimePanic at hr
  refine bind_val hr fun a w1 h1 => ?_
  dsimp only at h1
  unfold goPanic at h1
  cases h1
theorem pure_val {u : Value} {w w' : World} {n : Next} (hr : (pure (Next.value u) : Sem Next).run P w = .ok n w') : ∃ u, n = .value u := by
  rw [Sem.run_pure] at hr
  injection hr with h1 _
  exact ⟨u, h1.symm⟩
theorem light_val {o : Oper} (h : light o = true) {ρ : Operand → Value} {w w' : World} {n : Next} (hr : (execOp ρ o).run P w = .ok n w') : ∃ u, n = .value u := by
  have key : ∀ (s : Sem Value), (do pure (Next.value (← s)) : Sem Next).run P w = .ok n w' → ∃ u, n = .value u := fun s hs => by
    rw [Sem.run_bind] at hs
    cases hr : s.run P w with
    | ok u w1 =>
      rw [hr] at hs
      simp only [Result.andThen_ok, Sem.run_pure] at hs
      injection hs with h1 _
      exact ⟨u, h1.symm⟩
    | halt x w1 =>
      rw [hr] at hs
      cases hs
  unfold light at h
  unfold execOp at hr
  split at h
  all_goals first | (cases h; done) | skip
  all_goals (rename_i heq; rw [heq] at hr)
  all_goals first | exact key _ hr | (simp only [Sem.run_pure] at hr; injection hr with h1 _; exact ⟨_, h1.symm⟩) | skip
  case h_12 =>
    dsimp only at hr
    split at hr
    all_goals first | exact panic_val hr | exact pure_val hr | skip
    split at hr
    all_goals first | exact panic_val hr | exact pure_val hr | skip
    refine bind_val hr fun a w1 h1 => bind_val h1 fun b w2 h2 => ?_
    split at h2
    · exact bind_val h2 fun c w3 h3 => pure_val h3
    · exact pure_val h2
  rw [Sem.run_bind] at hr
  cases hb : (asBool _).run P w with
  | ok u w1 =>
    rw [hb] at hr
    simp only [Result.andThen_ok, Sem.run_pure] at hr
    injection hr with h1 _
    exact ⟨_, h1.symm⟩
  | halt x w1 =>
    rw [hb] at hr
    cases hr
/-- light operations, by a quiet walk -/
theorem by_quiet {R : Act → World → Prop} {rest : List Oper} {w : World} (hC : C w) : ∀ (l : List Oper) (a : Act), l.all light = true → wpQuiet P ops C (fun a' => wpMix P ops C R rest a' w) l a → wpMix P ops C R (l ++ rest) a w
  | [], a, _, h => h
  | o :: l, a, hl, h => by
    rw [List.all_cons, Bool.and_eq_true] at hl
    unfold wpQuiet at h
    rw [List.cons_append]
    unfold wpMix
    by_cases hw : Region.wanted o (yielded ops a.tmps) = true
    · rw [if_pos hw] at h ⊢
      rw [if_pos hl.1]
      obtain ⟨v, h1, h2⟩ := h
      refine ⟨v, fun w' hw' => ?_, by_quiet hC l _ hl.2 h2⟩
      have h3 := h1 w' hw'
      unfold Oper.quietAt at h3
      cases hr : (execOp a.eval o).run P w' with
      | ok n w2 =>
        obtain ⟨u, rfl⟩ := light_val hl.1 hr
        rw [hr] at h3
        obtain ⟨rfl, rfl⟩ := h3
        rfl
      | halt x w2 =>
        rw [hr] at h3
        exact h3.elim
    · rw [if_neg hw] at h ⊢
      exact by_quiet hC l _ hl.2 h
theorem quiet_n {R : Act → World → Prop} {L : List Oper} {a : Act} {w : World} (k : Nat) (hC : C w) (hl : (L.take k).all light = true) (h : wpQuiet P ops C (fun a' => wpMix P ops C R (L.drop k) a' w) (L.take k) a) : wpMix P ops C R L a w := by
  have h1 := by_quiet hC (L.take k) a hl h
  rwa [List.take_append_drop] at h1
/-- what stands behind one operation -/
def norm (R : Act → World → Prop) (e : Exit) (a : Act) (w : World) : Prop := e = .normal ∧ R a w
theorem goes_of_wp {o : Oper} {a : Act} {w : World} {K R : Act → World → Prop} (hK : ∀ a w, K a w → R a w) (h : o.wp P a w K (norm R)) : goes P o a w R := by
  unfold goes Oper.wp at *
  generalize (execOp a.eval o).run P w = r at *
  cases r with
  | ok n w' =>
    cases n <;> simp only [Oper.upon] at h ⊢
    case value => exact hK _ _ h
    case skip => exact hK _ _ h
    case defer => exact hK _ _ h
    case enter f args =>
      refine Calls.mono h fun e w'' he => ?_
      cases e with
      | returned u => exact hK _ _ he
      | panicked c => cases he.1
      | outgrown => obtain ⟨_, _, hf⟩ := he; cases hf.1
    case row => exact Rows.mono h fun _ _ he => hK _ _ he
  | halt x w' =>
    cases x <;> simp only [Oper.upon] at h ⊢
    case panic => cases h.1
/-- one operation that is not light -/
theorem by_call {R : Act → World → Prop} {rest : List Oper} {o : Oper} {a : Act} {w : World} (hl : light o = false) (hC : C w) (h : wpList P ops (norm (wpMix P ops C R rest)) [o] a w) : wpMix P ops C R (o :: rest) a w := by
  unfold wpList at h
  unfold wpMix
  by_cases hw : Region.wanted o (yielded ops a.tmps) = true
  · rw [if_pos hw] at h ⊢
    rw [if_neg (by rw [hl]; exact Bool.false_ne_true)]
    refine ⟨hC, ?_⟩
    rcases h with h | ⟨_, _, _, hf⟩
    · exact goes_of_wp (fun a' w' h' => h'.2) h
    · cases hf.1
  · rw [if_neg hw] at h ⊢
    exact h.2
theorem by_end {R : Act → World → Prop} {a : Act} {w : World} (hC : C w) (h : R a w) : wpMix P ops C R [] a w := ⟨hC, h⟩
theorem wp_region {id : Nat} {Q : Exit → Act → World → Prop} {a : Act} {w : World} {l : List Oper} (n : Nat) (hm : P.follows .mixedOrders = true) (hB : Region.lexTailB .any l.toArray n = true) (hS : serial .any l.toArray n = true)
    (h : wpMix P l.toArray C (fun a' w' => wpList P l.toArray Q (l.drop n) a' w') (l.take n) a { w with drawn := w.drawn + 1 }) : (Code.region id l.toArray true).wp P Q a w := by
  simp only [Region.lexTailB, Bool.and_eq_true, decide_eq_true_eq] at hB
  obtain ⟨⟨⟨⟨hsel, hn⟩, hs⟩, hc⟩, hlex⟩ := hB
  have hnl : n < l.length := by simpa using hn
  have htl : (l.take n).length = n := by rw [List.length_take]; omega
  have hdl : (l.drop n).length = l.toArray.size - n := by simp
  have inv : HeadInv .any l.toArray n (Array.replicate l.toArray.size false) :=
    ⟨Array.size_replicate, fun j oj _ hl => (by rw [getD_replicate_false] at hl; cases hl), fun t _ ht => getD_in (by simpa using ht) (getD_replicate_false _ _)⟩
  have H := mix_lex (md := .any) (g := l.toArray.size - n) hsel (lows_tail hs hc hn) hS (l.take n) 0 _ a _ (fun j hj => by
    rw [htl] at hj
    simp [hj]) (by rw [htl]; omega) inv (by rw [htl]; exact hlex) h
  refine wp_region_any hm ?_
  have h2 := mix_wp (Q' := Q) (g := l.toArray.size - n) (fun d a' w' hL => by
    have h3 := wpAny_of_seq (md := .any) (Q' := Q) (l.drop n) n d a' w' (fun j => by simp [List.getElem?_drop]) (by rw [hdl]; exact hL.1) hL.2
    rwa [hdl] at h3) _ _ _ _ H
  rw [htl, show n + (l.toArray.size - n) = l.toArray.size by omega] at h2
  exact h2
def lexAll (md : Region.Mode) (ops : Array Oper) : Bool := Region.noSelect ops && Region.lexHead md ops 0 ops.size 0 (Array.replicate ops.size false)
/-- the same where no store stands at the end -/
theorem wp_all {id : Nat} {Q : Exit → Act → World → Prop} {a : Act} {w : World} {l : List Oper} (hm : P.follows .mixedOrders = true) (hB : lexAll .any l.toArray = true) (hS : serial .any l.toArray l.length = true)
    (h : wpMix P l.toArray C (fun a' w' => Q .normal a' w') l a { w with drawn := w.drawn + 1 }) : (Code.region id l.toArray true).wp P Q a w := by
  simp only [lexAll, Bool.and_eq_true] at hB
  have hsz : l.toArray.size = l.length := by simp
  rw [hsz] at hB
  have inv : HeadInv .any l.toArray l.length (Array.replicate l.length false) :=
    ⟨by rw [Array.size_replicate, hsz], fun j oj _ hl => (by rw [getD_replicate_false] at hl; cases hl), fun t ht ht' => by omega⟩
  have hlow : Lows .any l.toArray l.length := by
    have := lows_all (md := .any) (ops := l.toArray)
    rwa [hsz] at this
  have H := mix_lex (md := .any) (g := 0) hB.1 hlow hS l 0 _ a _ (fun j hj => by simp) (by omega) inv hB.2 h
  refine wp_region_any hm ?_
  have h2 := mix_wp (Q' := Q) (g := 0) (fun d a' w' hL => by
    have h3 := hL.1
    unfold Region.seqB at h3
    exact ⟨by simpa using h3, hL.2⟩) _ _ _ _ H
  rw [hsz]
  exact h2
end
end Go.Proofs.YtpbgmpjnfndfjaaGreatDoor.Qny
