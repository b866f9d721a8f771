/- A region that draws its order: operations that only look (they may float) between calls that make memory and come in one order, then stores. -/
import Derived.Test.YtpbgmpjnfndfjaaGreatDoorQtl
namespace Go.Proofs.YtpbgmpjnfndfjaaGreatDoor.Qmz
theorem here : True := trivial
open Go.RowKit
/-- an operation that only looks -/
def light (o : Oper) : Bool := match o.op with
  | .move .. | .assign .. | .pick .. | .load .. | .binOp .. | .unOp .. | .convert .. | .fieldAddr .. | .field .. | .indexAddr .. | .index .. | .extract .. | .nilCheck .. | .build .. => true
  | _ => false
def lightAt (ops : Array Oper) (j : Nat) : Bool := match ops[j]? with | some o => light o | none => true
/-- an operation that does not even look -/
def blind (o : Oper) : Bool := match o.op with
  | .move .. | .assign .. | .pick .. | .extract .. => true
  | _ => false
def pathB (md : Region.Mode) (ops : Array Oper) : Nat → Nat → Nat → Bool
  | 0, j, i => j == i
  | f + 1, j, i => j == i || (List.range ops.size).any fun m => Region.waitsFor md ops j m && pathB md ops f m i
/-- operation s waits for all that look -/
def lastB (md : Region.Mode) (ops : Array Oper) (s : Nat) : Bool := (List.range ops.size).all fun i => match ops[i]? with
  | some o => !light o || blind o || (i != s && pathB md ops 4 s i)
  | none => true
section
variable {P : Program} {ops : Array Oper} {md : Region.Mode} {C : World → Prop}
theorem waits_listed {done : Array Bool} {j k : Nat} {oj : Oper} (hj : ops[j]? = some oj) (hall : ∀ e ∈ oj.after, Region.binds md e = true → done.getD e.on false = true) (h : Region.waitsFor md ops j k = true) : done.getD k false = true := by
  obtain ⟨o, ho, e, he, hb, hon⟩ := Region.waitsFor_spec h
  obtain rfl : o = oj := Option.some.inj (ho.symm.trans hj)
  rw [← hon]
  exact hall e he hb
theorem path_listed {n : Nat} {done : Array Bool} (inv : HeadInv md ops n done) {i : Nat} : ∀ (f j : Nat) (oj : Oper), ops[j]? = some oj → (∀ e ∈ oj.after, Region.binds md e = true → done.getD e.on false = true) → j ≠ i → pathB md ops f j i = true → done.getD i false = true
  | 0, j, oj, _, _, hne, h => absurd (by simpa [pathB] using h) hne
  | f + 1, j, oj, hj, hall, hne, h => by
    simp only [pathB, Bool.or_eq_true, beq_iff_eq, hne, false_or] at h
    obtain ⟨m, _, hm⟩ := List.any_eq_true.1 h
    rw [Bool.and_eq_true] at hm
    have hl := waits_listed hj hall hm.1
    by_cases hmi : m = i
    · subst hmi; exact hl
    · cases ho : ops[m]? with
      | none =>
        cases f with
        | zero => exact absurd (by simpa [pathB] using hm.2) hmi
        | succ f =>
          have h2 := hm.2
          simp only [pathB, Bool.or_eq_true, beq_iff_eq, hmi, false_or] at h2
          obtain ⟨m', _, hm'⟩ := List.any_eq_true.1 h2
          rw [Bool.and_eq_true] at hm'
          obtain ⟨o, ho', _⟩ := Region.waitsFor_spec hm'.1
          rw [ho] at ho'
          cases ho'
      | some om => exact path_listed inv f m om ho (inv.closed m om ho hl) hmi hm.2
/-- what looks is done before s may come -/
theorem last_listed {n s i : Nat} {o : Oper} {done : Array Bool} (hs : lastB md ops s = true) (inv : HeadInv md ops n done) (ho : ops[i]? = some o) (hl : light o = true) (hp : blind o = false) (hun : done.getD i true = false) :
    s ∉ Region.ready md ops done ∧ done.getD s false = false := by
  have h1 := List.all_eq_true.1 hs i (List.mem_range.2 (Array.getElem?_eq_some_iff.1 ho).1)
  rw [ho] at h1
  simp only [hl, hp, Bool.not_true, Bool.or_false, Bool.false_or, Bool.and_eq_true, bne_iff_ne, ne_eq] at h1
  have hsi : s ≠ i := fun e => h1.1 e.symm
  constructor
  · intro hr
    obtain ⟨_, os, hos, hall⟩ := mem_ready.1 hr
    have := path_listed inv 4 s os hos hall hsi h1.2
    rw [getD_both hun] at this
    cases this
  · cases hd : done.getD s false with
    | false => rfl
    | true =>
      cases hos : ops[s]? with
      | none =>
        have h2 := h1.2
        simp only [pathB, Bool.or_eq_true, beq_iff_eq, hsi, false_or] at h2
        obtain ⟨m', _, hm'⟩ := List.any_eq_true.1 h2
        rw [Bool.and_eq_true] at hm'
        obtain ⟨o, ho', _⟩ := Region.waitsFor_spec hm'.1
        rw [hos] at ho'
        cases ho'
      | some os =>
        have := path_listed inv 4 s os hos (inv.closed s os hos hd) hsi h1.2
        rw [getD_both hun] at this
        cases this
end
section
variable {P : Program} {ops : Array Oper} {md : Region.Mode} {C : World → Prop}
def calm (P : Program) (C : World → Prop) (o : Oper) (a : Act) (v : Value) : Prop := ∀ w, blind o = true ∨ C w → (execOp a.eval o).run P w = .ok (.value v) w
def goes (P : Program) (o : Oper) (a : Act) (w : World) (K : Act → World → Prop) : Prop := o.wp P a w K (fun _ _ _ => False)
theorem goes_mono {o : Oper} {a : Act} {w : World} {K K' : Act → World → Prop} (h : ∀ a w, K a w → K' a w) (hh : goes P o a w K) : goes P o a w K' := Oper.wp_mono h hh
theorem goes_wp {o : Oper} {a : Act} {w : World} {K : Act → World → Prop} {Q : Exit → Act → World → Prop} (h : goes P o a w K) : o.wp P a w K Q := by
  unfold goes Oper.wp at *
  generalize (execOp a.eval o).run P w = r at *
  cases r with
  | ok n w' =>
    cases n <;> simp only [Oper.upon] at h ⊢
    case value => exact h
    case skip => exact h
    case defer => exact h
    case enter f args =>
      refine Calls.mono h fun e w'' he => ?_
      cases e with
      | returned u => exact he
      | panicked c => exact he.elim
      | outgrown => obtain ⟨_, _, hf⟩ := he; exact hf.elim
    case row => exact h
  | halt x w' => cases x <;> simp only [Oper.upon] at h
theorem goes_some {o : Oper} {a : Act} {w : World} {K : Act → World → Prop} (h : goes P o a w K) : ∃ a' w', K a' w' := by
  unfold goes Oper.wp at h
  generalize (execOp a.eval o).run P w = r at *
  cases r with
  | ok n w' =>
    cases n <;> simp only [Oper.upon] at h
    case value => exact ⟨_, _, h⟩
    case skip => exact ⟨_, _, h⟩
    case defer => exact ⟨_, _, h⟩
    case enter f args =>
      obtain ⟨e, w'', fr, he, _⟩ := h []
      cases e with
      | returned u => exact ⟨_, _, he⟩
      | panicked c => exact he.elim
      | outgrown => obtain ⟨_, _, hf⟩ := he; exact hf.elim
    case row row args =>
      obtain ⟨v, w'', hk, _⟩ := h (Frame.enter P 0 #[] .normal) []
      exact ⟨_, _, hk⟩
  | halt x w' => cases x <;> simp only [Oper.upon] at h
def opM (P : Program) (ops : Array Oper) (C : World → Prop) (i : Nat) (K : Act → World → Prop) (a : Act) (w : World) : Prop :=
  match ops[i]? with
  | none => K a w
  | some o => if Region.wanted o (yielded ops a.tmps) then (if light o then ∃ v, calm P C o a v ∧ K (a.put o.dst v) w else goes P o a w K) else K (a.put o.dst undef) w
theorem opM_mono {i : Nat} {a : Act} {w : World} {K K' : Act → World → Prop} (h : ∀ a w, K a w → K' a w) (hh : opM P ops C i K a w) : opM P ops C i K' a w := by
  unfold opM at *
  split
  · rename_i ho; simp only [ho] at hh; exact h _ _ hh
  · rename_i o ho
    simp only [ho] at hh
    split
    · rename_i hw
      rw [if_pos hw] at hh
      split
      · rename_i hl; rw [if_pos hl] at hh; obtain ⟨v, h1, h2⟩ := hh; exact ⟨v, h1, h _ _ h2⟩
      · rename_i hl; rw [if_neg hl] at hh; exact goes_mono h hh
    · rename_i hw; rw [if_neg hw] at hh; exact h _ _ hh
theorem opM_wp {i : Nat} {a : Act} {w : World} {K : Act → World → Prop} {Q : Exit → Act → World → Prop} (hC : ∀ o, ops[i]? = some o → light o = true → blind o = true ∨ C w) (hh : opM P ops C i K a w) : wpOp P ops Q i K a w := by
  unfold opM at hh
  unfold wpOp
  split
  · rename_i ho; simp only [ho] at hh; exact hh
  · rename_i o ho
    simp only [ho] at hh
    split
    · rename_i hw
      rw [if_pos hw] at hh
      refine .inl ?_
      split at hh
      · rename_i hl
        obtain ⟨v, h1, h2⟩ := hh
        unfold Oper.wp
        rw [h1 w (hC o ho hl)]
        exact h2
      · exact goes_wp hh
    · rename_i hw; rw [if_neg hw] at hh; exact hh
def Steady (P : Program) (ops : Array Oper) (C : World → Prop) (o : Oper) (v : Value) (a : Act) : Prop :=
  (Region.wanted o (yielded ops a.tmps) = true ∧ light o = true ∧ calm P C o a v) ∨ (Region.wanted o (yielded ops a.tmps) = false ∧ v = undef)
theorem Steady.opM {i : Nat} {o : Oper} {v : Value} {a : Act} {w : World} (hi : ops[i]? = some o) (hy : Steady P ops C o v a) {K : Act → World → Prop} (h : K (a.put o.dst v) w) : opM P ops C i K a w := by
  unfold Qmz.opM
  simp only [hi]
  rcases hy with ⟨hw, hl, hv⟩ | ⟨hw, rfl⟩
  · rw [if_pos hw, if_pos hl]; exact ⟨v, hv, h⟩
  · rw [if_neg (by rw [hw]; exact Bool.false_ne_true)]; exact h
theorem Steady.of_same {o : Oper} {v : Value} {a a' : Act} (hy : Steady P ops C o v a) (he : execOp a'.eval o = execOp a.eval o)
    (hw : Region.wanted o (yielded ops a'.tmps) = Region.wanted o (yielded ops a.tmps)) : Steady P ops C o v a' := by
  unfold Steady calm at *
  rw [he, hw]
  exact hy
/-- what follows a call when another operation's slot is written ahead of it -/
theorem goes_put {oj ok : Oper} (hap : ok.apart ops oj = true) (hsj : ∀ cs b, oj.op ≠ .select cs b) (hsk : ∀ cs b, ok.op ≠ .select cs b) {K : Act → World → Prop} {a : Act} {w : World} {v : Value} (h : goes P ok a w K) :
    goes P ok (a.put oj.dst v) w fun a' w' => ∃ a0, K a0 w' ∧ a' = a0.put oj.dst v ∧ execOp a0.eval oj = execOp a.eval oj ∧ Region.wanted oj (yielded ops a0.tmps) = Region.wanted oj (yielded ops a.tmps) := by
  obtain ⟨h1, h2, h3⟩ := Oper.apart_spec hap
  have comm : ∀ (a : Act) u, (a.put oj.dst v).put ok.dst u = (a.put ok.dst u).put oj.dst v := fun a u => (Act.put_comm a u v h2).symm
  have same : ∀ (b : Act) u, execOp b.eval oj = execOp a.eval oj → Region.wanted oj (yielded ops b.tmps) = Region.wanted oj (yielded ops a.tmps) → execOp (b.put ok.dst u).eval oj = execOp a.eval oj ∧ Region.wanted oj (yielded ops (b.put ok.dst u).tmps) = Region.wanted oj (yielded ops a.tmps) :=
    fun b u e1 e2 => ⟨(execOp_put oj hsj b ok.dst u h1).trans e1, (wanted_put oj b ok.dst u h1).trans e2⟩
  unfold goes Oper.wp at *
  rw [execOp_put ok hsk a oj.dst v h3]
  generalize (execOp a.eval ok).run P w = r at *
  cases r with
  | ok n w' =>
    cases n <;> simp only [Oper.upon] at h ⊢
    case value u => exact ⟨_, h, comm a u, same a u rfl rfl⟩
    case skip => exact ⟨_, h, comm a _, same a _ rfl rfl⟩
    case defer d =>
      refine ⟨_, h, ?_, same _ _ rfl rfl⟩
      rw [Act.put_defers, comm]
    case enter f args =>
      refine Calls.mono h fun e w'' he => ?_
      cases e with
      | returned u => exact ⟨_, he, comm a u, same a u rfl rfl⟩
      | panicked c => exact he
      | outgrown => exact he
    case row row args => exact Rows.mono h fun u w'' he => ⟨_, he, comm a u, same a u rfl rfl⟩
  | halt x w' => cases x <;> simp only [Oper.upon] at h
/-- an operation that comes when a steady one's slot is written already may come ahead of it -/
theorem opM_put {j : Nat} {oi oj : Oper} {v : Value} (hj : ops[j]? = some oj) (hap : oi.apart ops oj = true)
    (hsi : ∀ cs b, oi.op ≠ .select cs b) (hsj : ∀ cs b, oj.op ≠ .select cs b) {K : Act → World → Prop} {a : Act} {w : World}
    (hy : Steady P ops C oi v a) (h : opM P ops C j K (a.put oi.dst v) w) : opM P ops C j (fun a' w' => Steady P ops C oi v a' ∧ K (a'.put oi.dst v) w') a w := by
  obtain ⟨h1, h2, h3⟩ := Oper.apart_spec hap
  have keep : ∀ (b : Act), Steady P ops C oi v b → ∀ u, Steady P ops C oi v (b.put oj.dst u) := fun b hb u =>
    hb.of_same (execOp_put oi hsi b oj.dst u h3) (wanted_put oi b oj.dst u h3)
  unfold opM at *
  simp only [hj] at *
  rw [wanted_put oj a oi.dst v h1] at h
  split
  · rename_i hw
    rw [if_pos hw] at h
    split
    · rename_i hl
      rw [if_pos hl] at h
      obtain ⟨u, hu, hn⟩ := h
      refine ⟨u, fun w' hw' => ?_, keep a hy u, by rw [← Act.put_comm a v u h2]; exact hn⟩
      have := hu w' hw'
      rwa [execOp_put oj hsj a oi.dst v h1] at this
    · rename_i hl
      rw [if_neg hl] at h
      unfold goes Oper.wp at *
      rw [execOp_put oj hsj a oi.dst v h1] at h
      generalize (execOp a.eval oj).run P w = r at *
      cases r with
      | ok n w' =>
        cases n <;> simp only [Oper.upon] at h ⊢
        case value u => exact ⟨keep a hy u, by rw [← Act.put_comm a v u h2]; exact h⟩
        case skip => exact ⟨keep a hy _, by rw [← Act.put_comm a v undef h2]; exact h⟩
        case defer d =>
          refine ⟨keep { a with defers := d :: a.defers } (hy.of_same rfl rfl) _, ?_⟩
          rw [← Act.put_comm _ v undef h2, ← Act.put_defers]
          exact h
        case enter f args =>
          refine Calls.mono h fun e w'' he => ?_
          cases e with
          | returned u => exact ⟨keep a hy u, by rw [← Act.put_comm a v u h2]; exact he⟩
          | panicked c => exact he
          | outgrown => exact he
        case row row args => exact Rows.mono h fun u w'' he => ⟨keep a hy u, by rw [← Act.put_comm a v u h2]; exact he⟩
      | halt x w' => cases x <;> simp only [Oper.upon] at h
  · rename_i hw
    rw [if_neg hw] at h
    exact ⟨keep a hy _, by rw [← Act.put_comm a v undef h2]; exact h⟩
def mix (P : Program) (md : Region.Mode) (ops : Array Oper) (C : World → Prop) (s n : Nat) (L : Array Bool → Act → World → Prop) : Nat → Array Bool → Act → World → Prop
  | 0, done, a, w => (done.getD s false = false → C w) ∧ L done a w
  | f + 1, done, a, w => (done.getD s false = false → C w) ∧ Region.ready md ops done ≠ [] ∧ ∀ i ∈ Region.ready md ops done, i < n ∧ opM P ops C i (mix P md ops C s n L f (done.setIfInBounds i true)) a w
theorem mix_in {s n f : Nat} {L : Array Bool → Act → World → Prop} {done : Array Bool} {a : Act} {w : World} (h : mix P md ops C s n L f done a w) : done.getD s false = false → C w := by
  cases f with
  | zero => exact h.1
  | succ f => exact h.1
theorem mix_wp {s n g : Nat} {L : Array Bool → Act → World → Prop} {Q' : Exit → Act → World → Prop} (hs : lastB md ops s = true) (hL : ∀ done a w, L done a w → wpAny P md ops Q' g done a w) :
    ∀ (f : Nat) (done : Array Bool) (a : Act) (w : World), HeadInv md ops n done → mix P md ops C s n L f done a w → wpAny P md ops Q' (f + g) done a w
  | 0, _, _, _, _, h => by rw [Nat.zero_add]; exact hL _ _ _ h.2
  | f + 1, _, _, _, inv, h => by
    rw [Nat.add_right_comm f 1 g]
    exact ⟨fun h0 => absurd h0 h.2.1, fun i hi => wpOp_mono (fun a' w' h' => mix_wp hs hL f _ a' w' (inv.set hi (h.2.2 i hi).1) h') (opM_wp (fun o ho hl => by
      cases hp : blind o with
      | true => exact .inl rfl
      | false => exact .inr (h.1 (last_listed hs inv ho hl hp (mem_ready.1 hi).1).2)) (h.2.2 i hi).2)⟩
/-- while one of the first n operations is left, none behind them may come -/
def Lows (md : Region.Mode) (ops : Array Oper) (n : Nat) : Prop := ∀ (done : Array Bool) (i : Nat), HeadInv md ops n done → i < n → done.getD i true = false → ∀ j ∈ Region.ready md ops done, j < n
theorem lows_tail {n : Nat} (hs : Region.sinkB md ops n = true) (hc : Region.chainB md ops n = true) (hn : n < ops.size) : Lows md ops n := fun done i inv hin hun j hj => by
  rcases Nat.lt_or_ge j n with h | h
  · exact h
  · exact absurd hj (tail_waits hs hc hn inv _ i rfl hin hun j h)
theorem lows_all : Lows md ops ops.size := fun done i inv hin hun j hj => by
  obtain ⟨_, o, ho, _⟩ := mem_ready.1 hj
  exact (Array.getElem?_eq_some_iff.1 ho).1
theorem mix_first {s n i : Nat} {oi : Oper} {v : Value} {L : Array Bool → Act → World → Prop} (hi : ops[i]? = some oi) (hsel : ∀ (j : Nat) (o : Oper) cs b, ops[j]? = some o → o.op ≠ .select cs b)
    (hlow : Lows md ops n) (his : i ≠ s) (hin : i < n) (hL : ∀ done a w, L done a w → ∀ j ∈ Region.ready md ops done, n ≤ j) :
    ∀ (f : Nat) (done : Array Bool) (a : Act) (w : World), (done.getD s false = false → C w) → HeadInv md ops n done →
      (∀ j oj, ops[j]? = some oj → j ≠ i → done.getD j true = false → (∀ e ∈ oj.after, Region.binds md e = true → e.on ≠ i) → oi.apart ops oj = true) →
      i ∈ Region.ready md ops done → Steady P ops C oi v a → mix P md ops C s n L f (done.setIfInBounds i true) (a.put oi.dst v) w → mix P md ops C s n L (f + 1) done a w
  | f, done, a, w, hC, inv, hfree, hr, hy, H => by
    have hun := (mem_ready.1 hr).1
    have low : ∀ j ∈ Region.ready md ops done, j < n := hlow done i inv hin hun
    refine ⟨hC, fun h => (by rw [h] at hr; cases hr), fun j hj => ⟨low j hj, ?_⟩⟩
    by_cases hji : j = i
    · subst hji; exact hy.opM hi H
    · match f, H with
      | 0, H =>
        have h1 := hL _ _ _ H.2 j (ready_mono hj hji)
        have h2 := low j hj
        omega
      | f + 1, H =>
        have h1 := (H.2.2 j (ready_mono hj hji)).2
        obtain ⟨hjun, oj, hoj, hall⟩ := mem_ready.1 hj
        have hnot : ∀ e ∈ oj.after, Region.binds md e = true → e.on ≠ i := fun e he hb heq => by
          have h3 := hall e he hb
          rw [heq, getD_both hun] at h3
          cases h3
        have h2 := opM_put hoj (hfree j oj hoj hji hjun hnot) (fun cs b => hsel i oi cs b hi) (fun cs b => hsel j oj cs b hoj) hy h1
        refine opM_mono (fun a' w' h3 => mix_first hi hsel hlow his hin hL f _ a' w' (fun hk => ?_) (inv.set hj (low j hj)) ?_ (ready_mono hr (Ne.symm hji)) h3.1 ?_) h2
        · refine mix_in h3.2 ?_
          by_cases hjs : j = s
          · subst hjs
            have hjl : j < done.size := by rw [inv.size]; exact (Array.getElem?_eq_some_iff.1 hoj).1
            simp [hjl] at hk
          · rw [getD_set_ne false hjs] at hk
            rw [getD_set_ne false hjs, getD_set_ne false his]
            exact hk
        · intro k ok hk hki hkun hno
          refine hfree k ok hk hki ?_ hno
          by_cases hjk : j = k
          · subst hjk; exact hjun
          · rwa [getD_set_ne true hjk] at hkun
        · rw [Array.setIfInBounds_comm _ _ hji]
          exact h3.2
end
section
variable {P : Program} {ops : Array Oper} {C : World → Prop}
theorem bind_val {α : Type} {s : Sem α} {f : α → Sem Next} {w w' : World} {n : Next} (hr : (s >>= f).run P w = .ok n w') (h : ∀ a w1, (f a).run P w1 = .ok n w' → ∃ u, n = .value u) : ∃ u, n = .value u := by
  rw [Sem.run_bind] at hr
  cases hb : s.run P w with
  | ok u w1 => rw [hb] at hr; exact h u w1 hr
  | halt x w1 => rw [hb] at hr; cases hr
theorem panic_val {w w' : World} {n : Next} (hr : (runtimePanic .nilDeref : Sem Next).run P w = .ok n w') : ∃ u, n = .value u := by
  unfold runtimePanic at hr
  refine bind_val hr fun a w1 h1 => ?_
  dsimp only at h1
  unfold goPanic at h1
  cases h1
theorem pure_val {u : Value} {w w' : World} {n : Next} (hr : (pure (Next.value u) : Sem Next).run P w = .ok n w') : ∃ u, n = .value u := by
  rw [Sem.run_pure] at hr
  injection hr with h1 _
  exact ⟨u, h1.symm⟩
theorem light_val {o : Oper} (h : light o = true) {ρ : Operand → Value} {w w' : World} {n : Next} (hr : (execOp ρ o).run P w = .ok n w') : ∃ u, n = .value u := by
  have key : ∀ (s : Sem Value), (do pure (Next.value (← s)) : Sem Next).run P w = .ok n w' → ∃ u, n = .value u := fun s hs => by
    rw [Sem.run_bind] at hs
    cases hr : s.run P w with
    | ok u w1 =>
      rw [hr] at hs
      simp only [Result.andThen_ok, Sem.run_pure] at hs
      injection hs with h1 _
      exact ⟨u, h1.symm⟩
    | halt x w1 =>
      rw [hr] at hs
      cases hs
  unfold light at h
  unfold execOp at hr
  split at h
  all_goals first | (cases h; done) | skip
  all_goals (rename_i heq; rw [heq] at hr)
  all_goals first | exact key _ hr | (simp only [Sem.run_pure] at hr; injection hr with h1 _; exact ⟨_, h1.symm⟩) | skip
  case h_13 =>
    dsimp only at hr
    split at hr
    all_goals first | exact panic_val hr | exact pure_val hr | skip
    split at hr
    all_goals first | exact panic_val hr | exact pure_val hr | skip
    refine bind_val hr fun a w1 h1 => bind_val h1 fun b w2 h2 => ?_
    split at h2
    · exact bind_val h2 fun c w3 h3 => pure_val h3
    · exact pure_val h2
  rw [Sem.run_bind] at hr
  cases hb : (asBool _).run P w with
  | ok u w1 =>
    rw [hb] at hr
    simp only [Result.andThen_ok, Sem.run_pure] at hr
    injection hr with h1 _
    exact ⟨_, h1.symm⟩
  | halt x w1 =>
    rw [hb] at hr
    cases hr
/-- what stands behind one operation -/
def norm (R : Act → World → Prop) (e : Exit) (a : Act) (w : World) : Prop := e = .normal ∧ R a w
theorem goes_of_wp {o : Oper} {a : Act} {w : World} {K R : Act → World → Prop} (hK : ∀ a w, K a w → R a w) (h : o.wp P a w K (norm R)) : goes P o a w R := by
  unfold goes Oper.wp at *
  generalize (execOp a.eval o).run P w = r at *
  cases r with
  | ok n w' =>
    cases n <;> simp only [Oper.upon] at h ⊢
    case value => exact hK _ _ h
    case skip => exact hK _ _ h
    case defer => exact hK _ _ h
    case enter f args =>
      refine Calls.mono h fun e w'' he => ?_
      cases e with
      | returned u => exact hK _ _ he
      | panicked c => cases he.1
      | outgrown => obtain ⟨_, _, hf⟩ := he; cases hf.1
    case row => exact Rows.mono h fun _ _ he => hK _ _ he
  | halt x w' =>
    cases x <;> simp only [Oper.upon] at h ⊢
    case panic => cases h.1
end
end Go.Proofs.YtpbgmpjnfndfjaaGreatDoor.Qmz
