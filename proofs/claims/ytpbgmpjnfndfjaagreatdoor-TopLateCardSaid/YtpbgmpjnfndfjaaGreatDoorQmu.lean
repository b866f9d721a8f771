/- The tree (Qmt) where operation s breaks the class of worlds: all that looks is done before it. -/
import Derived.Test.YtpbgmpjnfndfjaaGreatDoorQmz
namespace Go.Proofs.YtpbgmpjnfndfjaaGreatDoor.Qmu
theorem here : True := trivial
open Go.RowKit Qmz
section
variable {P : Program} {ops : Array Oper} {C : World → Prop} {R : Act → World → Prop}
/-- all operations are done -/
def Fin (ops : Array Oper) (R : Act → World → Prop) (done : Array Bool) (a : Act) (w : World) : Prop := Region.ready .any ops done = [] ∧ R a w
/-- what is left to walk: f operations, those of 'done' done -/
def Tree (P : Program) (ops : Array Oper) (C : World → Prop) (s : Nat) (R : Act → World → Prop) (f : Nat) (done : Array Bool) (a : Act) (w : World) : Prop :=
  Region.noSelect ops = true → lastB .any ops s = true → HeadInv .any ops ops.size done → mix P .any ops C s ops.size (Fin ops R) f done a w
theorem finL : ∀ (d : Array Bool) (a' : Act) (w' : World), Fin ops R d a' w' → ∀ j ∈ Region.ready .any ops d, ops.size ≤ j := fun d a' w' h j hj => by rw [h.1] at hj; cases hj
def lightIn (ops : Array Oper) (i : Nat) : Bool := match ops[i]? with | some o => light o | none => false
def takesB (ops : Array Oper) : List Nat → Array Bool → Bool
  | [], _ => true
  | i :: is, done => lightIn ops i && (Region.ready .any ops done).contains i && Region.free .any ops done i && takesB ops is (done.setIfInBounds i true)
def after : List Nat → Array Bool → Array Bool
  | [], done => done
  | i :: is, done => after is (done.setIfInBounds i true)
theorem blind_run {o : Oper} (hb : blind o = true) {ρ : Operand → Value} {w w' : World} {v : Value} (h : (execOp ρ o).run P w = .ok (.value v) w) : (execOp ρ o).run P w' = .ok (.value v) w' := by
  unfold blind at hb
  unfold execOp at *
  split at hb
  all_goals first | (cases hb; done) | skip
  all_goals (rename_i heq; rw [heq] at h ⊢)
  · simp only [Sem.run_pure] at h ⊢
    injection h with h1 _
    rw [h1]
  · simp only [Sem.run_pure] at h ⊢
    injection h with h1 _
    rw [h1]
  · rename_i c x y
    cases hc : ρ c <;> simp [hc, asBool, go_sem] at h ⊢ <;> exact h
  · rename_i t ix
    cases ht : ρ t <;> simp [ht, Instr.extract, go_sem] at h ⊢
    rename_i vs
    cases hv : vs[ix]? <;> simp [hv, go_sem] at h ⊢
    exact h
/-- operations that only look, taken at once -/
theorem takes {s : Nat} {w0 : World} (h0 : C w0) : ∀ (idx : List Nat) (f : Nat) (done : Array Bool) (a : Act) (w : World), (done.getD s false = false → C w) → s ∉ idx → takesB ops idx done = true →
    wpQuiet P ops C (fun a' => Tree P ops C s R f (after idx done) a' w) (idx.filterMap fun i => ops[i]?) a → Tree P ops C s R (f + idx.length) done a w
  | [], f, done, a, w, _, _, _, h => h
  | i :: is, f, done, a, w, hC, hns, hB, h => by
    intro hsel hlast inv
    simp only [takesB, Bool.and_eq_true] at hB
    obtain ⟨⟨⟨hl, hr⟩, hf⟩, hrest⟩ := hB
    have hr' : i ∈ Region.ready .any ops done := by simpa using hr
    have his : i ≠ s := fun e => hns (by rw [e]; exact List.mem_cons_self ..)
    have hC' : (done.setIfInBounds i true).getD s false = false → C w := fun h' => hC (by rwa [getD_set_ne false his] at h')
    have hns' : s ∉ is := fun e => hns (List.mem_cons_of_mem _ e)
    cases ho : ops[i]? with
    | none => unfold lightIn at hl; rw [ho] at hl; cases hl
    | some o =>
      unfold lightIn at hl
      rw [ho] at hl
      have hin : i < ops.size := (Array.getElem?_eq_some_iff.1 ho).1
      rw [List.filterMap_cons, ho] at h
      unfold wpQuiet at h
      rw [List.length_cons, ← Nat.add_assoc]
      by_cases hw : Region.wanted o (yielded ops a.tmps) = true
      · simp only [hw, if_true] at h
        obtain ⟨v, h1, h2⟩ := h
        have hvC : ∀ w', C w' → (execOp a.eval o).run P w' = .ok (.value v) w' := fun w' hw' => by
          have h3 := h1 w' hw'
          unfold Oper.quietAt at h3
          cases hr : (execOp a.eval o).run P w' with
          | ok n w2 =>
            obtain ⟨u, rfl⟩ := light_val hl hr
            rw [hr] at h3
            obtain ⟨rfl, rfl⟩ := h3
            rfl
          | halt x w2 =>
            rw [hr] at h3
            exact h3.elim
        have hv : calm P C o a v := fun w' hw' => by
          rcases hw' with hb | hw'
          · exact blind_run hb (hvC w0 h0)
          · exact hvC w' hw'
        exact mix_first ho (Region.noSelect_spec hsel) lows_all his hin finL _ done a w hC inv (Region.free_spec ho hf) hr' (.inl ⟨hw, hl, hv⟩) (takes h0 is f _ _ w hC' hns' hrest h2 hsel hlast (inv.set hr' hin))
      · simp only [hw, if_false, Bool.false_eq_true] at h
        exact mix_first ho (Region.noSelect_spec hsel) lows_all his hin finL _ done a w hC inv (Region.free_spec ho hf) hr' (.inr ⟨by simpa using hw, rfl⟩) (takes h0 is f _ _ w hC' hns' hrest h hsel hlast (inv.set hr' hin))
def forks (K : Nat → Prop) : List Nat → Prop
  | [] => True
  | i :: is => K i ∧ forks K is
theorem forks_mem {K : Nat → Prop} : ∀ {l : List Nat}, forks K l → ∀ i ∈ l, K i
  | j :: l, h, i, hi => by
    rcases List.mem_cons.1 hi with rfl | hi
    · exact h.1
    · exact forks_mem h.2 i hi
/-- every operation that may come now -/
theorem fork {s f : Nat} {done : Array Bool} {a : Act} {w : World} (l : List Nat) (hC : done.getD s false = false → C w) (hl : Region.ready .any ops done = l) (hne : l ≠ []) (h : forks (fun i => opM P ops C i (Tree P ops C s R f (done.setIfInBounds i true)) a w) l) : Tree P ops C s R (f + 1) done a w := by
  intro hsel hlast inv
  refine ⟨hC, by rw [hl]; exact hne, fun i hi => ?_⟩
  have hin : i < ops.size := by
    obtain ⟨_, o, ho, _⟩ := mem_ready.1 hi
    exact (Array.getElem?_eq_some_iff.1 ho).1
  exact ⟨hin, opM_mono (fun a' w' ht => ht hsel hlast (inv.set hi hin)) (forks_mem h i (by rw [← hl]; exact hi))⟩
/-- one of them that does not only look -/
theorem by_op {i : Nat} {o : Oper} {K : Act → World → Prop} {a : Act} {w : World} (ho : ops[i]? = some o) (hl : light o = false) (h : wpList P ops (norm K) [o] a w) : opM P ops C i K a w := by
  unfold opM
  simp only [ho]
  unfold wpList at h
  by_cases hw : Region.wanted o (yielded ops a.tmps) = true
  · rw [if_pos hw] at h ⊢
    rw [if_neg (by rw [hl]; exact Bool.false_ne_true)]
    rcases h with h | ⟨_, _, _, hf⟩
    · exact goes_of_wp (fun a' w' h' => h'.2) h
    · cases hf.1
  · rw [if_neg hw] at h ⊢
    exact h.2
theorem by_end {s : Nat} {done : Array Bool} {a : Act} {w : World} (hC : done.getD s false = false → C w) (hr : Region.ready .any ops done = []) (h : R a w) : Tree P ops C s R 0 done a w := fun _ _ _ => ⟨hC, hr, h⟩
theorem past {s : Nat} {done : Array Bool} {w : World} (h : done.getD s false = true) : done.getD s false = false → C w := fun h' => by rw [h] at h'; cases h'
theorem wp_region {id : Nat} {Q : Exit → Act → World → Prop} {a : Act} {w : World} {l : List Oper} (s : Nat) (hm : P.follows .mixedOrders = true) (hB : Region.noSelect l.toArray = true) (hS : lastB .any l.toArray s = true)
    (h : Tree P l.toArray C s (fun a' w' => Q .normal a' w') l.length (Array.replicate l.length false) a { w with drawn := w.drawn + 1 }) : (Code.region id l.toArray true).wp P Q a w := by
  have hsz : l.toArray.size = l.length := by simp
  have inv : HeadInv .any l.toArray l.toArray.size (Array.replicate l.length false) :=
    ⟨by rw [Array.size_replicate, hsz], fun j oj _ hl => (by rw [getD_replicate_false] at hl; cases hl), fun t ht ht' => by omega⟩
  have H := h hB hS inv
  refine wp_region_any hm ?_
  have h2 := mix_wp (Q' := Q) (g := 0) hS (fun d a' w' (hL : Fin l.toArray (fun a' w' => Q .normal a' w') d a' w') => (⟨hL.1, hL.2⟩ : wpAny P .any l.toArray Q 0 d a' w')) _ _ _ _ inv H
  rw [hsz]
  exact h2
end
end Go.Proofs.YtpbgmpjnfndfjaaGreatDoor.Qmu
