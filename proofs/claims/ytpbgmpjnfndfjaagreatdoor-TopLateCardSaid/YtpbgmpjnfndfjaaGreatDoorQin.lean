/- A region that draws its order, walked once: its operations keep a property of the world and hand back values that do not depend on which such world it is. -/
import Derived.Deep.QuietTactic
import Derived.BigQuiet
import Derived.Below
namespace Go.Proofs.YtpbgmpjnfndfjaaGreatDoor.Qin
theorem here : True := trivial
open Go.RowKit
/-- the worlds of a property -/
structure In (I : World → Prop) where
  val : World
  ok : I val
theorem start (B : Nat) (w : World) : Below B w { w with drawn := w.drawn + 1 } := ⟨rfl, rfl, rfl, Nat.le_refl _, fun _ _ => rfl⟩
theorem region {P : Program} {I : World → Prop} {id : Nat} {Q : Exit → Act → World → Prop} {a : Act} {w : World} {l : List Oper} (hI : I { w with drawn := w.drawn + 1 }) (hm : P.follows .mixedOrders = true) (hB : Region.lexB .any l.toArray = true)
    (h : wpQuiet P l.toArray (fun w' => ∃ x : In I, w' = x.val) (fun a' => ∀ x : In I, Q .normal a' x.val) l a) : (Code.region id l.toArray true).wp P Q a w := by
  refine wp_region_quiet (C := fun w' => ∃ x : In I, w' = x.val) hm hB ⟨⟨_, hI⟩, rfl⟩ ?_
  have hmono : ∀ (l' : List Oper) (a' : Act), wpQuiet P l.toArray (fun w' => ∃ x : In I, w' = x.val) (fun a' => ∀ x : In I, Q .normal a' x.val) l' a' → wpQuiet P l.toArray (fun w' => ∃ x : In I, w' = x.val) (fun a' => ∀ w', (∃ x : In I, w' = x.val) → Q .normal a' w') l' a' := by
    intro l'
    induction l' with
    | nil => intro a' h' w' hw; obtain ⟨x, rfl⟩ := hw; exact h' x
    | cons o rest ih =>
      intro a' h'
      unfold wpQuiet at h' ⊢
      split
      · rename_i hw
        rw [if_pos hw] at h'
        exact Oper.quiet_mono ih h'
      · rename_i hw
        rw [if_neg hw] at h'
        exact ih _ h'
  exact hmono _ _ h
/-- a callee's contract inside such a region -/
theorem call {P : Program} {f : FuncId} {args : Array Value} {I : World → Prop} {w : World} {v : Value} (h : Calls P f args w fun e w' => e = .returned v ∧ I w') : Calls P f args w fun e w'' => e = .returned v ∧ ∃ x : In I, w'' = x.val :=
  h.mono fun _ w' ⟨he, hw⟩ => ⟨he, ⟨w', hw⟩, rfl⟩
end Go.Proofs.YtpbgmpjnfndfjaaGreatDoor.Qin
