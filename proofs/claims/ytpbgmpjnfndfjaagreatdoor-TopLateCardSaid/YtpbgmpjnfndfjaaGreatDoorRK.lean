/- PostBelow, RsX, in one text. -/
import Derived.Below
import Derived.ChangeSame
import Derived.Test.YtpbgmpjnfndfjaaGreatDoorRQ
import Derived.Test.YtpbgmpjnfndfjaaGreatDoorRows
import Derived.Laws.StructEq
import Derived.ProofKit
import Derived.OpenShut
import Derived.Carry
import Derived.Deep.Slices
import Derived.Deep.Fields
import Derived.HandedShaped
import Derived.Stop.LaidErr
import Derived.Lib.LaidTab
import Derived.MakeChecks
import Derived.Deep.DeepHandedRow
import Derived.Lay
namespace Go.Proofs.YtpbgmpjnfndfjaaGreatDoor.PostBelow
theorem here : True := trivial
open Go.RowKit Go.WideShapes Go.ChangeShapes
section
variable {H : Type} {enc : TypeId × Value → H} {P : Program}
theorem post_of_below {f : Func} {s : ChangeSpec} {apart fresh handsOn again : Bool} {W W' : World} {args : Array Value} {v : Value} {ds gs : List (DataW H)} {before pa pv : List MemPlace}
    (hW : DataW.Whole enc P f.params.toList s.vars apart W args.toList ds gs before)
    (hres : ∀ (b : Nat) (sp : Nat → Bool) (hd : Bool), DataW.TrodAll enc P W' b sp hd f.resultTypes.toList (v.resultList f.resultTypes.size) (s.fn H (ds ++ gs)).results [])
    (hargs : ∀ sp : Nat → Bool, (∀ p ∈ before, sp p.block = true) → DataW.TrodAll enc P W' 0 sp true f.params.toList args.toList (s.fn H (ds ++ gs)).args pa)
    (hvars : ∀ sp : Nat → Bool, (∀ p ∈ before, sp p.block = true) → DataW.TrodVars enc P W' sp s.vars (s.fn H (ds ++ gs)).vars pv)
    (hps : before = pa ++ pv) (hb : Below W.heap.size W W')
    (hok : ∀ (j : Nat) (t : TypeId) (r : Value), f.resultTypes[j]? = some t → (v.resultList f.resultTypes.size)[j]? = some r → Value.okWide P W' .any 0 t r) :
    s.post enc P f apart fresh handsOn again W args v W' := by
  have hlt : ∀ p ∈ before, p.block < W.heap.size := fun p hp => hW.lt p hp
  have hold : ∀ p ∈ before, (fun b => decide (b < W.heap.size)) p.block = true := fun p hp => by simpa using hlt p hp
  refine ⟨ds, gs, before, [], pa, pv, hW, hres _ _ _, hargs _ hold, hvars _ hold, World.keptBut_mono (fun p hp => ⟨hp, ?_⟩) (hb.frame (· ∈ before)), fun _ => ?_⟩
  · rw [hps, List.mem_append] at hp
    exact Or.inr hp
  · obtain ⟨_, _, _, _, _, hz, hn⟩ := hW
    refine ⟨hok, _, _, ([] ++ pa) ++ pv, ⟨[] ++ pa, pv, trodAll_append (hargs _ (fun _ _ => rfl)) (hres _ _ _), hvars _ (fun _ _ => rfl), rfl, ?_, ?_⟩, ?_⟩
    · intro b off hp
      have hin : MemPlace.cell b off ∈ before := by rw [hps]; simpa using hp
      rw [hb.frozen (hlt _ hin)]
      exact hz b off hin
    · intro ha
      have := hn ha
      rw [hps] at this
      simpa using this
    · intro p hp _
      rw [hps]
      simpa using hp
end
end Go.Proofs.YtpbgmpjnfndfjaaGreatDoor.PostBelow
namespace Go.Proofs.YtpbgmpjnfndfjaaGreatDoor.RsX
theorem here : True := trivial
open Go.RowKit Go.ChangeShapes Go.WideShapes Go.ChangeAt Go.Deep RtA RpF
theorem rat_und : Tryz.prog.underlying 32 = some (.struct (Tryz.prog.fieldsOf 32)) := by kernel_rfl
theorem rat_held : Tryz.prog.stoodInHeld 32 = false := by kernel_rfl
theorem rat_guard : Tryz.prog.eqGuardType Tryz.prog.depth 32 = false := by kernel_rfl
theorem rat_fields : Tryz.prog.fieldsOf 32 = #[Tryz.prog.fieldsOf 32 |>.getD 0 default, Tryz.prog.fieldsOf 32 |>.getD 1 default, Tryz.prog.fieldsOf 32 |>.getD 2 default] := by kernel_rfl
theorem rat_same (b : Bool) (s t : ByteArray) (W : World) : (binOp .eql 32 (.agg #[.bool b, .string s, .string t]) (.agg #[.bool b, .string s, .string t])).run Tryz.prog W = .ok (.bool true) W := by
  rw [run_eql_struct, run_equalIn_agg W 9999 _ _ _ rat_und rat_held, rat_fields]
  simp [go_sem]
section
variable {H : Type} {enc : TypeId × Value → H} {P : Program} {w W W' : World} {base : Nat} {spare : Nat → Bool} {held : Bool}
theorem stay (hl : laidOutB P = true) (hb : Below W.heap.size W W') (sp : Nat → Bool) : ∀ (ts : List TypeId) (vs : List Value) (ds : List (DataW H)) (p : List MemPlace), (∀ t ∈ ts, P.readableRec t = true ∧ t < P.types.size) →
    DataW.TrodAll enc P W 0 (fun _ => true) true ts vs ds p → (∀ x ∈ p, x.block < W.heap.size) → (∀ x ∈ p, sp x.block = true) → DataW.TrodAll enc P W' 0 sp true ts vs ds p
  | [], [], [], p, _, h, _, _ => h
  | t :: ts, v :: vs, d :: ds, p, ht, h, hlt, hs => by
    obtain ⟨p1, p2, h1, h2, rfl⟩ := h
    refine ⟨p1, p2, ?_, ?_, rfl⟩
    · exact WideElems.Trod_stays hl (ht t (by simp)).1 (ht t (by simp)).2 h1 (fun x hx => hb.same (hlt x (by simp [hx]))) (fun x hx => hs x (by simp [hx]))
    · exact stay hl hb sp ts vs ds p2 (fun t' ht' => ht t' (by simp [ht'])) h2 (fun x hx => hlt x (by simp [hx])) (fun x hx => hs x (by simp [hx]))
  | [], _ :: _, _, _, _, h, _, _ => by cases h
  | [], [], _ :: _, _, _, h, _, _ => by cases h
  | _ :: _, [], _, _, _, h, _, _ => by cases h
  | _ :: _, _ :: _, [], _, _, h, _, _ => by cases h
end
/-- the variables that each row of this seat lists -/
def laid : List (String × DataW Unit) := [("unicode/utf8.acceptRanges", Rows.laid_unicode_utf8_acceptRanges), ("unicode/utf8.first", Rows.laid_unicode_utf8_first)]
set_option maxRecDepth 100000 in
theorem plain : (laid.all fun x => x.2.handleName?.isNone) = true := by kernel_rfl
set_option maxRecDepth 100000 in
theorem env_of {W : World} (hs : W.ShapedOpen Tryz.prog) : Env W := by
  refine ⟨?_, Go.Proofs.cell_of_shapedOpen_int (zero := #[.int .i64 0]) (t := 3) hs (of_decide_eq_true (by kernel_rfl)) (by kernel_rfl) rfl (by kernel_rfl) (by kernel_rfl) Tryz.underlying3⟩
  obtain ⟨o, _, ho, _, _⟩ := hs.2 3 (of_decide_eq_true (by kernel_rfl)) (of_decide_eq_true (by kernel_rfl))
  exact Nat.le_of_lt (Array.getElem?_eq_some_iff.1 ho).1
end Go.Proofs.YtpbgmpjnfndfjaaGreatDoor.RsX
