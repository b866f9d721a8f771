/-
  RationalMonotone: called with any arguments the law RationalMonotone returns true, changes no argument and nothing else that was there. Its condition: the package-level variables that its row lists hold what the program's text lays (the card ties them).
-/
import Derived.Test.YthppojbabkljpaaDoorCards
import Derived.Test.YthppojbabkljpaaDoorTie
import Derived.Test.YthppojbabkljpaaDoorRsJa
import Derived.Test.YthppojbabkljpaaDoorRsJb
import Derived.Test.YthppojbabkljpaaDoorRsLaw17
import Derived.WalkKit
import Derived.ProofKit
import Derived.OpenShut
import Derived.ShutString
import Derived.Deep.DeepHandedRow
import Derived.Lay
namespace Go.Proofs.YthppojbabkljpaaDoor.rationalMonotone
open Go.ChangeShapes Go.WideShapes Go.ChangeAt Go.RowKit
open Go.ChangeMaps (open_string shut_string)
set_option linter.unusedVariables false
theorem own : ownKnob Tryd.prog.godebug = none := by kernel_rfl
theorem laidOut : laidOutB Tryd.prog = true := by kernel_rfl
theorem readable : ∀ t ∈ Tryd.f6.params.toList, Tryd.prog.readableRec t = true ∧ t < Tryd.prog.types.size := by
  rw [Tryd.params6]
  intro t ht
  simp only [List.mem_cons, List.mem_nil_iff, or_false] at ht
  rcases ht with rfl | rfl | rfl
  all_goals exact ⟨by kernel_rfl, of_decide_eq_true (by kernel_rfl)⟩
theorem laid_eq : Rows.rationalMonotoneRow.laid = RsX.laid := rfl
set_option maxRecDepth 100000 in
theorem contract (H : Type) (enc : TypeId × Value → H) (W : World) (base : Nat) (args : Array Value) (ds gs : List (DataW H)) (before : List MemPlace)
    (hval : ∀ (j : Nat) t v, Tryd.f6.params[j]? = some t → args[j]? = some v → Value.okWide Tryd.prog W .any base t v)
    (hW : DataW.Whole enc Tryd.prog Tryd.f6.params.toList Rows.rationalMonotoneSpec.vars false W args.toList ds gs before) (hL : laidMetH Tryd.prog Rows.rationalMonotoneRow.laid W) (hS : W.ShapedOpen Tryd.prog) :
    Calls Tryd.prog 6 args W fun e W' => ∃ v, e = .returned v ∧ Rows.rationalMonotoneSpec.post enc Tryd.prog Tryd.f6 false true false false W args v W' := by
  have env : RpF.Env W := RsX.env_of hS
  have hW' := hW
  obtain ⟨p, q, hA0, hV, rfl, hfz, hnd⟩ := hW
  have hA : DataW.TrodAll enc Tryd.prog W 0 (fun _ => true) true Tryd.f6.params.toList args.toList ds p := hA0
  rw [Tryd.params6] at hA hval
  obtain ⟨v0, vs0, d0, ds0, p0, q0, hargs, rfl, rfl, h0, r0⟩ := trodAll_cons hA
  obtain ⟨v1, vs1, d1, ds1, p1, q1, rfl, rfl, rfl, h1, r1⟩ := trodAll_cons r0
  obtain ⟨v2, vs2, d2, ds2, p2, q2, rfl, rfl, rfl, h2, r2⟩ := trodAll_cons r1
  obtain ⟨rfl, rfl, rfl⟩ := trodAll_nil r2
  obtain rfl : args = #[v0, v1, v2] := by cases args; simp_all
  obtain ⟨rfl, rfl⟩ := trodVars_none hV
  obtain ⟨m0, a0, e0, rfl, I0⟩ := RsY.open_rat (hval 0 23 v0 rfl rfl) h0
  obtain ⟨m1, a1, e1, rfl, I1⟩ := RsY.open_rat (hval 1 23 v1 rfl rfl) h1
  obtain ⟨m2, a2, e2, rfl, I2⟩ := RsY.open_rat (hval 2 23 v2 rfl rfl) h2
  refine (RsLaw17.monotone_law m0 a0 e0 m1 a1 e1 m2 a2 e2 W I0.1 I0.2 I1.1 I1.2 I2.1 I2.2 env).mono fun e W' ⟨he, hg⟩ => ?_
  subst he
  have hlt := fun x hx => hW'.lt x (List.mem_append_left _ hx)
  exact ⟨_, rfl, PostBelow.post_of_below (pv := []) hW' (fun _ _ _ => trodAll_cons_mk (shut_bool Tryd.underlying4 _) trodAll_mk0) (fun sp hs => RsX.stay laidOut hg sp _ _ _ _ readable hA0 hlt (fun x hx => hs x (List.mem_append_left _ hx))) (fun _ _ => rfl) rfl
    hg (ok_one (by kernel_rfl) rfl (okWide_bool_mk Tryd.underlying4 _))⟩
set_option maxRecDepth 100000 in
theorem laid_met (os : Os) : laidMet Tryd.prog Rows.rationalMonotoneRow.laid ((World.laidAll Tryd.prog os Rows.rationalMonotoneRow.laid).forCall (fun _ _ => 0) ⟨#[], #[.agg #[.bool false, .string ByteArray.empty, .string ByteArray.empty], .agg #[.bool false, .string ByteArray.empty, .string ByteArray.empty], .agg #[.bool false, .string ByteArray.empty, .string ByteArray.empty]], []⟩).memory :=
  laidMet_laidAll _ (by kernel_rfl) (by kernel_rfl)
theorem laid_metH (os : Os) : laidMetH Tryd.prog Rows.rationalMonotoneRow.laid ((World.laidAll Tryd.prog os Rows.rationalMonotoneRow.laid).forCall (fun _ _ => 0) ⟨#[], #[.agg #[.bool false, .string ByteArray.empty, .string ByteArray.empty], .agg #[.bool false, .string ByteArray.empty, .string ByteArray.empty], .agg #[.bool false, .string ByteArray.empty, .string ByteArray.empty]], []⟩).memory := by
  have h := laid_met os
  rw [laid_eq] at h ⊢
  rw [Go.MakeChecks.laidMetH_plain _ _ _ RsX.plain]
  exact h
set_option maxRecDepth 100000 in
theorem reads (os : Os) {H : Type} (enc : TypeId × Value → H) : ∃ places, DataW.whole enc Tryd.prog ((World.laidAll Tryd.prog os Rows.rationalMonotoneRow.laid).forCall (fun _ _ => 0) ⟨#[], #[.agg #[.bool false, .string ByteArray.empty, .string ByteArray.empty], .agg #[.bool false, .string ByteArray.empty, .string ByteArray.empty], .agg #[.bool false, .string ByteArray.empty, .string ByteArray.empty]], []⟩).memory Tryd.f6.params.toList Rows.rationalMonotoneSpec.vars false (#[.agg #[.bool false, .string ByteArray.empty, .string ByteArray.empty], .agg #[.bool false, .string ByteArray.empty, .string ByteArray.empty], .agg #[.bool false, .string ByteArray.empty, .string ByteArray.empty]] : Array Value).toList 8 = some ([.agg [.lit (.bool false), .lit (.string []), .lit (.string [])], .agg [.lit (.bool false), .lit (.string []), .lit (.string [])], .agg [.lit (.bool false), .lit (.string []), .lit (.string [])]], [], places) :=
  ⟨[], by kernel_rfl⟩
set_option maxRecDepth 100000 in
theorem lifted (os : Os) (started : os.Started) (H : Type) (enc : TypeId × Value → H) (F : Stop.Interp) :
    ReturnsInHanded {} Tryd.checked os 6 .any ((OpenSpec.ofChange Rows.rationalMonotoneSpec).preRow enc Tryd.prog Tryd.f6 Rows.rationalMonotoneRow.domain false Rows.rationalMonotoneRow.laid) (((OpenSpec.ofChange Rows.rationalMonotoneSpec).at F).post enc Tryd.prog Tryd.f6 false true false false) := by
  obtain ⟨places, hx⟩ := reads os enc
  refine returnsInHanded_of_row (C := Tryd.checked) (s := OpenSpec.ofChange Rows.rationalMonotoneSpec) own started (by kernel_rfl) Tryd.func6
    (witness_row_at (enc := enc) (C := Tryd.checked) false (World.laidAll Tryd.prog os Rows.rationalMonotoneRow.laid) #[.agg #[.bool false, .string ByteArray.empty, .string ByteArray.empty], .agg #[.bool false, .string ByteArray.empty, .string ByteArray.empty], .agg #[.bool false, .string ByteArray.empty, .string ByteArray.empty]] (World.laidAll_os _ _ _) (by kernel_rfl) (by kernel_rfl) (by kernel_rfl)
      (OpenSpec.preRow_of_cond 8 hx (by kernel_rfl) (fun k hk => by cases hk) (by kernel_rfl) (laid_metH os))) ?_
  intro W base args ds gs before hval hW _ _ _ hL hS _
  exact contract H enc W base args ds gs before hval hW hL hS
set_option maxHeartbeats 8000000 in
set_option maxRecDepth 100000 in
theorem closed : joinedFacts Tryd.pinned.checked.prog 6 Tryd.f6 (OpenSpec.ofChange Rows.rationalMonotoneSpec).bare Rows.rationalMonotoneRow = true := by
  simp only [joinedFacts, Bool.and_eq_true]
  refine ⟨⟨⟨⟨⟨⟨⟨⟨⟨⟨⟨⟨⟨⟨⟨⟨⟨⟨⟨⟨⟨⟨⟨⟨⟨⟨⟨⟨⟨⟨⟨?_, ?_⟩, ?_⟩, ?_⟩, ?_⟩, ?_⟩, RsJb.stops⟩, ?_⟩, RsJb.knobs⟩, ?_⟩, ?_⟩, ?_⟩, ?_⟩, ?_⟩, ?_⟩, ?_⟩, ?_⟩, ?_⟩, ?_⟩, ?_⟩, ?_⟩, ?_⟩, RsJb.plainKeys⟩, ?_⟩, ?_⟩, RsJa.mayEnter⟩, RsJb.lifts⟩, RsJb.make⟩, ?_⟩, ?_⟩, ?_⟩, ?_⟩
  all_goals (as_aux_lemma => kernel_rfl)
theorem said : Rows.RationalMonotoneSaid :=
  OpenClaim.holds_of_cond 6 Tryd.f6 rfl rfl rfl rfl rfl rfl rfl ⟨rfl, rfl, rfl, rfl, rfl⟩ rfl rfl rfl rfl rfl (by as_aux_lemma => kernel_rfl) Tryd.func6 closed
    (of_decide_eq_true (by as_aux_lemma => kernel_rfl)) (by as_aux_lemma => unfold Func.isWrapper; first | (rw [if_pos (by decide +kernel)]; kernel_rfl) | (rw [if_neg (by decide +kernel)]; exact ⟨rfl, rfl⟩))
    (fun os started H enc _ F => by rw [OpenClaim.pre_eq_preRow]; exact lifted os started H enc F)
theorem plain (f : FuncId) (fn : Func) (hf : Tryd.pinned.checked.prog.funcNamed "insolvency/insolvencylaw2.RationalMonotone" = some f) (hfn : Tryd.pinned.checked.prog.funcs[f]? = some fn) :
    false = Tryd.pinned.checked.prog.looks [] ∧ ∀ (j : Nat) t, fn.params[j]? = some t → Tryd.pinned.checked.prog.wantsStandIn t = false := by
  obtain rfl : f = 6 := Option.some.inj ((show Tryd.prog.funcNamed "insolvency/insolvencylaw2.RationalMonotone" = some 6 by kernel_rfl).symm.trans hf) |>.symm
  obtain rfl : fn = Tryd.f6 := (Option.some.inj (Tryd.func6.symm.trans hfn)).symm
  refine ⟨by kernel_rfl, fun j t ht => ?_⟩
  rw [Tryd.params6] at ht
  have hm := Array.mem_of_getElem? ht
  simp only [List.mem_toArray, List.mem_cons, List.mem_nil_iff, or_false] at hm
  rcases hm with rfl | rfl | rfl
  · exact (show Tryd.prog.wantsStandIn 23 = false by kernel_rfl)
  · exact (show Tryd.prog.wantsStandIn 23 = false by kernel_rfl)
  · exact (show Tryd.prog.wantsStandIn 23 = false by kernel_rfl)
/-- the statement -/
theorem proved : Rows.RationalMonotoneCardSaid :=
  Claim7.holds_tied_plain_at .later [] _ _ _ _ said (fun _ h => by cases h) (by kernel_rfl) (fun _ h => by cases h) rationalMonotone_row_tie rfl ⟨rfl, rfl⟩ (by kernel_rfl) rfl plain (by kernel_rfl)
end Go.Proofs.YthppojbabkljpaaDoor.rationalMonotone
