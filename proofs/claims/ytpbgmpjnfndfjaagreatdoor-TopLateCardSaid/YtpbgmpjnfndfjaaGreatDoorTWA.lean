/- TqA, TwA, TwB, TwC, TwD, TwE, TwF, TwG, TwH, TwI, TwJ, TwK, TwL, TwO, TwP, TqB, in one text. -/
import Derived.Test.YtpbgmpjnfndfjaaGreatDoorPqB
import Derived.Test.YtpbgmpjnfndfjaaGreatDoorRT
import Derived.Test.YtpbgmpjnfndfjaaGreatDoorQmt
import Derived.Test.YtpbgmpjnfndfjaaGreatDoorPFA
import Derived.Test.YtpbgmpjnfndfjaaGreatDoorTPO
import Derived.Laws.MakeOwn
import Derived.WalkSpells
import Derived.Test.YtpbgmpjnfndfjaaGreatDoorQmu
namespace Go.Proofs.YtpbgmpjnfndfjaaGreatDoor.TqA
open Go.RowKit Wd PqB
section
variable {α : Type}
/-- a slice that reads as a list of structures of sz cells each -/
def RowAt (sz : Nat) (vals : α → List Value) (w : World) (A : Option Addr) (l : List α) : Prop :=
  l.length ≤ maxLen ∧ (0 < l.length → ∃ b off, A = some ⟨b, off, none⟩ ∧ b < w.heap.size ∧ ∀ k x, l[k]? = some x → ∀ j v, (vals x)[j]? = some v → w.cell? ⟨b, off + k * sz + j, none⟩ = some v)
variable {sz : Nat} {vals : α → List Value} {w w' : World} {A : Option Addr} {l : List α}
theorem RowAt.nil (w : World) (A : Option Addr) : RowAt sz vals w A [] := ⟨Nat.zero_le _, fun h => by simp at h⟩
theorem RowAt.below (h : RowAt sz vals w A l) (hb : Below w.heap.size w w') : RowAt sz vals w' A l :=
  ⟨h.1, fun hl => by
    obtain ⟨b, off, e, hlt, hc⟩ := h.2 hl
    exact ⟨b, off, e, Nat.lt_of_lt_of_le hlt hb.size, fun k x hk j v hv => (hb.cell (p := ⟨b, _, none⟩) hlt).trans (hc k x hk j v hv)⟩⟩
theorem RowAt.at_ (h : RowAt sz vals w A l) {k : Nat} {x : α} (hk : l[k]? = some x) : ∃ b off, A = some ⟨b, off, none⟩ ∧ b < w.heap.size ∧ ∀ j v, (vals x)[j]? = some v → w.cell? ⟨b, off + k * sz + j, none⟩ = some v := by
  obtain ⟨b, off, e, hlt, hc⟩ := h.2 (by have := (List.getElem?_eq_some_iff.1 hk).1; omega)
  exact ⟨b, off, e, hlt, hc k x hk⟩
theorem RowAt.take (h : RowAt sz vals w A l) (i : Nat) : RowAt sz vals w A (l.take i) := by
  refine ⟨by have := h.1; rw [List.length_take]; omega, fun hp => ?_⟩
  rw [List.length_take] at hp
  obtain ⟨b, off, e, hb, hc⟩ := h.2 (by omega)
  refine ⟨b, off, e, hb, fun k x hx j v hv => ?_⟩
  rw [List.getElem?_take] at hx
  split at hx
  · exact hc k x hx j v hv
  · cases hx
theorem flat_len (hs : ∀ x, (vals x).length = sz) : ∀ (l : List α), (l.flatMap vals).length = l.length * sz
  | [] => by simp
  | x :: l => by
    rw [List.flatMap_cons, List.length_append, hs, flat_len hs l, List.length_cons, Nat.add_mul, Nat.one_mul, Nat.add_comm]
theorem flat_get (hs : ∀ x, (vals x).length = sz) : ∀ (l : List α) (k : Nat) (x : α), l[k]? = some x → ∀ j, j < sz → (l.flatMap vals)[k * sz + j]? = (vals x)[j]?
  | [], _, _, h, _, _ => by simp at h
  | y :: l, 0, x, h, j, hj => by
    simp only [List.getElem?_cons_zero, Option.some.injEq] at h
    subst h
    rw [List.flatMap_cons, List.getElem?_append_left (by rw [hs]; omega), Nat.zero_mul, Nat.zero_add]
  | y :: l, k + 1, x, h, j, hj => by
    have ih := flat_get hs l k x (by simpa using h) j hj
    rw [List.flatMap_cons, List.getElem?_append_right (by rw [hs, Nat.add_mul]; omega), hs, ← ih]
    congr 1
    rw [Nat.add_mul]; omega
theorem own_at {base c : Nat} {e : TypeId} (hs : ∀ x, (vals x).length = sz) (h : w.ownsRow base e sz (.slice A l.length c) l.length (l.flatMap vals)) (hl : l.length ≤ maxLen) : RowAt sz vals w A l := by
  refine ⟨hl, fun hp => ?_⟩
  obtain ⟨g, cap, hv, _, hlt⟩ := h.form hp
  have hA : A = some ⟨g, 0, none⟩ := by injection hv
  subst hA
  refine ⟨g, 0, rfl, hlt, fun k x hk j v hv => ?_⟩
  have hj : j < sz := by have := (List.getElem?_eq_some_iff.1 hv).1; rw [hs] at this; exact this
  have h1 := flat_get hs l k x hk j hj
  have h2 := h.cells (g := g) rfl (k * sz + j) v (by rw [h1, hv])
  rw [Go.WideShapes.add_plain] at h2
  rw [show 0 + k * sz + j = 0 + (k * sz + j) by omega]
  exact h2
theorem own_slice {base n : Nat} {e : TypeId} {v : Value} {xs : List Value} (h : w.ownsRow base e sz v n xs) : ∃ A c, v = .slice A n c := by
  rcases h.2 with ⟨rfl, h0⟩ | ⟨g, cap, cur, rfl, _⟩
  · exact ⟨none, 0, by rw [h0]⟩
  · exact ⟨_, cap, rfl⟩
theorem own_below {base n : Nat} {e : TypeId} {v : Value} {xs : List Value} (h : w.ownsRow base e sz v n xs) (hb : Below w.heap.size w w') : w'.ownsRow base e sz v n xs := by
  refine ⟨h.1, ?_⟩
  rcases h.2 with h2 | ⟨g, cap, cur, hv, hg, hh, r⟩
  · exact .inl h2
  · refine .inr ⟨g, cap, cur, hv, hg, ?_, r⟩
    rw [hb.block g (Array.getElem?_eq_some_iff.1 hh).1]
    exact hh
theorem own_snoc {base : Nat} {e : TypeId} {v : Value} {x : α} (h : w.ownsRow base e sz v (l.length + 1) (l.flatMap vals ++ vals x)) : ∃ A c, v = .slice A (l ++ [x]).length c ∧ w.ownsRow base e sz (.slice A (l ++ [x]).length c) (l ++ [x]).length ((l ++ [x]).flatMap vals) := by
  obtain ⟨A, c, rfl⟩ := own_slice h
  have e1 : (l ++ [x]).length = l.length + 1 := by simp
  have e2 : (l ++ [x]).flatMap vals = l.flatMap vals ++ vals x := by simp
  rw [e1, e2]
  exact ⟨A, c, rfl, h⟩
theorem own_nil (w : World) (base : Nat) (e : TypeId) : w.ownsRow base e sz (.slice none ([] : List α).length 0) ([] : List α).length (([] : List α).flatMap vals) := World.ownsRow_nil _ _ _ _
end
theorem reads_one {sz : Nat} (w : World) (xs : List Value) (T : TypeId) (hl : xs.length = sz) : Reads (w.alloc (.cells xs.toArray T)) (w.heap.size + 1) sz (some ⟨w.heap.size, 0, none⟩) 1 xs := by
  refine ⟨by omega, fun _ => ⟨_, rfl, by show w.heap.size < w.heap.size + 1; omega, fun j u hj => ?_⟩⟩
  rw [Go.WideShapes.add_plain, Nat.zero_add]
  exact (Blk.new w xs T).cell hj
end Go.Proofs.YtpbgmpjnfndfjaaGreatDoor.TqA
namespace Go.Proofs.YtpbgmpjnfndfjaaGreatDoor.TwA
open Go.RowKit RnA RnB RnS RnC RnK RnM RnL RnN RnD RnE RnQ RnR RnG RnP RnW RnX RoA RoB RoC RoD RoE RoF RoG RoH RoI RoJ RoK RoL RoM RoN PnA PnB PnC PnD PnE PnF PnG PnH PnI PnJ PnK PnL RtA RtB RtC RpA RpB RpC RpD RpE RpF RpG RpH RnY RpI RpJ RpK RpL
/-- what a function that answers a number leaves -/
abbrev Ans (q : Rat) (w : World) (e : Ending) (w' : World) : Prop := e = .returned (.agg #[.bool (negB q), .string (bs (nm q)), .string (dstr q)]) ∧ Below w.heap.size w w'
section
variable {p q r : Rat}
theorem add_e (hp : Lt p 40000000000) (hq : Lt q 40000000000) (hr : p + q = r) (w : World) : Calls Tryz.prog 16 #[.agg #[.bool (negB p), .string (bs (nm p)), .string (dstr p)], .agg #[.bool (negB q), .string (bs (nm q)), .string (dstr q)]] w (Ans r w) := by
  have h := padd_any (negB p) (bs (nm p)) (dstr p) (negB q) (bs (nm q)) (dstr q) w 40000000000 hp.num hp.dstr hq.num hq.dstr (by decide) (by decide)
  rw [fix_self, fix_self, hr] at h
  exact h
theorem sub_e (hp : Lt p 40000000000) (hq : Lt q 40000000000) (hr : p - q = r) (w : World) : Calls Tryz.prog 24 #[.agg #[.bool (negB p), .string (bs (nm p)), .string (dstr p)], .agg #[.bool (negB q), .string (bs (nm q)), .string (dstr q)]] w (Ans r w) := by
  have h := psub_any (negB p) (bs (nm p)) (dstr p) (negB q) (bs (nm q)) (dstr q) w 40000000000 hp.num hp.dstr hq.num hq.dstr (by decide) (by decide)
  rw [fix_self, fix_self, hr] at h
  exact h
theorem mul_e (hp : Lt p 40000000000) (hq : Lt q 40000000000) (hr : p * q = r) (w : World) : Calls Tryz.prog 142 #[.agg #[.bool (negB p), .string (bs (nm p)), .string (dstr p)], .agg #[.bool (negB q), .string (bs (nm q)), .string (dstr q)]] w (Ans r w) := by
  have h := pmul_any (negB p) (bs (nm p)) (dstr p) (negB q) (bs (nm q)) (dstr q) w 40000000000 hp.num hp.dstr hq.num hq.dstr (by decide) (by decide)
  rw [fix_self, fix_self, hr] at h
  exact h
theorem min_e (hp : Lt p 40000000000) (hq : Lt q 40000000000) (hr : minQ p q = r) (w : World) : Calls Tryz.prog 19 #[.agg #[.bool (negB p), .string (bs (nm p)), .string (dstr p)], .agg #[.bool (negB q), .string (bs (nm q)), .string (dstr q)]] w (Ans r w) := by
  have h := pmin_any (negB p) (bs (nm p)) (dstr p) (negB q) (bs (nm q)) (dstr q) w 40000000000 hp.num hp.dstr hq.num hq.dstr (by decide) (by decide)
  rw [fix_self, fix_self, hr] at h
  exact h
theorem max_e (hp : Lt p 40000000000) (hq : Lt q 40000000000) (hr : maxQ p q = r) (w : World) : Calls Tryz.prog 66 #[.agg #[.bool (negB p), .string (bs (nm p)), .string (dstr p)], .agg #[.bool (negB q), .string (bs (nm q)), .string (dstr q)]] w (Ans r w) := by
  have h := pmax_any (negB p) (bs (nm p)) (dstr p) (negB q) (bs (nm q)) (dstr q) w 40000000000 hp.num hp.dstr hq.num hq.dstr (by decide) (by decide)
  rw [fix_self, fix_self, hr] at h
  exact h
theorem cmp_e (hp : Lt p 40000000000) (hq : Lt q 40000000000) {s : Int} (hs : cmpQ p q = s) (w : World) : Calls Tryz.prog 49 #[.agg #[.bool (negB p), .string (bs (nm p)), .string (dstr p)], .agg #[.bool (negB q), .string (bs (nm q)), .string (dstr q)]] w fun e w' => e = .returned (.int .i64 s) ∧ Below w.heap.size w w' := by
  have h := pcmp_any (negB p) (bs (nm p)) (dstr p) (negB q) (bs (nm q)) (dstr q) w 40000000000 hp.num hp.dstr hq.num hq.dstr (by decide) (by decide)
  rw [fix_self, fix_self, hs] at h
  exact h
theorem div_e (hp : Lt p 40000000000) (hq : Lt q 40000000000) (h0 : q ≠ 0) (hr : p / q = r) (w : World) : Calls Tryz.prog 140 #[.agg #[.bool (negB p), .string (bs (nm p)), .string (dstr p)], .agg #[.bool (negB q), .string (bs (nm q)), .string (dstr q)]] w fun e w' => e = .returned (.tuple #[.agg #[.bool (negB r), .string (bs (nm r)), .string (dstr r)], .bool true]) ∧ Below w.heap.size w w' := by
  have h := pdiv_any (negB p) (bs (nm p)) (dstr p) (negB q) (bs (nm q)) (dstr q) w 40000000000 hp.num hp.dstr hq.num hq.dstr (by decide) (by decide)
  rw [fix_self, fix_self] at h
  unfold divQ at h
  rw [if_neg h0, hr] at h
  exact h
theorem sgn_e (hp : Lt p 40000000000) {s : Int} (hs : sgnQ p = s) (w : World) : Calls Tryz.prog 57 #[.agg #[.bool (negB p), .string (bs (nm p)), .string (dstr p)]] w fun e w' => e = .returned (.int .i64 s) ∧ Below w.heap.size w w' := by
  have h := sign_any (negB p) (bs (nm p)) (dstr p) w (Nat.le_trans hp.num (by decide)) (Nat.le_trans hp.dstr (by decide))
  rw [fix_self, hs] at h
  exact h
theorem neg_e (hp : Lt p 40000000000) (hr : -p = r) (w : World) : Calls Tryz.prog 137 #[.agg #[.bool (negB p), .string (bs (nm p)), .string (dstr p)]] w (Ans r w) := by
  have h := neg_any (negB p) (bs (nm p)) (dstr p) w (Nat.le_trans hp.num (by decide)) (Nat.le_trans hp.dstr (by decide))
  rw [fix_self, hr] at h
  exact h
theorem int_e {m : Int} (hm : In64 m) (hr : intQ m = r) (w : World) : Calls Tryz.prog 38 #[.int .i64 m] w (Ans r w) := by
  subst hr
  exact int_any m w hm
end
/-- a comparison, said by the order -/
theorem cmpQ_lt {p q : Rat} (h : p < q) : cmpQ p q = -1 := by unfold cmpQ; rw [if_pos h]
theorem cmpQ_ge {p q : Rat} (h : ¬ p < q) : 0 ≤ cmpQ p q ∧ cmpQ p q ≤ 1 := by
  unfold cmpQ
  rw [if_neg h]
  split <;> omega
theorem cmpQ_le {p q : Rat} (h : ¬ q < p) : -1 ≤ cmpQ p q ∧ cmpQ p q ≤ 0 := by
  unfold cmpQ
  split
  · omega
  · rw [if_pos (by grind)]; omega
theorem cmpQ_gt {p q : Rat} (h : q < p) : cmpQ p q = 1 := by
  unfold cmpQ
  rw [if_neg (by grind), if_neg (by grind)]
theorem sgnQ_pos {p : Rat} (h : 0 < p) : sgnQ p = 1 := cmpQ_gt h
theorem sgnQ_neg {p : Rat} (h : p < 0) : sgnQ p = -1 := cmpQ_lt h
theorem sgnQ_nn {p : Rat} (h : 0 ≤ p) : 0 ≤ sgnQ p ∧ sgnQ p ≤ 1 := cmpQ_ge (by grind)
theorem sgnQ_np {p : Rat} (h : p ≤ 0) : -1 ≤ sgnQ p ∧ sgnQ p ≤ 0 := cmpQ_le (by grind)
theorem maxQ_eq (p q : Rat) : maxQ p q = if p < q then q else p := by
  unfold maxQ
  by_cases h : p < q
  · rw [cmpQ_lt h, if_neg (by omega), if_pos h]
  · rw [if_pos (cmpQ_ge h).1, if_neg h]
theorem minQ_eq (p q : Rat) : minQ p q = if q < p then q else p := by
  unfold minQ
  by_cases h : q < p
  · rw [cmpQ_gt h, if_neg (by omega), if_pos h]
  · rw [if_pos (cmpQ_le h).2, if_neg h]
end Go.Proofs.YtpbgmpjnfndfjaaGreatDoor.TwA
namespace Go.Proofs.YtpbgmpjnfndfjaaGreatDoor.TwB
open Go.RowKit Wd RnW RnQ RnR RtA RpB RpC PqB PfE
theorem recast {P : Program} {ops : Array Oper} {C : World → Prop} {R : Act → World → Prop} {f : Nat} {d d' : Array Bool} {a : Act} {w : World} (h : d = d') (hT : Qmt.Tree P ops C R f d' a w) : Qmt.Tree P ops C R f d a w := by subst h; exact hT
theorem rz_new {B : Nat} (w : World) (hB : B ≤ w.heap.size) : ∃ V K, w.alloc (.cells #[.bool false, .string ⟨#[]⟩, .string ⟨#[]⟩] 32) = V ∧ w.heap.size = K ∧ Hid (Bx V K (.bool false) (.string ⟨#[]⟩) (.string ⟨#[]⟩)) ∧ Hid (Below w.heap.size w V) ∧ B ≤ K := by
  obtain ⟨V, h1, h2, h3, h4⟩ := RpH.box_new w (.bool false) (.string ⟨#[]⟩) (.string ⟨#[]⟩)
  exact ⟨V, _, h1, rfl, h2, h3, hB⟩
theorem bx_put {B K : Nat} {a w : World} {x y z : Value} (hB : Below B a w) (h : Bx w K x y z) (hK : B ≤ K) (x' y' z' : Value) : ∃ V, ((w.setCell ⟨K, 0, none⟩ x').setCell ⟨K, 1, none⟩ y').setCell ⟨K, 2, none⟩ z' = V ∧ Hid (Bx V K x' y' z') ∧ Below B a V :=
  ⟨_, rfl, h.set3 _ _ _, below_set3 hB hK _ _ _⟩
theorem bx_far {K J : Nat} {w V : World} {x y z x' y' z' : Value} (hv : ((w.setCell ⟨K, 0, none⟩ x').setCell ⟨K, 1, none⟩ y').setCell ⟨K, 2, none⟩ z' = V) (h : Bx w J x y z) (hne : J ≠ K) : Bx V J x y z := by
  rw [← hv]
  exact h.other3 hne _ _ _
theorem holes1 {T0 : Type} {F0 : T0 → Prop} {G0 : T0} {R : Prop} (main : F0 G0 → R) (k0 : F0 G0) : R := by
  have h0 := k0 
  exact main h0
theorem holes2 {T0 : Type} {F0 : T0 → Prop} {G0 : T0} {T1 : Type} {F1 : T1 → Prop} {G1 : T1} {R : Prop} (main : F0 G0 → F1 G1 → R) (k0 : F1 G1 → F0 G0) (k1 : F1 G1) : R := by
  have h1 := k1 
  have h0 := k0 h1
  exact main h0 h1
theorem holes3 {T0 : Type} {F0 : T0 → Prop} {G0 : T0} {T1 : Type} {F1 : T1 → Prop} {G1 : T1} {T2 : Type} {F2 : T2 → Prop} {G2 : T2} {R : Prop} (main : F0 G0 → F1 G1 → F2 G2 → R) (k0 : F1 G1 → F2 G2 → F0 G0) (k1 : F2 G2 → F1 G1) (k2 : F2 G2) : R := by
  have h2 := k2 
  have h1 := k1 h2
  have h0 := k0 h1 h2
  exact main h0 h1 h2
theorem holes4 {T0 : Type} {F0 : T0 → Prop} {G0 : T0} {T1 : Type} {F1 : T1 → Prop} {G1 : T1} {T2 : Type} {F2 : T2 → Prop} {G2 : T2} {T3 : Type} {F3 : T3 → Prop} {G3 : T3} {R : Prop} (main : F0 G0 → F1 G1 → F2 G2 → F3 G3 → R) (k0 : F1 G1 → F2 G2 → F3 G3 → F0 G0) (k1 : F2 G2 → F3 G3 → F1 G1) (k2 : F3 G3 → F2 G2) (k3 : F3 G3) : R := by
  have h3 := k3 
  have h2 := k2 h3
  have h1 := k1 h2 h3
  have h0 := k0 h1 h2 h3
  exact main h0 h1 h2 h3
theorem holes5 {T0 : Type} {F0 : T0 → Prop} {G0 : T0} {T1 : Type} {F1 : T1 → Prop} {G1 : T1} {T2 : Type} {F2 : T2 → Prop} {G2 : T2} {T3 : Type} {F3 : T3 → Prop} {G3 : T3} {T4 : Type} {F4 : T4 → Prop} {G4 : T4} {R : Prop} (main : F0 G0 → F1 G1 → F2 G2 → F3 G3 → F4 G4 → R) (k0 : F1 G1 → F2 G2 → F3 G3 → F4 G4 → F0 G0) (k1 : F2 G2 → F3 G3 → F4 G4 → F1 G1) (k2 : F3 G3 → F4 G4 → F2 G2) (k3 : F4 G4 → F3 G3) (k4 : F4 G4) : R := by
  have h4 := k4 
  have h3 := k3 h4
  have h2 := k2 h3 h4
  have h1 := k1 h2 h3 h4
  have h0 := k0 h1 h2 h3 h4
  exact main h0 h1 h2 h3 h4
theorem holes6 {T0 : Type} {F0 : T0 → Prop} {G0 : T0} {T1 : Type} {F1 : T1 → Prop} {G1 : T1} {T2 : Type} {F2 : T2 → Prop} {G2 : T2} {T3 : Type} {F3 : T3 → Prop} {G3 : T3} {T4 : Type} {F4 : T4 → Prop} {G4 : T4} {T5 : Type} {F5 : T5 → Prop} {G5 : T5} {R : Prop} (main : F0 G0 → F1 G1 → F2 G2 → F3 G3 → F4 G4 → F5 G5 → R) (k0 : F1 G1 → F2 G2 → F3 G3 → F4 G4 → F5 G5 → F0 G0) (k1 : F2 G2 → F3 G3 → F4 G4 → F5 G5 → F1 G1) (k2 : F3 G3 → F4 G4 → F5 G5 → F2 G2) (k3 : F4 G4 → F5 G5 → F3 G3) (k4 : F5 G5 → F4 G4) (k5 : F5 G5) : R := by
  have h5 := k5 
  have h4 := k4 h5
  have h3 := k3 h4 h5
  have h2 := k2 h3 h4 h5
  have h1 := k1 h2 h3 h4 h5
  have h0 := k0 h1 h2 h3 h4 h5
  exact main h0 h1 h2 h3 h4 h5
theorem holes7 {T0 : Type} {F0 : T0 → Prop} {G0 : T0} {T1 : Type} {F1 : T1 → Prop} {G1 : T1} {T2 : Type} {F2 : T2 → Prop} {G2 : T2} {T3 : Type} {F3 : T3 → Prop} {G3 : T3} {T4 : Type} {F4 : T4 → Prop} {G4 : T4} {T5 : Type} {F5 : T5 → Prop} {G5 : T5} {T6 : Type} {F6 : T6 → Prop} {G6 : T6} {R : Prop} (main : F0 G0 → F1 G1 → F2 G2 → F3 G3 → F4 G4 → F5 G5 → F6 G6 → R) (k0 : F1 G1 → F2 G2 → F3 G3 → F4 G4 → F5 G5 → F6 G6 → F0 G0) (k1 : F2 G2 → F3 G3 → F4 G4 → F5 G5 → F6 G6 → F1 G1) (k2 : F3 G3 → F4 G4 → F5 G5 → F6 G6 → F2 G2) (k3 : F4 G4 → F5 G5 → F6 G6 → F3 G3) (k4 : F5 G5 → F6 G6 → F4 G4) (k5 : F6 G6 → F5 G5) (k6 : F6 G6) : R := by
  have h6 := k6 
  have h5 := k5 h6
  have h4 := k4 h5 h6
  have h3 := k3 h4 h5 h6
  have h2 := k2 h3 h4 h5 h6
  have h1 := k1 h2 h3 h4 h5 h6
  have h0 := k0 h1 h2 h3 h4 h5 h6
  exact main h0 h1 h2 h3 h4 h5 h6
theorem holes8 {T0 : Type} {F0 : T0 → Prop} {G0 : T0} {T1 : Type} {F1 : T1 → Prop} {G1 : T1} {T2 : Type} {F2 : T2 → Prop} {G2 : T2} {T3 : Type} {F3 : T3 → Prop} {G3 : T3} {T4 : Type} {F4 : T4 → Prop} {G4 : T4} {T5 : Type} {F5 : T5 → Prop} {G5 : T5} {T6 : Type} {F6 : T6 → Prop} {G6 : T6} {T7 : Type} {F7 : T7 → Prop} {G7 : T7} {R : Prop} (main : F0 G0 → F1 G1 → F2 G2 → F3 G3 → F4 G4 → F5 G5 → F6 G6 → F7 G7 → R) (k0 : F1 G1 → F2 G2 → F3 G3 → F4 G4 → F5 G5 → F6 G6 → F7 G7 → F0 G0) (k1 : F2 G2 → F3 G3 → F4 G4 → F5 G5 → F6 G6 → F7 G7 → F1 G1) (k2 : F3 G3 → F4 G4 → F5 G5 → F6 G6 → F7 G7 → F2 G2) (k3 : F4 G4 → F5 G5 → F6 G6 → F7 G7 → F3 G3) (k4 : F5 G5 → F6 G6 → F7 G7 → F4 G4) (k5 : F6 G6 → F7 G7 → F5 G5) (k6 : F7 G7 → F6 G6) (k7 : F7 G7) : R := by
  have h7 := k7 
  have h6 := k6 h7
  have h5 := k5 h6 h7
  have h4 := k4 h5 h6 h7
  have h3 := k3 h4 h5 h6 h7
  have h2 := k2 h3 h4 h5 h6 h7
  have h1 := k1 h2 h3 h4 h5 h6 h7
  have h0 := k0 h1 h2 h3 h4 h5 h6 h7
  exact main h0 h1 h2 h3 h4 h5 h6 h7
theorem holes9 {T0 : Type} {F0 : T0 → Prop} {G0 : T0} {T1 : Type} {F1 : T1 → Prop} {G1 : T1} {T2 : Type} {F2 : T2 → Prop} {G2 : T2} {T3 : Type} {F3 : T3 → Prop} {G3 : T3} {T4 : Type} {F4 : T4 → Prop} {G4 : T4} {T5 : Type} {F5 : T5 → Prop} {G5 : T5} {T6 : Type} {F6 : T6 → Prop} {G6 : T6} {T7 : Type} {F7 : T7 → Prop} {G7 : T7} {T8 : Type} {F8 : T8 → Prop} {G8 : T8} {R : Prop} (main : F0 G0 → F1 G1 → F2 G2 → F3 G3 → F4 G4 → F5 G5 → F6 G6 → F7 G7 → F8 G8 → R) (k0 : F1 G1 → F2 G2 → F3 G3 → F4 G4 → F5 G5 → F6 G6 → F7 G7 → F8 G8 → F0 G0) (k1 : F2 G2 → F3 G3 → F4 G4 → F5 G5 → F6 G6 → F7 G7 → F8 G8 → F1 G1) (k2 : F3 G3 → F4 G4 → F5 G5 → F6 G6 → F7 G7 → F8 G8 → F2 G2) (k3 : F4 G4 → F5 G5 → F6 G6 → F7 G7 → F8 G8 → F3 G3) (k4 : F5 G5 → F6 G6 → F7 G7 → F8 G8 → F4 G4) (k5 : F6 G6 → F7 G7 → F8 G8 → F5 G5) (k6 : F7 G7 → F8 G8 → F6 G6) (k7 : F8 G8 → F7 G7) (k8 : F8 G8) : R := by
  have h8 := k8 
  have h7 := k7 h8
  have h6 := k6 h7 h8
  have h5 := k5 h6 h7 h8
  have h4 := k4 h5 h6 h7 h8
  have h3 := k3 h4 h5 h6 h7 h8
  have h2 := k2 h3 h4 h5 h6 h7 h8
  have h1 := k1 h2 h3 h4 h5 h6 h7 h8
  have h0 := k0 h1 h2 h3 h4 h5 h6 h7 h8
  exact main h0 h1 h2 h3 h4 h5 h6 h7 h8
theorem holes10 {T0 : Type} {F0 : T0 → Prop} {G0 : T0} {T1 : Type} {F1 : T1 → Prop} {G1 : T1} {T2 : Type} {F2 : T2 → Prop} {G2 : T2} {T3 : Type} {F3 : T3 → Prop} {G3 : T3} {T4 : Type} {F4 : T4 → Prop} {G4 : T4} {T5 : Type} {F5 : T5 → Prop} {G5 : T5} {T6 : Type} {F6 : T6 → Prop} {G6 : T6} {T7 : Type} {F7 : T7 → Prop} {G7 : T7} {T8 : Type} {F8 : T8 → Prop} {G8 : T8} {T9 : Type} {F9 : T9 → Prop} {G9 : T9} {R : Prop} (main : F0 G0 → F1 G1 → F2 G2 → F3 G3 → F4 G4 → F5 G5 → F6 G6 → F7 G7 → F8 G8 → F9 G9 → R) (k0 : F1 G1 → F2 G2 → F3 G3 → F4 G4 → F5 G5 → F6 G6 → F7 G7 → F8 G8 → F9 G9 → F0 G0) (k1 : F2 G2 → F3 G3 → F4 G4 → F5 G5 → F6 G6 → F7 G7 → F8 G8 → F9 G9 → F1 G1) (k2 : F3 G3 → F4 G4 → F5 G5 → F6 G6 → F7 G7 → F8 G8 → F9 G9 → F2 G2) (k3 : F4 G4 → F5 G5 → F6 G6 → F7 G7 → F8 G8 → F9 G9 → F3 G3) (k4 : F5 G5 → F6 G6 → F7 G7 → F8 G8 → F9 G9 → F4 G4) (k5 : F6 G6 → F7 G7 → F8 G8 → F9 G9 → F5 G5) (k6 : F7 G7 → F8 G8 → F9 G9 → F6 G6) (k7 : F8 G8 → F9 G9 → F7 G7) (k8 : F9 G9 → F8 G8) (k9 : F9 G9) : R := by
  have h9 := k9 
  have h8 := k8 h9
  have h7 := k7 h8 h9
  have h6 := k6 h7 h8 h9
  have h5 := k5 h6 h7 h8 h9
  have h4 := k4 h5 h6 h7 h8 h9
  have h3 := k3 h4 h5 h6 h7 h8 h9
  have h2 := k2 h3 h4 h5 h6 h7 h8 h9
  have h1 := k1 h2 h3 h4 h5 h6 h7 h8 h9
  have h0 := k0 h1 h2 h3 h4 h5 h6 h7 h8 h9
  exact main h0 h1 h2 h3 h4 h5 h6 h7 h8 h9
theorem holes11 {T0 : Type} {F0 : T0 → Prop} {G0 : T0} {T1 : Type} {F1 : T1 → Prop} {G1 : T1} {T2 : Type} {F2 : T2 → Prop} {G2 : T2} {T3 : Type} {F3 : T3 → Prop} {G3 : T3} {T4 : Type} {F4 : T4 → Prop} {G4 : T4} {T5 : Type} {F5 : T5 → Prop} {G5 : T5} {T6 : Type} {F6 : T6 → Prop} {G6 : T6} {T7 : Type} {F7 : T7 → Prop} {G7 : T7} {T8 : Type} {F8 : T8 → Prop} {G8 : T8} {T9 : Type} {F9 : T9 → Prop} {G9 : T9} {T10 : Type} {F10 : T10 → Prop} {G10 : T10} {R : Prop} (main : F0 G0 → F1 G1 → F2 G2 → F3 G3 → F4 G4 → F5 G5 → F6 G6 → F7 G7 → F8 G8 → F9 G9 → F10 G10 → R) (k0 : F1 G1 → F2 G2 → F3 G3 → F4 G4 → F5 G5 → F6 G6 → F7 G7 → F8 G8 → F9 G9 → F10 G10 → F0 G0) (k1 : F2 G2 → F3 G3 → F4 G4 → F5 G5 → F6 G6 → F7 G7 → F8 G8 → F9 G9 → F10 G10 → F1 G1) (k2 : F3 G3 → F4 G4 → F5 G5 → F6 G6 → F7 G7 → F8 G8 → F9 G9 → F10 G10 → F2 G2) (k3 : F4 G4 → F5 G5 → F6 G6 → F7 G7 → F8 G8 → F9 G9 → F10 G10 → F3 G3) (k4 : F5 G5 → F6 G6 → F7 G7 → F8 G8 → F9 G9 → F10 G10 → F4 G4) (k5 : F6 G6 → F7 G7 → F8 G8 → F9 G9 → F10 G10 → F5 G5) (k6 : F7 G7 → F8 G8 → F9 G9 → F10 G10 → F6 G6) (k7 : F8 G8 → F9 G9 → F10 G10 → F7 G7) (k8 : F9 G9 → F10 G10 → F8 G8) (k9 : F10 G10 → F9 G9) (k10 : F10 G10) : R := by
  have h10 := k10 
  have h9 := k9 h10
  have h8 := k8 h9 h10
  have h7 := k7 h8 h9 h10
  have h6 := k6 h7 h8 h9 h10
  have h5 := k5 h6 h7 h8 h9 h10
  have h4 := k4 h5 h6 h7 h8 h9 h10
  have h3 := k3 h4 h5 h6 h7 h8 h9 h10
  have h2 := k2 h3 h4 h5 h6 h7 h8 h9 h10
  have h1 := k1 h2 h3 h4 h5 h6 h7 h8 h9 h10
  have h0 := k0 h1 h2 h3 h4 h5 h6 h7 h8 h9 h10
  exact main h0 h1 h2 h3 h4 h5 h6 h7 h8 h9 h10
theorem holes12 {T0 : Type} {F0 : T0 → Prop} {G0 : T0} {T1 : Type} {F1 : T1 → Prop} {G1 : T1} {T2 : Type} {F2 : T2 → Prop} {G2 : T2} {T3 : Type} {F3 : T3 → Prop} {G3 : T3} {T4 : Type} {F4 : T4 → Prop} {G4 : T4} {T5 : Type} {F5 : T5 → Prop} {G5 : T5} {T6 : Type} {F6 : T6 → Prop} {G6 : T6} {T7 : Type} {F7 : T7 → Prop} {G7 : T7} {T8 : Type} {F8 : T8 → Prop} {G8 : T8} {T9 : Type} {F9 : T9 → Prop} {G9 : T9} {T10 : Type} {F10 : T10 → Prop} {G10 : T10} {T11 : Type} {F11 : T11 → Prop} {G11 : T11} {R : Prop} (main : F0 G0 → F1 G1 → F2 G2 → F3 G3 → F4 G4 → F5 G5 → F6 G6 → F7 G7 → F8 G8 → F9 G9 → F10 G10 → F11 G11 → R) (k0 : F1 G1 → F2 G2 → F3 G3 → F4 G4 → F5 G5 → F6 G6 → F7 G7 → F8 G8 → F9 G9 → F10 G10 → F11 G11 → F0 G0) (k1 : F2 G2 → F3 G3 → F4 G4 → F5 G5 → F6 G6 → F7 G7 → F8 G8 → F9 G9 → F10 G10 → F11 G11 → F1 G1) (k2 : F3 G3 → F4 G4 → F5 G5 → F6 G6 → F7 G7 → F8 G8 → F9 G9 → F10 G10 → F11 G11 → F2 G2) (k3 : F4 G4 → F5 G5 → F6 G6 → F7 G7 → F8 G8 → F9 G9 → F10 G10 → F11 G11 → F3 G3) (k4 : F5 G5 → F6 G6 → F7 G7 → F8 G8 → F9 G9 → F10 G10 → F11 G11 → F4 G4) (k5 : F6 G6 → F7 G7 → F8 G8 → F9 G9 → F10 G10 → F11 G11 → F5 G5) (k6 : F7 G7 → F8 G8 → F9 G9 → F10 G10 → F11 G11 → F6 G6) (k7 : F8 G8 → F9 G9 → F10 G10 → F11 G11 → F7 G7) (k8 : F9 G9 → F10 G10 → F11 G11 → F8 G8) (k9 : F10 G10 → F11 G11 → F9 G9) (k10 : F11 G11 → F10 G10) (k11 : F11 G11) : R := by
  have h11 := k11 
  have h10 := k10 h11
  have h9 := k9 h10 h11
  have h8 := k8 h9 h10 h11
  have h7 := k7 h8 h9 h10 h11
  have h6 := k6 h7 h8 h9 h10 h11
  have h5 := k5 h6 h7 h8 h9 h10 h11
  have h4 := k4 h5 h6 h7 h8 h9 h10 h11
  have h3 := k3 h4 h5 h6 h7 h8 h9 h10 h11
  have h2 := k2 h3 h4 h5 h6 h7 h8 h9 h10 h11
  have h1 := k1 h2 h3 h4 h5 h6 h7 h8 h9 h10 h11
  have h0 := k0 h1 h2 h3 h4 h5 h6 h7 h8 h9 h10 h11
  exact main h0 h1 h2 h3 h4 h5 h6 h7 h8 h9 h10 h11
end Go.Proofs.YtpbgmpjnfndfjaaGreatDoor.TwB
namespace Go.Proofs.YtpbgmpjnfndfjaaGreatDoor.TwC
open Go.RowKit Wd RnA RnB RnW RnQ RnR RnP RoA RoC RoL RtA RtB RtC RpB RpC RpE RpF RpG RpH RnY RpI RpJ RpK RpL PqB PfD PfE TqA TwA TwB TpT
/-- all blocks of w but those of S are as they were -/
structure Ks (S : Nat → Prop) (w w' : World) : Prop where
  os : w'.os = w.os
  tape : w'.tape = w.tape
  output : w'.output = w.output
  size : w.heap.size ≤ w'.heap.size
  block : ∀ k, k < w.heap.size → ¬ S k → w'.heap[k]? = w.heap[k]?
section
variable {S : Nat → Prop} {B : Nat} {w w' w'' a : World}
theorem Ks.refl (S : Nat → Prop) (w : World) : Ks S w w := ⟨rfl, rfl, rfl, Nat.le_refl _, fun _ _ _ => rfl⟩
theorem Ks.of_below (h : Below w.heap.size w w') : Ks S w w' := ⟨h.os, h.tape, h.output, h.size, fun k hk _ => h.block k hk⟩
theorem Ks.step (h : Ks S a w) (hb : Below a.heap.size w w') : Ks S a w' :=
  ⟨hb.os.trans h.os, hb.tape.trans h.tape, hb.output.trans h.output, Nat.le_trans h.size hb.size, fun k hk hr => (hb.block k hk).trans (h.block k hk hr)⟩
theorem Ks.trans (h : Ks S w w') (k : Ks S w' w'') : Ks S w w'' :=
  ⟨k.os.trans h.os, k.tape.trans h.tape, k.output.trans h.output, Nat.le_trans h.size k.size, fun i hi hr => (k.block i (by have := h.size; omega) hr).trans (h.block i hi hr)⟩
theorem Ks.below (h : Ks S w w') (hB : B ≤ w.heap.size) (hS : ∀ k, S k → B ≤ k) : Below B w w' := ⟨h.os, h.tape, h.output, h.size, fun k hk => h.block k (by omega) (fun hs => by have := hS k hs; omega)⟩
theorem Ks.setCell (h : Ks S a w) {p : Addr} (hp : S p.block ∨ a.heap.size ≤ p.block) (v : Value) : Ks S a (w.setCell p v) := by
  refine ⟨h.os, h.tape, h.output, by have := h.size; simpa [World.setCell] using this, fun k hk hr => (Below.heap_setCell _ _ _ _ ?_).trans (h.block k hk hr)⟩
  rcases hp with hp | hp
  · intro e; exact hr (e ▸ hp)
  · omega
theorem Ks.blk {g : Nat} {T : TypeId} {L : List Value} (h : Ks S w w') (hb : BlkT w g T L) (hg : ¬ S g) : BlkT w' g T L := (h.block g hb.lt hg).trans hb
theorem Ks.mono {S' : Nat → Prop} (h : Ks S w w') (hs : ∀ k, k < w.heap.size → S k → S' k) : Ks S' w w' := ⟨h.os, h.tape, h.output, h.size, fun k hk hr => h.block k hk (fun e => hr (hs k hk e))⟩
theorem Ks.row {α : Type} {sz : Nat} {vals : α → List Value} {A : Option Addr} {l : List α} (h : Ks S w w') (hr : RowAt sz vals w A l) (hg : ∀ b off, A = some ⟨b, off, none⟩ → ¬ S b) : RowAt sz vals w' A l :=
  ⟨hr.1, fun hl => by
    obtain ⟨b, off, e, hlt, hc⟩ := hr.2 hl
    refine ⟨b, off, e, Nat.lt_of_lt_of_le hlt h.size, fun k x hk j v hv => ?_⟩
    exact (World.cell?_of_block (h.block b hlt (hg b off e))).trans (hc k x hk j v hv)⟩
end
/-- the three cells of a number -/
def qv3 (q : Rat) : List Value := [.bool (negB q), .string (bs (nm q)), .string (dstr q)]
theorem qv3_len (q : Rat) : (qv3 q).length = 3 := rfl
abbrev RatsIn (w : World) (A : Option Addr) (l : List Rat) : Prop := RowAt 3 qv3 w A l
theorem flat3_set : ∀ (l : List Rat) (k : Nat) (q : Rat), k < l.length → (((l.flatMap qv3).set (k * 3) (.bool (negB q))).set (k * 3 + 1) (.string (bs (nm q)))).set (k * 3 + 2) (.string (dstr q)) = (l.set k q).flatMap qv3
  | [], _, _, h => by simp at h
  | x :: l, 0, q, _ => by
    simp only [List.flatMap_cons, List.set_cons_zero, qv3, List.cons_append, List.nil_append, Nat.zero_mul, Nat.zero_add, List.set_cons_succ]
  | x :: l, k + 1, q, h => by
    have ih := flat3_set l k q (by simpa using h)
    have e : (k + 1) * 3 = k * 3 + 1 + 1 + 1 := by omega
    rw [List.set_cons_succ, List.flatMap_cons, List.flatMap_cons, ← ih, e]
    simp only [qv3, List.cons_append, List.nil_append, List.set_cons_succ]
/-- a result: its block R, the block g of its claims, their capacity, what lies behind them -/
structure RS (w : World) (R g gc : Nat) (gp : List Value) (s : List Rat × Rat) : Prop where
  res : BlkT w R 155 (.slice (some ⟨g, 0, none⟩) s.1.length gc :: qv3 s.2)
  cl : BlkT w g 32 (s.1.flatMap qv3 ++ gp)
  ne : R ≠ g
theorem RS.below {w w' : World} {R g gc : Nat} {gp : List Value} {s : List Rat × Rat} (h : RS w R g gc gp s) (hb : Below w.heap.size w w') : RS w' R g gc gp s := ⟨h.res.below hb, h.cl.below hb, h.ne⟩
theorem blk_kin {W : World} {g i : Nat} {T : TypeId} {L : List Value} {x : Value} (h : BlkT W g T L) (hv : L[i]? = some x) (v : Qin.In (Below W.heap.size W)) : v.val.cell? ⟨g, i, none⟩ = some x :=
  (v.ok.cell (p := ⟨g, i, none⟩) h.lt).trans (h.cell hv)
theorem q_in {f : FuncId} {args : Array Value} {r : Rat} {W : World} {v : Qin.In (Below W.heap.size W)} (h : Calls Tryz.prog f args v.val (Ans r v.val)) : Calls Tryz.prog f args v.val fun e w' => e = .returned (.agg #[.bool (negB r), .string (bs (nm r)), .string (dstr r)]) ∧ ∃ y : Qin.In (Below W.heap.size W), w' = y.val :=
  Qin.call (h.mono fun _ _ ⟨h1, h2⟩ => ⟨h1, v.ok.trans (h2.mono v.ok.size)⟩)
theorem RS.put {w : World} {R g gc : Nat} {gp : List Value} {s : List Rat × Rat} (h : RS w R g gc gp s) (r : Rat) : RS (((w.setCell ⟨R, 1, none⟩ (.bool (negB r))).setCell ⟨R, 2, none⟩ (.string (bs (nm r)))).setCell ⟨R, 3, none⟩ (.string (dstr r))) R g gc gp (s.1, r) :=
  ⟨((h.res.set 1 _).set 2 _).set 3 _,
   by
    have hb := h.cl
    have ne := h.ne
    unfold BlkT at hb ⊢
    rw [Below.heap_setCell _ _ _ _ (by intro e; exact ne e.symm), Below.heap_setCell _ _ _ _ (by intro e; exact ne e.symm), Below.heap_setCell _ _ _ _ (by intro e; exact ne e.symm)]
    exact hb, h.ne⟩
def AddP (R g gc : Nat) (gp : List Value) (s : List Rat × Rat) (w : World) (e : Ending) (w' : World) : Prop := e = .returned (.tuple #[]) ∧ RS w' R g gc gp s ∧ Ks (fun k => k = R ∨ k = g) w w'
set_option maxHeartbeats 4000000 in
set_option maxRecDepth 100000 in
theorem add_res {R g gc : Nat} {gp : List Value} {s : List Rat × Rat} {q : Rat} (hq : Lt q 40000000000) (h2 : Lt s.2 40000000000) (w : World) (h : RS w R g gc gp s) :
    Calls Tryz.prog 109 #[.pointer (some ⟨R, 0, none⟩), .int .i64 (-1), .agg #[.bool (negB q), .string (bs (nm q)), .string (dstr q)]] w (AddP R g gc gp (addR s (-1) q) w) := by
  have HS := Lib.hid (fun W (v : Qin.In (Below W.heap.size W)) => q_in (add_e h2 hq rfl v.val))
  obtain ⟨cl, rv⟩ := s
  have e1 : addR (cl, rv) (-1) q = (cl, rv + q) := by unfold addR; rw [if_pos rfl]
  rw [e1]
  generalize rv + q = r at *
  obtain ⟨V0, hV0, HQ, hB0, hl0⟩ := box_new w (.bool (negB q)) (.string (bs (nm q))) (.string (dstr q))
  have HR := hide (h.below hB0)
  have HB0 := hide hB0
  have HN := hide h.ne
  clear hq h2 h hB0 hl0 e1
  go_enter Tryz.func109, Tryz.ntmps109
  go_wp2_with fail
  obtain ⟨k0, k1, k2⟩ := HQ.out.kin
  have r0 := blk_kin HR.out.res (i := 1) rfl
  have r1 := blk_kin HR.out.res (i := 2) rfl
  have r2 := blk_kin HR.out.res (i := 3) rfl
  refine Qtl.region (I := Below V0.heap.size V0) 9 (Qin.start _ _) (by kernel_rfl) (by kernel_rfl) ?_
  simp only [List.take_succ_cons, List.take_zero, List.drop_succ_cons, List.drop_zero]
  repeat (go_big_quiet_step ((go_at_call 16; with_reducible exact HS.out _ _)))
  refine wpQuiet_nil ?_
  intro v
  obtain ⟨v, hv⟩ := v
  have HR2 := HR.out.below hv
  have c0 := HR2.res.cell (i := 1) rfl
  have c1 := HR2.res.cell (i := 2) rfl
  have c2 := HR2.res.cell (i := 3) rfl
  have f0 := HR2.res.frozen 1
  have f1 := HR2.res.frozen 2
  have f2 := HR2.res.frozen 3
  have HR3 := hide (HR2.put r)
  have HK := Ks.of_below (S := fun k => k = R ∨ k = g) (HB0.out.trans (hv.mono HB0.out.size))
  have HK3 := hide (((HK.setCell (p := ⟨R, 1, none⟩) (.inl (.inl rfl)) (.bool (negB r))).setCell (p := ⟨R, 2, none⟩) (.inl (.inl rfl)) (.string (bs (nm r)))).setCell (p := ⟨R, 3, none⟩) (.inl (.inl rfl)) (.string (dstr r)))
  dsimp only at c0 c1 c2
  dsimp only
  clear HR2 HK hv
  go_wp2_with fail
  refine bodyPost_ret (results_none rfl _ _ _) rfl ?_
  exact ⟨rfl, HR3.out, HK3.out⟩
theorem RS.clm {w : World} {R g gc : Nat} {gp : List Value} {s : List Rat × Rat} (h : RS w R g gc gp s) {k : Nat} {x : Rat} (hk : s.1[k]? = some x) {j : Nat} {v : Value} (hv : (qv3 x)[j]? = some v) : w.cell? ⟨g, k * 3 + j, none⟩ = some v := by
  have hj : j < 3 := (List.getElem?_eq_some_iff.1 hv).1
  have hk1 := (List.getElem?_eq_some_iff.1 hk).1
  exact h.cl.cell (by rw [List.getElem?_append_left (by rw [flat_len qv3_len]; omega), flat_get qv3_len s.1 k x hk j hj, hv])
theorem RS.putc {w : World} {R g gc : Nat} {gp : List Value} {s : List Rat × Rat} (h : RS w R g gc gp s) {k : Nat} (hk : k < s.1.length) (r : Rat) : RS (((w.setCell ⟨g, k * 3, none⟩ (.bool (negB r))).setCell ⟨g, k * 3 + 1, none⟩ (.string (bs (nm r)))).setCell ⟨g, k * 3 + 2, none⟩ (.string (dstr r))) R g gc gp (s.1.set k r, s.2) :=
  ⟨by
    have hb := h.res
    have ne := h.ne
    rw [List.length_set]
    unfold BlkT at hb ⊢
    rw [Below.heap_setCell _ _ _ _ (by intro e; exact ne e), Below.heap_setCell _ _ _ _ (by intro e; exact ne e), Below.heap_setCell _ _ _ _ (by intro e; exact ne e)]
    exact hb,
   by
    have := ((h.cl.set (k * 3) (.bool (negB r))).set (k * 3 + 1) (.string (bs (nm r)))).set (k * 3 + 2) (.string (dstr r))
    have hl : (s.1.flatMap qv3).length = s.1.length * 3 := flat_len qv3_len _
    rw [List.set_append_left _ _ (by omega), List.set_append_left _ _ (by rw [List.length_set]; omega), List.set_append_left _ _ (by rw [List.length_set, List.length_set]; omega), flat3_set _ _ _ hk] at this
    exact this, h.ne⟩
set_option maxHeartbeats 4000000 in
set_option maxRecDepth 100000 in
theorem add_clm {R g gc : Nat} {gp : List Value} {s : List Rat × Rat} {q x : Rat} {k : Nat} (hq : Lt q 40000000000) (hk : s.1[k]? = some x) (hx : Lt x 40000000000) (hl : s.1.length ≤ 100) (w : World) (h : RS w R g gc gp s) :
    Calls Tryz.prog 109 #[.pointer (some ⟨R, 0, none⟩), .int .i64 k, .agg #[.bool (negB q), .string (bs (nm q)), .string (dstr q)]] w (AddP R g gc gp (addR s k q) w) := by
  have HS := Lib.hid (fun W (v : Qin.In (Below W.heap.size W)) => q_in (add_e hx hq rfl v.val))
  have hkl : k < s.1.length := (List.getElem?_eq_some_iff.1 hk).1
  have e1 : addR s k q = (s.1.set k (x + q), s.2) := by
    unfold addR
    rw [if_neg (by omega)]
    simp only [Int.toNat_natCast]
    simp [hk]
  rw [e1]
  generalize x + q = r at *
  obtain ⟨V0, hV0, HQ, hB0, hl0⟩ := box_new w (.bool (negB q)) (.string (bs (nm q))) (.string (dstr q))
  have HR := hide (h.below hB0)
  have HB0 := hide hB0
  have HX := hide hk
  have HKL := hide hkl
  obtain ⟨n, hn⟩ : ∃ n, s.1.length = n := ⟨_, rfl⟩
  have hkn : k < n := by omega
  have hn1 : n ≤ 100 := by omega
  have r0 : ∀ v : Qin.In (Below V0.heap.size V0), v.val.cell? ⟨R, 0, none⟩ = some (.slice (some ⟨g, 0, none⟩) n gc) := by rw [← hn]; exact blk_kin HR.out.res (i := 0) rfl
  have k3 : ∀ (j : Nat) (y : Value), (qv3 x)[j]? = some y → ∀ v : Qin.In (Below V0.heap.size V0), v.val.cell? ⟨g, k * 3 + j, none⟩ = some y := fun j y hy v => (HR.out.below v.ok).clm hk hy
  have p0 := k3 0 _ rfl
  have p1 := k3 1 _ rfl
  have p2 := k3 2 _ rfl
  rw [Nat.add_zero] at p0
  clear hq hx h hB0 hl0 e1 hk hkl hl k3
  go_enter Tryz.func109, Tryz.ntmps109
  go_wp2_with fail
  obtain ⟨k0, k1, k2⟩ := HQ.out.kin
  refine Qtl.region (I := Below V0.heap.size V0) 15 (Qin.start _ _) (by kernel_rfl) (by kernel_rfl) ?_
  simp only [List.take_succ_cons, List.take_zero, List.drop_succ_cons, List.drop_zero]
  repeat (go_big_quiet_step ((go_at_call 16; with_reducible exact HS.out _ _)))
  refine wpQuiet_nil ?_
  intro v
  obtain ⟨v, hv⟩ := v
  have HR2 := HR.out.below hv
  have c0 := HR2.clm HX.out (j := 0) rfl
  have c1 := HR2.clm HX.out (j := 1) rfl
  have c2 := HR2.clm HX.out (j := 2) rfl
  rw [Nat.add_zero] at c0
  have f0 := HR2.cl.frozen (k * 3)
  have f1 := HR2.cl.frozen (k * 3 + 1)
  have f2 := HR2.cl.frozen (k * 3 + 2)
  have HR3 := hide (HR2.putc HKL.out r)
  have HK := Ks.of_below (S := fun k => k = R ∨ k = g) (HB0.out.trans (hv.mono HB0.out.size))
  have HK3 := hide (((HK.setCell (p := ⟨g, k * 3, none⟩) (.inl (.inr rfl)) (.bool (negB r))).setCell (p := ⟨g, k * 3 + 1, none⟩) (.inl (.inr rfl)) (.string (bs (nm r)))).setCell (p := ⟨g, k * 3 + 2, none⟩) (.inl (.inr rfl)) (.string (dstr r)))
  dsimp only
  clear HR2 HK hv
  go_wp2_with fail
  refine bodyPost_ret (results_none rfl _ _ _) rfl ?_
  exact ⟨rfl, HR3.out, HK3.out⟩
end Go.Proofs.YtpbgmpjnfndfjaaGreatDoor.TwC
namespace Go.Proofs.YtpbgmpjnfndfjaaGreatDoor.TwD
open Go.RowKit Wd RnA RnB RnW RnQ RnR RnP RoA RoC RoL RtA RtB RtC RpB RpC RpE RpF RpG RpH RnY RpI RpJ RpK RpL PqB PfD PfE TqA TwA TwB TwC TpB TpC TpT TpU
section
variable {α : Type} {sz : Nat} {vals : α → List Value} {B : Nat} {w w' : World} {A : Option Addr} {l : List α}
/-- a slice that reads as a list, in a block below B -/
def RowB (sz : Nat) (vals : α → List Value) (B : Nat) (w : World) (A : Option Addr) (l : List α) : Prop :=
  l.length ≤ maxLen ∧ (0 < l.length → ∃ b off, A = some ⟨b, off, none⟩ ∧ b < B ∧ ∀ k x, l[k]? = some x → ∀ j v, (vals x)[j]? = some v → w.cell? ⟨b, off + k * sz + j, none⟩ = some v)
theorem RowAt.toB (h : RowAt sz vals w A l) : RowB sz vals w.heap.size w A l := h
theorem RowB.toAt (h : RowB sz vals B w A l) (hB : B ≤ w.heap.size) : RowAt sz vals w A l := ⟨h.1, fun hp => by
  obtain ⟨b, off, e, hb, hc⟩ := h.2 hp
  exact ⟨b, off, e, by omega, hc⟩⟩
theorem RowB.below (h : RowB sz vals B w A l) (hb : Below B w w') : RowB sz vals B w' A l := ⟨h.1, fun hp => by
  obtain ⟨b, off, e, hlt, hc⟩ := h.2 hp
  exact ⟨b, off, e, hlt, fun k x hk j v hv => (hb.cell (p := ⟨b, _, none⟩) hlt).trans (hc k x hk j v hv)⟩⟩
theorem RowB.up {C : Nat} (h : RowB sz vals B w A l) (hC : B ≤ C) : RowB sz vals C w A l := ⟨h.1, fun hp => by
  obtain ⟨b, off, e, hlt, hc⟩ := h.2 hp
  exact ⟨b, off, e, by omega, hc⟩⟩
theorem RowB.at_ (h : RowB sz vals B w A l) {k : Nat} {x : α} (hk : l[k]? = some x) : ∃ b off, A = some ⟨b, off, none⟩ ∧ b < B ∧ ∀ j v, (vals x)[j]? = some v → w.cell? ⟨b, off + k * sz + j, none⟩ = some v := by
  obtain ⟨b, off, e, hlt, hc⟩ := h.2 (by have := (List.getElem?_eq_some_iff.1 hk).1; omega)
  exact ⟨b, off, e, hlt, hc k x hk⟩
end
/-- a part: its claim, its capacity -/
def pv (p : Part) : List Value := .int .i64 p.1 :: qv3 p.2
/-- a tier: its parts, their sum -/
def tv (A : Option Addr) (n c : Nat) (s : Rat) : List Value := .slice A n c :: qv3 s
/-- a slice that reads as a ladder, all of it below B -/
def LadAt (B : Nat) (w : World) (A : Option Addr) (L : List (List Part)) : Prop :=
  L.length ≤ maxLen ∧ (0 < L.length → ∃ b off, A = some ⟨b, off, none⟩ ∧ b < B ∧ ∀ k t, L[k]? = some t → ∃ A' c, RowB 4 pv B w A' t ∧ ∀ j v, (tv A' t.length c (tsum t))[j]? = some v → w.cell? ⟨b, off + k * 4 + j, none⟩ = some v)
section
variable {B : Nat} {w w' : World} {A : Option Addr} {L : List (List Part)}
theorem LadAt.below (h : LadAt B w A L) (hb : Below B w w') : LadAt B w' A L := ⟨h.1, fun hp => by
  obtain ⟨b, off, e, hlt, hc⟩ := h.2 hp
  refine ⟨b, off, e, hlt, fun k t hk => ?_⟩
  obtain ⟨A', c, hr, hx⟩ := hc k t hk
  exact ⟨A', c, hr.below hb, fun j v hv => (hb.cell (p := ⟨b, _, none⟩) hlt).trans (hx j v hv)⟩⟩
theorem LadAt.up {C : Nat} (h : LadAt B w A L) (hC : B ≤ C) : LadAt C w A L := ⟨h.1, fun hp => by
  obtain ⟨b, off, e, hlt, hc⟩ := h.2 hp
  refine ⟨b, off, e, by omega, fun k t hk => ?_⟩
  obtain ⟨A', c, hr, hx⟩ := hc k t hk
  exact ⟨A', c, hr.up hC, hx⟩⟩
theorem LadAt.at_ (h : LadAt B w A L) {k : Nat} {t : List Part} (hk : L[k]? = some t) : ∃ b off A' c, A = some ⟨b, off, none⟩ ∧ b < B ∧ RowB 4 pv B w A' t ∧ ∀ j v, (tv A' t.length c (tsum t))[j]? = some v → w.cell? ⟨b, off + k * 4 + j, none⟩ = some v := by
  obtain ⟨b, off, e, hlt, hc⟩ := h.2 (by have := (List.getElem?_eq_some_iff.1 hk).1; omega)
  obtain ⟨A', c, hr, hx⟩ := hc k t hk
  exact ⟨b, off, A', c, e, hlt, hr, hx⟩
end
theorem Bx.drew {w : World} {k : Nat} {x y z : Value} (h : Bx w k x y z) : Bx w.drew k x y z := h
theorem results_ir {fn : Func} {p u : Tmp} (h : fn.results = #[.tmp u, .cell p 32]) (tmps : Array Value) {w : World} {k : Nat} {x y z : Value} (hp : tmps.getD p undef = .pointer (some ⟨k, 0, none⟩)) (hb : Bx w k x y z) :
    (results fn tmps).run Tryz.prog w = .ok (.tuple #[tmps.getD u undef, .agg #[x, y, z]]) w := by
  have hp' : tmps[p]?.getD undef = .pointer (some ⟨k, 0, none⟩) := by simpa using hp
  simp only [results, h]
  simp [hp', asAddr, load3 hb]
/-- sizes of a ladder's sums, and of the money that is left at each of its tiers -/
structure LadSz (L : List (List Part)) (m : Rat) : Prop where
  len : L.length ≤ 100
  sum : ∀ t, t ∈ L → Lt (tsum t) 40000000000
  rest : ∀ k, k ≤ L.length → Lt (m - sumR (sums (L.take k))) 40000000000
set_option maxHeartbeats 4000000 in
set_option maxRecDepth 100000 in
theorem split_any {B : Nat} {L : List (List Part)} {m : Rat} (hs : LadSz L m) {A : Option Addr} {c : Nat} (w : World) (hB : B ≤ w.heap.size) (h : LadAt B w A L) :
    Calls Tryz.prog 108 #[.slice A L.length c, .agg #[.bool (negB m), .string (bs (nm m)), .string (dstr m)]] w fun e w' =>
      e = .returned (.tuple #[.int .i64 (split (sums L) m).1, .agg #[.bool (negB (split (sums L) m).2), .string (bs (nm (split (sums L) m).2)), .string (dstr (split (sums L) m).2)]]) ∧ Below w.heap.size w w' := by
  have HC := Lib.hid (fun w (p q : Rat) (h1 : Lt p 40000000000) (h2 : Lt q 40000000000) => cmp_e h1 h2 rfl w)
  have HD := Lib.hid (fun w (p q : Rat) (h1 : Lt p 40000000000) (h2 : Lt q 40000000000) => sub_e h1 h2 rfl w)
  have HS := hide hs
  obtain ⟨n, hn⟩ : ∃ n, L.length = n := ⟨_, rfl⟩
  have hn1 : n ≤ 100 := by rw [← hn]; exact hs.len
  have HN := hide hn
  rw [hn]
  obtain ⟨V0, hV0, HQ0, hB0, hl0⟩ := box_new w (.bool (negB m)) (.string (bs (nm m))) (.string (dstr m))
  obtain ⟨V1, hV1, HZ1, hB1, hl1⟩ := box_new V0 (.bool false) (.string ⟨#[]⟩) (.string ⟨#[]⟩)
  have HQ1 := hide (HQ0.out.keep hB1 HQ0.out.lt)
  have HB1 := hide (hB0.trans (hB1.mono (Nat.le_of_lt hl0)))
  have HL := hide h
  have HK : Hid (w.heap.size < V0.heap.size) := hide hl0
  have hB' := hide hB
  clear hB0 hB1 hl0 hl1 hs h hn hB HQ0
  go_enter Tryz.func108, Tryz.ntmps108
  go_wp2_with fail
  go_loopw [10] (fun vi wr => ∃ k : Nat, k ≤ n ∧ vi = .int .i64 k ∧ Hid (k ≤ (split (sums L) m).1) ∧ Hid (Below w.heap.size w wr) ∧ Hid (Bx wr w.heap.size (.bool (negB (m - sumR (sums (L.take k))))) (.string (bs (nm (m - sumR (sums (L.take k)))))) (.string (dstr (m - sumR (sums (L.take k)))))) ∧ Hid (Bx wr V0.heap.size (.bool false) (.string ⟨#[]⟩) (.string ⟨#[]⟩))) (fun vi _ => n - (intOf vi).toNat)
  case atStart =>
    refine ⟨0, by omega, rfl, hide (Nat.zero_le _), HB1, ?_, HZ1⟩
    have e : m - sumR (sums (L.take 0)) = m := by show m - 0 = m; grind
    rw [e]
    exact HQ1
  case round =>
    obtain ⟨k, hk, rfl, HLE, HBk, HQk, HZk⟩ := hrel
    obtain ⟨p, hp⟩ : ∃ p, m - sumR (sums (L.take k)) = p := ⟨_, rfl⟩
    rw [hp] at HQk
    have HP := hide hp
    have HPS : Hid (Lt p 40000000000) := hide (by rw [← hp]; exact HS.out.rest k (by rw [HN.out]; exact hk))
    have hs1 : w.heap.size ≤ wr.heap.size := HBk.out.size
    clear hp
    by_cases hlt : k < n
    · obtain ⟨t, ht⟩ : ∃ t, L[k]? = some t := ⟨_, List.getElem?_eq_getElem (by rw [HN.out]; exact hlt)⟩
      have HT := hide ht
      obtain ⟨b, off, A', c', rfl, hbB, hr, hx⟩ := (HL.out.below (HBk.out.mono hB'.out)).at_ ht
      have HTS : Hid (Lt (tsum t) 40000000000) := hide (HS.out.sum t (List.mem_of_getElem? ht))
      have x0 : wr.cell? ⟨b, off + k * 4, none⟩ = some (.slice A' t.length c') := hx 0 _ rfl
      have x1 := hx 1 _ rfl
      have x2 := hx 2 _ rfl
      have x3 := hx 3 _ rfl
      obtain ⟨s, hs⟩ : ∃ s, tsum t = s := ⟨_, rfl⟩
      rw [hs] at HTS x1 x2 x3
      have HSM := hide hs
      obtain ⟨tn, htn⟩ : ∃ tn, t.length = tn := ⟨_, rfl⟩
      rw [htn] at x0
      clear hx hr hs htn
      obtain ⟨V, hV, HX, HBV, hsV⟩ : ∃ V, wr.alloc (.cells #[.slice A' tn c', .bool (negB s), .string (bs (nm s)), .string (dstr s)] 145) = V ∧ Hid (BlkT V wr.heap.size 145 (tv A' tn c' s)) ∧ Hid (Below wr.heap.size wr V) ∧ wr.heap.size < V.heap.size :=
        ⟨_, rfl, heap_alloc_new wr _, (Below.refl _ _).alloc (Nat.le_refl _) _, by simp⟩
      have HQV := hide (HQk.out.keep HBV.out HQk.out.lt)
      have HZV := hide (HZk.out.keep HBV.out HZk.out.lt)
      have HBV2 := hide (HBk.out.trans (HBV.out.mono HBk.out.size))
      obtain ⟨a0, a1, a2, b0, b1, b2⟩ := HQV.out
      have d1 := HX.out.cell (i := 1) rfl
      have d2 := HX.out.cell (i := 2) rfl
      have d3 := HX.out.cell (i := 3) rfl
      clear HBV HQk HZk HBk
      go_wp2_with fail
      refine (HC.out _ p s HPS.out HTS.out).mono ?_
      rintro e w3 ⟨rfl, hb3⟩
      have HX3 := hide (HX.out.below hb3)
      have HQ3 := hide (HQV.out.keep hb3 HQV.out.lt)
      have HZ3 := hide (HZV.out.keep hb3 HZV.out.lt)
      have HB3 := hide (HBV2.out.trans (hb3.mono HBV2.out.size))
      have hs3 : V.heap.size ≤ w3.heap.size := hb3.size
      clear hb3 a0 a1 a2 b0 b1 b2 d1 d2 d3 x0 x1 x2 x3 HX HQV HZV HBV2 hV
      obtain ⟨a0, a1, a2, b0, b1, b2⟩ := HQ3.out
      obtain ⟨c0, c1, c2, f0, f1, f2⟩ := HZ3.out
      have d1 := HX3.out.cell (i := 1) rfl
      have d2 := HX3.out.cell (i := 2) rfl
      have d3 := HX3.out.cell (i := 3) rfl
      by_cases hc : p < s
      · rw [cmpQ_lt hc]
        go_wp2_with fail
        go_region
        go_wp2_with fail
        refine bodyPost_ret (results_ir rfl _ rfl (Bx.drew (HZ3.out.set3 _ _ _))) rfl ?_
        refine ⟨?_, (below_set3 HB3.out (Nat.le_of_lt HK.out) _ _ _).drew⟩
        have e := split_stop (m := m) HT.out HLE.out (by rw [HP.out, HSM.out]; exact hc)
        rw [e, HP.out]
        rfl
      · obtain ⟨j, hj, hj0⟩ : ∃ j, cmpQ p s = j ∧ 0 ≤ j := ⟨_, rfl, (cmpQ_ge hc).1⟩
        rw [hj]
        clear hj
        go_wp2_with fail
        refine (HD.out _ p s HPS.out HTS.out).mono ?_
        rintro e w4 ⟨rfl, hb4⟩
        have HQ4 := hide (HQ3.out.keep hb4 HQ3.out.lt)
        have HZ4 := hide (HZ3.out.keep hb4 HZ3.out.lt)
        have HB4 := hide (HB3.out.trans (hb4.mono HB3.out.size))
        have hs4 : w3.heap.size ≤ w4.heap.size := hb4.size
        clear hb4 a0 a1 a2 b0 b1 b2 d1 d2 d3 c0 c1 c2 f0 f1 f2 HX3 HQ3 HZ3 HB3
        obtain ⟨a0, a1, a2, b0, b1, b2⟩ := HQ4.out
        go_wp2_with fail
        refine ⟨⟨k + 1, by omega, rfl, hide (split_go HT.out HLE.out (by rw [HP.out, HSM.out]; exact hc)), hide (below_set3 HB4.out (Nat.le_refl _) _ _ _), ?_, hide (HZ4.out.other3 (by have := HK.out; omega) _ _ _)⟩, by simp only [intOf]; omega⟩
        have e : m - sumR (sums (L.take (k + 1))) = p - s := by
          rw [sums_snoc HT.out, ← HP.out, HSM.out]
          grind
        rw [e]
        exact hide (HQ4.out.set3 _ _ _)
    · have hkn : k = n := by omega
      subst hkn
      obtain ⟨a0, a1, a2, b0, b1, b2⟩ := HQk.out
      obtain ⟨c0, c1, c2, f0, f1, f2⟩ := HZk.out
      go_wp2_with fail
      go_region
      go_wp2_with fail
      refine bodyPost_ret (results_ir rfl _ rfl (Bx.drew (HZk.out.set3 _ _ _))) rfl ?_
      refine ⟨?_, (below_set3 HBk.out (Nat.le_of_lt HK.out) _ _ _).drew⟩
      have e := split_end (L := L) (m := m) (by rw [HN.out]; exact HLE.out)
      rw [e, HN.out, ← HP.out, ← HN.out, List.take_length]
      rfl
end Go.Proofs.YtpbgmpjnfndfjaaGreatDoor.TwD
namespace Go.Proofs.YtpbgmpjnfndfjaaGreatDoor.TwE
open Go.RowKit Wd RnA RnB RnW RnQ RnR RnP RoA RoC RoL RtA RtB RtC RpB RpC RpE RpF RpG RpH RnY RpI RpJ RpK RpL PqB PfD PfE TqA TwA TwB TwC TwD TpB TpC TpT TpU
/-- all numbers of a result are small enough to be added to -/
def SzR (s : List Rat × Rat) : Prop := (∀ x, x ∈ s.1 → Lt x 40000000000) ∧ Lt s.2 40000000000
/-- a list of parts can be added to a result -/
structure AddSz (s : List Rat × Rat) (l : List Part) : Prop where
  inn : In s.1.length l
  len : s.1.length ≤ 100
  cap : ∀ p, p ∈ l → Lt p.2 40000000000
  sum : ∀ l', l' <+: l → SzR (addAll s l')
theorem AddP.ks {R g gc : Nat} {gp : List Value} {s : List Rat × Rat} {a w w' : World} {e : Ending} (h : AddP R g gc gp s w e w') (k : Ks (fun k => k = R ∨ k = g) a w) : Ks (fun k => k = R ∨ k = g) a w' := k.trans h.2.2
theorem add_any {R g gc : Nat} {gp : List Value} {s : List Rat × Rat} {q : Rat} {c : Int} (hc : c = -1 ∨ (0 ≤ c ∧ c < (s.1.length : Int))) (hq : Lt q 40000000000) (hs : SzR s) (hl : s.1.length ≤ 100) (w : World) (h : RS w R g gc gp s) :
    Calls Tryz.prog 109 #[.pointer (some ⟨R, 0, none⟩), .int .i64 c, .agg #[.bool (negB q), .string (bs (nm q)), .string (dstr q)]] w (AddP R g gc gp (addR s c q) w) := by
  rcases hc with rfl | ⟨h0, h1⟩
  · exact add_res hq hs.2 w h
  · obtain ⟨k, rfl⟩ := Int.eq_ofNat_of_zero_le h0
    have hk : k < s.1.length := by omega
    exact add_clm hq (List.getElem?_eq_getElem hk) (hs.1 _ (List.getElem_mem hk)) hl w h
theorem take_snoc {α : Type} {l : List α} {k : Nat} {p : α} (h : l[k]? = some p) : l.take (k + 1) = l.take k ++ [p] := by
  rw [List.take_add_one, h]; rfl
theorem Ks.bx {S : Nat → Prop} {w w' : World} {k : Nat} {x y z : Value} (h : Ks S w w') (hb : Bx w k x y z) (hk : k < w.heap.size) (hS : ¬ S k) : Bx w' k x y z := by
  have e := h.block k hk hS
  exact ⟨(World.cell?_of_block (a := ⟨k, 0, none⟩) e).trans hb.1, (World.cell?_of_block (a := ⟨k, 1, none⟩) e).trans hb.2.1, (World.cell?_of_block (a := ⟨k, 2, none⟩) e).trans hb.2.2.1,
    (World.frozen?_of_block (a := ⟨k, 0, none⟩) e).trans hb.2.2.2.1, (World.frozen?_of_block (a := ⟨k, 1, none⟩) e).trans hb.2.2.2.2.1, (World.frozen?_of_block (a := ⟨k, 2, none⟩) e).trans hb.2.2.2.2.2⟩
theorem shares_snoc {t : List Part} {k : Nat} {p : Part} (h : t[k]? = some p) (q : Rat) (s : List Rat × Rat) : addAll s (sharesL (t.take (k + 1)) q) = addR (addAll s (sharesL (t.take k) q)) p.1 (p.2 * q) := by
  rw [take_snoc h]
  unfold sharesL
  rw [List.map_append]
  exact addAll_snoc _ _ _
theorem shares_take (t : List Part) (q : Rat) (k : Nat) : (sharesL t q).take k = sharesL (t.take k) q := by unfold sharesL; rw [List.map_take]
set_option maxHeartbeats 4000000 in
set_option maxRecDepth 100000 in
theorem share_any {B : Nat} {R g gc : Nat} {gp : List Value} {s : List Rat × Rat} {t : List Part} {m : Rat} (hm : Lt m 40000000000) (ht : Lt (tsum t) 40000000000) (h0 : tsum t ≠ 0) (hq : Lt (m / tsum t) 40000000000) (hcap : ∀ p, p ∈ t → Lt p.2 40000000000) (hs : AddSz s (sharesL t (m / tsum t))) (htl : t.length ≤ 1000)
    {A : Option Addr} {c : Nat} (w : World) (hB : B ≤ w.heap.size) (hR : B ≤ R) (hg : B ≤ g) (h : RowB 4 pv B w A t) (hr : RS w R g gc gp s) :
    Calls Tryz.prog 110 #[.pointer (some ⟨R, 0, none⟩), .agg #[.slice A t.length c, .bool (negB (tsum t)), .string (bs (nm (tsum t))), .string (dstr (tsum t))], .agg #[.bool (negB m), .string (bs (nm m)), .string (dstr m)]] w (AddP R g gc gp (addAll s (sharesL t (m / tsum t))) w) := by
  have HDV := Lib.hid (fun w => div_e hm ht h0 rfl w)
  have HM := Lib.hid (fun W (p q : Rat) (h1 : Lt p 40000000000) (h2 : Lt q 40000000000) (v : Qin.In (Below W.heap.size W)) => TwC.q_in (mul_e h1 h2 rfl v.val))
  have HA := Lib.hid (fun w (s : List Rat × Rat) (q : Rat) (c : Int) hc hq hs hl h => @add_any R g gc gp s q c hc hq hs hl w h)
  have HS := hide hs
  have HCap := hide hcap
  have HQ := hide hq
  obtain ⟨n, hn⟩ : ∃ n, t.length = n := ⟨_, rfl⟩
  have HN := hide hn
  have hn1 : n ≤ 1000 := by rw [← hn]; exact htl
  rw [hn]
  generalize m / tsum t = q at *
  generalize tsum t = d at *
  obtain ⟨V0, hV0, HT0, hB0, hl0⟩ : ∃ V, w.alloc (.cells #[.slice A n c, .bool (negB d), .string (bs (nm d)), .string (dstr d)] 145) = V ∧ Hid (BlkT V w.heap.size 145 (tv A n c d)) ∧ (Below w.heap.size w V) ∧ w.heap.size < V.heap.size :=
    ⟨_, rfl, heap_alloc_new w _, (Below.refl _ _).alloc (Nat.le_refl _) _, by simp⟩
  obtain ⟨V1, hV1, HM1, hB1, hl1⟩ := box_new V0 (.bool (negB m)) (.string (bs (nm m))) (.string (dstr m))
  have HT1 := hide (HT0.out.below hB1)
  have HB1 := hide (hB0.trans (hB1.mono (Nat.le_of_lt hl0)))
  have HL := hide h
  have HRS := hide (hr.below HB1.out)
  have HRl : Hid (R < w.heap.size ∧ g < w.heap.size) := hide ⟨hr.res.lt, hr.cl.lt⟩
  have HR := hide hR
  have HG := hide hg
  have HB := hide hB
  clear hm ht h0 hq hcap hs htl hB hR hg h hr hn hB0 hB1 hl0 hl1 HT0
  go_enter Tryz.func110, Tryz.ntmps110
  obtain ⟨a0, a1, a2, b0, b1, b2⟩ := HM1.out
  have d0 := HT1.out.cell (i := 0) rfl
  have d1 := HT1.out.cell (i := 1) rfl
  have d2 := HT1.out.cell (i := 2) rfl
  have d3 := HT1.out.cell (i := 3) rfl
  go_wp2_with fail
  refine (HDV.out _).mono ?_
  rintro e w2 ⟨rfl, hb2⟩
  obtain ⟨V2, hV2, HQ2, hB2, hl2⟩ := box_new w2 (.bool (negB q)) (.string (bs (nm q))) (.string (dstr q))
  have hc2 := hb2.trans (hB2.mono hb2.size)
  have HT2 := hide (HT1.out.below hc2)
  have HRS2 := hide (HRS.out.below hc2)
  have HB2 := hide (HB1.out.trans (hc2.mono HB1.out.size))
  have hs2 : w2.heap.size < V2.heap.size := hl2
  have hsw : w.heap.size ≤ w2.heap.size := Nat.le_trans HB1.out.size hb2.size
  clear hb2 hB2 hc2 hl2 a0 a1 a2 b0 b1 b2 d0 d1 d2 d3 HM1 HT1 HRS
  have d0 := HT2.out.cell (i := 0) rfl
  go_wp2_with fail
  go_loopw [20] (fun vi wr => ∃ k : Nat, k ≤ n ∧ vi = .int .i64 k ∧ Hid (RS wr R g gc gp (addAll s (sharesL (t.take k) q))) ∧ Hid (Ks (fun k => k = R ∨ k = g) w wr) ∧ Hid (Bx wr w2.heap.size (.bool (negB q)) (.string (bs (nm q))) (.string (dstr q)))) (fun vi _ => n - (intOf vi).toNat)
  case atStart =>
    exact ⟨0, by omega, rfl, HRS2, hide (Ks.of_below HB2.out), HQ2⟩
  case round =>
    obtain ⟨k, hk, rfl, HRk, HKk, HQk⟩ := hrel
    by_cases hlt : k < n
    · obtain ⟨p, hp⟩ : ∃ p, t[k]? = some p := ⟨_, List.getElem?_eq_getElem (by rw [HN.out]; exact hlt)⟩
      have HP := hide hp
      have hbk : Below B w wr := HKk.out.below HB.out (by rintro k (rfl | rfl); exact HR.out; exact HG.out)
      obtain ⟨b, off, rfl, hbB, hx⟩ := (HL.out.below hbk).at_ hp
      have x0 : wr.cell? ⟨b, off + k * 4, none⟩ = some (.int .i64 p.1) := hx 0 _ rfl
      have x1 := hx 1 _ rfl
      have x2 := hx 2 _ rfl
      have x3 := hx 3 _ rfl
      obtain ⟨pc, pq⟩ := p
      dsimp only at x0 x1 x2 x3
      obtain ⟨V, hV, HX, HBV, hsV⟩ : ∃ V, wr.alloc (.cells #[.int .i64 pc, .bool (negB pq), .string (bs (nm pq)), .string (dstr pq)] 205) = V ∧ Hid (BlkT V wr.heap.size 205 (pv (pc, pq))) ∧ Hid (Below wr.heap.size wr V) ∧ wr.heap.size < V.heap.size :=
        ⟨_, rfl, heap_alloc_new wr _, (Below.refl _ _).alloc (Nat.le_refl _) _, by simp⟩
      clear hx hp hbk
      have HRV := hide (HRk.out.below HBV.out)
      have HKV := hide (HKk.out.trans (Ks.of_below HBV.out))
      have HQV := hide (HQk.out.keep HBV.out HQk.out.lt)
      clear HRk HKk HQk
      have d0 := blk_kin HX.out (i := 0) rfl
      have d1 := blk_kin HX.out (i := 1) rfl
      have d2 := blk_kin HX.out (i := 2) rfl
      have d3 := blk_kin HX.out (i := 3) rfl
      obtain ⟨k0, k1, k2⟩ := HQV.out.kin
      go_wp2_with fail
      refine Qtl.region (I := Below V.heap.size V) 7 (Qin.start _ _) (by kernel_rfl) (by kernel_rfl) ?_
      simp only [List.take_succ_cons, List.take_zero, List.drop_succ_cons, List.drop_zero]
      have hpq : Lt pq 40000000000 := HCap.out _ (List.mem_of_getElem? HP.out)
      have HM2 := Lib.hid (fun v => HM.out V pq q hpq HQ.out v)
      repeat (go_big_quiet_step ((go_at_call 142; with_reducible exact HM2.out _)))
      refine wpQuiet_nil ?_
      intro v
      obtain ⟨v, hv⟩ := v
      dsimp only
      have hmem : (pc, pq * q) ∈ sharesL t q := by unfold sharesL; exact List.mem_map.2 ⟨(pc, pq), List.mem_of_getElem? HP.out, rfl⟩
      have hpre : sharesL (t.take k) q <+: sharesL t q := by rw [← shares_take]; exact List.take_prefix _ _
      have H5 := Lib.hid (HA.out v (addAll s (sharesL (t.take k) q)) (pq * q) pc (by rw [addAll_len]; exact HS.out.inn _ hmem) (HS.out.cap _ hmem) (HS.out.sum _ hpre) (by rw [addAll_len]; exact HS.out.len) (HRV.out.below hv))
      have HKv := hide (HKV.out.trans (Ks.of_below hv))
      have hQv := HQV.out.keep hv HQV.out.lt
      have HQv := hide hQv
      have hvs : w2.heap.size < v.heap.size := Nat.lt_of_lt_of_le HQV.out.lt hv.size
      clear hmem hpre hQv hpq HRV HKV HQV HM2 hV hv x0 x1 x2 x3 d0 d1 d2 d3 k0 k1 k2
      go_wp2_with fail
      refine H5.out.mono ?_
      rintro e w5 ⟨rfl, hR5, hK5⟩
      have HR5 := hide hR5
      have HK5 := hide (HKv.out.trans hK5)
      have HQ5 := hide (Ks.bx hK5 HQv.out hvs (by have := HRl.out.1; have := HRl.out.2; omega))
      clear hR5 hK5
      go_wp2_with fail
      refine ⟨⟨k + 1, by omega, rfl, ?_, HK5, HQ5⟩, by simp only [intOf]; omega⟩
      rw [shares_snoc HP.out]
      exact HR5
    · have hkn : k = n := by omega
      subst hkn
      go_wp2_with fail
      refine bodyPost_end (results_none rfl _ _ _) rfl ?_
      refine ⟨rfl, ?_, HKk.out⟩
      have := HRk.out
      rw [← HN.out, List.take_length] at this
      exact this
end Go.Proofs.YtpbgmpjnfndfjaaGreatDoor.TwE
namespace Go.Proofs.YtpbgmpjnfndfjaaGreatDoor.TwF
open Go.RowKit Wd RnA RnB RnW RnQ RnR RnP RoA RoC RoL RtA RtB RtC RpB RpC RpE RpF RpG RpH RnY RpI RpJ RpK RpL PqB PfD PfE TqA TwA TwB TwC TwD TwE TpB TpC TpT TpU
theorem split_len : ∀ (S : List Rat) (m : Rat), (TpB.split S m).1 ≤ S.length
  | [], _ => Nat.le_refl _
  | s :: S, m => by
    unfold TpB.split
    by_cases h : m < s
    · rw [if_pos h]; exact Nat.zero_le _
    · rw [if_neg h]; exact Nat.succ_le_succ (split_len S _)
theorem pays_full (L : List (List Part)) (m : Rat) : (L.take (TpB.split (sums L) m).1).flatten <+: pays L m := by
  rw [pays_split]; exact List.prefix_append _ _
theorem pays_part {L : List (List Part)} {m : Rat} {k : Nat} {t : List Part} (hk : k < (TpB.split (sums L) m).1) (ht : L[k]? = some t) (j : Nat) : (L.take k).flatten ++ t.take j <+: pays L m := by
  refine List.IsPrefix.trans ?_ (pays_full L m)
  have e : L.take (TpB.split (sums L) m).1 = L.take (k + 1) ++ (L.take (TpB.split (sums L) m).1).drop (k + 1) := by
    have h := List.take_append_drop (k + 1) (L.take (TpB.split (sums L) m).1)
    rw [List.take_take, Nat.min_eq_left (by omega)] at h
    exact h.symm
  rw [e, List.flatten_append, take_snoc ht, List.flatten_append]
  simp only [List.flatten_cons, List.flatten_nil, List.append_nil, List.append_assoc]
  rw [List.prefix_append_right_inj]
  exact (List.take_prefix j t).trans (List.prefix_append _ _)
/-- sizes that a payment needs -/
structure PaySz (L : List (List Part)) (m : Rat) (s : List Rat × Rat) : Prop where
  lad : LadSz L m
  one : Lt m 40000000000
  parts : ∀ t, t ∈ L → t.length ≤ 1000
  caps : ∀ t, t ∈ L → ∀ p, p ∈ t → Lt p.2 40000000000
  add : AddSz s (pays L m)
  left : Lt (TpB.split (sums L) m).2 40000000000
  share : ∀ t, L[(TpB.split (sums L) m).1]? = some t → tsum t ≠ 0 ∧ Lt ((TpB.split (sums L) m).2 / tsum t) 40000000000
set_option maxHeartbeats 4000000 in
set_option maxRecDepth 100000 in
theorem pay_any {B : Nat} {R g gc : Nat} {gp : List Value} {s : List Rat × Rat} {L : List (List Part)} {m : Rat} (hs : PaySz L m s) {A : Option Addr} {c : Nat} (hc : L.length ≤ c) (w : World) (hB : B ≤ w.heap.size) (hR : B ≤ R) (hg : B ≤ g) (h : LadAt B w A L) (hr : RS w R g gc gp s) :
    Calls Tryz.prog 64 #[.slice A L.length c, .agg #[.bool (negB m), .string (bs (nm m)), .string (dstr m)], .pointer (some ⟨R, 0, none⟩)] w (AddP R g gc gp (addAll s (pays L m)) w) := by
  have HSP := Lib.hid (fun w hB h => @split_any B L m hs.lad A c w hB h)
  have HA := Lib.hid (fun w (s : List Rat × Rat) (q : Rat) (c : Int) hc hq hs hl h => @add_any R g gc gp s q c hc hq hs hl w h)
  have HSH := Lib.hid (fun w s t m hm ht h0 hq hcap hs htl A c hB h hr => @share_any B R g gc gp s t m hm ht h0 hq hcap hs htl A c w hB hR hg h hr)
  have hpre : ∀ k t, k < (TpB.split (sums L) m).1 → L[k]? = some t → ∀ j, (L.take k).flatten ++ t.take j <+: pays L m := fun k t h1 h2 j => pays_part h1 h2 j
  have HPre := hide hpre
  clear hpre
  have HSz := hide hs
  obtain ⟨F, hF⟩ : ∃ F, (TpB.split (sums L) m).1 = F := ⟨_, rfl⟩
  obtain ⟨lf, hlf⟩ : ∃ lf, (TpB.split (sums L) m).2 = lf := ⟨_, rfl⟩
  have hFn : F ≤ L.length := by rw [← hF]; have := split_len (sums L) m; unfold sums at this; rw [List.length_map] at this; exact this
  have HPS := hide (pays_split L m)
  have HF := hide hF
  have HLF := hide hlf
  rw [hF, hlf] at HSP HPS
  rw [hF] at HPre
  obtain ⟨n, hn⟩ : ∃ n, L.length = n := ⟨_, rfl⟩
  have HN := hide hn
  have hn1 : n ≤ 100 := by rw [← hn]; exact hs.lad.len
  have hcn : n ≤ c := by rw [← hn]; exact hc
  rw [hn] at hFn HSP
  rw [hn]
  obtain ⟨V0, hV0, HM0, hB0, hl0⟩ := box_new w (.bool (negB m)) (.string (bs (nm m))) (.string (dstr m))
  have HB0 := hide hB0
  have HL := hide h
  have HRS := hide (hr.below hB0)
  have HRl : Hid (R < w.heap.size ∧ g < w.heap.size) := hide ⟨hr.res.lt, hr.cl.lt⟩
  have HR := hide hR
  have HG := hide hg
  have HB := hide hB
  have HL0 := hide (h.below (hB0.mono hB))
  have hb0 : B ≤ V0.heap.size := Nat.le_trans hB hB0.size
  clear hs hB hR hg h hr hn hB0 hl0 hF hlf hc
  go_enter Tryz.func64, Tryz.ntmps64
  obtain ⟨a0, a1, a2, b0, b1, b2⟩ := HM0.out
  go_wp2_with fail
  refine (HSP.out _ hb0 HL0.out).mono ?_
  rintro e w2 ⟨rfl, hb2⟩
  obtain ⟨V2, hV2, HQ2, hB2, hl2⟩ := box_new w2 (.bool (negB lf)) (.string (bs (nm lf))) (.string (dstr lf))
  have hc2 := hb2.trans (hB2.mono hb2.size)
  have HRS2 := hide (HRS.out.below hc2)
  have HB2 := hide (HB0.out.trans (hc2.mono HB0.out.size))
  have hs2 : w2.heap.size < V2.heap.size := hl2
  have hsw : w.heap.size ≤ w2.heap.size := Nat.le_trans HB0.out.size hb2.size
  clear hb2 hB2 hc2 hl2 a0 a1 a2 b0 b1 b2 HM0 HRS HL0
  go_wp2_with fail
  go_loopw [22] (fun vi wr => ∃ k : Nat, k ≤ F ∧ vi = .int .i64 k ∧ Hid (RS wr R g gc gp (addAll s (L.take k).flatten)) ∧ Hid (Ks (fun k => k = R ∨ k = g) w wr) ∧ Hid (Bx wr w2.heap.size (.bool (negB lf)) (.string (bs (nm lf))) (.string (dstr lf)))) (fun vi _ => F - (intOf vi).toNat)
  case atStart =>
    exact ⟨0, by omega, rfl, HRS2, hide (Ks.of_below HB2.out), HQ2⟩
  case round =>
    obtain ⟨k, hk, rfl, HRk, HKk, HQk⟩ := hrel
    by_cases hlt : k < F
    · obtain ⟨t, ht⟩ : ∃ t, L[k]? = some t := ⟨_, List.getElem?_eq_getElem (by rw [HN.out]; omega)⟩
      have HT := hide ht
      have hbk : Below B w wr := HKk.out.below HB.out (by rintro k (rfl | rfl); exact HR.out; exact HG.out)
      obtain ⟨b, off, A', c', rfl, hbB, hrow, hx⟩ := (HL.out.below hbk).at_ ht
      have x0 : wr.cell? ⟨b, off + k * 4, none⟩ = some (.slice A' t.length c') := hx 0 _ rfl
      have x1 := hx 1 _ rfl
      have x2 := hx 2 _ rfl
      have x3 := hx 3 _ rfl
      have hPk := fun j => HPre.out k t hlt ht j
      have HPk := hide hPk
      have htl : t.length ≤ 1000 := HSz.out.parts t (List.mem_of_getElem? ht)
      have HCap := hide (HSz.out.caps t (List.mem_of_getElem? ht))
      obtain ⟨ts, hts⟩ : ∃ ts, tsum t = ts := ⟨_, rfl⟩
      obtain ⟨tn, htn⟩ : ∃ tn, t.length = tn := ⟨_, rfl⟩
      rw [hts] at x1 x2 x3
      rw [htn] at x0 htl
      have HTN := hide htn
      have HRow := hide hrow
      clear hx hrow ht hbk hPk hts htn
      obtain ⟨V, hV, HX, HBV, hsV⟩ : ∃ V, wr.alloc (.cells #[.slice A' tn c', .bool (negB ts), .string (bs (nm ts)), .string (dstr ts)] 145) = V ∧ Hid (BlkT V wr.heap.size 145 (tv A' tn c' ts)) ∧ Hid (Below wr.heap.size wr V) ∧ wr.heap.size < V.heap.size :=
        ⟨_, rfl, heap_alloc_new wr _, (Below.refl _ _).alloc (Nat.le_refl _) _, by simp⟩
      have HRV := hide (HRk.out.below HBV.out)
      have HKV := hide (HKk.out.trans (Ks.of_below HBV.out))
      have HQV := hide (HQk.out.keep HBV.out HQk.out.lt)
      have HRow2 : Hid (RowB 4 pv B V A' t) := hide (HRow.out.below (HBV.out.mono (Nat.le_trans HB.out HKk.out.size)))
      have d0 := HX.out.cell (i := 0) rfl
      have hV2 : w2.heap.size < V.heap.size := Nat.lt_of_lt_of_le HQk.out.lt HBV.out.size
      clear HRk HKk HQk HRow
      go_wp2_with fail
      clear d0 x0 x1 x2 x3
      go_loopw [29] (fun vi wr' => ∃ j : Nat, j ≤ tn ∧ vi = .int .i64 j ∧ Hid (RS wr' R g gc gp (addAll s ((L.take k).flatten ++ t.take j))) ∧ Hid (Ks (fun k => k = R ∨ k = g) V wr') ∧ Hid (Bx wr' w2.heap.size (.bool (negB lf)) (.string (bs (nm lf))) (.string (dstr lf)))) (fun vi _ => tn - (intOf vi).toNat)
      case atStart =>
        refine ⟨0, by omega, rfl, ?_, hide (Ks.refl _ _), HQV⟩
        rw [List.take_zero, List.append_nil]
        exact HRV
      case round =>
        obtain ⟨j, hj, rfl, HRj, HKj, HQj⟩ := hrel
        by_cases hjt : j < tn
        · obtain ⟨p, hp⟩ : ∃ p, t[j]? = some p := ⟨_, List.getElem?_eq_getElem (by rw [HTN.out]; exact hjt)⟩
          have HP := hide hp
          have hbj : Below B V wr := HKj.out.below (Nat.le_trans HB.out HKV.out.size) (by rintro k (rfl | rfl); exact HR.out; exact HG.out)
          obtain ⟨b', off', rfl, hbB', hy⟩ := (HRow2.out.below hbj).at_ hp
          have x0 : wr.cell? ⟨b', off' + j * 4, none⟩ = some (.int .i64 p.1) := hy 0 _ rfl
          have x1 := hy 1 _ rfl
          have x2 := hy 2 _ rfl
          have x3 := hy 3 _ rfl
          obtain ⟨pc, pq⟩ := p
          dsimp only at x0 x1 x2 x3
          have hmem : (pc, pq) ∈ pays L m := (HPk.out (j + 1)).subset (by rw [take_snoc HP.out]; simp)
          have h1 := HSz.out.add.inn _ hmem
          have h2 := HSz.out.add.sum _ (HPk.out j)
          have h3 := HCap.out _ (List.mem_of_getElem? HP.out)
          obtain ⟨U, hU, HX2, HBU, hsU⟩ : ∃ V, wr.alloc (.cells #[.int .i64 pc, .bool (negB pq), .string (bs (nm pq)), .string (dstr pq)] 205) = V ∧ Hid (BlkT V wr.heap.size 205 (pv (pc, pq))) ∧ Hid (Below wr.heap.size wr V) ∧ wr.heap.size < V.heap.size :=
            ⟨_, rfl, heap_alloc_new wr _, (Below.refl _ _).alloc (Nat.le_refl _) _, by simp⟩
          have H5 := Lib.hid (HA.out U (addAll s ((L.take k).flatten ++ t.take j)) pq pc (by rw [addAll_len]; exact h1) h3 h2 (by rw [addAll_len]; exact HSz.out.add.len) (HRj.out.below HBU.out))
          have HKU := hide (HKj.out.trans (Ks.of_below HBU.out))
          have HQU := hide (HQj.out.keep HBU.out HQj.out.lt)
          have d0 := HX2.out.cell (i := 0) rfl
          have d1 := HX2.out.cell (i := 1) rfl
          have d2 := HX2.out.cell (i := 2) rfl
          have d3 := HX2.out.cell (i := 3) rfl
          clear hy hp hbj hmem h1 h2 h3 HRj HKj HQj
          go_wp2_with fail
          refine H5.out.mono ?_
          rintro e w5 ⟨rfl, hR5, hK5⟩
          have HR5 := hide hR5
          have HK5 := hide (HKU.out.trans hK5)
          have HQ5 := hide (Ks.bx hK5 HQU.out HQU.out.lt (by have := HRl.out.1; have := HRl.out.2; omega))
          clear hR5 hK5 d0 d1 d2 d3 x0 x1 x2 x3
          go_wp2_with fail
          refine ⟨⟨j + 1, by omega, rfl, ?_, HK5, HQ5⟩, by simp only [intOf]; omega⟩
          rw [take_snoc HP.out, ← List.append_assoc, addAll_snoc]
          exact HR5
        · have hjn : j = tn := by omega
          subst hjn
          go_wp2_with fail
          refine ⟨⟨k + 1, by omega, rfl, ?_, hide (HKV.out.trans HKj.out), HQj⟩, by simp only [intOf]; omega⟩
          rw [take_snoc HT.out, List.flatten_append]
          have e : t.take j = t := by rw [← HTN.out, List.take_length]
          have := HRj
          rw [e] at this
          simpa using this
    · have hkF : k = F := by omega
      subst hkF
      by_cases hfn : k < n
      · obtain ⟨t, ht⟩ : ∃ t, L[k]? = some t := ⟨_, List.getElem?_eq_getElem (by rw [HN.out]; omega)⟩
        have HT := hide ht
        have hbk : Below B w wr := HKk.out.below HB.out (by rintro k (rfl | rfl); exact HR.out; exact HG.out)
        obtain ⟨b, off, A', c', rfl, hbB, hrow, hx⟩ := (HL.out.below hbk).at_ ht
        have hbw : b < wr.heap.size := Nat.lt_of_lt_of_le hbB (Nat.le_trans HB.out HKk.out.size)
        have y : ∀ j v, (tv A' t.length c' (tsum t))[j]? = some v → ∀ u : Qin.In (Below wr.heap.size wr), u.val.cell? ⟨b, off + k * 4 + j, none⟩ = some v := fun j v hv u => (u.ok.cell (p := ⟨b, off + k * 4 + j, none⟩) hbw).trans (hx j v hv)
        have x0 : ∀ u : Qin.In (Below wr.heap.size wr), u.val.cell? ⟨b, off + k * 4, none⟩ = some (.slice A' t.length c') := y 0 _ rfl
        have x1 := y 1 _ rfl
        have x2 := y 2 _ rfl
        have x3 := y 3 _ rfl
        have ePay : pays L m = (L.take k).flatten ++ sharesL t (lf / tsum t) := by have := HPS.out; rw [ht] at this; exact this
        have h0 := HSz.out.share t (by rw [HF.out]; exact ht)
        rw [HLF.out] at h0
        have hlf : Lt lf 40000000000 := by rw [← HLF.out]; exact HSz.out.left
        have hadd : AddSz (addAll s (L.take k).flatten) (sharesL t (lf / tsum t)) := by
          refine ⟨fun p hp => ?_, by rw [addAll_len]; exact HSz.out.add.len, fun p hp => HSz.out.add.cap p (by rw [ePay]; exact List.mem_append_right _ hp), fun l' hl' => ?_⟩
          · rw [addAll_len]; exact HSz.out.add.inn p (by rw [ePay]; exact List.mem_append_right _ hp)
          · rw [← addAll_app]; exact HSz.out.add.sum _ (by rw [ePay, List.prefix_append_right_inj]; exact hl')
        have hrow' : ∀ v, Below wr.heap.size wr v → RowB 4 pv B v A' t := fun v hv => hrow.below (hv.mono (Nat.le_trans HB.out HKk.out.size))
        have hmem := List.mem_of_getElem? ht
        have H5 := Lib.hid (fun v (hv : Below wr.heap.size wr v) => HSH.out v (addAll s (L.take k).flatten) t lf hlf (HSz.out.lad.sum t hmem) h0.1 h0.2 (HSz.out.caps t hmem) hadd (HSz.out.parts t hmem) A' c' (Nat.le_trans HB.out (Nat.le_trans HKk.out.size hv.size)) (hrow' v hv) (HRk.out.below hv))
        have HE := hide ePay
        obtain ⟨k0, k1, k2⟩ := HQk.out.kin
        generalize tsum t = ts at *
        generalize lf / ts = qt at *
        generalize t.length = tn at *
        clear hx hrow hbk ePay h0 hlf hadd hrow' hmem ht y
        go_wp2_with fail
        refine Qtl.region (I := Below wr.heap.size wr) 6 (Qin.start _ _) (by kernel_rfl) (by kernel_rfl) ?_
        simp only [List.take_succ_cons, List.take_zero, List.drop_succ_cons, List.drop_zero]
        repeat (go_big_quiet_step (fail))
        refine wpQuiet_nil ?_
        intro v
        obtain ⟨v, hv⟩ := v
        dsimp only
        have H6 := Lib.hid (H5.out v hv)
        have HKv := hide (HKk.out.trans (Ks.of_below hv))
        clear hv x0 x1 x2 x3 k0 k1 k2 HKk HRk HQk
        go_wp2_with fail
        refine H6.out.mono ?_
        rintro e w5 ⟨rfl, hR5, hK5⟩
        have HR5 := hide hR5
        have HK5 := hide (HKv.out.trans hK5)
        clear hR5 hK5
        go_wp2_with fail
        refine bodyPost_end (results_none rfl _ _ _) rfl ?_
        refine ⟨rfl, ?_, HK5.out⟩
        rw [HE.out, addAll_app]
        exact HR5.out
      · have hkn : k = n := by omega
        go_wp2_with fail
        refine bodyPost_end (results_none rfl _ _ _) rfl ?_
        refine ⟨rfl, ?_, HKk.out⟩
        have e : L[k]? = none := List.getElem?_eq_none (by rw [HN.out]; omega)
        have := HPS.out
        rw [e] at this
        rw [this, List.append_nil]
        exact HRk.out
end Go.Proofs.YtpbgmpjnfndfjaaGreatDoor.TwF
namespace Go.Proofs.YtpbgmpjnfndfjaaGreatDoor.TwG
open Go.RowKit Wd RnA RnB RnW RnQ RnR RnP RoA RoC RoL RtA RtB RtC RpB RpC RpE RpF RpH RnY RpI RpJ RpK RpL PqB PfD PfE TqA TwA TwB TwC TwD TwE TwF TpB TpC TpT TpU
theorem qv3_zero : qv3 0 = [.bool false, .string ⟨#[]⟩, .string ⟨#[]⟩] := by
  have h := enc_zero_val
  unfold enc at h
  injection h with h
  exact congrArg Array.toList h
theorem made_zeros (n : Nat) : madeCells #[.bool false, .string ⟨#[]⟩, .string ⟨#[]⟩] (n * 3) = ((zeros n).flatMap qv3).toArray := by
  apply Array.ext
  · rw [size_madeCells, List.size_toArray, flat_len qv3_len]
    unfold zeros
    rw [List.length_replicate]
  · intro i h1 h2
    rw [size_madeCells] at h1
    have hk : (zeros n)[i / 3]? = some 0 := by
      unfold zeros
      rw [List.getElem?_replicate, if_pos (by omega)]
    have h := flat_get qv3_len (zeros n) (i / 3) 0 hk (i % 3) (by omega)
    rw [show i / 3 * 3 + i % 3 = i by omega, qv3_zero] at h
    simp only [madeCells, Array.getElem_map, Array.getElem_range, List.getElem_toArray]
    have e := (List.getElem?_eq_some_iff.1 (show ((zeros n).flatMap qv3)[i]? = some ((zeros n).flatMap qv3)[i] from List.getElem?_eq_getElem (by simpa using h2)))
    rw [List.getElem?_eq_getElem (by simpa using h2)] at h
    rcases (by omega : i % 3 = 0 ∨ i % 3 = 1 ∨ i % 3 = 2) with q | q | q
    all_goals
      rw [q] at h
      simp only [List.getElem?_cons_zero, List.getElem?_cons_succ, Option.some.injEq] at h
      rw [h]
      simp [q]
theorem rat_info : (Tryz.prog.info? 32).map (fun i => (i.zero, i.size)) = some (some (.agg #[.bool false, .string ⟨#[]⟩, .string ⟨#[]⟩]), 3) := by kernel_rfl
theorem rats_under : Tryz.prog.underlying 38 = some (.slice 32) := by kernel_rfl
theorem make_rats (n : Nat) (h : n ≤ 100) (w : World) : (Instr.makeSlice 38 (.int .i64 n) (.int .i64 n)).run Tryz.prog w = .ok (.slice (some ⟨w.heap.size, 0, none⟩) n n) (w.alloc (.cells ((zeros n).flatMap qv3).toArray 32)) := by
  have hi := rat_info
  cases hI : Tryz.prog.info? 32 with
  | none => rw [hI] at hi; simp at hi
  | some i =>
    rw [hI] at hi
    simp only [Option.map_some, Option.some.injEq, Prod.mk.injEq] at hi
    have hb : i.bytes ≤ 1000 := by
      have := (by kernel_rfl : (Tryz.prog.info? 32).map (fun i => decide (i.bytes ≤ 1000)) = some true)
      rw [hI] at this
      simpa using this
    have h := run_make (P := Tryz.prog) w _ _ i _ rats_under hI hi.1 .i64 .i64 n n (by omega) (by omega) (by
      have : (i.bytes : Int) * n ≤ 1000 * 100 := Int.mul_le_mul (by omega) (by omega) (by omega) (by omega)
      omega) (by omega)
    rw [h, hi.2]
    simp only [Int.toNat_natCast]
    rw [show (Value.agg #[.bool false, .string ⟨#[]⟩, .string ⟨#[]⟩]).cells = #[.bool false, .string ⟨#[]⟩, .string ⟨#[]⟩] from rfl, made_zeros]
def GrossP (n : Nat) (s : List Rat × Rat) (w : World) (e : Ending) (w' : World) : Prop := ∃ g, e = .returned (.slice (some ⟨g, 0, none⟩) n n) ∧ w.heap.size ≤ g ∧ BlkT w' g 32 (s.1.flatMap qv3) ∧ Below w.heap.size w w'
set_option maxHeartbeats 4000000 in
set_option maxRecDepth 100000 in
theorem gross_any {B n np cp nr cr : Nat} {L : List (List Part)} {m tot : Rat} {A Ap : Option Addr} (hn : n ≤ 100) (hs : PaySz L m (zeros n, 0)) (hnr : L.length = nr) (hc : nr ≤ cr) (w : World) (hB : B ≤ w.heap.size) (h : LadAt B w A L) :
    Calls Tryz.prog 62 #[.agg #[.int .i64 n, .slice A nr cr, .slice Ap np cp, .bool (negB tot), .string (bs (nm tot)), .string (dstr tot)], .agg #[.bool (negB m), .string (bs (nm m)), .string (dstr m)]] w (GrossP n (addAll (zeros n, 0) (pays L m)) w) := by
  subst hnr
  have HP := Lib.hid (fun w R g gc gp hB hR hg h hr => @pay_any B R g gc gp (zeros n, 0) L m hs A cr hc w hB hR hg h hr)
  have hmk := make_rats n hn
  have HN : Hid (L.length ≤ 100) := hide hs.lad.len
  have hlen : (addAll (zeros n, 0) (pays L m)).1.length = n := by rw [addAll_len]; simp [zeros]
  have HLen := hide hlen
  obtain ⟨nr, hnr⟩ : ∃ nr, L.length = nr := ⟨_, rfl⟩
  rw [hnr] at HP hc ⊢
  obtain ⟨zc, hzc⟩ : ∃ zc, (zeros n).flatMap qv3 = zc := ⟨_, rfl⟩
  have hz0 : (zeros n).length = n := by simp [zeros]
  rw [hzc] at hmk
  obtain ⟨V0, hV0, HL0, hB0, hl0⟩ : ∃ V, w.alloc (.cells #[.int .i64 n, .slice A nr cr, .slice Ap np cp, .bool (negB tot), .string (bs (nm tot)), .string (dstr tot)] 111) = V ∧ Hid (BlkT V w.heap.size 111 [.int .i64 n, .slice A nr cr, .slice Ap np cp, .bool (negB tot), .string (bs (nm tot)), .string (dstr tot)]) ∧ (Below w.heap.size w V) ∧ w.heap.size < V.heap.size :=
    ⟨_, rfl, heap_alloc_new w _, (Below.refl _ _).alloc (Nat.le_refl _) _, by simp⟩
  obtain ⟨V1, hV1, HM1, hB1, hl1⟩ := box_new V0 (.bool (negB m)) (.string (bs (nm m))) (.string (dstr m))
  obtain ⟨V2, hV2, HG2, hB2, hl2⟩ : ∃ V, V1.alloc (.cells zc.toArray 32) = V ∧ BlkT V V1.heap.size 32 zc ∧ (Below V1.heap.size V1 V) ∧ V1.heap.size < V.heap.size :=
    ⟨_, rfl, heap_alloc_new V1 _, (Below.refl _ _).alloc (Nat.le_refl _) _, by simp⟩
  obtain ⟨V3, hV3, HR3, hB3, hl3⟩ : ∃ V, V2.alloc (.cells #[.slice (some ⟨V1.heap.size, 0, none⟩) n n, .bool false, .string ⟨#[]⟩, .string ⟨#[]⟩] 155) = V ∧ BlkT V V2.heap.size 155 [.slice (some ⟨V1.heap.size, 0, none⟩) n n, .bool false, .string ⟨#[]⟩, .string ⟨#[]⟩] ∧ (Below V2.heap.size V2 V) ∧ V2.heap.size < V.heap.size :=
    ⟨_, rfl, heap_alloc_new V2 _, (Below.refl _ _).alloc (Nat.le_refl _) _, by simp⟩
  have b02 : Below w.heap.size w V1 := hB0.trans (hB1.mono (by omega))
  have b03 : Below w.heap.size w V2 := b02.trans (hB2.mono (by omega))
  have b04 : Below w.heap.size w V3 := b03.trans (hB3.mono (by omega))
  have HRS : Hid (RS V3 V2.heap.size V1.heap.size n [] (zeros n, 0)) := hide ⟨by
      show BlkT V3 _ _ (.slice _ (zeros n).length n :: qv3 0)
      rw [hz0, qv3_zero]; exact HR3, by rw [hzc, List.append_nil]; exact HG2.below hB3, by omega⟩
  have HL3 := hide (((HL0.out.below (hB1)).below (hB2)).below (hB3))
  have HM3 := hide ((HM1.out.keep hB2 HM1.out.lt).keep hB3 (Nat.lt_trans HM1.out.lt hl2))
  have HLad := hide (h.below (b04.mono hB))
  have hB4 : B ≤ V3.heap.size := by omega
  have hB5 : B ≤ V2.heap.size := by omega
  have hB6 : B ≤ V1.heap.size := by omega
  have hw1 : w.heap.size ≤ V1.heap.size := by omega
  have hw2 : w.heap.size ≤ V2.heap.size := by omega
  have HB4 := hide b04
  have x0 := (HL0.out.below hB1).cell (i := 0) rfl
  clear hB0 hB1 hB2 hB3 b02 b03 b04 HR3 HG2 HM1 HL0 h hB hs hlen hnr hzc hz0
  go_enter Tryz.func62, Tryz.ntmps62
  have x1 := HL3.out.cell (i := 1) rfl
  obtain ⟨a0, a1, a2, b0, b1, b2⟩ := HM3.out
  go_wp2_with fail
  refine (HP.out _ _ _ _ _ hB4 hB5 hB6 HLad.out HRS.out).mono ?_
  rintro e w5 ⟨rfl, hR5, hK5⟩
  have r0 := hR5.res.cell (i := 0) rfl
  rw [HLen.out] at r0
  have HR5 := hide hR5
  have HB5 : Hid (Below w.heap.size w w5) := hide (HB4.out.trans (hK5.below HB4.out.size (by rintro k (rfl | rfl); exact hw2; exact hw1)))
  clear hR5 hK5 a0 a1 a2 b0 b1 b2 x0 x1
  go_wp2_with fail
  refine bodyPost_end (results_tmp rfl _ _ _) rfl ?_
  exact ⟨_, rfl, hw1, by have := HR5.out.cl; rw [List.append_nil] at this; exact this, HB5.out⟩
end Go.Proofs.YtpbgmpjnfndfjaaGreatDoor.TwG
namespace Go.Proofs.YtpbgmpjnfndfjaaGreatDoor.TwH
open Go.RowKit Wd RnA RnB RnW RnQ RnR RnP RoA RoC RoL RtA RtB RtC RpB RpC RpE RpF RpH RnY RpI RpJ RpK RpL PqB PfD PfE TqA TwA TwB TwC TwD TwE TwF TwG TpB TpC TpT TpU
theorem own_block {w : World} {base n sz : Nat} {e : TypeId} {v : Value} {xs : List Value} (h : w.ownsRow base e sz v n xs) (hv : v ≠ .slice none 0 0) : ∃ g cap pad, v = .slice (some ⟨g, 0, none⟩) n cap ∧ base ≤ g ∧ BlkT w g e (xs ++ pad) ∧ n ≤ cap := by
  obtain ⟨h1, h2⟩ := h
  rcases h2 with ⟨h2, h3⟩ | ⟨g, cap', cur, hv', hg, hh, hnc, hcm, hcs, ht⟩
  · exact absurd h2 hv
  · refine ⟨g, cap', cur.toList.drop (n * sz), hv', hg, ?_, hnc⟩
    unfold BlkT
    rw [← ht, List.take_append_drop, hh]
theorem qv3_one : ∀ (l : List Rat), ∀ u ∈ l.flatMap qv3, u.oneCell' = true
  | [], u, h => by simp at h
  | x :: l, u, h => by
    rw [List.flatMap_cons, List.mem_append] at h
    rcases h with h | h
    · unfold qv3 at h
      simp only [List.mem_cons, List.not_mem_nil, or_false] at h
      rcases h with rfl | rfl | rfl <;> rfl
    · exact qv3_one l u h
theorem info_rat : (Tryz.prog.info? 32).map (fun i => (i.zero, i.size, i.bytes)) = some (some (.agg #[.bool false, .string ⟨#[]⟩, .string ⟨#[]⟩]), 3, 40) := by kernel_rfl
def CloneP (l : List Rat) (w : World) (e : Ending) (w' : World) : Prop := ∃ g gc gp, e = .returned (.slice (some ⟨g, 0, none⟩) l.length gc) ∧ w.heap.size ≤ g ∧ BlkT w' g 32 (l.flatMap qv3 ++ gp) ∧ Below w.heap.size w w'
set_option maxHeartbeats 4000000 in
set_option maxRecDepth 100000 in
theorem clone_any {l : List Rat} {g0 c0 : Nat} {p0 : List Value} (hl : l.length ≤ 100) (w : World) (h : BlkT w g0 32 (l.flatMap qv3 ++ p0)) :
    Calls Tryz.prog 79 #[.slice (some ⟨g0, 0, none⟩) l.length c0] w (CloneP l w) := by
  obtain ⟨i0, hi, hz0, hz1, hz2⟩ := info_parts info_rat
  obtain ⟨V, hV, HV, hBV, hlV⟩ : ∃ V, w.alloc (.cells #[] 32) = V ∧ BlkT V w.heap.size 32 [] ∧ (Below w.heap.size w V) ∧ w.heap.size < V.heap.size :=
    ⟨_, rfl, heap_alloc_new w _, (Below.refl _ _).alloc (Nat.le_refl _) _, by simp⟩
  have hown : V.ownsRow w.heap.size 32 3 (.slice (some ⟨w.heap.size, 0, none⟩) 0 0) 0 [] := ⟨rfl, .inr ⟨w.heap.size, 0, #[], rfl, Nat.le_refl _, HV, Nat.le_refl _, Nat.zero_le _, rfl, rfl⟩⟩
  have hsrc := h.below hBV
  have hcells : ∀ j u, (l.flatMap qv3)[j]? = some u → V.cell? ((⟨g0, 0, none⟩ : Addr).add j) = some u := by
    intro j u hu
    rw [Go.WideShapes.add_plain, Nat.zero_add]
    exact hsrc.cell (by rw [List.getElem?_append_left (List.getElem?_eq_some_iff.1 hu).1, hu])
  have hfl : (l.flatMap qv3).length = l.length * 3 := flat_len qv3_len l
  have h1 := qv3_one l
  unfold CloneP
  generalize l.flatMap qv3 = xs at *
  generalize l.length = n at *
  have heq := fun (w : World) => Lib.run_eql_slice_nil (P := Tryz.prog) w 38 _ (some ⟨g0, 0, none⟩) n c0 0 0 Tryz.underlying38
  clear h hsrc
  go_enter Tryz.func79, Tryz.ntmps79
  go_wp2_with (at_builtin
               refine wpList_append_own _ rfl (.tmp 5) (.tmp 6) 38 rfl w.heap.size 32 i0 _ 3 40 Tryz.underlying38 hi hz0 hz1 hz2 rfl (by decide) _ _ _ rfl hown ⟨g0, 0, none⟩ n c0 xs rfl hfl hcells h1 ?c3 ?c4 ?c5 ?_
               case c3 => unfold maxLen; omega
               case c4 => omega
               case c5 => omega
               intro v1 w1 hown1 hg1 hob1)
  go_ret
  obtain ⟨g, cap, pad, rfl, hg, hb, hc⟩ := own_block hown1 (by intro e; have h2 := (hob1.1 e).1; injection h2 with h3; cases h3)
  refine ⟨g, cap, pad, by rw [Nat.zero_add]; rfl, hg, hb, hBV.grown hg1 (by omega) (fun g hg => (hown.lt g hg).1)⟩
end Go.Proofs.YtpbgmpjnfndfjaaGreatDoor.TwH
namespace Go.Proofs.YtpbgmpjnfndfjaaGreatDoor.TwI
open Go.RowKit Wd RnA RnB RnW RnQ RnR RnP RoA RoC RoL RtA RtB RtC RpB RpC RpE RpF RpH RnY RpI RpJ RpK RpL PqB PfD PfE TqA TwA TwB TwC TwD TwE TwF TwG TwH TpB TpC TpD TpT TpU
def iv (i : Nat) : List Value := [.int .i64 i]
theorem total_snoc {g : Nat → Rat} {i : Nat} : ∀ {l : List Nat} {k : Nat}, l[k]? = some i → total g (l.take (k + 1)) = total g (l.take k) + g i
  | [], _, h => by simp at h
  | j :: l, 0, h => by
    simp only [List.getElem?_cons_zero, Option.some.injEq] at h
    subst h
    simp only [List.take_succ_cons, List.take_zero, total]
    grind
  | j :: l, k + 1, h => by
    have ih := total_snoc (g := g) (l := l) (k := k) (by simpa using h)
    simp only [List.take_succ_cons, total]
    rw [ih]
    grind
set_option maxHeartbeats 4000000 in
set_option maxRecDepth 100000 in
theorem total_any {B g0 c0 cm nl cl : Nat} {v : List Rat} {p0 : List Value} {ms : List Nat} {Am Al : Option Addr} (hms : ∀ i, i ∈ ms → i < v.length) (hv : ∀ x, x ∈ v → Lt x 40000000000) (hml : ms.length ≤ 100)
    (hsz : ∀ k, k ≤ ms.length → Lt (total (fun i => v.getD i 0) (ms.take k)) 40000000000) (w : World) (hB : B ≤ w.heap.size) (hm : RowB 1 iv B w Am ms) (hg : BlkT w g0 32 (v.flatMap qv3 ++ p0)) :
    Calls Tryz.prog 65 #[.agg #[.slice Am ms.length cm, .slice Al nl cl], .slice (some ⟨g0, 0, none⟩) v.length c0] w (Ans (total (fun i => v.getD i 0) ms) w) := by
  have HA := Lib.hid (fun W (p q : Rat) (h1 : Lt p 40000000000) (h2 : Lt q 40000000000) (v : Qin.In (Below W.heap.size W)) => TwC.q_in (add_e h1 h2 rfl v.val))
  have HV := hide hv
  have HMS := hide hms
  have HSZ := hide hsz
  obtain ⟨n, hn⟩ : ∃ n, v.length = n := ⟨_, rfl⟩
  obtain ⟨mn, hmn⟩ : ∃ mn, ms.length = mn := ⟨_, rfl⟩
  have HN := hide hn
  have HMN := hide hmn
  have HG := hide hg
  have HM := hide hm
  have hB' := hide hB
  rw [hn]
  rw [hmn] at hml ⊢
  have HT : Hid (total (fun i => v.getD i 0) (ms.take mn) = total (fun i => v.getD i 0) ms) := hide (by rw [← hmn, List.take_length])
  generalize total (fun i => v.getD i 0) ms = tot at *
  obtain ⟨V0, hV0, HP0, hB0, hl0⟩ : ∃ V, w.alloc (.cells #[.slice Am mn cm, .slice Al nl cl] 148) = V ∧ Hid (BlkT V w.heap.size 148 [.slice Am mn cm, .slice Al nl cl]) ∧ (Below w.heap.size w V) ∧ w.heap.size < V.heap.size :=
    ⟨_, rfl, heap_alloc_new w _, (Below.refl _ _).alloc (Nat.le_refl _) _, by simp⟩
  obtain ⟨V1, hV1, HZ1, hB1, hl1⟩ := box_new V0 (.bool false) (.string ⟨#[]⟩) (.string ⟨#[]⟩)
  obtain ⟨V2, hV2, HS2, hB2, hl2⟩ := box_new V1 (.bool false) (.string ⟨#[]⟩) (.string ⟨#[]⟩)
  have HB2 := hide ((hB0.trans (hB1.mono (by omega))).trans (hB2.mono (by omega)))
  have HP2 := (HP0.out.below hB1).below hB2
  have HZ2 := hide (HZ1.out.keep hB2 HZ1.out.lt)
  have d0 := HP2.cell (i := 0) rfl
  obtain ⟨e0, e1, e2, h0, h1, h2⟩ := HS2.out
  have hw1 : w.heap.size < V0.heap.size := hl0
  have hw2 : V0.heap.size < V1.heap.size := hl1
  have hz3 : [Value.bool (negB 0), .string (bs (nm 0)), .string (dstr 0)] = [.bool false, .string ⟨#[]⟩, .string ⟨#[]⟩] := qv3_zero
  have HZ0 := hide hz3
  clear hms hv hsz hn hmn hg hm hB hB0 hB1 hB2 HP0 HP2 HZ1 hl0 hl1 hl2 hz3
  go_enter Tryz.func65, Tryz.ntmps65
  go_wp2_with fail
  clear d0 e0 e1 e2 h0 h1 h2
  go_loopw [12] (fun vi wr => ∃ k : Nat, k ≤ mn ∧ vi = .int .i64 k ∧ Hid (Below w.heap.size w wr) ∧ Hid (Bx wr V0.heap.size (.bool false) (.string ⟨#[]⟩) (.string ⟨#[]⟩)) ∧ Hid (Bx wr V1.heap.size (.bool (negB (total (fun i => v.getD i 0) (ms.take k)))) (.string (bs (nm (total (fun i => v.getD i 0) (ms.take k))))) (.string (dstr (total (fun i => v.getD i 0) (ms.take k)))))) (fun vi _ => mn - (intOf vi).toNat)
  case atStart =>
    refine ⟨0, by omega, rfl, hide (below_set3 HB2.out (by omega) _ _ _), hide (HZ2.out.other3 (by omega) _ _ _), ?_⟩
    have h := HZ0.out
    injection h with h1 h2
    injection h2 with h2 h3
    injection h3 with h3 _
    show Hid (Bx _ V1.heap.size (.bool (negB 0)) (.string (bs (nm 0))) (.string (dstr 0)))
    rw [h1, h2, h3]
    exact hide (HS2.out.set3 _ _ _)
  case round =>
    obtain ⟨k, hk, rfl, HBk, HZk, HSk⟩ := hrel
    have hs1 : w.heap.size ≤ wr.heap.size := HBk.out.size
    obtain ⟨s, hs⟩ : ∃ s, total (fun i => v.getD i 0) (ms.take k) = s := ⟨_, rfl⟩
    have HLs : Hid (Lt s 40000000000) := hide (by rw [← hs]; exact HSZ.out k (by rw [HMN.out]; exact hk))
    rw [hs] at HSk
    have HSE := hide hs
    clear hs
    by_cases hlt : k < mn
    · obtain ⟨i, hi⟩ : ∃ i, ms[k]? = some i := ⟨_, List.getElem?_eq_getElem (by rw [HMN.out]; exact hlt)⟩
      have HI := hide hi
      have hin : i < n := by rw [← HN.out]; exact HMS.out i (List.mem_of_getElem? hi)
      obtain ⟨b, off, rfl, hbB, hx⟩ := (HM.out.below (HBk.out.mono hB'.out)).at_ hi
      have x0 : wr.cell? ⟨b, off + k, none⟩ = some (.int .i64 i) := by have := hx 0 _ rfl; rw [Nat.mul_one] at this; exact this
      obtain ⟨q, hq⟩ : ∃ q, v[i]? = some q := ⟨_, List.getElem?_eq_getElem (by rw [HN.out]; exact hin)⟩
      have HQ := hide hq
      have HLq := hide (HV.out q (List.mem_of_getElem? hq))
      have HGk := hide (HG.out.below HBk.out)
      have y : ∀ j u, (qv3 q)[j]? = some u → ∀ W : Qin.In (Below wr.heap.size wr), W.val.cell? ⟨g0, i * 3 + j, none⟩ = some u := fun j u hu W => by
        have hj : j < 3 := (List.getElem?_eq_some_iff.1 hu).1
        have hil := (List.getElem?_eq_some_iff.1 HQ.out).1
        refine (W.ok.cell (p := ⟨g0, i * 3 + j, none⟩) HGk.out.lt).trans (HGk.out.cell ?_)
        rw [List.getElem?_append_left (by rw [flat_len qv3_len]; omega), flat_get qv3_len v i q HQ.out j hj, hu]
      have y0 := y 0 _ rfl
      have y1 := y 1 _ rfl
      have y2 := y 2 _ rfl
      rw [Nat.add_zero] at y0
      obtain ⟨k0, k1, k2⟩ := HSk.out.kin
      clear hx hi hq y
      go_wp2_with fail
      refine Qtl.region (I := Below wr.heap.size wr) 6 (Qin.start _ _) (by kernel_rfl) (by kernel_rfl) ?_
      simp only [List.take_succ_cons, List.take_zero, List.drop_succ_cons, List.drop_zero]
      have HA2 := Lib.hid (fun v => HA.out wr s q HLs.out HLq.out v)
      repeat (go_big_quiet_step ((go_at_call 16; with_reducible exact HA2.out _)))
      refine wpQuiet_nil ?_
      intro u
      obtain ⟨u, hu⟩ := u
      have HBu := hide (HBk.out.trans (hu.mono HBk.out.size))
      have HZu := hide (HZk.out.keep hu HZk.out.lt)
      have HSu := hide (HSk.out.keep hu HSk.out.lt)
      obtain ⟨a0, a1, a2, b0, b1, b2⟩ := HSu.out
      dsimp only
      clear hu k0 k1 k2 y0 y1 y2 x0 HBk HZk HSk HGk HA2
      go_wp2_with fail
      refine ⟨⟨k + 1, by omega, rfl, hide (below_set3 HBu.out (by omega) _ _ _), hide (HZu.out.other3 (by omega) _ _ _), ?_⟩, by simp only [intOf]; omega⟩
      have e : total (fun i => v.getD i 0) (ms.take (k + 1)) = s + q := by
        rw [total_snoc HI.out, HSE.out]
        show s + v.getD i 0 = _
        rw [List.getD_eq_getElem?_getD, HQ.out]
        rfl
      rw [e]
      exact hide (HSu.out.set3 _ _ _)
    · have hkn : k = mn := by omega
      subst hkn
      obtain ⟨a0, a1, a2, b0, b1, b2⟩ := HSk.out
      obtain ⟨c0, c1, c2, f0, f1, f2⟩ := HZk.out
      go_wp2_with fail
      refine bodyPost_end (results_rat rfl _ rfl (HZk.out.set3 _ _ _)) rfl ?_
      have e : s = tot := by rw [← HSE.out]; exact HT.out
      rw [e]
      exact ⟨rfl, below_set3 HBk.out (by omega) _ _ _⟩
end Go.Proofs.YtpbgmpjnfndfjaaGreatDoor.TwI
namespace Go.Proofs.YtpbgmpjnfndfjaaGreatDoor.TwJ
open Go.RowKit Wd RnA RnB RnW RnQ RnR RnP RoA RoC RoL RtA RtB RtC RpB RpC RpE RpF RpH RnY RpI RpJ RpK RpL PqB PfD PfE TqA TwA TwB TwC TwD TwE TwF TwG TwH TwI TpB TpC TpD TpT TpU
abbrev Pool := List Nat × List (List Part)
def zeroAll (v : List Rat) (ms : List Nat) : List Rat := ms.foldl (fun v i => v.set i 0) v
def zeroPools (v : List Rat) (ps : List Pool) : List Rat := ps.foldl (fun v p => zeroAll v p.1) v
theorem zeroAll_snoc {v : List Rat} {ms : List Nat} {k i : Nat} (h : ms[k]? = some i) : zeroAll v (ms.take (k + 1)) = (zeroAll v (ms.take k)).set i 0 := by
  unfold zeroAll
  rw [take_snoc h, List.foldl_append]
  rfl
theorem zeroPools_snoc {v : List Rat} {ps : List Pool} {k : Nat} {p : Pool} (h : ps[k]? = some p) : zeroPools v (ps.take (k + 1)) = zeroAll (zeroPools v (ps.take k)) p.1 := by
  unfold zeroPools
  rw [take_snoc h, List.foldl_append]
  rfl
theorem zeroAll_len : ∀ (ms : List Nat) (v : List Rat), (zeroAll v ms).length = v.length
  | [], _ => rfl
  | i :: ms, v => by
    show (zeroAll (v.set i 0) ms).length = _
    rw [zeroAll_len ms, List.length_set]
theorem zeroPools_len : ∀ (ps : List Pool) (v : List Rat), (zeroPools v ps).length = v.length
  | [], _ => rfl
  | p :: ps, v => by
    show (zeroPools (zeroAll v p.1) ps).length = _
    rw [zeroPools_len ps, zeroAll_len]
/-- a slice that reads as a list of pools, all of it below B -/
def PoolsAt (B : Nat) (w : World) (A : Option Addr) (ps : List Pool) : Prop :=
  ps.length ≤ 100 ∧ (0 < ps.length → ∃ b off, A = some ⟨b, off, none⟩ ∧ b < B ∧ ∀ k p, ps[k]? = some p → ∃ Am cm Al cl, RowB 1 iv B w Am p.1 ∧ LadAt B w Al p.2 ∧ p.2.length ≤ cl ∧ p.1.length ≤ 100 ∧
    ∀ j v, [Value.slice Am p.1.length cm, .slice Al p.2.length cl][j]? = some v → w.cell? ⟨b, off + k * 2 + j, none⟩ = some v)
theorem PoolsAt.at_ {B : Nat} {w : World} {A : Option Addr} {ps : List Pool} (h : PoolsAt B w A ps) {k : Nat} {p : Pool} (hk : ps[k]? = some p) : ∃ b off Am cm Al cl, A = some ⟨b, off, none⟩ ∧ b < B ∧ RowB 1 iv B w Am p.1 ∧ LadAt B w Al p.2 ∧ p.2.length ≤ cl ∧ p.1.length ≤ 100 ∧
    ∀ j v, [Value.slice Am p.1.length cm, .slice Al p.2.length cl][j]? = some v → w.cell? ⟨b, off + k * 2 + j, none⟩ = some v := by
  obtain ⟨b, off, e, hb, hc⟩ := h.2 (by have := (List.getElem?_eq_some_iff.1 hk).1; omega)
  obtain ⟨Am, cm, Al, cl, h1, h2, h3, h4, h5⟩ := hc k p hk
  exact ⟨b, off, Am, cm, Al, cl, e, hb, h1, h2, h3, h4, h5⟩
theorem PoolsAt.below {B : Nat} {w w' : World} {A : Option Addr} {ps : List Pool} (h : PoolsAt B w A ps) (hb : Below B w w') : PoolsAt B w' A ps := ⟨h.1, fun hp => by
  obtain ⟨b, off, e, hlt, hc⟩ := h.2 hp
  refine ⟨b, off, e, hlt, fun k p hk => ?_⟩
  obtain ⟨Am, cm, Al, cl, h1, h2, h3, h4, h5⟩ := hc k p hk
  exact ⟨Am, cm, Al, cl, h1.below hb, h2.below hb, h3, h4, fun j v hv => (hb.cell (p := ⟨b, _, none⟩) hlt).trans (h5 j v hv)⟩⟩
theorem RS.putz {w : World} {R g gc : Nat} {gp : List Value} {s : List Rat × Rat} (h : RS w R g gc gp s) {k : Nat} (hk : k < s.1.length) : RS (((w.setCell ⟨g, k * 3, none⟩ (.bool false)).setCell ⟨g, k * 3 + 1, none⟩ (.string ⟨#[]⟩)).setCell ⟨g, k * 3 + 2, none⟩ (.string ⟨#[]⟩)) R g gc gp (s.1.set k 0, s.2) := by
  have h0 := h.putc hk 0
  have hz : [Value.bool (negB 0), .string (bs (nm 0)), .string (dstr 0)] = [.bool false, .string ⟨#[]⟩, .string ⟨#[]⟩] := qv3_zero
  injection hz with h1 h2
  injection h2 with h2 h3
  injection h3 with h3 _
  rw [h1, h2, h3] at h0
  exact h0
def TakeP (s : List Rat × Rat) (w : World) (e : Ending) (w' : World) : Prop := ∃ R g gc gp, e = .returned (.pointer (some ⟨R, 0, none⟩)) ∧ w.heap.size ≤ R ∧ w.heap.size ≤ g ∧ RS w' R g gc gp s ∧ Below w.heap.size w w'
set_option maxHeartbeats 4000000 in
set_option maxRecDepth 100000 in
theorem take_any {B g0 c0 np cp nr cr n0 : Nat} {v : List Rat} {p0 : List Value} {ps : List Pool} {A Ap : Option Addr} {tot : Rat} (hnp : ps.length = np) (hms : ∀ p, p ∈ ps → ∀ i, i ∈ p.1 → i < v.length) (hl : v.length ≤ 100) (w : World) (hB : B ≤ w.heap.size) (hp : PoolsAt B w Ap ps) (hg : BlkT w g0 32 (v.flatMap qv3 ++ p0)) :
    Calls Tryz.prog 63 #[.agg #[.int .i64 n0, .slice A nr cr, .slice Ap np cp, .bool (negB tot), .string (bs (nm tot)), .string (dstr tot)], .slice (some ⟨g0, 0, none⟩) v.length c0] w (TakeP (zeroPools v ps, 0) w) := by
  have HC := Lib.hid (fun w h => @clone_any v g0 c0 p0 hl w h)
  have HMS := hide hms
  have HNP := hide hnp
  have hnp1 : np ≤ 100 := by rw [← hnp]; exact hp.1
  obtain ⟨n, hn⟩ : ∃ n, v.length = n := ⟨_, rfl⟩
  have HN := hide hn
  unfold CloneP at HC
  rw [hn] at HC hl ⊢
  obtain ⟨V0, hV0, HL0, hB0, hl0⟩ : ∃ V, w.alloc (.cells #[.int .i64 n0, .slice A nr cr, .slice Ap np cp, .bool (negB tot), .string (bs (nm tot)), .string (dstr tot)] 111) = V ∧ Hid (BlkT V w.heap.size 111 [.int .i64 n0, .slice A nr cr, .slice Ap np cp, .bool (negB tot), .string (bs (nm tot)), .string (dstr tot)]) ∧ (Below w.heap.size w V) ∧ w.heap.size < V.heap.size :=
    ⟨_, rfl, heap_alloc_new w _, (Below.refl _ _).alloc (Nat.le_refl _) _, by simp⟩
  have HB0 := hide hB0
  have HB := hide hB
  have HG0 := hide (hg.below hB0)
  have HP := hide hp
  clear hnp hms hn hB hp hg hB0
  go_enter Tryz.func63, Tryz.ntmps63
  go_wp2_with fail
  refine (HC.out _ HG0.out).mono ?_
  rintro e w1 ⟨g, gc, gp, rfl, hgs, hgb, hb1⟩
  obtain ⟨V3, hV3, HR3, hB3, hl3⟩ : ∃ V, w1.alloc (.cells #[.slice (some ⟨g, 0, none⟩) n gc, .bool false, .string ⟨#[]⟩, .string ⟨#[]⟩] 155) = V ∧ BlkT V w1.heap.size 155 [.slice (some ⟨g, 0, none⟩) n gc, .bool false, .string ⟨#[]⟩, .string ⟨#[]⟩] ∧ (Below w1.heap.size w1 V) ∧ w1.heap.size < V.heap.size :=
    ⟨_, rfl, heap_alloc_new w1 _, (Below.refl _ _).alloc (Nat.le_refl _) _, by simp⟩
  have HRS : Hid (RS V3 w1.heap.size g gc gp (v, 0)) := hide ⟨by
      show BlkT V3 _ _ (.slice _ v.length gc :: qv3 0)
      rw [HN.out, qv3_zero]; exact HR3, hgb.below hB3, by have := hgb.lt; omega⟩
  have hs1 := hb1.size
  have hwg : w.heap.size ≤ g := by omega
  have hwR : w.heap.size ≤ w1.heap.size := by omega
  have HB3 := hide ((HB0.out.trans (hb1.mono (by omega))).trans (hB3.mono (by omega)))
  have d2 := ((HL0.out.below hb1).below hB3).cell (i := 2) rfl
  clear hb1 hB3 HR3 hgb hgs
  go_wp2_with fail
  clear d2
  go_loopw [17] (fun vi wr => ∃ k : Nat, k ≤ np ∧ vi = .int .i64 k ∧ Hid (RS wr w1.heap.size g gc gp (zeroPools v (ps.take k), 0)) ∧ Hid (Below w.heap.size w wr)) (fun vi _ => np - (intOf vi).toNat)
  case atStart =>
    exact ⟨0, by omega, rfl, HRS, HB3⟩
  case round =>
    obtain ⟨k, hk, rfl, HRk, HBk⟩ := hrel
    by_cases hlt : k < np
    · obtain ⟨p, hp⟩ : ∃ p, ps[k]? = some p := ⟨_, List.getElem?_eq_getElem (by rw [HNP.out]; exact hlt)⟩
      have HPk := hide hp
      obtain ⟨b, off, Am, cm, Al, cl, rfl, hbB, hrow, _, _, hml, hx⟩ := (HP.out.below (HBk.out.mono HB.out)).at_ hp
      have x0 : wr.cell? ⟨b, off + k * 2, none⟩ = some (.slice Am p.1.length cm) := hx 0 _ rfl
      have x1 := hx 1 _ rfl
      have HM := hide (HMS.out p (List.mem_of_getElem? hp))
      have HSn := hide (@zeroPools_snoc v ps k p hp)
      obtain ⟨ms, ld⟩ := p
      dsimp only at *
      obtain ⟨mn, hmn⟩ : ∃ mn, ms.length = mn := ⟨_, rfl⟩
      obtain ⟨ln, hln⟩ : ∃ ln, ld.length = ln := ⟨_, rfl⟩
      rw [hmn] at x0 hml
      rw [hln] at x1
      have HMN := hide hmn
      clear hmn hln hx hp
      obtain ⟨V, hV, HX, HBV, hsV⟩ : ∃ V, wr.alloc (.cells #[.slice Am mn cm, .slice Al ln cl] 148) = V ∧ Hid (BlkT V wr.heap.size 148 [.slice Am mn cm, .slice Al ln cl]) ∧ Hid (Below wr.heap.size wr V) ∧ wr.heap.size < V.heap.size :=
        ⟨_, rfl, heap_alloc_new wr _, (Below.refl _ _).alloc (Nat.le_refl _) _, by simp⟩
      have HRV := hide (HRk.out.below HBV.out)
      have hws : w.heap.size ≤ wr.heap.size := HBk.out.size
      have HBV2 := hide (HBk.out.trans (HBV.out.mono hws))
      have HRow := hide (hrow.below (HBV.out.mono (Nat.le_trans HB.out hws)))
      have d0 := HX.out.cell (i := 0) rfl
      have HL : Hid ((zeroPools v (ps.take k)).length = n) := hide (by rw [zeroPools_len]; exact HN.out)
      generalize zeroPools v (ps.take k) = u at *
      clear hrow HRk HBk
      go_wp2_with fail
      clear d0 x0 x1
      go_loopw [24] (fun vi wr => ∃ j : Nat, j ≤ mn ∧ vi = .int .i64 j ∧ Hid (RS wr w1.heap.size g gc gp (zeroAll u (ms.take j), 0)) ∧ Hid (Below w.heap.size V wr)) (fun vi _ => mn - (intOf vi).toNat)
      case atStart =>
        exact ⟨0, by omega, rfl, HRV, hide (Below.refl _ _)⟩
      case round =>
        obtain ⟨j, hj, rfl, HRj, HBj⟩ := hrel
        by_cases hjt : j < mn
        · obtain ⟨i, hi⟩ : ∃ i, ms[j]? = some i := ⟨_, List.getElem?_eq_getElem (by rw [HMN.out]; exact hjt)⟩
          have HI := hide hi
          have hin : i < n := by rw [← HN.out]; exact HM.out i (List.mem_of_getElem? hi)
          obtain ⟨b', off', rfl, hbB', hy⟩ := (HRow.out.below (HBj.out.mono HB.out)).at_ hi
          have x0 : wr.cell? ⟨b', off' + j, none⟩ = some (.int .i64 i) := by have := hy 0 _ rfl; rw [Nat.mul_one] at this; exact this
          have hul : (zeroAll u (ms.take j)).length = n := by rw [zeroAll_len]; exact HL.out
          have r0 := HRj.out.res.cell (i := 0) rfl
          rw [hul] at r0
          obtain ⟨x, hxi⟩ : ∃ x, (zeroAll u (ms.take j))[i]? = some x := ⟨_, List.getElem?_eq_getElem (by rw [hul]; exact hin)⟩
          have c0 := HRj.out.clm hxi (j := 0) rfl
          have c1 := HRj.out.clm hxi (j := 1) rfl
          have c2 := HRj.out.clm hxi (j := 2) rfl
          rw [Nat.add_zero] at c0
          have f0 := HRj.out.cl.frozen (i * 3)
          have f1 := HRj.out.cl.frozen (i * 3 + 1)
          have f2 := HRj.out.cl.frozen (i * 3 + 2)
          have HR5 := hide (RS.putz HRj.out (k := i) (by rw [hul]; exact hin))
          have HB5 := hide (((HBj.out.setCell (p := ⟨g, i * 3, none⟩) hwg (.bool false)).setCell (p := ⟨g, i * 3 + 1, none⟩) hwg (.string ⟨#[]⟩)).setCell (p := ⟨g, i * 3 + 2, none⟩) hwg (.string ⟨#[]⟩))
          clear hy hi hul hxi HRj HBj
          go_wp2_with fail
          refine ⟨⟨j + 1, by omega, rfl, ?_, HB5⟩, by simp only [intOf]; omega⟩
          rw [zeroAll_snoc HI.out]
          exact HR5
        · have hjn : j = mn := by omega
          subst hjn
          go_wp2_with fail
          refine ⟨⟨k + 1, by omega, rfl, ?_, hide (HBV2.out.trans HBj.out)⟩, by simp only [intOf]; omega⟩
          rw [HSn.out]
          have := HRj
          rw [← HMN.out, List.take_length] at this
          exact this
    · have hkn : k = np := by omega
      subst hkn
      go_wp2_with fail
      refine bodyPost_end (results_tmp rfl _ _ _) rfl ?_
      refine ⟨w1.heap.size, g, gc, gp, rfl, hwR, hwg, ?_, HBk.out⟩
      have := HRk.out
      rw [← HNP.out, List.take_length] at this
      exact this
end Go.Proofs.YtpbgmpjnfndfjaaGreatDoor.TwJ
namespace Go.Proofs.YtpbgmpjnfndfjaaGreatDoor.TwK
open Go.RowKit Wd RnA RnB RnW RnQ RnR RnP RoA RoC RoL RtA RtB RtC RpB RpC RpE RpF RpH RnY RpI RpJ RpK RpL PqB PfD PfE TqA TwA TwB TwC TwD TwE TwF TwG TwH TwI TwJ TpB TpC TpD TpT TpU
def tot (v : List Rat) (ms : List Nat) : Rat := total (fun i => v.getD i 0) ms
def poolsPay (v : List Rat) (ps : List Pool) (s : List Rat × Rat) : List Rat × Rat := ps.foldl (fun s p => addAll s (pays p.2 (tot v p.1))) s
theorem poolsPay_snoc {v : List Rat} {ps : List Pool} {k : Nat} {p : Pool} (h : ps[k]? = some p) (s : List Rat × Rat) : poolsPay v (ps.take (k + 1)) s = addAll (poolsPay v (ps.take k) s) (pays p.2 (tot v p.1)) := by
  unfold poolsPay
  rw [take_snoc h, List.foldl_append]
  rfl
/-- the gross amounts -/
def gv (n : Nat) (L : List (List Part)) (m : Rat) : List Rat := (addAll (zeros n, 0) (pays L m)).1
structure DelSz (n : Nat) (L : List (List Part)) (ps : List Pool) (m : Rat) : Prop where
  len : n ≤ 100
  pay : PaySz L m (zeros n, 0)
  mem : ∀ p, p ∈ ps → ∀ i, i ∈ p.1 → i < n
  one : ∀ x, x ∈ gv n L m → Lt x 40000000000
  tots : ∀ p, p ∈ ps → ∀ k, k ≤ p.1.length → Lt (tot (gv n L m) (p.1.take k)) 40000000000
  pools : ∀ k p, ps[k]? = some p → PaySz p.2 (tot (gv n L m) p.1) (poolsPay (gv n L m) (ps.take k) (zeroPools (gv n L m) ps, 0))
theorem gv_len (n : Nat) (L : List (List Part)) (m : Rat) : (gv n L m).length = n := by unfold gv; rw [addAll_len]; simp [zeros]
theorem poolsPay_len (v : List Rat) : ∀ (ps : List Pool) (s : List Rat × Rat), (poolsPay v ps s).1.length = s.1.length
  | [], _ => rfl
  | p :: ps, s => by
    show (poolsPay v ps (addAll s (pays p.2 (tot v p.1)))).1.length = _
    rw [poolsPay_len v ps, addAll_len]
def DelP (n : Nat) (s : List Rat × Rat) (w : World) (e : Ending) (w' : World) : Prop := ∃ g gc gp, e = .returned (.tuple #[.slice (some ⟨g, 0, none⟩) n gc, .agg #[.bool (negB s.2), .string (bs (nm s.2)), .string (dstr s.2)]]) ∧ w.heap.size ≤ g ∧ BlkT w' g 32 (s.1.flatMap qv3 ++ gp) ∧ Below w.heap.size w w'
theorem results_sr {fn : Func} {p u : Tmp} (h : fn.results = #[.tmp u, .cell p 32]) (tmps : Array Value) {w : World} {k : Nat} {x y z : Value} (hp : tmps.getD p undef = .pointer (some ⟨k, 0, none⟩)) (hb : Bx w k x y z) :
    (results fn tmps).run Tryz.prog w = .ok (.tuple #[tmps.getD u undef, .agg #[x, y, z]]) w := results_ir h tmps hp hb
set_option maxHeartbeats 4000000 in
set_option maxRecDepth 100000 in
theorem deliver_any {B n np cp nr cr : Nat} {L : List (List Part)} {ps : List Pool} {m tt : Rat} {A Ap : Option Addr} (hs : DelSz n L ps m) (hnr : L.length = nr) (hnp : ps.length = np) (hc : nr ≤ cr) (w : World) (hB : B ≤ w.heap.size) (h : LadAt B w A L) (hp : PoolsAt B w Ap ps) :
    Calls Tryz.prog 34 #[.agg #[.int .i64 n, .slice A nr cr, .slice Ap np cp, .bool (negB tt), .string (bs (nm tt)), .string (dstr tt)], .agg #[.bool (negB m), .string (bs (nm m)), .string (dstr m)]] w (DelP n (poolsPay (gv n L m) ps (zeroPools (gv n L m) ps, 0)) w) := by
  have HG := Lib.hid (fun w hB h => @gross_any B n np cp nr cr L m tt A Ap hs.len hs.pay hnr hc w hB h)
  have HT := Lib.hid (fun w g0 c0 p0 hB hp hg => @take_any B g0 c0 np cp nr cr n (gv n L m) p0 ps A Ap tt hnp (by intro p hp i hi; rw [gv_len]; exact hs.mem p hp i hi) (by rw [gv_len]; exact hs.len) w hB hp hg)
  have HTT := Lib.hid (fun w g0 c0 p0 k p Am cm Al cl (hk : ps[k]? = some p) hml hB hm hg => @total_any B g0 c0 cm p.2.length cl (gv n L m) p0 p.1 Am Al (by intro i hi; rw [gv_len]; exact hs.mem p (List.mem_of_getElem? hk) i hi) hs.one hml (hs.tots p (List.mem_of_getElem? hk)) w hB hm hg)
  have HPY := Lib.hid (fun w R g gc gp k p A c (hk : ps[k]? = some p) hc hB hR hg h hr => @pay_any B R g gc gp (poolsPay (gv n L m) (ps.take k) (zeroPools (gv n L m) ps, 0)) p.2 (tot (gv n L m) p.1) (hs.pools k p hk) A c hc w hB hR hg h hr)
  have HPN := Lib.hid (fun k p (hk : ps[k]? = some p) => @poolsPay_snoc (gv n L m) ps k p hk (zeroPools (gv n L m) ps, 0))
  have HVL := hide (gv_len n L m)
  have HZL : Hid ((zeroPools (gv n L m) ps).length = n) := hide (by rw [zeroPools_len, gv_len])
  have HNP := hide hnp
  have hnp1 : np ≤ 100 := by rw [← hnp]; exact hp.1
  have HL := hide h
  have HP := hide hp
  have HB := hide hB
  unfold GrossP at HG
  rw [show (addAll (zeros n, 0) (pays L m)).1 = gv n L m from rfl] at HG
  generalize gv n L m = v at *
  obtain ⟨V0, hV0, HL0, hB0, hl0⟩ : ∃ V, w.alloc (.cells #[.int .i64 n, .slice A nr cr, .slice Ap np cp, .bool (negB tt), .string (bs (nm tt)), .string (dstr tt)] 111) = V ∧ Hid (BlkT V w.heap.size 111 [.int .i64 n, .slice A nr cr, .slice Ap np cp, .bool (negB tt), .string (bs (nm tt)), .string (dstr tt)]) ∧ (Below w.heap.size w V) ∧ w.heap.size < V.heap.size :=
    ⟨_, rfl, heap_alloc_new w _, (Below.refl _ _).alloc (Nat.le_refl _) _, by simp⟩
  obtain ⟨V1, hV1, HM1, hB1, hl1⟩ := box_new V0 (.bool (negB m)) (.string (bs (nm m))) (.string (dstr m))
  obtain ⟨V2, hV2, HZ2, hB2, hl2⟩ := box_new V1 (.bool false) (.string ⟨#[]⟩) (.string ⟨#[]⟩)
  have b02 : Below w.heap.size w V2 := (hB0.trans (hB1.mono (by omega))).trans (hB2.mono (by omega))
  have HB2 := hide b02
  have HL2 := hide ((HL0.out.below hB1).below hB2)
  have HM2 := hide (HM1.out.keep hB2 HM1.out.lt)
  have HLad := hide (h.below (b02.mono hB))
  have hb2 : B ≤ V2.heap.size := by omega
  have d0 := HL2.out.cell (i := 0) rfl
  have d1 := HL2.out.cell (i := 1) rfl
  have d2 := HL2.out.cell (i := 2) rfl
  have d3 := HL2.out.cell (i := 3) rfl
  have d4 := HL2.out.cell (i := 4) rfl
  have d5 := HL2.out.cell (i := 5) rfl
  obtain ⟨a0, a1, a2, b0, b1, b2⟩ := HM2.out
  have hw1 : w.heap.size < V1.heap.size := by omega
  clear hs hnr hnp h hp hB hB0 hB1 hB2 b02 HM1 HL0
  go_enter Tryz.func34, Tryz.ntmps34
  go_wp2_with fail
  refine (HG.out _ hb2 HLad.out).mono ?_
  rintro e w3 ⟨g1, rfl, hg1, hgb1, hb3⟩
  have HB3 := hide (HB2.out.trans (hb3.mono HB2.out.size))
  have HL3 := hide (HL2.out.below hb3)
  have HZ3 := hide (HZ2.out.keep hb3 HZ2.out.lt)
  have HG3 := hide hgb1
  have hb3s : B ≤ w3.heap.size := by have := hb3.size; omega
  have hV23 : V2.heap.size ≤ w3.heap.size := hb3.size
  clear hb3 hgb1 d0 d1 d2 d3 d4 d5 a0 a1 a2 b0 b1 b2 HL2 HM2
  have d0 := HL3.out.cell (i := 0) rfl
  have d1 := HL3.out.cell (i := 1) rfl
  have d2 := HL3.out.cell (i := 2) rfl
  have d3 := HL3.out.cell (i := 3) rfl
  have d4 := HL3.out.cell (i := 4) rfl
  have d5 := HL3.out.cell (i := 5) rfl
  have HT3 := Lib.hid (HT.out w3 g1 n [] hb3s (HP.out.below (HB3.out.mono HB.out)) (by rw [List.append_nil]; exact HG3.out))
  rw [HVL.out] at HT3
  go_wp2_with fail
  refine (HT3.out).mono ?_
  rintro e w4 ⟨R, g, gc, gp, rfl, hR4, hg4, hr4, hb4⟩
  have HB4 := hide (HB3.out.trans (hb4.mono HB3.out.size))
  have HZ4 := hide (HZ3.out.keep hb4 HZ3.out.lt)
  have HG4 := hide (HG3.out.below hb4)
  have HR4 := hide hr4
  have e2 := (HL3.out.below hb4).cell (i := 2) rfl
  have hg1l : g1 < w3.heap.size := HG3.out.lt
  have hz1l : V1.heap.size < w3.heap.size := HZ3.out.lt
  clear hb4 hr4 d0 d1 d2 d3 d4 d5 HT3
  go_wp2_with fail
  clear e2
  have HF : Hid (∀ k, (poolsPay v (ps.take k) (zeroPools v ps, 0)).1.length = n) := hide (fun k => by rw [poolsPay_len]; exact HZL.out)
  generalize HS0 : ((zeroPools v ps, 0) : List Rat × Rat) = s0 at *
  go_loopw [19] (fun vi wr => ∃ k : Nat, k ≤ np ∧ vi = .int .i64 k ∧ Hid (RS wr R g gc gp (poolsPay v (ps.take k) s0)) ∧ Hid (Below w.heap.size w wr) ∧ Hid (BlkT wr g1 32 (v.flatMap qv3)) ∧ Hid (Bx wr V1.heap.size (.bool false) (.string ⟨#[]⟩) (.string ⟨#[]⟩))) (fun vi _ => np - (intOf vi).toNat)
  case atStart =>
    exact ⟨0, by omega, rfl, HR4, HB4, HG4, HZ4⟩
  case round =>
    obtain ⟨k, hk, rfl, HRk, HBk, HGk, HZk⟩ := hrel
    have hws : w.heap.size ≤ wr.heap.size := HBk.out.size
    by_cases hlt : k < np
    · obtain ⟨p, hp⟩ : ∃ p, ps[k]? = some p := ⟨_, List.getElem?_eq_getElem (by rw [HNP.out]; exact hlt)⟩
      have HPk := hide hp
      obtain ⟨b, off, Am, cm, Al, cl, rfl, hbB, hrow, hlad, hcl, hml, hx⟩ := (HP.out.below (HBk.out.mono HB.out)).at_ hp
      have x0 : wr.cell? ⟨b, off + k * 2, none⟩ = some (.slice Am p.1.length cm) := hx 0 _ rfl
      have x1 := hx 1 _ rfl
      obtain ⟨V, hV, HX, HBV, hsV⟩ : ∃ V, wr.alloc (.cells #[.slice Am p.1.length cm, .slice Al p.2.length cl] 148) = V ∧ Hid (BlkT V wr.heap.size 148 [.slice Am p.1.length cm, .slice Al p.2.length cl]) ∧ Hid (Below wr.heap.size wr V) ∧ wr.heap.size < V.heap.size :=
        ⟨_, rfl, heap_alloc_new wr _, (Below.refl _ _).alloc (Nat.le_refl _) _, by simp⟩
      have HRV := hide (HRk.out.below HBV.out)
      have HBV2 := hide (HBk.out.trans (HBV.out.mono hws))
      have HGV := hide (HGk.out.below HBV.out)
      have HZV := hide (HZk.out.keep HBV.out HZk.out.lt)
      have hbv : Below B wr V := HBV.out.mono (Nat.le_trans HB.out hws)
      have HRow := hide (hrow.below hbv)
      have HLd := hide (hlad.below hbv)
      have hBV : B ≤ V.heap.size := Nat.le_trans (Nat.le_trans HB.out hws) HBV.out.size
      have hwV : w.heap.size ≤ V.heap.size := Nat.le_trans hws HBV.out.size
      have HTo := Lib.hid (fun (u : Qin.In (Below V.heap.size V)) => TwC.q_in (HTT.out u.val g1 n [] k p Am cm Al cl hp hml (Nat.le_trans hBV u.ok.size) (HRow.out.below (u.ok.mono hBV)) (by rw [List.append_nil]; exact HGV.out.below u.ok)))
      have HPa := Lib.hid (fun u (hu : Below V.heap.size V u) => HPY.out u R g gc gp k p Al cl hp hcl (Nat.le_trans hBV hu.size) (by omega) (by omega) (HLd.out.below (hu.mono hBV)) (HRV.out.below hu))
      have HPn := hide (HPN.out k p hp)
      rw [HVL.out] at HTo
      rw [show total (fun i => v.getD i 0) p.1 = tot v p.1 from rfl] at HTo
      have d0 := blk_kin HX.out (i := 0) rfl
      have d1 := blk_kin HX.out (i := 1) rfl
      generalize tot v p.1 = tq at *
      generalize p.1.length = mn at *
      generalize p.2.length = ln at *
      clear hx hp hrow hlad hcl hml hbv HRk HBk HGk HZk HRow HLd HTT HPY HPN
      go_wp2_with fail
      refine Qtl.region (I := Below V.heap.size V) 6 (Qin.start _ _) (by kernel_rfl) (by kernel_rfl) ?_
      simp only [List.take_succ_cons, List.take_zero, List.drop_succ_cons, List.drop_zero]
      repeat (go_big_quiet_step ((go_at_call 65; with_reducible exact HTo.out _)))
      refine wpQuiet_nil ?_
      intro u
      obtain ⟨u, hu⟩ := u
      dsimp only
      have H6 := Lib.hid (HPa.out u hu)
      have HBu := hide (HBV2.out.trans (hu.mono hwV))
      have HGu := hide (HGV.out.below hu)
      have HZu := hide (HZV.out.keep hu HZV.out.lt)
      have hus : V.heap.size ≤ u.heap.size := hu.size
      clear hu x0 x1 d0 d1 HTo HPa
      go_wp2_with fail
      refine H6.out.mono ?_
      rintro e w5 ⟨rfl, hR5, hK5⟩
      have HR5 := hide hR5
      have HB5 := hide (HBu.out.trans (hK5.below (by omega) (by rintro k (rfl | rfl) <;> omega)))
      have HG5 := hide (hK5.blk HGu.out (by omega))
      have HZ5 := hide (Ks.bx hK5 HZu.out HZu.out.lt (by omega))
      clear hR5 hK5
      go_wp2_with fail
      refine ⟨⟨k + 1, by omega, rfl, ?_, HB5, HG5, HZ5⟩, by simp only [intOf]; omega⟩
      rw [HPn.out]
      exact HR5
    · have hkn : k = np := by omega
      subst hkn
      have r0 := HRk.out.res.cell (i := 0) rfl
      rw [HF.out] at r0
      have r1 := HRk.out.res.cell (i := 1) rfl
      have r2 := HRk.out.res.cell (i := 2) rfl
      have r3 := HRk.out.res.cell (i := 3) rfl
      obtain ⟨c0, c1, c2, f0, f1, f2⟩ := HZk.out
      have e : poolsPay v (ps.take k) s0 = poolsPay v ps s0 := by rw [← HNP.out, List.take_length]
      rw [e] at HRk r1 r2 r3
      generalize poolsPay v ps s0 = sf at *
      obtain ⟨sc, sr⟩ := sf
      go_wp2_with fail
      go_region
      go_wp2_with fail
      refine bodyPost_end (results_ir rfl _ rfl (Bx.drew (HZk.out.set3 _ _ _))) rfl ?_
      have hg : V1.heap.size ≠ g := by omega
      refine ⟨g, gc, gp, rfl, by omega, ?_, (below_set3 HBk.out (by omega) _ _ _).drew⟩
      have hb := HRk.out.cl
      unfold BlkT at hb ⊢
      show ((((wr.setCell _ _).setCell _ _).setCell _ _).heap)[g]? = _
      rw [Below.heap_setCell _ _ _ _ (by intro e; exact hg e.symm), Below.heap_setCell _ _ _ _ (by intro e; exact hg e.symm), Below.heap_setCell _ _ _ _ (by intro e; exact hg e.symm)]
      exact hb
end Go.Proofs.YtpbgmpjnfndfjaaGreatDoor.TwK
namespace Go.Proofs.YtpbgmpjnfndfjaaGreatDoor.TwL
open Go.RowKit Wd RnA RnB RnW RnQ RnR RnP RoA RoC RoL RtA RtB RtC RpB RpC RpE RpF RpH RnY RpI RpJ RpK RpL PqB PfD PfE TqA TwA TwB TwC TwD TwE TwF TwG TpB TpC TpT TpU
set_option maxHeartbeats 4000000 in
set_option maxRecDepth 100000 in
theorem positive_any {q : Rat} (hq : Lt q 40000000000) (w : World) : Calls Tryz.prog 35 #[.agg #[.bool (negB q), .string (bs (nm q)), .string (dstr q)]] w (Ans (maxQ q 0) w) := by
  have HM := Lib.hid (fun w => max_e hq (Lt.zero.mono (by omega)) rfl w)
  have hz : [Value.bool (negB 0), .string (bs (nm 0)), .string (dstr 0)] = [.bool false, .string ⟨#[]⟩, .string ⟨#[]⟩] := qv3_zero
  injection hz with h1 h2
  injection h2 with h2 h3
  injection h3 with h3 _
  rw [h1, h2, h3] at HM
  clear hq h1 h2 h3
  generalize maxQ q 0 = r at *
  obtain ⟨V0, hV0, HQ0, hB0, hl0⟩ := box_new w (.bool (negB q)) (.string (bs (nm q))) (.string (dstr q))
  obtain ⟨V1, hV1, HZ1, hB1, hl1⟩ := box_new V0 (.bool false) (.string ⟨#[]⟩) (.string ⟨#[]⟩)
  have HQ1 := HQ0.out.keep hB1 HQ0.out.lt
  have HB1 := hide (hB0.trans (hB1.mono (Nat.le_of_lt hl0)))
  obtain ⟨a0, a1, a2, b0, b1, b2⟩ := HQ1
  clear hB0 hB1
  go_enter Tryz.func35, Tryz.ntmps35
  go_wp2_with fail
  refine (HM.out _).mono ?_
  rintro e w2 ⟨rfl, hb2⟩
  have HZ2 := hide (HZ1.out.keep hb2 HZ1.out.lt)
  have HB2 := hide (HB1.out.trans (hb2.mono HB1.out.size))
  clear hb2 a0 a1 a2 b0 b1 b2
  obtain ⟨c0, c1, c2, f0, f1, f2⟩ := HZ2.out
  go_wp2_with fail
  refine bodyPost_end (results_rat rfl _ rfl (HZ2.out.set3 _ _ _)) rfl ?_
  exact ⟨rfl, below_set3 HB2.out (by omega) _ _ _⟩
/-- sizes that a slope needs -/
structure SlopeSz (L : List (List Part)) (m r : Rat) (s : List Rat × Rat) : Prop where
  lad : LadSz L m
  one : Lt r 40000000000
  parts : ∀ t, t ∈ L → t.length ≤ 1000
  caps : ∀ t, t ∈ L → ∀ p, p ∈ t → Lt p.2 40000000000
  add : AddSz s (slopes L m r)
  share : ∀ t, L[(TpB.split (sums L) m).1]? = some t → tsum t ≠ 0 ∧ Lt (r / tsum t) 40000000000
set_option maxHeartbeats 4000000 in
set_option maxRecDepth 100000 in
theorem slope_any {B R g gc : Nat} {gp : List Value} {s : List Rat × Rat} {L : List (List Part)} {m r : Rat} (hs : SlopeSz L m r s) {A : Option Addr} {c : Nat} (w : World) (hB : B ≤ w.heap.size) (hR : B ≤ R) (hg : B ≤ g) (h : LadAt B w A L) (hr : RS w R g gc gp s) :
    Calls Tryz.prog 163 #[.slice A L.length c, .agg #[.bool (negB m), .string (bs (nm m)), .string (dstr m)], .agg #[.bool (negB r), .string (bs (nm r)), .string (dstr r)], .pointer (some ⟨R, 0, none⟩)] w (AddP R g gc gp (addAll s (slopes L m r)) w) := by
  have HSP := Lib.hid (fun w hB h => @split_any B L m hs.lad A c w hB h)
  have HSH := Lib.hid (fun w t hm ht h0 hq hcap hs htl A c hB h hr => @share_any B R g gc gp s t r hm ht h0 hq hcap hs htl A c w hB hR hg h hr)
  have HSz := hide hs
  obtain ⟨F, hF⟩ : ∃ F, (TpB.split (sums L) m).1 = F := ⟨_, rfl⟩
  obtain ⟨lf, hlf⟩ : ∃ lf, (TpB.split (sums L) m).2 = lf := ⟨_, rfl⟩
  have hFn : F ≤ L.length := by rw [← hF]; have := split_len (sums L) m; unfold sums at this; rw [List.length_map] at this; exact this
  have HPS := hide (slopes_split r L m)
  have HF := hide hF
  rw [hF, hlf] at HSP
  rw [hF] at HPS
  obtain ⟨n, hn⟩ : ∃ n, L.length = n := ⟨_, rfl⟩
  have HN := hide hn
  have hn1 : n ≤ 100 := by rw [← hn]; exact hs.lad.len
  rw [hn] at hFn HSP
  rw [hn]
  obtain ⟨V0, hV0, HM0, hB0, hl0⟩ := box_new w (.bool (negB m)) (.string (bs (nm m))) (.string (dstr m))
  obtain ⟨V1, hV1, HR1, hB1, hl1⟩ := box_new V0 (.bool (negB r)) (.string (bs (nm r))) (.string (dstr r))
  have b01 : Below w.heap.size w V1 := hB0.trans (hB1.mono (Nat.le_of_lt hl0))
  have HM1 := hide (HM0.out.keep hB1 HM0.out.lt)
  have HB1 := hide b01
  have HL := hide h
  have HRS := hide (hr.below b01)
  have HB := hide hB
  have HL1 := hide (h.below (b01.mono hB))
  have hb1 : B ≤ V1.heap.size := by omega
  clear hs hB hR hg h hr hn hB0 hB1 b01 hF hlf HM0
  go_enter Tryz.func163, Tryz.ntmps163
  obtain ⟨a0, a1, a2, b0, b1, b2⟩ := HM1.out
  go_wp2_with fail
  refine (HSP.out _ hb1 HL1.out).mono ?_
  rintro e w2 ⟨rfl, hb2⟩
  obtain ⟨V2, hV2, HQ2, hB2, hl2⟩ := box_new w2 (.bool (negB lf)) (.string (bs (nm lf))) (.string (dstr lf))
  have hc2 := hb2.trans (hB2.mono hb2.size)
  have HRS2 := hide (HRS.out.below hc2)
  have HR2 := hide (HR1.out.keep hc2 HR1.out.lt)
  have HB2 := hide (HB1.out.trans (hc2.mono HB1.out.size))
  clear hb2 hB2 hc2 hl2 a0 a1 a2 b0 b1 b2 HM1 HRS HL1
  by_cases hfn : F < n
  · obtain ⟨t, ht⟩ : ∃ t, L[F]? = some t := ⟨_, List.getElem?_eq_getElem (by rw [HN.out]; omega)⟩
    have hbk : Below B w V2 := HB2.out.mono HB.out
    obtain ⟨b, off, A', c', rfl, hbB, hrow, hx⟩ := (HL.out.below hbk).at_ ht
    have hbw : b < V2.heap.size := Nat.lt_of_lt_of_le hbB (Nat.le_trans HB.out HB2.out.size)
    have y : ∀ j v, (tv A' t.length c' (tsum t))[j]? = some v → ∀ u : Qin.In (Below V2.heap.size V2), u.val.cell? ⟨b, off + F * 4 + j, none⟩ = some v := fun j v hv u => (u.ok.cell (p := ⟨b, off + F * 4 + j, none⟩) hbw).trans (hx j v hv)
    have x0 : ∀ u : Qin.In (Below V2.heap.size V2), u.val.cell? ⟨b, off + F * 4, none⟩ = some (.slice A' t.length c') := y 0 _ rfl
    have x1 := y 1 _ rfl
    have x2 := y 2 _ rfl
    have x3 := y 3 _ rfl
    have ePay : slopes L m r = sharesL t (r / tsum t) := by have := HPS.out; rw [ht] at this; exact this
    have h0 := HSz.out.share t (by rw [HF.out]; exact ht)
    have hadd : AddSz s (sharesL t (r / tsum t)) := by rw [← ePay]; exact HSz.out.add
    have hmem := List.mem_of_getElem? ht
    have H5 := Lib.hid (fun v (hv : Below V2.heap.size V2 v) => HSH.out v t HSz.out.one (HSz.out.lad.sum t hmem) h0.1 h0.2 (HSz.out.caps t hmem) hadd (HSz.out.parts t hmem) A' c' (Nat.le_trans HB.out (Nat.le_trans HB2.out.size hv.size)) (hrow.below (hv.mono (Nat.le_trans HB.out HB2.out.size))) (HRS2.out.below hv))
    have HE := hide ePay
    obtain ⟨k0, k1, k2⟩ := HR2.out.kin
    generalize tsum t = ts at *
    generalize r / ts = qt at *
    generalize t.length = tn at *
    clear hx hrow hbk ePay h0 hadd hmem ht y
    go_wp2_with fail
    refine Qtl.region (I := Below V2.heap.size V2) 6 (Qin.start _ _) (by kernel_rfl) (by kernel_rfl) ?_
    simp only [List.take_succ_cons, List.take_zero, List.drop_succ_cons, List.drop_zero]
    repeat (go_big_quiet_step (fail))
    refine wpQuiet_nil ?_
    intro v
    obtain ⟨v, hv⟩ := v
    dsimp only
    have H6 := Lib.hid (H5.out v hv)
    have HKv := hide ((Ks.of_below (S := fun k => k = R ∨ k = g) HB2.out).trans (Ks.of_below hv))
    clear hv x0 x1 x2 x3 k0 k1 k2
    go_wp2_with fail
    refine H6.out.mono ?_
    rintro e w5 ⟨rfl, hR5, hK5⟩
    have HR5 := hide hR5
    have HK5 := hide (HKv.out.trans hK5)
    clear hR5 hK5
    go_wp2_with fail
    refine bodyPost_end (results_none rfl _ _ _) rfl ?_
    refine ⟨rfl, ?_, HK5.out⟩
    rw [HE.out]
    exact HR5.out
  · go_wp2_with fail
    refine bodyPost_end (results_none rfl _ _ _) rfl ?_
    refine ⟨rfl, ?_, Ks.of_below HB2.out⟩
    have e : L[F]? = none := List.getElem?_eq_none (by rw [HN.out]; omega)
    have := HPS.out
    rw [e] at this
    rw [this]
    exact HRS2.out
end Go.Proofs.YtpbgmpjnfndfjaaGreatDoor.TwL
namespace Go.Proofs.YtpbgmpjnfndfjaaGreatDoor.TwO
open TwJ TwK TpB TpC TpD TpF TpT TpU
theorem tot_gross {L : Lay} (x : Rat) (ms : List Nat) (h : ∀ i, i ∈ ms → i < L.cnt) : tot ((List.range L.cnt).map (gross L x)) ms = total (gross L x) ms :=
  total_congr ms (fun i hi => range_getD _ _ i (h i hi))
theorem poolsPay_eq {L : Lay} (x : Rat) : ∀ (ps : List Pool), (∀ p, p ∈ ps → ∀ i, i ∈ p.1 → i < L.cnt) → ∀ s, poolsPay ((List.range L.cnt).map (gross L x)) ps s = poolsAdd x L ps s
  | [], _, _ => rfl
  | p :: ps, h, s => by
    show poolsPay _ ps (addAll s (pays p.2 (tot _ p.1))) = poolsAdd x L ps (addAll s (pays p.2 (total (gross L x) p.1)))
    rw [tot_gross x p.1 (h p (List.mem_cons_self ..))]
    exact poolsPay_eq x ps (fun q hq => h q (List.mem_cons_of_mem _ hq)) _
theorem set_getD (v : List Rat) (i k : Nat) : (v.set i 0).getD k 0 = if i = k then 0 else v.getD k 0 := by
  rw [List.getD_eq_getElem?_getD, List.getElem?_set, List.getD_eq_getElem?_getD]
  by_cases h : i = k
  · rw [if_pos h, if_pos h]
    by_cases h2 : i < v.length
    · rw [if_pos h2]; rfl
    · rw [if_neg h2]; rfl
  · rw [if_neg h, if_neg h]
theorem zeroAll_get : ∀ (ms : List Nat) (v : List Rat) (k : Nat), (zeroAll v ms).getD k 0 = if ms.contains k = true then 0 else v.getD k 0
  | [], v, k => by simp [zeroAll]
  | i :: ms, v, k => by
    show (zeroAll (v.set i 0) ms).getD k 0 = _
    rw [zeroAll_get ms, set_getD, List.contains_cons]
    by_cases h : ms.contains k = true
    · rw [if_pos h, h, Bool.or_true, if_pos rfl]
    · rw [if_neg h]
      have e : ms.contains k = false := by simpa using h
      rw [e, Bool.or_false]
      by_cases h2 : i = k
      · rw [if_pos h2, if_pos (by simp [h2])]
      · rw [if_neg h2, if_neg (by simp; omega)]
theorem zeroPools_get : ∀ (ps : List Pool) (v : List Rat) (k : Nat), (zeroPools v ps).getD k 0 = if ps.any (fun p => p.1.contains k) = true then 0 else v.getD k 0
  | [], v, k => by simp [zeroPools]
  | p :: ps, v, k => by
    show (zeroPools (zeroAll v p.1) ps).getD k 0 = _
    rw [zeroPools_get ps, zeroAll_get, List.any_cons]
    by_cases h : ps.any (fun p => p.1.contains k) = true
    · rw [if_pos h, h, Bool.or_true, if_pos rfl]
    · rw [if_neg h]
      have e : ps.any (fun p => p.1.contains k) = false := by simpa using h
      rw [e, Bool.or_false]
theorem zeroPools_taken (L : Lay) (v : List Rat) : zeroPools v L.pools = taken L v := by
  refine ext_getD (by rw [zeroPools_len]; simp [taken]) (fun k hk => ?_)
  rw [zeroPools_len] at hk
  rw [zeroPools_get]
  unfold taken
  rw [range_getD _ _ k hk]
  rfl
/-- what the walk of Deliver answers -/
theorem deliver_eq {L : Lay} (h : Ok2 L) (x : Rat) (hm : ∀ p, p ∈ L.pools → ∀ i, i ∈ p.1 → i < L.cnt) : poolsPay (gv L.cnt L.ranks x) L.pools (zeroPools (gv L.cnt L.ranks x) L.pools, 0) = ((List.range L.cnt).map (deliver L x), reserved L x) := by
  have e : gv L.cnt L.ranks x = (List.range L.cnt).map (gross L x) := by unfold gv; rw [gross_vec h]
  rw [e, zeroPools_taken, poolsPay_eq x _ hm]
  exact deliver_vec h x
end Go.Proofs.YtpbgmpjnfndfjaaGreatDoor.TwO
namespace Go.Proofs.YtpbgmpjnfndfjaaGreatDoor.TwP
open Go.RowKit Wd RnA RnB RnW RnQ RnR RnP RoA RoC RoL RtA RtB RtC RpB RpC RpE RpF RpG RpH RnY RpI RpJ RpK RpL PqB PfD PfE TqA TwA TwB TwC TwD TwE TwF TwG TwH TwI TwJ TwK TpB TpC TpD TpT TpU
theorem part_info : (Tryz.prog.info? 205).map (fun i => (i.zero, i.size, i.bytes)) = some (some (.agg #[.int .i64 0, .bool false, .string ByteArray.empty, .string ByteArray.empty]), 4, 48) := by kernel_rfl
theorem pv_one (p : Part) : ∀ u ∈ pv p, u.oneCell' = true := by
  intro u hu
  simp only [pv, qv3, List.mem_cons, List.mem_nil_iff, or_false] at hu
  rcases hu with rfl | rfl | rfl | rfl <;> rfl
theorem pv_len (p : Part) : (pv p).length = 4 := rfl
theorem Ks.of_grown {w w' : World} {row : Option Nat} (hg : w.grownBy w' row) : Ks (fun k => some k = row) w w' := ⟨hg.os, hg.tape, hg.output, hg.size, fun k hk hr => hg.block k hk hr⟩
theorem own_set {w : World} {base sz n T : Nat} {e : TypeId} {v : Value} {xs : List Value} (h : w.ownsRow base e sz v n xs) (hne : v.ownBlock ≠ some T) (i : Nat) (x : Value) : (w.setCell ⟨T, i, none⟩ x).ownsRow base e sz v n xs :=
  h.kept (row := some T) ⟨rfl, rfl, rfl, by simp [World.setCell], fun k _ hr => Below.heap_setCell _ _ _ _ (fun e => hr (congrArg some e))⟩ (.inr hne)
theorem own_ks {S : Nat → Prop} {w w' : World} {base sz n : Nat} {e : TypeId} {v : Value} {xs : List Value} (h : w.ownsRow base e sz v n xs) (hk : Ks S w w') (hne : ∀ g, v.ownBlock = some g → ¬ S g) : w'.ownsRow base e sz v n xs := by
  refine ⟨h.1, ?_⟩
  rcases h.2 with h2 | ⟨g, cap, cur, hv, hg, hh, r⟩
  · exact .inl h2
  · refine .inr ⟨g, cap, cur, hv, hg, ?_, r⟩
    rw [hk.block g (Array.getElem?_eq_some_iff.1 hh).1 (hne g (by rw [hv]; rfl))]
    exact hh
/-- four cells of a world -/
def At4 (T o K : Nat) (v : Value) (q : Rat) (w' : World) : Prop := w'.cell? ⟨T, o, none⟩ = some v ∧ w'.cell? ⟨K, 0, none⟩ = some (.bool (negB q)) ∧ w'.cell? ⟨K, 1, none⟩ = some (.string (bs (nm q))) ∧ w'.cell? ⟨K, 2, none⟩ = some (.string (dstr q))
/-- what tier.add leaves: the row's new value v', the cells of the tier in block T -/
def TAddP (B T o : Nat) (L : List Value) (v : Value) (n : Nat) (xs : List Value) (p : Part) (r : Rat) (w : World) (e : Ending) (w' : World) : Prop :=
  ∃ v', e = .returned (.tuple #[]) ∧ w'.ownsRow B 205 4 v' (n + 1) (xs ++ pv p) ∧ (v'.ownBlock = v.ownBlock ∨ ∃ g, v'.ownBlock = some g ∧ w.heap.size ≤ g) ∧ v'.ownBlock ≠ some T ∧
    BlkT w' T 145 ((((L.set o v').set (o + 1) (.bool (negB r))).set (o + 2) (.string (bs (nm r)))).set (o + 3) (.string (dstr r))) ∧ Ks (fun k => k = T ∨ some k = v.ownBlock) w w'
set_option maxHeartbeats 8000000 in
set_option maxRecDepth 100000 in
theorem tadd_any {B T o n : Nat} {L xs : List Value} {v : Value} {s q : Rat} {c : Int} (hs : Lt s 40000000000) (hq : Lt q 40000000000) (hn : n ≤ 1000) (w : World) (hB : B ≤ w.heap.size) (hT : BlkT w T 145 L)
    (h0 : L[o]? = some v) (h1 : L[o + 1]? = some (.bool (negB s))) (h2 : L[o + 2]? = some (.string (bs (nm s)))) (h3 : L[o + 3]? = some (.string (dstr s))) (hv : w.ownsRow B 205 4 v n xs) (hne : v.ownBlock ≠ some T) :
    Calls Tryz.prog 60 #[.pointer (some ⟨T, o, none⟩), .int .i64 c, .agg #[.bool (negB q), .string (bs (nm q)), .string (dstr q)]] w (TAddP B T o L v n xs (c, q) (s + q) w) := by
  obtain ⟨i0, hi, hz0, hz1, hz2⟩ := info_parts part_info
  have HS := Lib.hid (fun W (v : Qin.In (Below W.heap.size W)) => TwC.q_in (add_e hs hq rfl v.val))
  obtain ⟨A, cp, rfl⟩ := TqA.own_slice hv
  generalize s + q = r at *
  obtain ⟨V0, hV0, HQ, hB0, hl0⟩ := box_new w (.bool (negB q)) (.string (bs (nm q))) (.string (dstr q))
  have HT := hide (hT.below hB0)
  have HO := hide (TqA.own_below hv hB0)
  have HVL : Hid (∀ k, (Value.slice A n cp).ownBlock = some k → B ≤ k ∧ k < w.heap.size) := hide hv.lt
  have HB0 := hide hB0
  have hTK : T < w.heap.size := hT.lt
  have hBV : B ≤ V0.heap.size := by omega
  have HNE := hide hne
  have H0 := hide h0
  have H1 := hide h1
  have H2 := hide h2
  have H3 := hide h3
  have hx0 := HT.out.cell h0
  obtain ⟨k0, k1, k2, _, _, _⟩ := HQ.out
  unfold TAddP
  clear hs hq hT h0 h1 h2 h3 hv hne hB0
  go_enter Tryz.func60, Tryz.ntmps60
  go_wp2_with fail
  have hI : At4 T o w.heap.size (.slice A n cp) q V0.drew := ⟨hx0, k0, k1, k2⟩
  have hne : Nonempty (Qin.In (At4 T o w.heap.size (.slice A n cp) q)) := ⟨⟨_, hI⟩⟩
  have z0 : ∀ v : Qin.In (At4 T o w.heap.size (.slice A n cp) q), v.val.cell? ⟨T, o, none⟩ = some (.slice A n cp) := fun v => v.ok.1
  have z1 : ∀ v : Qin.In (At4 T o w.heap.size (.slice A n cp) q), v.val.cell? ⟨w.heap.size, 0, none⟩ = some (.bool (negB q)) := fun v => v.ok.2.1
  have z2 : ∀ v : Qin.In (At4 T o w.heap.size (.slice A n cp) q), v.val.cell? ⟨w.heap.size, 1, none⟩ = some (.string (bs (nm q))) := fun v => v.ok.2.2.1
  have z3 : ∀ v : Qin.In (At4 T o w.heap.size (.slice A n cp) q), v.val.cell? ⟨w.heap.size, 2, none⟩ = some (.string (dstr q)) := fun v => v.ok.2.2.2
  refine Qmu.wp_region (C := Cls (At4 T o w.heap.size (.slice A n cp) q)) 12 (by kernel_rfl) (by kernel_rfl) (by kernel_rfl) ?_
  simp only [List.length_cons, List.length_nil]
  refine Qmu.takes (s := 12) (cls hI) [0, 1, 2, 3, 4, 5, 6, 7] 5 _ _ _ (fun _ => cls hI) (by decide) (by kernel_rfl) ?_
  simp only [List.filterMap_cons, List.filterMap_nil, List.getElem?_toArray, List.getElem?_cons_zero, List.getElem?_cons_succ]
  change wpQuiet _ _ _ _ [_, _, _, _, _, _, _, _] _
  repeat (go_big_quiet_step (fail))
  refine wpQuiet_nil ?_
  refine Qmu.fork [8] (fun _ => cls hI) (by kernel_rfl) (by simp) ⟨?_, trivial⟩
  refine Qmu.by_op rfl (by kernel_rfl) ?_
  clear z0 z1 z2 z3 hI hne
  obtain ⟨V5, hV5⟩ : ∃ V5, (V0.alloc (.cells #[.int .i64 c, .bool (negB q), .string (bs (nm q)), .string (dstr q)] 205)).drew = V5 := ⟨_, rfl⟩
  have hB5 : Below V0.heap.size V0 V5 := by rw [← hV5]; exact ((Below.refl _ _).alloc (Nat.le_refl _) _).drew
  have hrd : Reads V5 (V0.heap.size + 1) 4 (some ⟨V0.heap.size, 0, none⟩) 1 (pv (c, q)) := by rw [← hV5]; exact reads_one V0 (pv (c, q)) 205 rfl
  have HO5 := hide (TqA.own_below HO.out hB5)
  have HT5 := hide (HT.out.below hB5)
  have HQ5 := hide (HQ.out.keep hB5 hl0)
  have hI5 : At4 T o w.heap.size (.slice A n cp) q V5 := ⟨HT5.out.cell H0.out, HQ5.out.1, HQ5.out.2.1, HQ5.out.2.2.1⟩
  have hs5 := hB5.size
  have hs6 : V0.heap.size < V5.heap.size := by rw [← hV5]; show V0.heap.size < (V0.alloc _).heap.size; simp
  go_wp2_with fail
  refine ⟨rfl, ?_⟩
  refine Qmu.fork [9] (fun _ => cls hI5) (by kernel_rfl) (by simp) ⟨?_, trivial⟩
  refine Qmu.by_op rfl (by kernel_rfl) ?_
  refine wpList_append_any _ rfl (.tmp 10) (.tmp 14) 143 rfl B 205 i0 _ 4 48 Tryz.underlying143 hi hz0 hz1 hz2 rfl (by decide) _ _ _ rfl HO5.out (V0.heap.size + 1) _ 1 1 _ rfl hrd (pv_one _) ?c3 ?c4 ?c5 ?_
  case c3 => unfold maxLen; omega
  case c4 => omega
  case c5 => omega
  intro v6 w6 hown6 hg6 hob6
  obtain ⟨A6, c6, rfl⟩ := TqA.own_slice hown6
  have HK6g := Ks.of_grown hg6
  have HT6 := hide (HK6g.blk HT5.out (fun e => HNE.out e.symm))
  have HQ6 := hide (Ks.bx HK6g HQ5.out (by omega) (fun e => by have := (HVL.out _ e.symm).2; omega))
  have hI6 : At4 T o w.heap.size (.slice A n cp) q w6 := ⟨HT6.out.cell H0.out, HQ6.out.1, HQ6.out.2.1, HQ6.out.2.2.1⟩
  have HKA : Hid (Ks (fun k => k = T ∨ some k = (Value.slice A n cp).ownBlock) w w6) := hide ((Ks.of_below (HB0.out.trans (hB5.mono HB0.out.size))).trans (HK6g.mono (fun k _ hk => .inr hk)))
  have HO6 := hide hown6
  have hob : (Value.slice A6 (n + 1) c6).ownBlock = (Value.slice A n cp).ownBlock ∨ ∃ g, (Value.slice A6 (n + 1) c6).ownBlock = some g ∧ w.heap.size ≤ g := by
    rcases hob6 with h | h
    · exact .inl h
    · exact .inr ⟨_, h, by omega⟩
  have HOB := hide hob
  have HNE6 : Hid ((Value.slice A6 (n + 1) c6).ownBlock ≠ some T) := hide (by
    intro e
    rcases hob with h | ⟨g, h, hg⟩
    · exact HNE.out (h.symm.trans e)
    · rw [h] at e; injection e; omega)
  have f0 := HT6.out.frozen o
  have g0 := HT6.out.cell H0.out
  have hs7 : w.heap.size < w6.heap.size := by have := HK6g.size; omega
  clear hown6 hg6 hob6 hob hV5 hB5 hrd HO5 HT5 HQ5 HK6g hI5 hs5 hs6
  go_wp2_with fail
  refine ⟨rfl, ?_⟩
  simp only [Act.put, List.getElem_toArray, List.getElem_cons_succ, List.getElem_cons_zero, List.setIfInBounds_toArray, List.set_cons_succ, List.set_cons_zero]
  have hne : Nonempty (Qin.In (At4 T o w.heap.size (.slice A n cp) q)) := ⟨⟨_, hI6⟩⟩
  refine Qmu.takes (s := 12) (cls hI6) [10, 11] 1 _ _ _ (fun _ => cls hI6) (by decide) (by kernel_rfl) ?_
  simp only [List.filterMap_cons, List.filterMap_nil, List.getElem?_toArray, List.getElem?_cons_zero, List.getElem?_cons_succ]
  change wpQuiet _ _ _ _ [_, _] _
  repeat (go_big_quiet_step (fail))
  refine wpQuiet_nil ?_
  clear hne
  refine Qmu.fork [12] (fun _ => cls hI6) (by kernel_rfl) (by simp) ⟨?_, trivial⟩
  refine Qmu.by_op rfl (by kernel_rfl) ?_
  go_wp2_with fail
  refine ⟨rfl, ?_⟩
  refine Qmu.by_end (Qmu.past (by kernel_rfl)) (by kernel_rfl) ?_
  have HT7 := hide (HT6.out.set o (.slice A6 (n + 1) c6))
  have HO7 := hide (own_set HO6.out HNE6.out o (.slice A6 (n + 1) c6))
  have HK7 := hide (HKA.out.setCell (p := ⟨T, o, none⟩) (.inl (.inl rfl)) (.slice A6 (n + 1) c6))
  have HQ7 := hide (Ks.bx ((Ks.refl (fun k => k = T) w6).setCell (p := ⟨T, o, none⟩) (.inl rfl) (.slice A6 (n + 1) c6)) HQ6.out hs7 (by show ¬ w.heap.size = T; omega))
  obtain ⟨w7, hw7⟩ : ∃ w7, w6.setCell ⟨T, o, none⟩ (.slice A6 (n + 1) c6) = w7 := ⟨_, rfl⟩
  rw [hw7] at HT7 HO7 HK7 HQ7 ⊢
  have hG1 : (L.set o (Value.slice A6 (n + 1) c6))[o + 1]? = some (.bool (negB s)) := by rw [List.getElem?_set_ne (by omega)]; exact H1.out
  have hG2 : (L.set o (Value.slice A6 (n + 1) c6))[o + 2]? = some (.string (bs (nm s))) := by rw [List.getElem?_set_ne (by omega)]; exact H2.out
  have hG3 : (L.set o (Value.slice A6 (n + 1) c6))[o + 3]? = some (.string (dstr s)) := by rw [List.getElem?_set_ne (by omega)]; exact H3.out
  have HG1 := hide hG1
  have HG2 := hide hG2
  have HG3 := hide hG3
  clear hw7 f0 g0 hI6 HT6 HO6 HKA HQ6 hG1 hG2 hG3
  have r1 := blk_kin HT7.out HG1.out
  have r2 := blk_kin HT7.out HG2.out
  have r3 := blk_kin HT7.out HG3.out
  obtain ⟨k0, k1, k2⟩ := HQ7.out.kin
  go_wp2_with fail
  refine Qtl.region (I := Below w7.heap.size w7) 9 (Qin.start _ _) (by kernel_rfl) (by kernel_rfl) ?_
  simp only [List.take_succ_cons, List.take_zero, List.drop_succ_cons, List.drop_zero]
  repeat (go_big_quiet_step ((go_at_call 16; with_reducible exact HS.out _ _)))
  refine wpQuiet_nil ?_
  intro u
  obtain ⟨u, hu⟩ := u
  have HTu := HT7.out.below hu
  have c1 := HTu.cell HG1.out
  have c2 := HTu.cell HG2.out
  have c3 := HTu.cell HG3.out
  have f1 := HTu.frozen (o + 1)
  have f2 := HTu.frozen (o + 2)
  have f3 := HTu.frozen (o + 3)
  have HT8 := hide (((HTu.set (o + 1) (.bool (negB r))).set (o + 2) (.string (bs (nm r)))).set (o + 3) (.string (dstr r)))
  have HK8 := hide ((((HK7.out.trans (Ks.of_below hu)).setCell (p := ⟨T, o + 1, none⟩) (.inl (.inl rfl)) (.bool (negB r))).setCell (p := ⟨T, o + 2, none⟩) (.inl (.inl rfl)) (.string (bs (nm r)))).setCell (p := ⟨T, o + 3, none⟩) (.inl (.inl rfl)) (.string (dstr r)))
  have HO8 := hide (own_set (own_set (own_set (TqA.own_below HO7.out hu) HNE6.out (o + 1) (.bool (negB r))) HNE6.out (o + 2) (.string (bs (nm r)))) HNE6.out (o + 3) (.string (dstr r)))
  dsimp only
  clear HTu hu r1 r2 r3 k0 k1 k2
  go_wp2_with fail
  refine bodyPost_end (results_none rfl _ _ _) rfl ?_
  exact ⟨_, rfl, HO8.out, HOB.out, HNE6.out, HT8.out, HK8.out⟩
end Go.Proofs.YtpbgmpjnfndfjaaGreatDoor.TwP
namespace Go.Proofs.YtpbgmpjnfndfjaaGreatDoor.TqB
open Go.RowKit Wd RnQ RnR RtA PqB PfD PfE TqA TwA TwB TwC TwD TwE TwH TwP
theorem row_reads {α : Type} {sz : Nat} {vals : α → List Value} {w : World} {A : Option Addr} {l : List α} (hs : ∀ x, (vals x).length = sz) (h0 : 0 < sz) (h : RowAt sz vals w A l) : Reads w w.heap.size sz A l.length (l.flatMap vals) := by
  refine ⟨flat_len hs l, fun hn => ?_⟩
  obtain ⟨b, off, e, hlt, hc⟩ := h.2 hn
  refine ⟨⟨b, off, none⟩, e, hlt, fun j u hu => ?_⟩
  rw [Go.WideShapes.add_plain]
  have hj : j < l.length * sz := by have := (List.getElem?_eq_some_iff.1 hu).1; rw [flat_len hs] at this; exact this
  have hk : j / sz < l.length := Nat.div_lt_of_lt_mul (by rw [Nat.mul_comm]; exact hj)
  have hx := List.getElem?_eq_getElem hk
  have e2 := flat_get hs l (j / sz) _ hx (j % sz) (Nat.mod_lt j h0)
  have e3 : j / sz * sz + j % sz = j := Nat.div_add_mod' j sz
  rw [e3, hu] at e2
  have := hc (j / sz) _ hx (j % sz) u e2.symm
  rw [Nat.add_assoc, e3] at this
  exact this
theorem ks_kin {S : Nat → Prop} {W : World} {g i : Nat} {T : TypeId} {L : List Value} {x : Value} (h : BlkT W g T L) (hg : ¬ S g) (hv : L[i]? = some x) (v : Qin.In (Ks S W)) : v.val.cell? ⟨g, i, none⟩ = some x := (v.ok.blk h hg).cell hv
instance inks (S : Nat → Prop) (W : World) : Nonempty (Qin.In (Ks S W)) := ⟨⟨_, Ks.refl _ _⟩⟩
theorem ks_drawn (S : Nat → Prop) (W : World) : Ks S W { W with drawn := W.drawn + 1 } := ⟨rfl, rfl, rfl, Nat.le_refl _, fun _ _ _ => rfl⟩
theorem flat_set {α : Type} {sz : Nat} {vals : α → List Value} (hs : ∀ x, (vals x).length = sz) : ∀ (l : List α) (k : Nat) (x : α), k < l.length → ∀ p, (l.take k).flatMap vals ++ (vals x ++ ((l.drop (k + 1)).flatMap vals ++ p)) = (l.set k x).flatMap vals ++ p
  | [], _, _, h, _ => by simp at h
  | y :: l, 0, x, _, p => by simp
  | y :: l, k + 1, x, h, p => by
    have ih := flat_set (vals := vals) hs l k x (by simpa using h) p
    simp only [List.take_succ_cons, List.flatMap_cons, List.drop_succ_cons, List.set_cons_succ, List.append_assoc]
    rw [← ih]
theorem flat_split {α : Type} {vals : α → List Value} : ∀ (l : List α) (k : Nat) (x : α), l[k]? = some x → ∀ p, l.flatMap vals ++ p = (l.take k).flatMap vals ++ (vals x ++ ((l.drop (k + 1)).flatMap vals ++ p))
  | [], _, _, h, _ => by simp at h
  | y :: l, 0, x, h, p => by
    simp only [List.getElem?_cons_zero, Option.some.injEq] at h
    subst h
    simp
  | y :: l, k + 1, x, h, p => by
    have ih := flat_split (vals := vals) l k x (by simpa using h) p
    simp only [List.take_succ_cons, List.flatMap_cons, List.drop_succ_cons, List.append_assoc]
    rw [← ih]
theorem set_mid (a b c : List Value) (i : Nat) (v : Value) (h : i < b.length) : (a ++ (b ++ c)).set (a.length + i) v = a ++ (b.set i v ++ c) := by
  rw [List.set_append_right _ _ (by omega), Nat.add_sub_cancel_left, List.set_append_left _ _ h]
/-- a row that is owned has its block -/
theorem own_blk {w : World} {base n sz c : Nat} {A : Option Addr} {e : TypeId} {xs : List Value} (h : w.ownsRow base e sz (.slice A n c) n xs) (hn : 0 < n) : ∃ g pad, A = some ⟨g, 0, none⟩ ∧ base ≤ g ∧ BlkT w g e (xs ++ pad) ∧ (xs ++ pad).length = c * sz ∧ n ≤ c ∧ c ≤ maxLen := by
  obtain ⟨h1, h2⟩ := h
  rcases h2 with ⟨h2, h3⟩ | ⟨g, cap', cur, hv, hg, hh, hnc, hcm, hcs, ht⟩
  · omega
  · injection hv with e1 e2 e3
    subst e3
    refine ⟨g, cur.toList.drop (n * sz), e1, hg, ?_, ?_, hnc, hcm⟩
    · unfold BlkT
      rw [← ht, List.take_append_drop, hh]
    · rw [← ht, List.take_append_drop]
      simpa using hcs
theorem own_mk {w : World} {base n sz c g : Nat} {e : TypeId} {xs pad : List Value} (hg : base ≤ g) (hB : BlkT w g e (xs ++ pad)) (hl : (xs ++ pad).length = c * sz) (hx : xs.length = n * sz) (hn : n ≤ c) (hc : c ≤ maxLen) :
    w.ownsRow base e sz (.slice (some ⟨g, 0, none⟩) n c) n xs :=
  ⟨hx, .inr ⟨g, c, (xs ++ pad).toArray, rfl, hg, hB, hn, hc, by simpa using hl, by rw [← hx]; exact List.take_left ..⟩⟩
end Go.Proofs.YtpbgmpjnfndfjaaGreatDoor.TqB
