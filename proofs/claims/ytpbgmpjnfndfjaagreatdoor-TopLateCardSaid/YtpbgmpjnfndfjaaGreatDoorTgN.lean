/- The walk of the generator of documents. -/
import Derived.Test.YtpbgmpjnfndfjaaGreatDoorPgM
import Derived.Test.YtpbgmpjnfndfjaaGreatDoorQnt
namespace Go.Proofs.YtpbgmpjnfndfjaaGreatDoor.TgN
open Go.RowKit Wd RnA RnB RnW RnQ RnR RnP RnD RnE RtA RtC RpB RpC RpF RpH RsX RoA RoC RoL PqB PfS PfB PfA PfD PfE PfG PfH PfI PfN PfO PfQ PfU PgC PgD PgG PgH PgM
theorem set14 {w : World} {K : Nat} {T : TypeId} {l0 : List Value} (H : BlkT w K T l0) (hl : l0.length = 14) (a b c d e f g h i j k l m n : Value) :
    BlkT ((((((((((((((w.setCell ⟨K, 0, none⟩ a).setCell ⟨K, 1, none⟩ b).setCell ⟨K, 2, none⟩ c).setCell ⟨K, 3, none⟩ d).setCell ⟨K, 4, none⟩ e).setCell ⟨K, 5, none⟩ f).setCell ⟨K, 6, none⟩ g).setCell ⟨K, 7, none⟩ h).setCell ⟨K, 8, none⟩ i).setCell ⟨K, 9, none⟩ j).setCell ⟨K, 10, none⟩ k).setCell ⟨K, 11, none⟩ l).setCell ⟨K, 12, none⟩ m).setCell ⟨K, 13, none⟩ n) K T [a, b, c, d, e, f, g, h, i, j, k, l, m, n] := by
  have H2 := ((((((((((((((H.set 0 a).set 1 b).set 2 c).set 3 d).set 4 e).set 5 f).set 6 g).set 7 h).set 8 i).set 9 j).set 10 k).set 11 l).set 12 m).set 13 n)
  match l0, hl with
  | [_, _, _, _, _, _, _, _, _, _, _, _, _, _], _ => exact H2
theorem bel14 {B K : Nat} {w0 w : World} (H : Below B w0 w) (hK : B ≤ K) (a b c d e f g h i j k l m n : Value) :
    Below B w0 ((((((((((((((w.setCell ⟨K, 0, none⟩ a).setCell ⟨K, 1, none⟩ b).setCell ⟨K, 2, none⟩ c).setCell ⟨K, 3, none⟩ d).setCell ⟨K, 4, none⟩ e).setCell ⟨K, 5, none⟩ f).setCell ⟨K, 6, none⟩ g).setCell ⟨K, 7, none⟩ h).setCell ⟨K, 8, none⟩ i).setCell ⟨K, 9, none⟩ j).setCell ⟨K, 10, none⟩ k).setCell ⟨K, 11, none⟩ l).setCell ⟨K, 12, none⟩ m).setCell ⟨K, 13, none⟩ n) :=
  ((((((((((((((H.setCell (p := ⟨K, 0, none⟩) hK a).setCell (p := ⟨K, 1, none⟩) hK b).setCell (p := ⟨K, 2, none⟩) hK c).setCell (p := ⟨K, 3, none⟩) hK d).setCell (p := ⟨K, 4, none⟩) hK e).setCell (p := ⟨K, 5, none⟩) hK f).setCell (p := ⟨K, 6, none⟩) hK g).setCell (p := ⟨K, 7, none⟩) hK h).setCell (p := ⟨K, 8, none⟩) hK i).setCell (p := ⟨K, 9, none⟩) hK j).setCell (p := ⟨K, 10, none⟩) hK k).setCell (p := ⟨K, 11, none⟩) hK l).setCell (p := ⟨K, 12, none⟩) hK m).setCell (p := ⟨K, 13, none⟩) hK n)
theorem znew (w : World) : ∃ V, w.alloc (.cells #[.string ⟨#[]⟩, .int .i64 0, .int .i64 0, .string ⟨#[]⟩, .bool false, .string ⟨#[]⟩, .string ⟨#[]⟩, .int .i64 0, .int .i64 0, .bool false, .string ⟨#[]⟩, .string ⟨#[]⟩, .int .i64 0, .int .i64 0] 34) = V ∧ Hid (BlkT V w.heap.size 34 [.string ⟨#[]⟩, .int .i64 0, .int .i64 0, .string ⟨#[]⟩, .bool false, .string ⟨#[]⟩, .string ⟨#[]⟩, .int .i64 0, .int .i64 0, .bool false, .string ⟨#[]⟩, .string ⟨#[]⟩, .int .i64 0, .int .i64 0]) ∧ Hid (Below w.heap.size w V) ∧ V.heap.size = w.heap.size + 1 :=
  ⟨_, rfl, heap_alloc_new w _, (Below.refl _ _).alloc (Nat.le_refl _) _, by simp⟩
theorem code_of (j : Nat) (hj : j < 4) : ∃ p : ByteArray, codeB p.data.toList = true ∧ (#[.string ⟨#[69, 85, 82]⟩, .string ⟨#[69, 85, 82]⟩, .string ⟨#[85, 83, 68]⟩, .string ⟨#[71, 66, 80]⟩] : Array Value)[j]? = some (.string p) := by
  match j, hj with
  | 0, _ => exact ⟨⟨#[69, 85, 82]⟩, by decide, rfl⟩
  | 1, _ => exact ⟨⟨#[69, 85, 82]⟩, by decide, rfl⟩
  | 2, _ => exact ⟨⟨#[85, 83, 68]⟩, by decide, rfl⟩
  | 3, _ => exact ⟨⟨#[71, 66, 80]⟩, by decide, rfl⟩
  | n + 4, h => exact absurd h (by omega)
theorem cnew (w : World) (j : Nat) (p : ByteArray) (hp : (#[.string ⟨#[69, 85, 82]⟩, .string ⟨#[69, 85, 82]⟩, .string ⟨#[85, 83, 68]⟩, .string ⟨#[71, 66, 80]⟩] : Array Value)[j]? = some (.string p)) : ∃ V, w.alloc (.cells #[.string ⟨#[69, 85, 82]⟩, .string ⟨#[69, 85, 82]⟩, .string ⟨#[85, 83, 68]⟩, .string ⟨#[71, 66, 80]⟩] 9) = V ∧ V.cell? ⟨w.heap.size, j, none⟩ = some (.string p) ∧ Hid (Below w.heap.size w V) ∧ V.heap.size = w.heap.size + 1 :=
  ⟨_, rfl, by rw [World.cell?_alloc_new]; exact hp, (Below.refl _ _).alloc (Nat.le_refl _) _, by simp⟩
theorem check_ok {d : Dc} (h1 : NmA.nmB d.id = true) (h2 : inB d.est 7 = true) (h3 : inB d.cred 31 = true) (h4 : codeB d.code.data.toList = true) (h5 : ¬ sgnQ d.amt < 0) (h6 : inB d.inc 1048576 = true) (h7 : inB d.rank 7 = true) (h8 : ¬ sgnQ d.rate < 0) (h9 : inB d.rfrom 1048576 = true) (h10 : sgnQ d.rate = 0 → d.rfrom = 0) (h11 : inB (d.sec + 1) 8 = true) : checkD d = 0 := by
  unfold checkD
  rw [if_neg (by simp [h1]), if_neg (by simp [h2]), if_neg (by simp [h3]), if_neg (by simp [h4]), if_neg h5, if_neg (by simp [h6]), if_neg (by simp [h7]), if_neg h8, if_neg (by simp [h9]), if_neg (fun e => e.2 (h10 e.1)), if_neg (by simp [h11])]
theorem in_of {n m : Int} (h0 : 0 ≤ n) (h1 : n ≤ m) : inB n m = true := PfV.in_iff.2 ⟨h0, h1⟩
theorem zero_q : fixQ false (⟨#[]⟩ : ByteArray).data.toList (⟨#[]⟩ : ByteArray).data.toList = 0 := by decide +kernel
theorem fix_b (q : Rat) : fixQ (negB q) (bs (nm q)).data.toList (dstr q).data.toList = q := fix_enc q
theorem good_base {p cd : ByteArray} {q : Rat} {e c i r s : Int} (hp : NmA.nmB p = true) (hc : codeB cd.data.toList = true) (hq : Aq q) (h1 : 0 ≤ e ∧ e ≤ 3) (h2 : 0 ≤ c ∧ c ≤ 8) (h3 : 0 ≤ i ∧ i ≤ 49) (h4 : 0 ≤ r ∧ r ≤ 4) (h5 : -1 ≤ s ∧ s ≤ 2) :
    PfV.Good ⟨p, e, c, cd, negB q, bs (nm q), dstr q, i, r, false, ⟨#[]⟩, ⟨#[]⟩, 0, s⟩ := by
  obtain ⟨k1, k2, k3⟩ := hq.small
  refine ⟨check_ok hp (in_of h1.1 (show e ≤ 7 by omega)) (in_of h2.1 (show c ≤ 31 by omega)) hc ?_ (in_of h3.1 (show i ≤ 1048576 by omega)) (in_of h4.1 (show r ≤ 7 by omega)) ?_ (in_of (show (0 : Int) ≤ 0 by omega) (show (0 : Int) ≤ 1048576 by omega)) (fun _ => rfl) (in_of (by show 0 ≤ s + 1; omega) (by show s + 1 ≤ 8; omega)), valid_enc q, (show validB false [] [] = true by decide +kernel), ?_, ?_, ?_, ?_⟩
  · show ¬ sgnQ (fixQ _ _ _) < 0
    rw [fix_b]
    exact (neg_sgn q).2 k1
  · show ¬ sgnQ (fixQ _ _ _) < 0
    rw [zero_q]
    decide +kernel
  · show nm (fixQ _ _ _) < _
    rw [fix_b]; exact k2
  · show (fixQ _ _ _).den < _
    rw [fix_b]; exact k3
  · show nm (fixQ _ _ _) < _
    rw [zero_q]; decide +kernel
  · show (fixQ _ _ _).den < _
    rw [zero_q]; decide +kernel
theorem good_rate {d : Dc} {a : Nat} {f : Int} (h : PfV.Good d) (ha : 1 ≤ a ∧ a ≤ 9) (hf : 0 ≤ f ∧ f ≤ 59) : PfV.Good { d with rneg := negB (mk false a 100), rnum := bs (nm (mk false a 100)), rden := dstr (mk false a 100), rfrom := f } := by
  obtain ⟨c1, c2, c3, c4, c5, c6, c7, c8, c9, c10, c11⟩ := PfV.check_all h.chk
  have hn := negB_mk a 100 (by omega)
  have hb := PfC.mk_bd (B := 10000) false (n := a) (d := 100) (by omega) (by omega) (by omega)
  have hr : ({ d with rneg := negB (mk false a 100), rnum := bs (nm (mk false a 100)), rden := dstr (mk false a 100), rfrom := f } : Dc).rate = mk false a 100 := fix_b _
  have hz : sgnQ (mk false a 100) ≠ 0 := by
    rw [sgnQ_eq]
    have : nm (mk false a 100) ≠ 0 := by
      rw [nm_mk false a 100 (by omega)]
      have := Nat.div_pos (Nat.le_of_dvd (by omega) (Nat.gcd_dvd_left a 100)) (Nat.gcd_pos_of_pos_left 100 (by omega))
      omega
    rw [if_neg this]
    split <;> omega
  refine ⟨check_ok c1 (in_of c2.1 c2.2) (in_of c3.1 c3.2) c4 c5 (in_of c6.1 c6.2) (in_of c7.1 c7.2) ?_ (in_of hf.1 (show f ≤ 1048576 by omega)) ?_ (in_of (by show 0 ≤ d.sec + 1; omega) (by show d.sec + 1 ≤ 8; omega)), h.v1, valid_enc _, h.n1, h.n2, ?_, ?_⟩
  · rw [hr]; exact (neg_sgn _).2 hn
  · rw [hr]; exact fun e => absurd e hz
  · rw [hr]; exact hb.1
  · rw [hr]; exact hb.2
structure Gd (d : Dc) : Prop where
  good : PfV.Good d
  inc : d.inc ≤ 49
  rf : d.rfrom ≤ 59
theorem gd_base {p cd : ByteArray} {q : Rat} {e c i r s : Int} (hp : NmA.nmB p = true) (hc : codeB cd.data.toList = true) (hq : Aq q) (h1 : 0 ≤ e ∧ e ≤ 3) (h2 : 0 ≤ c ∧ c ≤ 8) (h3 : 0 ≤ i ∧ i ≤ 49) (h4 : 0 ≤ r ∧ r ≤ 4) (h5 : -1 ≤ s ∧ s ≤ 2) :
    Gd ⟨p, e, c, cd, negB q, bs (nm q), dstr q, i, r, false, ⟨#[]⟩, ⟨#[]⟩, 0, s⟩ := ⟨good_base hp hc hq h1 h2 h3 h4 h5, h3.2, by show (0 : Int) ≤ 59; omega⟩
theorem gd_rate {d : Dc} {a : Nat} {f : Int} (h : Gd d) (ha : 1 ≤ a ∧ a ≤ 9) (hf : 0 ≤ f ∧ f ≤ 59) : Gd { d with rneg := negB (mk false a 100), rnum := bs (nm (mk false a 100)), rden := dstr (mk false a 100), rfrom := f } := ⟨good_rate h.good ha hf, h.inc, hf.2⟩
/-- what the generator of a document leaves -/
def GenP (w : World) (e : Ending) (w' : World) : Prop := ∃ d : Dc, (e = .returned d.agg ∧ Gd d) ∧ Below w.heap.size w w'
theorem load14 {w : World} {k : Nat} {T : TypeId} {d : Dc} (h : BlkT w k T d.vals) : (loadVar 34 ⟨k, 0, none⟩).run Tryz.prog w = .ok d.agg w := by
  obtain ⟨a0, a1, a2, a3, a4, a5, a6, a7, a8, a9, a10, a11, a12, a13⟩ := doc_at h
  unfold PfA.Dc.agg
  simp only [Nat.zero_add] at a1 a2 a3 a4 a5 a6 a7 a8 a9 a10 a11 a12 a13
  simp [loadVar, go_sem, a0, a1, a2, a3, a4, a5, a6, a7, a8, a9, a10, a11, a12, a13]
theorem results_doc {fn : Func} {p : Tmp} (h : fn.results = #[.cell p 34]) (tmps : Array Value) {w : World} {k : Nat} {T : TypeId} {d : Dc} (hp : tmps.getD p undef = .pointer (some ⟨k, 0, none⟩)) (hb : BlkT w k T d.vals) :
    (results fn tmps).run Tryz.prog w = .ok d.agg w := by
  have hp' : tmps[p]?.getD undef = .pointer (some ⟨k, 0, none⟩) := by simpa using hp
  simp [results, h, hp', asAddr, load14 hb]
theorem holes {T0 : Type} {F0 : T0 → Prop} {G0 : T0} {T1 : Type} {F1 : T1 → Prop} {G1 : T1} {T2 : Type} {F2 : T2 → Prop} {G2 : T2} {T3 : Type} {F3 : T3 → Prop} {G3 : T3} {T4 : Type} {F4 : T4 → Prop} {G4 : T4} {T5 : Type} {F5 : T5 → Prop} {G5 : T5} {T6 : Type} {F6 : T6 → Prop} {G6 : T6} {T7 : Type} {F7 : T7 → Prop} {G7 : T7} {T8 : Type} {F8 : T8 → Prop} {G8 : T8} {T9 : Type} {F9 : T9 → Prop} {G9 : T9} {T10 : Type} {F10 : T10 → Prop} {G10 : T10} {T11 : Type} {F11 : T11 → Prop} {G11 : T11} {T12 : Type} {F12 : T12 → Prop} {G12 : T12} {T13 : Type} {F13 : T13 → Prop} {G13 : T13} {T14 : Type} {F14 : T14 → Prop} {G14 : T14} {T15 : Type} {F15 : T15 → Prop} {G15 : T15} {T16 : Type} {F16 : T16 → Prop} {G16 : T16} {R : Prop} (main : F0 G0 → F1 G1 → F2 G2 → F3 G3 → F4 G4 → F5 G5 → F6 G6 → F7 G7 → F8 G8 → F9 G9 → F10 G10 → F11 G11 → F12 G12 → F13 G13 → F14 G14 → F15 G15 → F16 G16 → R) (k0 : F1 G1 → F2 G2 → F3 G3 → F4 G4 → F5 G5 → F6 G6 → F7 G7 → F8 G8 → F9 G9 → F10 G10 → F11 G11 → F12 G12 → F13 G13 → F14 G14 → F15 G15 → F16 G16 → F0 G0) (k1 : F2 G2 → F3 G3 → F4 G4 → F5 G5 → F6 G6 → F7 G7 → F8 G8 → F9 G9 → F10 G10 → F11 G11 → F12 G12 → F13 G13 → F14 G14 → F15 G15 → F16 G16 → F1 G1) (k2 : F3 G3 → F4 G4 → F5 G5 → F6 G6 → F7 G7 → F8 G8 → F9 G9 → F10 G10 → F11 G11 → F12 G12 → F13 G13 → F14 G14 → F15 G15 → F16 G16 → F2 G2) (k3 : F4 G4 → F5 G5 → F6 G6 → F7 G7 → F8 G8 → F9 G9 → F10 G10 → F11 G11 → F12 G12 → F13 G13 → F14 G14 → F15 G15 → F16 G16 → F3 G3) (k4 : F5 G5 → F6 G6 → F7 G7 → F8 G8 → F9 G9 → F10 G10 → F11 G11 → F12 G12 → F13 G13 → F14 G14 → F15 G15 → F16 G16 → F4 G4) (k5 : F6 G6 → F7 G7 → F8 G8 → F9 G9 → F10 G10 → F11 G11 → F12 G12 → F13 G13 → F14 G14 → F15 G15 → F16 G16 → F5 G5) (k6 : F7 G7 → F8 G8 → F9 G9 → F10 G10 → F11 G11 → F12 G12 → F13 G13 → F14 G14 → F15 G15 → F16 G16 → F6 G6) (k7 : F8 G8 → F9 G9 → F10 G10 → F11 G11 → F12 G12 → F13 G13 → F14 G14 → F15 G15 → F16 G16 → F7 G7) (k8 : F9 G9 → F10 G10 → F11 G11 → F12 G12 → F13 G13 → F14 G14 → F15 G15 → F16 G16 → F8 G8) (k9 : F10 G10 → F11 G11 → F12 G12 → F13 G13 → F14 G14 → F15 G15 → F16 G16 → F9 G9) (k10 : F11 G11 → F12 G12 → F13 G13 → F14 G14 → F15 G15 → F16 G16 → F10 G10) (k11 : F12 G12 → F13 G13 → F14 G14 → F15 G15 → F16 G16 → F11 G11) (k12 : F13 G13 → F14 G14 → F15 G15 → F16 G16 → F12 G12) (k13 : F14 G14 → F15 G15 → F16 G16 → F13 G13) (k14 : F15 G15 → F16 G16 → F14 G14) (k15 : F16 G16 → F15 G15) (k16 : F16 G16) : R := by
  have h16 := k16 
  have h15 := k15 h16
  have h14 := k14 h15 h16
  have h13 := k13 h14 h15 h16
  have h12 := k12 h13 h14 h15 h16
  have h11 := k11 h12 h13 h14 h15 h16
  have h10 := k10 h11 h12 h13 h14 h15 h16
  have h9 := k9 h10 h11 h12 h13 h14 h15 h16
  have h8 := k8 h9 h10 h11 h12 h13 h14 h15 h16
  have h7 := k7 h8 h9 h10 h11 h12 h13 h14 h15 h16
  have h6 := k6 h7 h8 h9 h10 h11 h12 h13 h14 h15 h16
  have h5 := k5 h6 h7 h8 h9 h10 h11 h12 h13 h14 h15 h16
  have h4 := k4 h5 h6 h7 h8 h9 h10 h11 h12 h13 h14 h15 h16
  have h3 := k3 h4 h5 h6 h7 h8 h9 h10 h11 h12 h13 h14 h15 h16
  have h2 := k2 h3 h4 h5 h6 h7 h8 h9 h10 h11 h12 h13 h14 h15 h16
  have h1 := k1 h2 h3 h4 h5 h6 h7 h8 h9 h10 h11 h12 h13 h14 h15 h16
  have h0 := k0 h1 h2 h3 h4 h5 h6 h7 h8 h9 h10 h11 h12 h13 h14 h15 h16
  exact main h0 h1 h2 h3 h4 h5 h6 h7 h8 h9 h10 h11 h12 h13 h14 h15 h16
theorem recast {P : Program} {ops : Array Oper} {C : World → Prop} {R : Act → World → Prop} {f : Nat} {d d' : Array Bool} {a : Act} {w : World} (h : d = d') (hT : Qnt.Tree P ops C R f d' a w) : Qnt.Tree P ops C R f d a w := by subst h; exact hT
theorem cnew2 (w : World) (j : Nat) (p : ByteArray) (hp : (#[.string ⟨#[69, 85, 82]⟩, .string ⟨#[69, 85, 82]⟩, .string ⟨#[85, 83, 68]⟩, .string ⟨#[71, 66, 80]⟩] : Array Value)[j]? = some (.string p)) : ∃ V K, w.alloc (.cells #[.string ⟨#[69, 85, 82]⟩, .string ⟨#[69, 85, 82]⟩, .string ⟨#[85, 83, 68]⟩, .string ⟨#[71, 66, 80]⟩] 9) = V ∧ w.heap.size = K ∧ V.cell? ⟨K, j, none⟩ = some (.string p) ∧ K < V.heap.size ∧ Hid (Below w.heap.size w V) := by
  obtain ⟨V, h1, h2, h3, h4⟩ := cnew w j p hp
  exact ⟨V, _, h1, rfl, h2, by omega, h3⟩
theorem znew2 {B : Nat} (w : World) (hB : B ≤ w.heap.size) : ∃ V G, w.alloc (.cells #[.string ⟨#[]⟩, .int .i64 0, .int .i64 0, .string ⟨#[]⟩, .bool false, .string ⟨#[]⟩, .string ⟨#[]⟩, .int .i64 0, .int .i64 0, .bool false, .string ⟨#[]⟩, .string ⟨#[]⟩, .int .i64 0, .int .i64 0] 34) = V ∧ w.heap.size = G ∧ Hid (BlkT V G 34 [.string ⟨#[]⟩, .int .i64 0, .int .i64 0, .string ⟨#[]⟩, .bool false, .string ⟨#[]⟩, .string ⟨#[]⟩, .int .i64 0, .int .i64 0, .bool false, .string ⟨#[]⟩, .string ⟨#[]⟩, .int .i64 0, .int .i64 0]) ∧ Hid (Below w.heap.size w V) ∧ B ≤ G := by
  obtain ⟨V, h1, h2, h3, h4⟩ := znew w
  exact ⟨V, _, h1, rfl, h2, h3, hB⟩
set_option maxHeartbeats 64000000 in
set_option maxRecDepth 100000 in
theorem proof_any (z0 z1 z2 z3 z4 z5 : Nat) (h0 : z0 < 65536) (h1 : z1 < 65536) (h2 : z2 < 65536) (h3 : z3 < 65536) (h4 : z4 < 65536) (h5 : z5 < 65536) (w : World) :
    Calls Tryz.prog 26 #[.agg #[.int .u16 (z0 : Int), .int .u16 (z1 : Int), .int .u16 (z2 : Int), .int .u16 (z3 : Int), .int .u16 (z4 : Int), .int .u16 (z5 : Int)]] w (GenP w) := by
  have HNM := Lib.hid (fun w => name_any z0 h0 w)
  have HAM := Lib.hid (fun w => amount_any z3 h3 w)
  unfold AmtP at HAM
  obtain ⟨cd, hcd, hca⟩ := code_of (z2 % 4) (by omega)
  have HCD := hide hcd
  have HCN := Lib.hid (fun w => cnew2 w (z2 % 4) cd hca)
  obtain ⟨X, hX, HX, HBX, hsX⟩ : ∃ X, w.alloc (.cells #[.int .u16 (z0 : Int), .int .u16 (z1 : Int), .int .u16 (z2 : Int), .int .u16 (z3 : Int), .int .u16 (z4 : Int), .int .u16 (z5 : Int)] 94) = X ∧ Hid (Blk X w.heap.size [.int .u16 (z0 : Int), .int .u16 (z1 : Int), .int .u16 (z2 : Int), .int .u16 (z3 : Int), .int .u16 (z4 : Int), .int .u16 (z5 : Int)]) ∧ Hid (Below w.heap.size w X) ∧ X.heap.size = w.heap.size + 1 :=
    ⟨_, rfl, Blk.new w [.int .u16 (z0 : Int), .int .u16 (z1 : Int), .int .u16 (z2 : Int), .int .u16 (z3 : Int), .int .u16 (z4 : Int), .int .u16 (z5 : Int)] _, (Below.refl _ _).alloc (Nat.le_refl _) _, by simp⟩
  obtain ⟨V, hV, HR, HBV, hsV⟩ := znew X
  rw [hsX] at hsV
  have HSX := hide hsX
  have HXV := hide (HX.out.below HBV.out)
  have HBW := hide (HBX.out.trans (HBV.out.mono (by omega)))
  have hlx : w.heap.size < V.heap.size := by omega
  have x0 := HXV.out.cell (i := 0) rfl
  have x1 := HXV.out.cell (i := 1) rfl
  have x2 := HXV.out.cell (i := 2) rfl
  have x3 := HXV.out.cell (i := 3) rfl
  have x4 := HXV.out.cell (i := 4) rfl
  have x5 := HXV.out.cell (i := 5) rfl
  have m0 := at_in (p := ⟨w.heap.size, 0, none⟩) hlx x0
  have m1 := at_in (p := ⟨w.heap.size, 1, none⟩) hlx x1
  have m2 := at_in (p := ⟨w.heap.size, 2, none⟩) hlx x2
  have m3 := at_in (p := ⟨w.heap.size, 3, none⟩) hlx x3
  have m4 := at_in (p := ⟨w.heap.size, 4, none⟩) hlx x4
  have m5 := at_in (p := ⟨w.heap.size, 5, none⟩) hlx x5
  have HSV := hide hsV
  clear hca hcd hsV hsX
  go_enter Tryz.func26, Tryz.ntmps26
  go_upto_region 1 with fail
  go_cut [3] (fun v3 wx => ∃ (K : Nat) (d : Dc), v3 = .pointer (some ⟨K, 0, none⟩) ∧ Hid (BlkT wx K 34 d.vals) ∧ Hid (Gd d) ∧ Hid (Below V.heap.size V wx) ∧ V.heap.size ≤ K)
  case first =>
    clear x0 x1 x2 x3 x4 x5
    go_wp2_with fail
    refine Qnt.wp_region (C := Cls (Below V.heap.size V)) (by kernel_rfl) (by kernel_rfl) ?_
    simp only [List.length_cons, List.length_nil]
    refine Qnt.takes [0, 1, 3, 4, 5, 6, 7, 8, 9, 10, 11, 13, 14, 15, 18, 19, 21, 22, 23, 24, 25, 26, 27, 28, 29, 30, 31, 32, 33, 34] 8 _ _ _ (cls (Qin.start _ _)) (by kernel_rfl) ?_
    simp only [List.filterMap_cons, List.filterMap_nil, List.getElem?_toArray, List.getElem?_cons_zero, List.getElem?_cons_succ]
    change wpQuiet _ _ _ _ [_, _, _, _, _, _, _, _, _, _, _, _, _, _, _, _, _, _, _, _, _, _, _, _, _, _, _, _, _, _] _
    repeat (go_big_quiet_step (fail))
    refine wpQuiet_nil ?_
    have hB := Qin.start V.heap.size V
    generalize ({ V with drawn := V.drawn + 1 } : World) = v at hB ⊢
    clear m0 m1 m2 m3 m4 m5
    have HZN := Lib.hid (fun (w : World) (h : V.heap.size ≤ w.heap.size) => znew2 w h)
    refine recast (d' := #[true, true, false, true, true, true, true, true, true, true, true, true, false, true, true, true, false, false, true, true, false, true, true, true, true, true, true, true, true, true, true, true, true, true, true, false, false, false]) (by decide) ?_
    apply holes
      (F0 := fun (G_ : World → Nat → Prop) => ∀ (v : World) (G : Nat), Below V.heap.size V v → Hid (BlkT v G 34 [.string ⟨#[]⟩, .int .i64 0, .int .i64 0, .string ⟨#[]⟩, .bool false, .string ⟨#[]⟩, .string ⟨#[]⟩, .int .i64 0, .int .i64 0, .bool false, .string ⟨#[]⟩, .string ⟨#[]⟩, .int .i64 0, .int .i64 0]) → V.heap.size ≤ G → G_ v G)
      (F1 := fun (G_ : World → Nat → Prop) => ∀ (v : World) (K : Nat), Below V.heap.size V v → v.cell? ⟨K, z2 % 4, none⟩ = some (.string cd) → K < v.heap.size → G_ v K)
      (F2 := fun (G_ : World → ByteArray → Prop) => ∀ (v : World) (p : ByteArray), Below V.heap.size V v → Hid (p.size ≤ 3 ∧ NmA.nmB p = true) → G_ v p)
      (F3 := fun (G_ : World → Nat → Nat → Prop) => ∀ (v : World) (K : Nat) (G : Nat), Below V.heap.size V v → v.cell? ⟨K, z2 % 4, none⟩ = some (.string cd) → K < v.heap.size → Hid (BlkT v G 34 [.string ⟨#[]⟩, .int .i64 0, .int .i64 0, .string ⟨#[]⟩, .bool false, .string ⟨#[]⟩, .string ⟨#[]⟩, .int .i64 0, .int .i64 0, .bool false, .string ⟨#[]⟩, .string ⟨#[]⟩, .int .i64 0, .int .i64 0]) → V.heap.size ≤ G → G_ v K G)
      (F4 := fun (G_ : World → Nat → Prop) => ∀ (v : World) (K : Nat), Below V.heap.size V v → G_ v K)
      (F5 := fun (G_ : World → ByteArray → Nat → Prop) => ∀ (v : World) (p : ByteArray) (G : Nat), Below V.heap.size V v → Hid (p.size ≤ 3 ∧ NmA.nmB p = true) → Hid (BlkT v G 34 [.string ⟨#[]⟩, .int .i64 0, .int .i64 0, .string ⟨#[]⟩, .bool false, .string ⟨#[]⟩, .string ⟨#[]⟩, .int .i64 0, .int .i64 0, .bool false, .string ⟨#[]⟩, .string ⟨#[]⟩, .int .i64 0, .int .i64 0]) → V.heap.size ≤ G → G_ v p G)
      (F6 := fun (G_ : World → ByteArray → Nat → Prop) => ∀ (v : World) (p : ByteArray) (K : Nat), Below V.heap.size V v → Hid (p.size ≤ 3 ∧ NmA.nmB p = true) → v.cell? ⟨K, z2 % 4, none⟩ = some (.string cd) → K < v.heap.size → G_ v p K)
      (F7 := fun (G_ : World → ByteArray → Rat → Prop) => ∀ (v : World) (p : ByteArray) (q : Rat), Below V.heap.size V v → Hid (p.size ≤ 3 ∧ NmA.nmB p = true) → Hid (Aq q) → G_ v p q)
      (F8 := fun (G_ : World → Nat → Nat → Prop) => ∀ (v : World) (K : Nat) (G : Nat), Below V.heap.size V v → Hid (BlkT v G 34 [.string ⟨#[]⟩, .int .i64 0, .int .i64 0, .string ⟨#[]⟩, .bool false, .string ⟨#[]⟩, .string ⟨#[]⟩, .int .i64 0, .int .i64 0, .bool false, .string ⟨#[]⟩, .string ⟨#[]⟩, .int .i64 0, .int .i64 0]) → V.heap.size ≤ G → G_ v K G)
      (F9 := fun (G_ : World → ByteArray → Nat → Nat → Prop) => ∀ (v : World) (p : ByteArray) (K : Nat) (G : Nat), Below V.heap.size V v → Hid (p.size ≤ 3 ∧ NmA.nmB p = true) → v.cell? ⟨K, z2 % 4, none⟩ = some (.string cd) → K < v.heap.size → Hid (BlkT v G 34 [.string ⟨#[]⟩, .int .i64 0, .int .i64 0, .string ⟨#[]⟩, .bool false, .string ⟨#[]⟩, .string ⟨#[]⟩, .int .i64 0, .int .i64 0, .bool false, .string ⟨#[]⟩, .string ⟨#[]⟩, .int .i64 0, .int .i64 0]) → V.heap.size ≤ G → G_ v p K G)
      (F10 := fun (G_ : World → ByteArray → Nat → Prop) => ∀ (v : World) (p : ByteArray) (K : Nat), Below V.heap.size V v → Hid (p.size ≤ 3 ∧ NmA.nmB p = true) → G_ v p K)
      (F11 := fun (G_ : World → ByteArray → Rat → Nat → Prop) => ∀ (v : World) (p : ByteArray) (q : Rat) (G : Nat), Below V.heap.size V v → Hid (p.size ≤ 3 ∧ NmA.nmB p = true) → Hid (Aq q) → Hid (BlkT v G 34 [.string ⟨#[]⟩, .int .i64 0, .int .i64 0, .string ⟨#[]⟩, .bool false, .string ⟨#[]⟩, .string ⟨#[]⟩, .int .i64 0, .int .i64 0, .bool false, .string ⟨#[]⟩, .string ⟨#[]⟩, .int .i64 0, .int .i64 0]) → V.heap.size ≤ G → G_ v p q G)
      (F12 := fun (G_ : World → ByteArray → Rat → Nat → Prop) => ∀ (v : World) (p : ByteArray) (q : Rat) (K : Nat), Below V.heap.size V v → Hid (p.size ≤ 3 ∧ NmA.nmB p = true) → Hid (Aq q) → v.cell? ⟨K, z2 % 4, none⟩ = some (.string cd) → K < v.heap.size → G_ v p q K)
      (F13 := fun (G_ : World → ByteArray → Nat → Nat → Prop) => ∀ (v : World) (p : ByteArray) (K : Nat) (G : Nat), Below V.heap.size V v → Hid (p.size ≤ 3 ∧ NmA.nmB p = true) → Hid (BlkT v G 34 [.string ⟨#[]⟩, .int .i64 0, .int .i64 0, .string ⟨#[]⟩, .bool false, .string ⟨#[]⟩, .string ⟨#[]⟩, .int .i64 0, .int .i64 0, .bool false, .string ⟨#[]⟩, .string ⟨#[]⟩, .int .i64 0, .int .i64 0]) → V.heap.size ≤ G → G_ v p K G)
      (F14 := fun (G_ : World → ByteArray → Rat → Nat → Nat → Prop) => ∀ (v : World) (p : ByteArray) (q : Rat) (K : Nat) (G : Nat), Below V.heap.size V v → Hid (p.size ≤ 3 ∧ NmA.nmB p = true) → Hid (Aq q) → v.cell? ⟨K, z2 % 4, none⟩ = some (.string cd) → K < v.heap.size → Hid (BlkT v G 34 [.string ⟨#[]⟩, .int .i64 0, .int .i64 0, .string ⟨#[]⟩, .bool false, .string ⟨#[]⟩, .string ⟨#[]⟩, .int .i64 0, .int .i64 0, .bool false, .string ⟨#[]⟩, .string ⟨#[]⟩, .int .i64 0, .int .i64 0]) → V.heap.size ≤ G → G_ v p q K G)
      (F15 := fun (G_ : World → ByteArray → Rat → Nat → Prop) => ∀ (v : World) (p : ByteArray) (q : Rat) (K : Nat), Below V.heap.size V v → Hid (p.size ≤ 3 ∧ NmA.nmB p = true) → Hid (Aq q) → G_ v p q K)
      (F16 := fun (G_ : World → ByteArray → Rat → Nat → Nat → Prop) => ∀ (v : World) (p : ByteArray) (q : Rat) (K : Nat) (G : Nat), Below V.heap.size V v → Hid (p.size ≤ 3 ∧ NmA.nmB p = true) → Hid (Aq q) → Hid (BlkT v G 34 [.string ⟨#[]⟩, .int .i64 0, .int .i64 0, .string ⟨#[]⟩, .bool false, .string ⟨#[]⟩, .string ⟨#[]⟩, .int .i64 0, .int .i64 0, .bool false, .string ⟨#[]⟩, .string ⟨#[]⟩, .int .i64 0, .int .i64 0]) → V.heap.size ≤ G → G_ v p q K G)
    · intro key001 key010 key100 key011 key020 key101 key110 key200 key021 key111 key120 key201 key210 key121 key211 key220 key221
      refine Qnt.fork [2, 12, 36] (cls hB) (by kernel_rfl) (by simp) ⟨?_, ?_, ?_, trivial⟩
      · refine Qnt.by_op rfl (by kernel_rfl) ?_
        go_wp2_with fail
        refine (HNM.out _).mono ?_
        rintro e v2 ⟨p, ⟨rfl, hp1, hp2⟩, hb⟩
        have HP := hide (And.intro hp1 hp2)
        have hz : p.size ≤ 3 := hp1
        clear hp1 hp2
        have hB2 := hB.trans (hb.mono hB.size)
        clear hb
        go_wp2_with fail
        refine ⟨rfl, ?_⟩
        refine recast (d' := #[true, true, true, true, true, true, true, true, true, true, true, true, false, true, true, true, false, false, true, true, false, true, true, true, true, true, true, true, true, true, true, true, true, true, true, false, false, false]) (by decide) ?_
        exact key100 v2 p hB2 HP
      · refine Qnt.by_op rfl (by kernel_rfl) ?_
        obtain ⟨v2, K, hv, hKe, cc2, hK2, HN⟩ := HCN.out v
        have hB2 := hB.trans (HN.out.mono hB.size)
        go_wp2_with fail
        refine ⟨rfl, ?_⟩
        clear hv
        refine Qnt.takes [16] 6 _ _ _ (cls hB2) (by kernel_rfl) ?_
        simp only [List.filterMap_cons, List.filterMap_nil, List.getElem?_toArray, List.getElem?_cons_succ, List.getElem?_cons_zero]
        change wpQuiet _ _ _ _ [_] _
        repeat (go_big_quiet_step (fail))
        refine wpQuiet_nil ?_
        try simp only [hKe]
        clear hKe
        refine recast (d' := #[true, true, false, true, true, true, true, true, true, true, true, true, true, true, true, true, true, false, true, true, false, true, true, true, true, true, true, true, true, true, true, true, true, true, true, false, false, false]) (by decide) ?_
        exact key010 v2 K hB2 cc2 hK2
      · refine Qnt.by_op rfl (by kernel_rfl) ?_
        obtain ⟨v2, G, hv, hGe, ZD2, HN, hG2⟩ := HZN.out v hB.size
        have hB2 := hB.trans (HN.out.mono hB.size)
        go_wp2_with fail
        refine ⟨rfl, ?_⟩
        clear hv
        try simp only [hGe]
        clear hGe
        refine recast (d' := #[true, true, false, true, true, true, true, true, true, true, true, true, false, true, true, true, false, false, true, true, false, true, true, true, true, true, true, true, true, true, true, true, true, true, true, false, true, false]) (by decide) ?_
        exact key001 v2 G hB2 ZD2 hG2
    · intro key010 key100 key011 key020 key101 key110 key200 key021 key111 key120 key201 key210 key121 key211 key220 key221 v G hB ZD hG
      refine Qnt.fork [2, 12] (cls hB) (by kernel_rfl) (by simp) ⟨?_, ?_, trivial⟩
      · refine Qnt.by_op rfl (by kernel_rfl) ?_
        go_wp2_with fail
        refine (HNM.out _).mono ?_
        rintro e v2 ⟨p, ⟨rfl, hp1, hp2⟩, hb⟩
        have HP := hide (And.intro hp1 hp2)
        have hz : p.size ≤ 3 := hp1
        clear hp1 hp2
        have hB2 := hB.trans (hb.mono hB.size)
        have ZD2 := hide (ZD.out.below hb)
        clear hb
        go_wp2_with fail
        refine ⟨rfl, ?_⟩
        refine recast (d' := #[true, true, true, true, true, true, true, true, true, true, true, true, false, true, true, true, false, false, true, true, false, true, true, true, true, true, true, true, true, true, true, true, true, true, true, false, true, false]) (by decide) ?_
        exact key101 v2 p G hB2 HP ZD2 hG
      · refine Qnt.by_op rfl (by kernel_rfl) ?_
        obtain ⟨v2, K, hv, hKe, cc2, hK2, HN⟩ := HCN.out v
        have hB2 := hB.trans (HN.out.mono hB.size)
        have ZD2 := hide (ZD.out.below HN.out)
        go_wp2_with fail
        refine ⟨rfl, ?_⟩
        clear hv
        refine Qnt.takes [16] 5 _ _ _ (cls hB2) (by kernel_rfl) ?_
        simp only [List.filterMap_cons, List.filterMap_nil, List.getElem?_toArray, List.getElem?_cons_succ, List.getElem?_cons_zero]
        change wpQuiet _ _ _ _ [_] _
        repeat (go_big_quiet_step (fail))
        refine wpQuiet_nil ?_
        try simp only [hKe]
        clear hKe
        refine recast (d' := #[true, true, false, true, true, true, true, true, true, true, true, true, true, true, true, true, true, false, true, true, false, true, true, true, true, true, true, true, true, true, true, true, true, true, true, false, true, false]) (by decide) ?_
        exact key011 v2 K G hB2 cc2 hK2 ZD2 hG
    · intro key100 key011 key020 key101 key110 key200 key021 key111 key120 key201 key210 key121 key211 key220 key221 v K hB cc hK
      refine Qnt.fork [2, 17, 36] (cls hB) (by kernel_rfl) (by simp) ⟨?_, ?_, ?_, trivial⟩
      · refine Qnt.by_op rfl (by kernel_rfl) ?_
        go_wp2_with fail
        refine (HNM.out _).mono ?_
        rintro e v2 ⟨p, ⟨rfl, hp1, hp2⟩, hb⟩
        have HP := hide (And.intro hp1 hp2)
        have hz : p.size ≤ 3 := hp1
        clear hp1 hp2
        have hB2 := hB.trans (hb.mono hB.size)
        have cc2 := (hb.cell (p := ⟨K, z2 % 4, none⟩) hK).trans cc
        have hK2 := Nat.lt_of_lt_of_le hK hb.size
        clear hb cc hK
        go_wp2_with fail
        refine ⟨rfl, ?_⟩
        refine recast (d' := #[true, true, true, true, true, true, true, true, true, true, true, true, true, true, true, true, true, false, true, true, false, true, true, true, true, true, true, true, true, true, true, true, true, true, true, false, false, false]) (by decide) ?_
        exact key110 v2 p K hB2 HP cc2 hK2
      · refine Qnt.by_op rfl (by kernel_rfl) ?_
        go_wp2_with fail
        refine ⟨rfl, ?_⟩
        refine recast (d' := #[true, true, false, true, true, true, true, true, true, true, true, true, true, true, true, true, true, true, true, true, false, true, true, true, true, true, true, true, true, true, true, true, true, true, true, false, false, false]) (by decide) ?_
        exact key020 v K hB
      · refine Qnt.by_op rfl (by kernel_rfl) ?_
        obtain ⟨v2, G, hv, hGe, ZD2, HN, hG2⟩ := HZN.out v hB.size
        have hB2 := hB.trans (HN.out.mono hB.size)
        have cc2 := (HN.out.cell (p := ⟨K, z2 % 4, none⟩) hK).trans cc
        have hK2 := Nat.lt_of_lt_of_le hK HN.out.size
        go_wp2_with fail
        refine ⟨rfl, ?_⟩
        clear hv
        try simp only [hGe]
        clear hGe
        refine recast (d' := #[true, true, false, true, true, true, true, true, true, true, true, true, true, true, true, true, true, false, true, true, false, true, true, true, true, true, true, true, true, true, true, true, true, true, true, false, true, false]) (by decide) ?_
        exact key011 v2 K G hB2 cc2 hK2 ZD2 hG2
    · intro key011 key020 key101 key110 key200 key021 key111 key120 key201 key210 key121 key211 key220 key221 v p hB HP
      refine Qnt.fork [12, 20, 36] (cls hB) (by kernel_rfl) (by simp) ⟨?_, ?_, ?_, trivial⟩
      · refine Qnt.by_op rfl (by kernel_rfl) ?_
        obtain ⟨v2, K, hv, hKe, cc2, hK2, HN⟩ := HCN.out v
        have hB2 := hB.trans (HN.out.mono hB.size)
        go_wp2_with fail
        refine ⟨rfl, ?_⟩
        clear hv
        refine Qnt.takes [16] 5 _ _ _ (cls hB2) (by kernel_rfl) ?_
        simp only [List.filterMap_cons, List.filterMap_nil, List.getElem?_toArray, List.getElem?_cons_succ, List.getElem?_cons_zero]
        change wpQuiet _ _ _ _ [_] _
        repeat (go_big_quiet_step (fail))
        refine wpQuiet_nil ?_
        try simp only [hKe]
        clear hKe
        refine recast (d' := #[true, true, true, true, true, true, true, true, true, true, true, true, true, true, true, true, true, false, true, true, false, true, true, true, true, true, true, true, true, true, true, true, true, true, true, false, false, false]) (by decide) ?_
        exact key110 v2 p K hB2 HP cc2 hK2
      · refine Qnt.by_op rfl (by kernel_rfl) ?_
        go_wp2_with fail
        refine (HAM.out _).mono ?_
        rintro e v2 ⟨q, hq, rfl, hb⟩
        have HQ := hide hq
        clear hq
        have hB2 := hB.trans (hb.mono hB.size)
        clear hb
        go_wp2_with fail
        refine ⟨rfl, ?_⟩
        refine recast (d' := #[true, true, true, true, true, true, true, true, true, true, true, true, false, true, true, true, false, false, true, true, true, true, true, true, true, true, true, true, true, true, true, true, true, true, true, false, false, false]) (by decide) ?_
        exact key200 v2 p q hB2 HP HQ
      · refine Qnt.by_op rfl (by kernel_rfl) ?_
        obtain ⟨v2, G, hv, hGe, ZD2, HN, hG2⟩ := HZN.out v hB.size
        have hB2 := hB.trans (HN.out.mono hB.size)
        go_wp2_with fail
        refine ⟨rfl, ?_⟩
        clear hv
        try simp only [hGe]
        clear hGe
        refine recast (d' := #[true, true, true, true, true, true, true, true, true, true, true, true, false, true, true, true, false, false, true, true, false, true, true, true, true, true, true, true, true, true, true, true, true, true, true, false, true, false]) (by decide) ?_
        exact key101 v2 p G hB2 HP ZD2 hG2
    · intro key020 key101 key110 key200 key021 key111 key120 key201 key210 key121 key211 key220 key221 v K G hB cc hK ZD hG
      refine Qnt.fork [2, 17] (cls hB) (by kernel_rfl) (by simp) ⟨?_, ?_, trivial⟩
      · refine Qnt.by_op rfl (by kernel_rfl) ?_
        go_wp2_with fail
        refine (HNM.out _).mono ?_
        rintro e v2 ⟨p, ⟨rfl, hp1, hp2⟩, hb⟩
        have HP := hide (And.intro hp1 hp2)
        have hz : p.size ≤ 3 := hp1
        clear hp1 hp2
        have hB2 := hB.trans (hb.mono hB.size)
        have cc2 := (hb.cell (p := ⟨K, z2 % 4, none⟩) hK).trans cc
        have hK2 := Nat.lt_of_lt_of_le hK hb.size
        have ZD2 := hide (ZD.out.below hb)
        clear hb cc hK
        go_wp2_with fail
        refine ⟨rfl, ?_⟩
        refine recast (d' := #[true, true, true, true, true, true, true, true, true, true, true, true, true, true, true, true, true, false, true, true, false, true, true, true, true, true, true, true, true, true, true, true, true, true, true, false, true, false]) (by decide) ?_
        exact key111 v2 p K G hB2 HP cc2 hK2 ZD2 hG
      · refine Qnt.by_op rfl (by kernel_rfl) ?_
        go_wp2_with fail
        refine ⟨rfl, ?_⟩
        refine recast (d' := #[true, true, false, true, true, true, true, true, true, true, true, true, true, true, true, true, true, true, true, true, false, true, true, true, true, true, true, true, true, true, true, true, true, true, true, false, true, false]) (by decide) ?_
        exact key021 v K G hB ZD hG
    · intro key101 key110 key200 key021 key111 key120 key201 key210 key121 key211 key220 key221 v K hB
      refine Qnt.fork [2, 36] (cls hB) (by kernel_rfl) (by simp) ⟨?_, ?_, trivial⟩
      · refine Qnt.by_op rfl (by kernel_rfl) ?_
        go_wp2_with fail
        refine (HNM.out _).mono ?_
        rintro e v2 ⟨p, ⟨rfl, hp1, hp2⟩, hb⟩
        have HP := hide (And.intro hp1 hp2)
        have hz : p.size ≤ 3 := hp1
        clear hp1 hp2
        have hB2 := hB.trans (hb.mono hB.size)
        clear hb
        go_wp2_with fail
        refine ⟨rfl, ?_⟩
        refine recast (d' := #[true, true, true, true, true, true, true, true, true, true, true, true, true, true, true, true, true, true, true, true, false, true, true, true, true, true, true, true, true, true, true, true, true, true, true, false, false, false]) (by decide) ?_
        exact key120 v2 p K hB2 HP
      · refine Qnt.by_op rfl (by kernel_rfl) ?_
        obtain ⟨v2, G, hv, hGe, ZD2, HN, hG2⟩ := HZN.out v hB.size
        have hB2 := hB.trans (HN.out.mono hB.size)
        go_wp2_with fail
        refine ⟨rfl, ?_⟩
        clear hv
        try simp only [hGe]
        clear hGe
        refine recast (d' := #[true, true, false, true, true, true, true, true, true, true, true, true, true, true, true, true, true, true, true, true, false, true, true, true, true, true, true, true, true, true, true, true, true, true, true, false, true, false]) (by decide) ?_
        exact key021 v2 K G hB2 ZD2 hG2
    · intro key110 key200 key021 key111 key120 key201 key210 key121 key211 key220 key221 v p G hB HP ZD hG
      refine Qnt.fork [12, 20] (cls hB) (by kernel_rfl) (by simp) ⟨?_, ?_, trivial⟩
      · refine Qnt.by_op rfl (by kernel_rfl) ?_
        obtain ⟨v2, K, hv, hKe, cc2, hK2, HN⟩ := HCN.out v
        have hB2 := hB.trans (HN.out.mono hB.size)
        have ZD2 := hide (ZD.out.below HN.out)
        go_wp2_with fail
        refine ⟨rfl, ?_⟩
        clear hv
        refine Qnt.takes [16] 4 _ _ _ (cls hB2) (by kernel_rfl) ?_
        simp only [List.filterMap_cons, List.filterMap_nil, List.getElem?_toArray, List.getElem?_cons_succ, List.getElem?_cons_zero]
        change wpQuiet _ _ _ _ [_] _
        repeat (go_big_quiet_step (fail))
        refine wpQuiet_nil ?_
        try simp only [hKe]
        clear hKe
        refine recast (d' := #[true, true, true, true, true, true, true, true, true, true, true, true, true, true, true, true, true, false, true, true, false, true, true, true, true, true, true, true, true, true, true, true, true, true, true, false, true, false]) (by decide) ?_
        exact key111 v2 p K G hB2 HP cc2 hK2 ZD2 hG
      · refine Qnt.by_op rfl (by kernel_rfl) ?_
        go_wp2_with fail
        refine (HAM.out _).mono ?_
        rintro e v2 ⟨q, hq, rfl, hb⟩
        have HQ := hide hq
        clear hq
        have hB2 := hB.trans (hb.mono hB.size)
        have ZD2 := hide (ZD.out.below hb)
        clear hb
        go_wp2_with fail
        refine ⟨rfl, ?_⟩
        refine recast (d' := #[true, true, true, true, true, true, true, true, true, true, true, true, false, true, true, true, false, false, true, true, true, true, true, true, true, true, true, true, true, true, true, true, true, true, true, false, true, false]) (by decide) ?_
        exact key201 v2 p q G hB2 HP HQ ZD2 hG
    · intro key200 key021 key111 key120 key201 key210 key121 key211 key220 key221 v p K hB HP cc hK
      refine Qnt.fork [17, 20, 36] (cls hB) (by kernel_rfl) (by simp) ⟨?_, ?_, ?_, trivial⟩
      · refine Qnt.by_op rfl (by kernel_rfl) ?_
        go_wp2_with fail
        refine ⟨rfl, ?_⟩
        refine recast (d' := #[true, true, true, true, true, true, true, true, true, true, true, true, true, true, true, true, true, true, true, true, false, true, true, true, true, true, true, true, true, true, true, true, true, true, true, false, false, false]) (by decide) ?_
        exact key120 v p K hB HP
      · refine Qnt.by_op rfl (by kernel_rfl) ?_
        go_wp2_with fail
        refine (HAM.out _).mono ?_
        rintro e v2 ⟨q, hq, rfl, hb⟩
        have HQ := hide hq
        clear hq
        have hB2 := hB.trans (hb.mono hB.size)
        have cc2 := (hb.cell (p := ⟨K, z2 % 4, none⟩) hK).trans cc
        have hK2 := Nat.lt_of_lt_of_le hK hb.size
        clear hb cc hK
        go_wp2_with fail
        refine ⟨rfl, ?_⟩
        refine recast (d' := #[true, true, true, true, true, true, true, true, true, true, true, true, true, true, true, true, true, false, true, true, true, true, true, true, true, true, true, true, true, true, true, true, true, true, true, false, false, false]) (by decide) ?_
        exact key210 v2 p q K hB2 HP HQ cc2 hK2
      · refine Qnt.by_op rfl (by kernel_rfl) ?_
        obtain ⟨v2, G, hv, hGe, ZD2, HN, hG2⟩ := HZN.out v hB.size
        have hB2 := hB.trans (HN.out.mono hB.size)
        have cc2 := (HN.out.cell (p := ⟨K, z2 % 4, none⟩) hK).trans cc
        have hK2 := Nat.lt_of_lt_of_le hK HN.out.size
        go_wp2_with fail
        refine ⟨rfl, ?_⟩
        clear hv
        try simp only [hGe]
        clear hGe
        refine recast (d' := #[true, true, true, true, true, true, true, true, true, true, true, true, true, true, true, true, true, false, true, true, false, true, true, true, true, true, true, true, true, true, true, true, true, true, true, false, true, false]) (by decide) ?_
        exact key111 v2 p K G hB2 HP cc2 hK2 ZD2 hG2
    · intro key021 key111 key120 key201 key210 key121 key211 key220 key221 v p q hB HP HQ
      refine Qnt.fork [12, 36] (cls hB) (by kernel_rfl) (by simp) ⟨?_, ?_, trivial⟩
      · refine Qnt.by_op rfl (by kernel_rfl) ?_
        obtain ⟨v2, K, hv, hKe, cc2, hK2, HN⟩ := HCN.out v
        have hB2 := hB.trans (HN.out.mono hB.size)
        go_wp2_with fail
        refine ⟨rfl, ?_⟩
        clear hv
        refine Qnt.takes [16] 4 _ _ _ (cls hB2) (by kernel_rfl) ?_
        simp only [List.filterMap_cons, List.filterMap_nil, List.getElem?_toArray, List.getElem?_cons_succ, List.getElem?_cons_zero]
        change wpQuiet _ _ _ _ [_] _
        repeat (go_big_quiet_step (fail))
        refine wpQuiet_nil ?_
        try simp only [hKe]
        clear hKe
        refine recast (d' := #[true, true, true, true, true, true, true, true, true, true, true, true, true, true, true, true, true, false, true, true, true, true, true, true, true, true, true, true, true, true, true, true, true, true, true, false, false, false]) (by decide) ?_
        exact key210 v2 p q K hB2 HP HQ cc2 hK2
      · refine Qnt.by_op rfl (by kernel_rfl) ?_
        obtain ⟨v2, G, hv, hGe, ZD2, HN, hG2⟩ := HZN.out v hB.size
        have hB2 := hB.trans (HN.out.mono hB.size)
        go_wp2_with fail
        refine ⟨rfl, ?_⟩
        clear hv
        try simp only [hGe]
        clear hGe
        refine recast (d' := #[true, true, true, true, true, true, true, true, true, true, true, true, false, true, true, true, false, false, true, true, true, true, true, true, true, true, true, true, true, true, true, true, true, true, true, false, true, false]) (by decide) ?_
        exact key201 v2 p q G hB2 HP HQ ZD2 hG2
    · intro key111 key120 key201 key210 key121 key211 key220 key221 v K G hB ZD hG
      refine Qnt.fork [2] (cls hB) (by kernel_rfl) (by simp) ⟨?_, trivial⟩
      · refine Qnt.by_op rfl (by kernel_rfl) ?_
        go_wp2_with fail
        refine (HNM.out _).mono ?_
        rintro e v2 ⟨p, ⟨rfl, hp1, hp2⟩, hb⟩
        have HP := hide (And.intro hp1 hp2)
        have hz : p.size ≤ 3 := hp1
        clear hp1 hp2
        have hB2 := hB.trans (hb.mono hB.size)
        have ZD2 := hide (ZD.out.below hb)
        clear hb
        go_wp2_with fail
        refine ⟨rfl, ?_⟩
        refine recast (d' := #[true, true, true, true, true, true, true, true, true, true, true, true, true, true, true, true, true, true, true, true, false, true, true, true, true, true, true, true, true, true, true, true, true, true, true, false, true, false]) (by decide) ?_
        exact key121 v2 p K G hB2 HP ZD2 hG
    · intro key120 key201 key210 key121 key211 key220 key221 v p K G hB HP cc hK ZD hG
      refine Qnt.fork [17, 20] (cls hB) (by kernel_rfl) (by simp) ⟨?_, ?_, trivial⟩
      · refine Qnt.by_op rfl (by kernel_rfl) ?_
        go_wp2_with fail
        refine ⟨rfl, ?_⟩
        refine recast (d' := #[true, true, true, true, true, true, true, true, true, true, true, true, true, true, true, true, true, true, true, true, false, true, true, true, true, true, true, true, true, true, true, true, true, true, true, false, true, false]) (by decide) ?_
        exact key121 v p K G hB HP ZD hG
      · refine Qnt.by_op rfl (by kernel_rfl) ?_
        go_wp2_with fail
        refine (HAM.out _).mono ?_
        rintro e v2 ⟨q, hq, rfl, hb⟩
        have HQ := hide hq
        clear hq
        have hB2 := hB.trans (hb.mono hB.size)
        have cc2 := (hb.cell (p := ⟨K, z2 % 4, none⟩) hK).trans cc
        have hK2 := Nat.lt_of_lt_of_le hK hb.size
        have ZD2 := hide (ZD.out.below hb)
        clear hb cc hK
        go_wp2_with fail
        refine ⟨rfl, ?_⟩
        refine recast (d' := #[true, true, true, true, true, true, true, true, true, true, true, true, true, true, true, true, true, false, true, true, true, true, true, true, true, true, true, true, true, true, true, true, true, true, true, false, true, false]) (by decide) ?_
        exact key211 v2 p q K G hB2 HP HQ cc2 hK2 ZD2 hG
    · intro key201 key210 key121 key211 key220 key221 v p K hB HP
      refine Qnt.fork [20, 36] (cls hB) (by kernel_rfl) (by simp) ⟨?_, ?_, trivial⟩
      · refine Qnt.by_op rfl (by kernel_rfl) ?_
        go_wp2_with fail
        refine (HAM.out _).mono ?_
        rintro e v2 ⟨q, hq, rfl, hb⟩
        have HQ := hide hq
        clear hq
        have hB2 := hB.trans (hb.mono hB.size)
        clear hb
        go_wp2_with fail
        refine ⟨rfl, ?_⟩
        refine Qnt.takes [35] 2 _ _ _ (cls hB2) (by kernel_rfl) ?_
        simp only [List.filterMap_cons, List.filterMap_nil, List.getElem?_toArray, List.getElem?_cons_succ, List.getElem?_cons_zero]
        change wpQuiet _ _ _ _ [_] _
        repeat (go_big_quiet_step (fail))
        refine wpQuiet_nil ?_
        refine recast (d' := #[true, true, true, true, true, true, true, true, true, true, true, true, true, true, true, true, true, true, true, true, true, true, true, true, true, true, true, true, true, true, true, true, true, true, true, true, false, false]) (by decide) ?_
        exact key220 v2 p q K hB2 HP HQ
      · refine Qnt.by_op rfl (by kernel_rfl) ?_
        obtain ⟨v2, G, hv, hGe, ZD2, HN, hG2⟩ := HZN.out v hB.size
        have hB2 := hB.trans (HN.out.mono hB.size)
        go_wp2_with fail
        refine ⟨rfl, ?_⟩
        clear hv
        try simp only [hGe]
        clear hGe
        refine recast (d' := #[true, true, true, true, true, true, true, true, true, true, true, true, true, true, true, true, true, true, true, true, false, true, true, true, true, true, true, true, true, true, true, true, true, true, true, false, true, false]) (by decide) ?_
        exact key121 v2 p K G hB2 HP ZD2 hG2
    · intro key210 key121 key211 key220 key221 v p q G hB HP HQ ZD hG
      refine Qnt.fork [12] (cls hB) (by kernel_rfl) (by simp) ⟨?_, trivial⟩
      · refine Qnt.by_op rfl (by kernel_rfl) ?_
        obtain ⟨v2, K, hv, hKe, cc2, hK2, HN⟩ := HCN.out v
        have hB2 := hB.trans (HN.out.mono hB.size)
        have ZD2 := hide (ZD.out.below HN.out)
        go_wp2_with fail
        refine ⟨rfl, ?_⟩
        clear hv
        refine Qnt.takes [16] 3 _ _ _ (cls hB2) (by kernel_rfl) ?_
        simp only [List.filterMap_cons, List.filterMap_nil, List.getElem?_toArray, List.getElem?_cons_succ, List.getElem?_cons_zero]
        change wpQuiet _ _ _ _ [_] _
        repeat (go_big_quiet_step (fail))
        refine wpQuiet_nil ?_
        try simp only [hKe]
        clear hKe
        refine recast (d' := #[true, true, true, true, true, true, true, true, true, true, true, true, true, true, true, true, true, false, true, true, true, true, true, true, true, true, true, true, true, true, true, true, true, true, true, false, true, false]) (by decide) ?_
        exact key211 v2 p q K G hB2 HP HQ cc2 hK2 ZD2 hG
    · intro key121 key211 key220 key221 v p q K hB HP HQ cc hK
      refine Qnt.fork [17, 36] (cls hB) (by kernel_rfl) (by simp) ⟨?_, ?_, trivial⟩
      · refine Qnt.by_op rfl (by kernel_rfl) ?_
        go_wp2_with fail
        refine ⟨rfl, ?_⟩
        refine Qnt.takes [35] 2 _ _ _ (cls hB) (by kernel_rfl) ?_
        simp only [List.filterMap_cons, List.filterMap_nil, List.getElem?_toArray, List.getElem?_cons_succ, List.getElem?_cons_zero]
        change wpQuiet _ _ _ _ [_] _
        repeat (go_big_quiet_step (fail))
        refine wpQuiet_nil ?_
        refine recast (d' := #[true, true, true, true, true, true, true, true, true, true, true, true, true, true, true, true, true, true, true, true, true, true, true, true, true, true, true, true, true, true, true, true, true, true, true, true, false, false]) (by decide) ?_
        exact key220 v p q K hB HP HQ
      · refine Qnt.by_op rfl (by kernel_rfl) ?_
        obtain ⟨v2, G, hv, hGe, ZD2, HN, hG2⟩ := HZN.out v hB.size
        have hB2 := hB.trans (HN.out.mono hB.size)
        have cc2 := (HN.out.cell (p := ⟨K, z2 % 4, none⟩) hK).trans cc
        have hK2 := Nat.lt_of_lt_of_le hK HN.out.size
        go_wp2_with fail
        refine ⟨rfl, ?_⟩
        clear hv
        try simp only [hGe]
        clear hGe
        refine recast (d' := #[true, true, true, true, true, true, true, true, true, true, true, true, true, true, true, true, true, false, true, true, true, true, true, true, true, true, true, true, true, true, true, true, true, true, true, false, true, false]) (by decide) ?_
        exact key211 v2 p q K G hB2 HP HQ cc2 hK2 ZD2 hG2
    · intro key211 key220 key221 v p K G hB HP ZD hG
      refine Qnt.fork [20] (cls hB) (by kernel_rfl) (by simp) ⟨?_, trivial⟩
      · refine Qnt.by_op rfl (by kernel_rfl) ?_
        go_wp2_with fail
        refine (HAM.out _).mono ?_
        rintro e v2 ⟨q, hq, rfl, hb⟩
        have HQ := hide hq
        clear hq
        have hB2 := hB.trans (hb.mono hB.size)
        have ZD2 := hide (ZD.out.below hb)
        clear hb
        go_wp2_with fail
        refine ⟨rfl, ?_⟩
        refine Qnt.takes [35] 1 _ _ _ (cls hB2) (by kernel_rfl) ?_
        simp only [List.filterMap_cons, List.filterMap_nil, List.getElem?_toArray, List.getElem?_cons_succ, List.getElem?_cons_zero]
        change wpQuiet _ _ _ _ [_] _
        repeat (go_big_quiet_step (fail))
        refine wpQuiet_nil ?_
        refine recast (d' := #[true, true, true, true, true, true, true, true, true, true, true, true, true, true, true, true, true, true, true, true, true, true, true, true, true, true, true, true, true, true, true, true, true, true, true, true, true, false]) (by decide) ?_
        exact key221 v2 p q K G hB2 HP HQ ZD2 hG
    · intro key220 key221 v p q K G hB HP HQ cc hK ZD hG
      refine Qnt.fork [17] (cls hB) (by kernel_rfl) (by simp) ⟨?_, trivial⟩
      · refine Qnt.by_op rfl (by kernel_rfl) ?_
        go_wp2_with fail
        refine ⟨rfl, ?_⟩
        refine Qnt.takes [35] 1 _ _ _ (cls hB) (by kernel_rfl) ?_
        simp only [List.filterMap_cons, List.filterMap_nil, List.getElem?_toArray, List.getElem?_cons_succ, List.getElem?_cons_zero]
        change wpQuiet _ _ _ _ [_] _
        repeat (go_big_quiet_step (fail))
        refine wpQuiet_nil ?_
        refine recast (d' := #[true, true, true, true, true, true, true, true, true, true, true, true, true, true, true, true, true, true, true, true, true, true, true, true, true, true, true, true, true, true, true, true, true, true, true, true, true, false]) (by decide) ?_
        exact key221 v p q K G hB HP HQ ZD hG
    · intro key221 v p q K hB HP HQ
      refine Qnt.fork [36] (cls hB) (by kernel_rfl) (by simp) ⟨?_, trivial⟩
      · refine Qnt.by_op rfl (by kernel_rfl) ?_
        obtain ⟨v2, G, hv, hGe, ZD2, HN, hG2⟩ := HZN.out v hB.size
        have hB2 := hB.trans (HN.out.mono hB.size)
        go_wp2_with fail
        refine ⟨rfl, ?_⟩
        clear hv
        try simp only [hGe]
        clear hGe
        refine recast (d' := #[true, true, true, true, true, true, true, true, true, true, true, true, true, true, true, true, true, true, true, true, true, true, true, true, true, true, true, true, true, true, true, true, true, true, true, true, true, false]) (by decide) ?_
        exact key221 v2 p q K G hB2 HP HQ ZD2 hG2
    · intro v p q K G hB HP HQ ZD hG
      refine Qnt.fork [37] (cls hB) (by kernel_rfl) (by simp) ⟨?_, trivial⟩
      refine Qnt.by_op rfl (by kernel_rfl) ?_
      have c0 := ZD.out.cell (i := 0) rfl
      have f0 := ZD.out.frozen 0
      have c1 := ZD.out.cell (i := 1) rfl
      have f1 := ZD.out.frozen 1
      have c2 := ZD.out.cell (i := 2) rfl
      have f2 := ZD.out.frozen 2
      have c3 := ZD.out.cell (i := 3) rfl
      have f3 := ZD.out.frozen 3
      have c4 := ZD.out.cell (i := 4) rfl
      have f4 := ZD.out.frozen 4
      have c5 := ZD.out.cell (i := 5) rfl
      have f5 := ZD.out.frozen 5
      have c6 := ZD.out.cell (i := 6) rfl
      have f6 := ZD.out.frozen 6
      have c7 := ZD.out.cell (i := 7) rfl
      have f7 := ZD.out.frozen 7
      have c8 := ZD.out.cell (i := 8) rfl
      have f8 := ZD.out.frozen 8
      have c9 := ZD.out.cell (i := 9) rfl
      have f9 := ZD.out.frozen 9
      have c10 := ZD.out.cell (i := 10) rfl
      have f10 := ZD.out.frozen 10
      have c11 := ZD.out.cell (i := 11) rfl
      have f11 := ZD.out.frozen 11
      have c12 := ZD.out.cell (i := 12) rfl
      have f12 := ZD.out.frozen 12
      have c13 := ZD.out.cell (i := 13) rfl
      have f13 := ZD.out.frozen 13
      have HF := hide (set14 ZD.out rfl (.string p) (.int .i64 ((z1 : Int) % 4)) (.int .i64 ((z1 : Int) / 4 % 9)) (.string cd) (.bool (negB q)) (.string (bs (nm q))) (.string (dstr q)) (.int .i64 ((z4 : Int) % 50)) (.int .i64 ((z5 : Int) % 5)) (.bool false) (.string ⟨#[]⟩) (.string ⟨#[]⟩) (.int .i64 0) (.int .i64 ((z5 : Int) / 5 % 4 - 1)))
      have hBF := bel14 hB (K := G) hG (.string p) (.int .i64 ((z1 : Int) % 4)) (.int .i64 ((z1 : Int) / 4 % 9)) (.string cd) (.bool (negB q)) (.string (bs (nm q))) (.string (dstr q)) (.int .i64 ((z4 : Int) % 50)) (.int .i64 ((z5 : Int) % 5)) (.bool false) (.string ⟨#[]⟩) (.string ⟨#[]⟩) (.int .i64 0) (.int .i64 ((z5 : Int) / 5 % 4 - 1))
      have HG := hide (gd_base HP.out.2 HCD.out HQ.out (e := (z1 : Int) % 4) (c := (z1 : Int) / 4 % 9) (i := (z4 : Int) % 50) (r := (z5 : Int) % 5) (s := (z5 : Int) / 5 % 4 - 1) (by omega) (by omega) (by omega) (by omega) (by omega))
      go_wp2_with fail
      refine ⟨rfl, ?_⟩
      refine Qnt.by_end (cls hBF) (by kernel_rfl) ?_
      go_wp2_with fail
      go_meet
      case rel => exact ⟨G, ⟨p, (z1 : Int) % 4, (z1 : Int) / 4 % 9, cd, negB q, bs (nm q), dstr q, (z4 : Int) % 50, (z5 : Int) % 5, false, ⟨#[]⟩, ⟨#[]⟩, 0, (z5 : Int) / 5 % 4 - 1⟩, rfl, HF, HG, hide hBF, hG⟩
  case rest =>
    obtain ⟨K, d, rfl, HD, HG, HBD, hK⟩ := hcut
    have hsv := HSV.out
    have HXD := hide (HXV.out.below HBD.out)
    have HRD := hide (HR.out.below HBD.out)
    have hKw := HD.out.lt
    have HBT := hide (HBW.out.trans (HBD.out.mono (by omega)))
    have hsx := HSX.out
    have hKR : K ≠ X.heap.size := by omega
    have hwX : w.heap.size ≤ X.heap.size := by omega
    have hKX : K ≠ w.heap.size := by omega
    have hX1 : w.heap.size ≤ K := by omega
    clear hsv hsx hK m0 m1 m2 m3 m4 m5 x0 x1 x2 x3 x4 x5 hV hX hlx
    have y2 := HXD.out.cell (i := 2) rfl
    have y4 := HXD.out.cell (i := 4) rfl
    by_cases hz : z2 % 3 = 0
    · have hb : (((z2 : Int) % 3) == 0) = true := by rw [beq_iff_eq]; omega
      obtain ⟨a, ha⟩ : ∃ a, 1 + z2 / 4 % 9 = a := ⟨_, rfl⟩
      have ha' : 1 ≤ a ∧ a ≤ 9 := by omega
      have HRT := Lib.hid (fun w => ratio_any a 100 w (by omega) (by omega) (by omega))
      unfold RPost at HRT
      rw [show ((a : Nat) : Int) = 1 + (z2 : Int) / 4 % 9 by omega] at HRT
      have HGR := hide (gd_rate HG.out ha' (f := (z4 : Int) / 50 % 60) (by omega))
      generalize mk false a 100 = q at *
      clear ha ha' hz
      go_wp2_with fail
      refine (HRT.out _).mono ?_
      rintro e w3 ⟨rfl, hb3⟩
      rw [enc_open]
      have HD3 := hide (HD.out.below hb3)
      have HX3 := hide (HXD.out.below hb3)
      have HR3 := hide (HRD.out.below hb3)
      have HB3 := hide (HBT.out.trans (hb3.mono HBT.out.size))
      have f9 := HD3.out.frozen 9
      have f10 := HD3.out.frozen 10
      have f11 := HD3.out.frozen 11
      have c9 := HD3.out.cell (i := 9) rfl
      have c10 := HD3.out.cell (i := 10) rfl
      have c11 := HD3.out.cell (i := 11) rfl
      obtain ⟨V4, hV4, HD4, HX4, HR4, HB4⟩ : ∃ V4, ((w3.setCell ⟨K, 9, none⟩ (.bool (negB q))).setCell ⟨K, 10, none⟩ (.string (bs (nm q)))).setCell ⟨K, 11, none⟩ (.string (dstr q)) = V4 ∧ Hid (BlkT V4 K 34 ({ d with rneg := negB q, rnum := bs (nm q), rden := dstr q } : Dc).vals) ∧ Hid (Blk V4 w.heap.size [.int .u16 (z0 : Int), .int .u16 (z1 : Int), .int .u16 (z2 : Int), .int .u16 (z3 : Int), .int .u16 (z4 : Int), .int .u16 (z5 : Int)]) ∧ Hid (BlkT V4 X.heap.size 34 [.string ⟨#[]⟩, .int .i64 0, .int .i64 0, .string ⟨#[]⟩, .bool false, .string ⟨#[]⟩, .string ⟨#[]⟩, .int .i64 0, .int .i64 0, .bool false, .string ⟨#[]⟩, .string ⟨#[]⟩, .int .i64 0, .int .i64 0]) ∧ Hid (Below w.heap.size w V4) :=
        ⟨_, rfl, ((HD3.out.set 9 (.bool (negB q))).set 10 (.string (bs (nm q)))).set 11 (.string (dstr q)), ((HX3.out.other hKX 9 _).other hKX 10 _).other hKX 11 _, set_cell (set_cell (set_cell HR3.out hKR.symm _) hKR.symm _) hKR.symm _, ((HB3.out.setCell (p := ⟨K, 9, none⟩) hX1 _).setCell (p := ⟨K, 10, none⟩) hX1 _).setCell (p := ⟨K, 11, none⟩) hX1 _⟩
      have f12 := HD4.out.frozen 12
      have c12 := HD4.out.cell (i := 12) rfl
      have u4 := HX4.out.cell (i := 4) rfl
      obtain ⟨V5, hV5, HD5, HR5, HB5⟩ : ∃ V5, V4.setCell ⟨K, 12, none⟩ (.int .i64 ((z4 : Int) / 50 % 60)) = V5 ∧ Hid (BlkT V5 K 34 ({ d with rneg := negB q, rnum := bs (nm q), rden := dstr q, rfrom := (z4 : Int) / 50 % 60 } : Dc).vals) ∧ Hid (BlkT V5 X.heap.size 34 [.string ⟨#[]⟩, .int .i64 0, .int .i64 0, .string ⟨#[]⟩, .bool false, .string ⟨#[]⟩, .string ⟨#[]⟩, .int .i64 0, .int .i64 0, .bool false, .string ⟨#[]⟩, .string ⟨#[]⟩, .int .i64 0, .int .i64 0]) ∧ Hid (Below w.heap.size w V5) :=
        ⟨_, rfl, HD4.out.set 12 _, set_cell HR4.out hKR.symm _, HB4.out.setCell (p := ⟨K, 12, none⟩) hX1 _⟩
      generalize ({ d with rneg := negB q, rnum := bs (nm q), rden := dstr q, rfrom := (z4 : Int) / 50 % 60 } : Dc) = d5 at *
      obtain ⟨a0, a1, a2, a3, a4, a5, a6, a7, a8, a9, a10, a11, a12, a13⟩ := doc_at HD5.out
      have e0 := HR5.out.cell (i := 0) rfl
      have g0 := HR5.out.frozen 0
      have e1 := HR5.out.cell (i := 1) rfl
      have g1 := HR5.out.frozen 1
      have e2 := HR5.out.cell (i := 2) rfl
      have g2 := HR5.out.frozen 2
      have e3 := HR5.out.cell (i := 3) rfl
      have g3 := HR5.out.frozen 3
      have e4 := HR5.out.cell (i := 4) rfl
      have g4 := HR5.out.frozen 4
      have e5 := HR5.out.cell (i := 5) rfl
      have g5 := HR5.out.frozen 5
      have e6 := HR5.out.cell (i := 6) rfl
      have g6 := HR5.out.frozen 6
      have e7 := HR5.out.cell (i := 7) rfl
      have g7 := HR5.out.frozen 7
      have e8 := HR5.out.cell (i := 8) rfl
      have g8 := HR5.out.frozen 8
      have e9 := HR5.out.cell (i := 9) rfl
      have g9 := HR5.out.frozen 9
      have e10 := HR5.out.cell (i := 10) rfl
      have g10 := HR5.out.frozen 10
      have e11 := HR5.out.cell (i := 11) rfl
      have g11 := HR5.out.frozen 11
      have e12 := HR5.out.cell (i := 12) rfl
      have g12 := HR5.out.frozen 12
      have e13 := HR5.out.cell (i := 13) rfl
      have g13 := HR5.out.frozen 13
      go_wp2_with fail
      refine bodyPost_ret (results_doc (d := d5) rfl _ rfl (set14 HR5.out rfl (.string d5.id) (.int .i64 d5.est) (.int .i64 d5.cred) (.string d5.code) (.bool d5.neg) (.string d5.num) (.string d5.den) (.int .i64 d5.inc) (.int .i64 d5.rank) (.bool d5.rneg) (.string d5.rnum) (.string d5.rden) (.int .i64 d5.rfrom) (.int .i64 d5.sec))) rfl ?_
      exact ⟨d5, ⟨rfl, HGR.out⟩, bel14 HB5.out hwX (.string d5.id) (.int .i64 d5.est) (.int .i64 d5.cred) (.string d5.code) (.bool d5.neg) (.string d5.num) (.string d5.den) (.int .i64 d5.inc) (.int .i64 d5.rank) (.bool d5.rneg) (.string d5.rnum) (.string d5.rden) (.int .i64 d5.rfrom) (.int .i64 d5.sec)⟩
    · have hb : (((z2 : Int) % 3) == 0) = false := by rw [beq_eq_false_iff_ne]; omega
      have HD5 := HD
      have HR5 := HRD
      have HB5 := HBT
      have HGR := HG
      obtain ⟨d5, hd5⟩ : ∃ d5, d = d5 := ⟨_, rfl⟩
      rw [hd5] at HD5 HGR
      obtain ⟨a0, a1, a2, a3, a4, a5, a6, a7, a8, a9, a10, a11, a12, a13⟩ := doc_at HD5.out
      have e0 := HR5.out.cell (i := 0) rfl
      have g0 := HR5.out.frozen 0
      have e1 := HR5.out.cell (i := 1) rfl
      have g1 := HR5.out.frozen 1
      have e2 := HR5.out.cell (i := 2) rfl
      have g2 := HR5.out.frozen 2
      have e3 := HR5.out.cell (i := 3) rfl
      have g3 := HR5.out.frozen 3
      have e4 := HR5.out.cell (i := 4) rfl
      have g4 := HR5.out.frozen 4
      have e5 := HR5.out.cell (i := 5) rfl
      have g5 := HR5.out.frozen 5
      have e6 := HR5.out.cell (i := 6) rfl
      have g6 := HR5.out.frozen 6
      have e7 := HR5.out.cell (i := 7) rfl
      have g7 := HR5.out.frozen 7
      have e8 := HR5.out.cell (i := 8) rfl
      have g8 := HR5.out.frozen 8
      have e9 := HR5.out.cell (i := 9) rfl
      have g9 := HR5.out.frozen 9
      have e10 := HR5.out.cell (i := 10) rfl
      have g10 := HR5.out.frozen 10
      have e11 := HR5.out.cell (i := 11) rfl
      have g11 := HR5.out.frozen 11
      have e12 := HR5.out.cell (i := 12) rfl
      have g12 := HR5.out.frozen 12
      have e13 := HR5.out.cell (i := 13) rfl
      have g13 := HR5.out.frozen 13
      go_wp2_with fail
      refine bodyPost_ret (results_doc (d := d5) rfl _ rfl (set14 HR5.out rfl (.string d5.id) (.int .i64 d5.est) (.int .i64 d5.cred) (.string d5.code) (.bool d5.neg) (.string d5.num) (.string d5.den) (.int .i64 d5.inc) (.int .i64 d5.rank) (.bool d5.rneg) (.string d5.rnum) (.string d5.rden) (.int .i64 d5.rfrom) (.int .i64 d5.sec))) rfl ?_
      exact ⟨d5, ⟨rfl, HGR.out⟩, bel14 HB5.out hwX (.string d5.id) (.int .i64 d5.est) (.int .i64 d5.cred) (.string d5.code) (.bool d5.neg) (.string d5.num) (.string d5.den) (.int .i64 d5.inc) (.int .i64 d5.rank) (.bool d5.rneg) (.string d5.rnum) (.string d5.rden) (.int .i64 d5.rfrom) (.int .i64 d5.sec)⟩
end Go.Proofs.YtpbgmpjnfndfjaaGreatDoor.TgN
