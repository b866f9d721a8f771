/- TwQ, TwR, TwS, TwT, TwU, in one text. -/
import Derived.Test.YtpbgmpjnfndfjaaGreatDoorTWA
import Derived.Test.YtpbgmpjnfndfjaaGreatDoorTPO
import Derived.Laws.MakeOwn
namespace Go.Proofs.YtpbgmpjnfndfjaaGreatDoor.TwQ
open Go.RowKit Wd RnA RnB RnW RnQ RnR RnP RoA RoC RoL RtA RtB RtC RpB RpC RpE RpF RpG RpH RnY RpI RpJ RpK RpL PqB PfD PfE TqA TwA TwB TwC TwD TwE TwF TwG TwH TwI TwJ TwK TwP TqB TpB TpC TpD TpT TpU
/-- a claim in memory: its holder, its rank, its amount -/
structure Cm where
  holder : Int
  rank : Int
  amt : Rat
def Cm.vals (x : Cm) : List Value := [.int .i64 x.holder, .int .i64 x.rank, .bool (negB x.amt), .string (bs (nm x.amt)), .string (dstr x.amt)]
theorem cm_len (x : Cm) : x.vals.length = 5 := rfl
def Cm.d (x : Cm) : TpO.ClaimD := ⟨x.holder, x.rank.toNat, x.amt⟩
/-- the four cells of a tier whose row is the value v -/
def tvv (x : Value × List Part) : List Value := x.1 :: qv3 (tsum x.2)
theorem tvv_len (x : Value × List Part) : (tvv x).length = 4 := rfl
theorem tier_info : (Tryz.prog.info? 145).map (fun i => (i.zero, i.size, i.bytes)) = some (some (.agg #[.slice none 0 0, .bool false, .string ⟨#[]⟩, .string ⟨#[]⟩]), 4, 64) := by kernel_rfl
def T0 : List (Value × List Part) := List.replicate 8 (.slice none 0 0, [])
theorem made8a : madeCells #[.slice none 0 0, .bool false, .string ⟨#[]⟩, .string ⟨#[]⟩] (8 * 4) = #[.slice none 0 0, .bool false, .string ⟨#[]⟩, .string ⟨#[]⟩, .slice none 0 0, .bool false, .string ⟨#[]⟩, .string ⟨#[]⟩, .slice none 0 0, .bool false, .string ⟨#[]⟩, .string ⟨#[]⟩, .slice none 0 0, .bool false, .string ⟨#[]⟩, .string ⟨#[]⟩, .slice none 0 0, .bool false, .string ⟨#[]⟩, .string ⟨#[]⟩, .slice none 0 0, .bool false, .string ⟨#[]⟩, .string ⟨#[]⟩, .slice none 0 0, .bool false, .string ⟨#[]⟩, .string ⟨#[]⟩, .slice none 0 0, .bool false, .string ⟨#[]⟩, .string ⟨#[]⟩] := by kernel_rfl
theorem made8 : madeCells #[.slice none 0 0, .bool false, .string ⟨#[]⟩, .string ⟨#[]⟩] (8 * 4) = (T0.flatMap tvv).toArray := by
  have e : tvv (.slice none 0 0, []) = [.slice none 0 0, .bool false, .string ⟨#[]⟩, .string ⟨#[]⟩] := by
    show Value.slice none 0 0 :: qv3 0 = _
    rw [qv3_zero]
  have e2 : T0.flatMap tvv = [.slice none 0 0, .bool false, .string ⟨#[]⟩, .string ⟨#[]⟩, .slice none 0 0, .bool false, .string ⟨#[]⟩, .string ⟨#[]⟩, .slice none 0 0, .bool false, .string ⟨#[]⟩, .string ⟨#[]⟩, .slice none 0 0, .bool false, .string ⟨#[]⟩, .string ⟨#[]⟩, .slice none 0 0, .bool false, .string ⟨#[]⟩, .string ⟨#[]⟩, .slice none 0 0, .bool false, .string ⟨#[]⟩, .string ⟨#[]⟩, .slice none 0 0, .bool false, .string ⟨#[]⟩, .string ⟨#[]⟩, .slice none 0 0, .bool false, .string ⟨#[]⟩, .string ⟨#[]⟩] := by
    unfold T0
    simp only [List.replicate_succ, List.replicate_zero, List.flatMap_cons, List.flatMap_nil, e, List.cons_append, List.nil_append]
  rw [e2]
  exact made8a
theorem lad_under : Tryz.prog.underlying 108 = some (.slice 145) := by kernel_rfl
theorem make8 (w : World) : (Instr.makeSlice 108 (.int .i64 8) (.int .i64 8)).run Tryz.prog w = .ok (.slice (some ⟨w.heap.size, 0, none⟩) 8 8) (w.alloc (.cells (T0.flatMap tvv).toArray 145)) := by
  obtain ⟨i0, hi, hz0, hz1, hz2⟩ := info_parts tier_info
  have h := run_make (P := Tryz.prog) w _ _ i0 _ lad_under hi hz0 .i64 .i64 8 8 (by omega) (by omega) (by rw [hz2]; omega) (by omega)
  rw [h, hz1, ← made8]
  rfl
/-- the eight tiers in block T, each with a row of its own at B or behind -/
structure Lad8 (w : World) (B T : Nat) (st : List (Value × List Part)) : Prop where
  blk : BlkT w T 145 (st.flatMap tvv)
  own : ∀ (k : Nat) (x : Value × List Part), st[k]? = some x → w.ownsRow B 205 4 x.1 x.2.length (x.2.flatMap pv)
  dis : ∀ (j k : Nat) (x y : Value × List Part), j ≠ k → st[j]? = some x → st[k]? = some y → x.1.ownBlock = none ∨ x.1.ownBlock ≠ y.1.ownBlock
theorem Lad8.ks {S : Nat → Prop} {w w' : World} {B T : Nat} {st : List (Value × List Part)} (h : Lad8 w B T st) (hk : Ks S w w') (hT : ¬ S T) (hB : ∀ k, B ≤ k → k < w.heap.size → ¬ S k) : Lad8 w' B T st :=
  ⟨hk.blk h.blk hT, fun k x hx => own_ks (h.own k x hx) hk (fun g hg => hB g ((h.own k x hx).lt g hg).1 ((h.own k x hx).lt g hg).2), h.dis⟩
theorem Lad8.below {w w' : World} {B T : Nat} {st : List (Value × List Part)} (h : Lad8 w B T st) (hb : Below w.heap.size w w') : Lad8 w' B T st :=
  ⟨h.blk.below hb, fun k x hx => TqA.own_below (h.own k x hx) hb, h.dis⟩
theorem tsum_snoc (l : List Part) (p : Part) : tsum (l ++ [p]) = tsum l + p.2 := by
  unfold tsum
  induction l with
  | nil => simp [sumR]; try grind
  | cons x l ih => simp [sumR] at *; grind
theorem tvv_set : ∀ (st : List (Value × List Part)) (r : Nat) (v : Value) (l : List Part), r < st.length →
    ((((st.flatMap tvv).set (r * 4) v).set (r * 4 + 1) (.bool (negB (tsum l)))).set (r * 4 + 2) (.string (bs (nm (tsum l))))).set (r * 4 + 3) (.string (dstr (tsum l))) = (st.set r (v, l)).flatMap tvv
  | [], _, _, _, h => by simp at h
  | x :: st, 0, v, l, _ => by
    simp only [List.flatMap_cons, List.set_cons_zero, tvv, qv3, List.cons_append, List.nil_append, Nat.zero_mul, Nat.zero_add, List.set_cons_succ]
  | x :: st, r + 1, v, l, h => by
    have ih := tvv_set st r v l (by simpa using h)
    have e : (r + 1) * 4 = r * 4 + 1 + 1 + 1 + 1 := by omega
    rw [List.set_cons_succ, List.flatMap_cons, List.flatMap_cons, ← ih, e]
    simp only [tvv, qv3, List.cons_append, List.nil_append, List.set_cons_succ]
/-- a part is added to a tier -/
theorem Lad8.add {w w' : World} {B T r : Nat} {st : List (Value × List Part)} {v : Value} {l : List Part} {p : Part} {e : Ending} (h : Lad8 w B T st) (hr : st[r]? = some (v, l)) (hTB : T < B)
    (ha : TAddP B T (r * 4) (st.flatMap tvv) v l.length (l.flatMap pv) p (tsum l + p.2) w e w') : ∃ v', e = .returned (.tuple #[]) ∧ Lad8 w' B T (st.set r (v', l ++ [p])) ∧ Ks (fun k => k = T ∨ some k = v.ownBlock) w w' := by
  obtain ⟨v', he, ho, hob, hne, hb, hk⟩ := ha
  have hrl : r < st.length := (List.getElem?_eq_some_iff.1 hr).1
  rw [← tsum_snoc, tvv_set st r v' (l ++ [p]) hrl] at hb
  have hvo := (h.own r _ hr).lt
  have hvB : ∀ g, v.ownBlock = some g → B ≤ g := fun g hg => (hvo g hg).1
  refine ⟨v', he, ⟨hb, fun k x hx => ?_, fun j k x y hjk hx hy => ?_⟩, hk⟩
  · rw [List.getElem?_set] at hx
    split at hx
    · rename_i hrk
      injection hx with hx
      subst hx
      show w'.ownsRow B _ 4 v' (l ++ [p]).length ((l ++ [p]).flatMap pv)
      rw [List.length_append, List.flatMap_append]
      simpa using ho
    · rename_i hrk
      refine own_ks (h.own k x hx) hk (fun g hg hs => ?_)
      rcases hs with rfl | hs
      · have := ((h.own k x hx).lt g hg).1; omega
      · rcases h.dis k r x _ (by omega) hx hr with h0 | h0
        · rw [h0] at hg; cases hg
        · exact h0 (hg.trans hs)
  · have key : ∀ (i : Nat) (z : Value × List Part), r ≠ i → st[i]? = some z → z.1.ownBlock = none ∨ z.1.ownBlock ≠ v'.ownBlock := by
      intro i z hi hz
      rcases hob with h1 | ⟨g, h1, hg⟩
      · rw [h1]; exact h.dis i r z _ (by omega) hz hr
      · right
        intro e
        have := ((h.own i z hz).lt g (e.trans h1)).2
        omega
    rw [List.getElem?_set] at hx hy
    by_cases hj : r = j
    · rw [if_pos hj, if_pos hrl] at hx
      injection hx with hx
      subst hx
      rw [if_neg (by omega)] at hy
      rcases key k y (by omega) hy with h1 | h1
      · cases hv : v'.ownBlock with
        | none => exact .inl rfl
        | some g => right; rw [h1]; simp
      · exact .inr (fun e => h1 e.symm)
    · rw [if_neg hj] at hx
      by_cases hk' : r = k
      · rw [if_pos hk', if_pos hrl] at hy
        injection hy with hy
        subst hy
        exact key j x hj hx
      · rw [if_neg hk'] at hy
        exact h.dis j k x y hjk hx hy
theorem Lad8.at_ {w : World} {B T : Nat} {st : List (Value × List Part)} {L : List (List Part)} (h : Lad8 w B T st) (he : st.map (·.2) = L) (hl : L.length ≤ maxLen) (hp : ∀ t ∈ L, t.length ≤ maxLen) : LadAt w.heap.size w (some ⟨T, 0, none⟩) L := by
  refine ⟨hl, fun _ => ⟨T, 0, rfl, h.blk.lt, fun k t hk => ?_⟩⟩
  rw [← he, List.getElem?_map] at hk
  cases hs : st[k]? with
  | none => rw [hs] at hk; cases hk
  | some x =>
    rw [hs] at hk
    injection hk with hk
    subst hk
    have ho := h.own k x hs
    obtain ⟨A', c, hv⟩ := TqA.own_slice ho
    refine ⟨A', c, RowAt.toB (own_at pv_len (c := c) (by rw [← hv]; exact ho) (hp _ (by rw [← he]; exact List.mem_map_of_mem (List.mem_of_getElem? hs)))), fun j v hj => ?_⟩
    refine h.blk.cell ?_
    rw [Nat.zero_add, flat_get tvv_len st k x hs j (List.getElem?_eq_some_iff.1 hj).1]
    show (x.1 :: qv3 (tsum x.2))[j]? = _
    rw [hv]
    exact hj
theorem T0_lad {w : World} {B T : Nat} (h : BlkT w T 145 (T0.flatMap tvv)) : Lad8 w B T T0 := by
  refine ⟨h, fun k x hx => ?_, fun j k x y _ hx _ => ?_⟩
  · have := List.mem_of_getElem? hx
    unfold T0 at this
    obtain rfl := (List.mem_replicate.1 this).2
    exact World.ownsRow_nil _ _ _ _
  · have := List.mem_of_getElem? hx
    unfold T0 at this
    obtain rfl := (List.mem_replicate.1 this).2
    exact .inl rfl
end Go.Proofs.YtpbgmpjnfndfjaaGreatDoor.TwQ
namespace Go.Proofs.YtpbgmpjnfndfjaaGreatDoor.TwR
open Go.RowKit Wd RnA RnB RnW RnQ RnR RnP RoA RoC RoL RtA RtB RtC RpB RpC RpE RpF RpG RpH RnY RpI RpJ RpK RpL PqB PfD PfE TqA TwA TwB TwC TwD TwE TwF TwG TwH TwI TwJ TwK TwP TqB TwQ TpB TpC TpD TpO TpT TpU
theorem rankT_snoc (r : Nat) (l : List ClaimD) (c : ClaimD) : rankT r 0 (l ++ [c]) = if c.rank = r then rankT r 0 l ++ [((l.length : Int), c.amt)] else rankT r 0 l := by
  have h : ∀ (l : List ClaimD) (i : Nat), rankT r i (l ++ [c]) = if c.rank = r then rankT r i l ++ [(((i + l.length : Nat) : Int), c.amt)] else rankT r i l := by
    intro l
    induction l with
    | nil => intro i; simp [rankT]
    | cons x l ih =>
      intro i
      simp only [List.cons_append, rankT, ih (i + 1), List.length_cons]
      rw [show i + 1 + l.length = i + (l.length + 1) by omega]
      split <;> split <;> simp
  have := h l 0
  rw [Nat.zero_add] at this
  exact this
theorem ranks_snoc (l : List ClaimD) (c : ClaimD) (hc : c.rank < 8) : ranksOf (l ++ [c]) = (ranksOf l).set c.rank (rankT c.rank 0 l ++ [((l.length : Int), c.amt)]) := by
  unfold ranksOf
  apply List.ext_getElem?
  intro k
  rw [List.getElem?_set]
  simp only [List.getElem?_map, List.length_map, List.length_range]
  by_cases hk : k < 8
  · rw [List.getElem?_range hk]
    simp only [Option.map_some, rankT_snoc]
    by_cases h : c.rank = k
    · subst h
      rw [if_pos rfl, if_pos rfl, if_pos hc]
    · rw [if_neg h, if_neg h]
  · rw [if_neg (by omega), List.getElem?_eq_none (l := List.range 8) (by simp; omega)]
    rfl
theorem ranks_len (l : List ClaimD) : (ranksOf l).length = 8 := by simp [ranksOf]
theorem ranks_at (l : List ClaimD) (r : Nat) (hr : r < 8) : (ranksOf l)[r]? = some (rankT r 0 l) := by
  unfold ranksOf
  rw [List.getElem?_map, List.getElem?_range hr]
  rfl
theorem rankT_le (r : Nat) : ∀ (l : List ClaimD) (i : Nat), (rankT r i l).length ≤ l.length
  | [], _ => Nat.le_refl _
  | c :: l, i => by
    simp only [rankT]
    split
    · simpa using rankT_le r l (i + 1)
    · have := rankT_le r l (i + 1); simp; omega
def totC (l : List Cm) : Rat := sumR (l.map (·.amt))
theorem totC_snoc (l : List Cm) (x : Cm) : totC (l ++ [x]) = totC l + x.amt := by
  unfold totC
  rw [List.map_append, sumR_app]
  simp [sumR]
  try grind
/-- sizes that laying an estate out needs -/
structure LySz (cs : List Cm) : Prop where
  len : cs.length ≤ 100
  rk : ∀ c ∈ cs, 0 ≤ c.rank ∧ c.rank < 8
  amt : ∀ c ∈ cs, Lt c.amt 30000000000
  sum : ∀ k r, k ≤ cs.length → r < 8 → Lt (tsum (rankT r 0 ((cs.take k).map Cm.d))) 40000000000
  tot : ∀ k, k ≤ cs.length → Lt (totC (cs.take k)) 40000000000
theorem es_new (w : World) (a b c d e : Value) : ∃ V, w.alloc (.cells #[a, b, c, d, e] 45) = V ∧ Hid (BlkT V w.heap.size 45 [a, b, c, d, e]) ∧ Hid (Below w.heap.size w V) ∧ w.heap.size < V.heap.size :=
  ⟨_, rfl, heap_alloc_new w _, (Below.refl _ _).alloc (Nat.le_refl _) _, by simp⟩
theorem cm_new (w : World) (a b c d e : Value) : ∃ V, w.alloc (.cells #[a, b, c, d, e] 65) = V ∧ Hid (BlkT V w.heap.size 65 [a, b, c, d, e]) ∧ Hid (Below w.heap.size w V) ∧ w.heap.size < V.heap.size :=
  ⟨_, rfl, heap_alloc_new w _, (Below.refl _ _).alloc (Nat.le_refl _) _, by simp⟩
theorem ly_new (w : World) (a b c d e f : Value) : ∃ V, w.alloc (.cells #[a, b, c, d, e, f] 111) = V ∧ Hid (BlkT V w.heap.size 111 [a, b, c, d, e, f]) ∧ Hid (Below w.heap.size w V) ∧ w.heap.size < V.heap.size :=
  ⟨_, rfl, heap_alloc_new w _, (Below.refl _ _).alloc (Nat.le_refl _) _, by simp⟩
theorem ly_new2 {B : Nat} (w : World) (hB : B ≤ w.heap.size) : ∃ V K, w.alloc (.cells #[.int .i64 0, .slice none 0 0, .slice none 0 0, .bool false, .string ⟨#[]⟩, .string ⟨#[]⟩] 111) = V ∧ w.heap.size = K ∧ Hid (BlkT V K 111 [.int .i64 0, .slice none 0 0, .slice none 0 0, .bool false, .string ⟨#[]⟩, .string ⟨#[]⟩]) ∧ Hid (Below w.heap.size w V) ∧ B ≤ K :=
  ⟨_, _, rfl, rfl, heap_alloc_new w _, (Below.refl _ _).alloc (Nat.le_refl _) _, hB⟩
theorem ti_new2 {B : Nat} (zc : List Value) (w : World) (hB : B ≤ w.heap.size) : ∃ V K, w.alloc (.cells zc.toArray 145) = V ∧ w.heap.size = K ∧ Hid (BlkT V K 145 zc) ∧ Hid (Below w.heap.size w V) ∧ B ≤ K :=
  ⟨_, _, rfl, rfl, heap_alloc_new w _, (Below.refl _ _).alloc (Nat.le_refl _) _, hB⟩
theorem loadL {w : World} {k : Nat} {T : TypeId} {a b c d e f : Value} (h : BlkT w k T [a, b, c, d, e, f]) : (loadVar 111 ⟨k, 0, none⟩).run Tryz.prog w = .ok (.agg #[a, b, c, d, e, f]) w := by
  have a0 := h.cell (i := 0) rfl
  have a1 := h.cell (i := 1) rfl
  have a2 := h.cell (i := 2) rfl
  have a3 := h.cell (i := 3) rfl
  have a4 := h.cell (i := 4) rfl
  have a5 := h.cell (i := 5) rfl
  simp [loadVar, go_sem, a0, a1, a2, a3, a4, a5]
theorem results_lay {fn : Func} {p : Tmp} (h : fn.results = #[.cell p 111]) (tmps : Array Value) {w : World} {k : Nat} {T : TypeId} {a b c d e f : Value} (hp : tmps.getD p undef = .pointer (some ⟨k, 0, none⟩)) (hb : BlkT w k T [a, b, c, d, e, f]) :
    (results fn tmps).run Tryz.prog w = .ok (.agg #[a, b, c, d, e, f]) w := by
  have hp' : tmps[p]?.getD undef = .pointer (some ⟨k, 0, none⟩) := by simpa using hp
  simp [results, h, hp', asAddr, loadL hb]
theorem set6 {w : World} {K : Nat} {T : TypeId} {a0 b0 c0 d0 e0 f0 : Value} (H : BlkT w K T [a0, b0, c0, d0, e0, f0]) (a b c d e f : Value) : BlkT ((((((w.setCell ⟨K, 0, none⟩ a).setCell ⟨K, 1, none⟩ b).setCell ⟨K, 2, none⟩ c).setCell ⟨K, 3, none⟩ d).setCell ⟨K, 4, none⟩ e).setCell ⟨K, 5, none⟩ f) K T [a, b, c, d, e, f] := (((((H.set 0 a).set 1 b).set 2 c).set 3 d).set 4 e).set 5 f
theorem ks6 (w : World) (K : Nat) (a b c d e f : Value) : Ks (fun k => k = K) w ((((((w.setCell ⟨K, 0, none⟩ a).setCell ⟨K, 1, none⟩ b).setCell ⟨K, 2, none⟩ c).setCell ⟨K, 3, none⟩ d).setCell ⟨K, 4, none⟩ e).setCell ⟨K, 5, none⟩ f) :=
  ((((((Ks.refl (fun k => k = K) w).setCell (p := ⟨K, 0, none⟩) (.inl rfl) a).setCell (p := ⟨K, 1, none⟩) (.inl rfl) b).setCell (p := ⟨K, 2, none⟩) (.inl rfl) c).setCell (p := ⟨K, 3, none⟩) (.inl rfl) d).setCell (p := ⟨K, 4, none⟩) (.inl rfl) e).setCell (p := ⟨K, 5, none⟩) (.inl rfl) f
def LayP (cs : List Cm) (w : World) (e : Ending) (w' : World) : Prop := ∃ A, e = .returned (.agg #[.int .i64 cs.length, .slice A 8 8, .slice none 0 0, .bool (negB (totC cs)), .string (bs (nm (totC cs))), .string (dstr (totC cs))]) ∧ LadAt w'.heap.size w' A (ranksOf (cs.map Cm.d)) ∧ Below w.heap.size w w'
set_option maxHeartbeats 8000000 in
set_option maxRecDepth 100000 in
theorem lay_any {cs : List Cm} (hs : LySz cs) {A : Option Addr} {c : Nat} (w : World) (h : RowAt 5 Cm.vals w A cs) :
    Calls Tryz.prog 33 #[.agg #[.bool false, .string ⟨#[]⟩, .string ⟨#[]⟩, .slice A cs.length c, .slice none 0 0]] w (LayP cs w) := by
  have HMK := Lib.hid (fun w => make8 w)
  have HT0 : Hid (∀ (w : World) (B T : Nat), BlkT w T 145 (T0.flatMap tvv) → Lad8 w B T T0) := hide (fun w B T h => T0_lad h)
  obtain ⟨zc, hzc⟩ : ∃ zc, T0.flatMap tvv = zc := ⟨_, rfl⟩
  rw [hzc] at HMK HT0
  have hmk := HMK.out
  have HS := hide hs
  have HN := hide (RowAt.toB h)
  obtain ⟨n, hn⟩ : ∃ n, cs.length = n := ⟨_, rfl⟩
  have HNL := hide hn
  have hn1 : n ≤ 100 := by rw [← hn]; exact hs.len
  unfold LayP
  rw [hn]
  obtain ⟨V0, hV0, HE0, HB0, hl0⟩ := es_new w (.bool false) (.string ⟨#[]⟩) (.string ⟨#[]⟩) (.slice A n c) (.slice none 0 0)
  obtain ⟨V1, hV1, HK1, HB1, hl1⟩ := ly_new V0 (.int .i64 0) (.slice none 0 0) (.slice none 0 0) (.bool false) (.string ⟨#[]⟩) (.string ⟨#[]⟩)
  have HE1 := hide (HE0.out.below HB1.out)
  have HBB := hide (HB0.out.trans (HB1.out.mono (by omega)))
  have x3 := blk_kin HE1.out (i := 3) rfl
  clear h hs hn hzc HB1
  go_enter Tryz.func33, Tryz.ntmps33
  go_wp2_with fail
  refine Qmt.wp_region (C := Cls (Below V1.heap.size V1)) (by kernel_rfl) (by kernel_rfl) ?_
  simp only [List.length_cons, List.length_nil]
  refine Qmt.takes [0, 1] 5 _ _ _ (cls (Qin.start _ _)) (by kernel_rfl) ?_
  simp only [List.filterMap_cons, List.filterMap_nil, List.getElem?_toArray, List.getElem?_cons_zero, List.getElem?_cons_succ]
  change wpQuiet _ _ _ _ [_, _] _
  repeat (go_big_quiet_step (fail))
  refine wpQuiet_nil ?_
  have hB := Qin.start V1.heap.size V1
  generalize ({ V1 with drawn := V1.drawn + 1 } : World) = v at hB ⊢
  clear x3 hV1
  have HZ3 := Lib.hid (fun (w : World) (h : V1.heap.size ≤ w.heap.size) => ti_new2 zc w h)
  have HZ5 := Lib.hid (fun (w : World) (h : V1.heap.size ≤ w.heap.size) => ly_new2 w h)
  refine recast (d' := #[true, true, false, false, false, false, false]) (by decide) ?_
  apply holes7
    (F0 := fun (G_ : World → Prop) => ∀ (v : World), Below V1.heap.size V1 v → G_ v)
    (F1 := fun (G_ : World → Nat → Prop) => ∀ (v : World) (KT : Nat), Below V1.heap.size V1 v → Hid (BlkT v KT 145 zc) → V1.heap.size ≤ KT → G_ v KT)
    (F2 := fun (G_ : World → Nat → Prop) => ∀ (v : World) (KJ : Nat), Below V1.heap.size V1 v → Hid (BlkT v KJ 111 [.int .i64 0, .slice none 0 0, .slice none 0 0, .bool false, .string ⟨#[]⟩, .string ⟨#[]⟩]) → V1.heap.size ≤ KJ → G_ v KJ)
    (F3 := fun (G_ : World → Nat → Prop) => ∀ (v : World) (KT : Nat), Below V1.heap.size V1 v → Hid (BlkT v KT 145 zc) → V1.heap.size ≤ KT → G_ v KT)
    (F4 := fun (G_ : World → Nat → Prop) => ∀ (v : World) (KJ : Nat), Below V1.heap.size V1 v → Hid (BlkT v KJ 111 [.int .i64 0, .slice none 0 0, .slice none 0 0, .bool false, .string ⟨#[]⟩, .string ⟨#[]⟩]) → V1.heap.size ≤ KJ → G_ v KJ)
    (F5 := fun (G_ : World → Nat → Nat → Prop) => ∀ (v : World) (KT : Nat) (KJ : Nat), Below V1.heap.size V1 v → Hid (BlkT v KT 145 zc) → V1.heap.size ≤ KT → Hid (BlkT v KJ 111 [.int .i64 0, .slice none 0 0, .slice none 0 0, .bool false, .string ⟨#[]⟩, .string ⟨#[]⟩]) → V1.heap.size ≤ KJ → KT ≠ KJ → G_ v KT KJ)
    (F6 := fun (G_ : World → Nat → Nat → Prop) => ∀ (v : World) (KT : Nat) (KJ : Nat), Below V1.heap.size V1 v → Hid (BlkT v KT 145 zc) → V1.heap.size ≤ KT → Hid (BlkT v KJ 111 [.int .i64 0, .slice none 0 0, .slice none 0 0, .bool false, .string ⟨#[]⟩, .string ⟨#[]⟩]) → V1.heap.size ≤ KJ → KT ≠ KJ → G_ v KT KJ)
  · intro S0 S1 S2 S3 S4 S5 S6
    refine Qmt.fork [2, 3, 5] (cls hB) (by kernel_rfl) (by simp) ⟨?_, ?_, ?_, trivial⟩
    · refine Qmt.by_op rfl (by kernel_rfl) ?_
      go_wp2_with fail
      refine ⟨rfl, ?_⟩
      refine recast (d' := #[true, true, true, false, false, false, false]) (by decide) ?_
      exact S0 v hB
    · refine Qmt.by_op rfl (by kernel_rfl) ?_
      obtain ⟨v2, KT, hv, hKe, XT, HN, GT⟩ := HZ3.out v hB.size
      have hB2 := hB.trans (HN.out.mono hB.size)
      go_wp2_with fail
      refine ⟨rfl, ?_⟩
      clear hv
      try simp only [hKe]
      clear hKe
      refine recast (d' := #[true, true, false, true, false, false, false]) (by decide) ?_
      exact S1 v2 KT hB2 XT GT
    · refine Qmt.by_op rfl (by kernel_rfl) ?_
      obtain ⟨v2, KJ, hv, hKe, XJ, HN, GJ⟩ := HZ5.out v hB.size
      have hB2 := hB.trans (HN.out.mono hB.size)
      go_wp2_with fail
      refine ⟨rfl, ?_⟩
      clear hv
      try simp only [hKe]
      clear hKe
      refine recast (d' := #[true, true, false, false, false, true, false]) (by decide) ?_
      exact S2 v2 KJ hB2 XJ GJ
  · intro S1 S2 S3 S4 S5 S6 v hB
    refine Qmt.fork [3, 5] (cls hB) (by kernel_rfl) (by simp) ⟨?_, ?_, trivial⟩
    · refine Qmt.by_op rfl (by kernel_rfl) ?_
      obtain ⟨v2, KT, hv, hKe, XT, HN, GT⟩ := HZ3.out v hB.size
      have hB2 := hB.trans (HN.out.mono hB.size)
      go_wp2_with fail
      refine ⟨rfl, ?_⟩
      clear hv
      try simp only [hKe]
      clear hKe
      refine Qmt.takes [4] 2 _ _ _ (cls hB2) (by kernel_rfl) ?_
      simp only [List.filterMap_cons, List.filterMap_nil, List.getElem?_toArray, List.getElem?_cons_zero, List.getElem?_cons_succ]
      change wpQuiet _ _ _ _ [_] _
      repeat (go_big_quiet_step (fail))
      refine wpQuiet_nil ?_
      refine recast (d' := #[true, true, true, true, true, false, false]) (by decide) ?_
      exact S3 v2 KT hB2 XT GT
    · refine Qmt.by_op rfl (by kernel_rfl) ?_
      obtain ⟨v2, KJ, hv, hKe, XJ, HN, GJ⟩ := HZ5.out v hB.size
      have hB2 := hB.trans (HN.out.mono hB.size)
      go_wp2_with fail
      refine ⟨rfl, ?_⟩
      clear hv
      try simp only [hKe]
      clear hKe
      refine recast (d' := #[true, true, true, false, false, true, false]) (by decide) ?_
      exact S4 v2 KJ hB2 XJ GJ
  · intro S2 S3 S4 S5 S6 v KT hB XT GT
    refine Qmt.fork [2, 5] (cls hB) (by kernel_rfl) (by simp) ⟨?_, ?_, trivial⟩
    · refine Qmt.by_op rfl (by kernel_rfl) ?_
      go_wp2_with fail
      refine ⟨rfl, ?_⟩
      refine Qmt.takes [4] 2 _ _ _ (cls hB) (by kernel_rfl) ?_
      simp only [List.filterMap_cons, List.filterMap_nil, List.getElem?_toArray, List.getElem?_cons_zero, List.getElem?_cons_succ]
      change wpQuiet _ _ _ _ [_] _
      repeat (go_big_quiet_step (fail))
      refine wpQuiet_nil ?_
      refine recast (d' := #[true, true, true, true, true, false, false]) (by decide) ?_
      exact S3 v KT hB XT GT
    · refine Qmt.by_op rfl (by kernel_rfl) ?_
      obtain ⟨v2, KJ, hv, hKe, XJ, HN, GJ⟩ := HZ5.out v hB.size
      have hB2 := hB.trans (HN.out.mono hB.size)
      have YT := hide (XT.out.below HN.out)
      have NE : KT ≠ KJ := by have := XT.out.lt; omega
      go_wp2_with fail
      refine ⟨rfl, ?_⟩
      clear hv
      try simp only [hKe]
      clear hKe
      refine recast (d' := #[true, true, false, true, false, true, false]) (by decide) ?_
      exact S5 v2 KT KJ hB2 YT GT XJ GJ NE
  · intro S3 S4 S5 S6 v KJ hB XJ GJ
    refine Qmt.fork [2, 3] (cls hB) (by kernel_rfl) (by simp) ⟨?_, ?_, trivial⟩
    · refine Qmt.by_op rfl (by kernel_rfl) ?_
      go_wp2_with fail
      refine ⟨rfl, ?_⟩
      refine recast (d' := #[true, true, true, false, false, true, false]) (by decide) ?_
      exact S4 v KJ hB XJ GJ
    · refine Qmt.by_op rfl (by kernel_rfl) ?_
      obtain ⟨v2, KT, hv, hKe, XT, HN, GT⟩ := HZ3.out v hB.size
      have hB2 := hB.trans (HN.out.mono hB.size)
      have YJ := hide (XJ.out.below HN.out)
      have NE : KT ≠ KJ := by have := XJ.out.lt; omega
      go_wp2_with fail
      refine ⟨rfl, ?_⟩
      clear hv
      try simp only [hKe]
      clear hKe
      refine recast (d' := #[true, true, false, true, false, true, false]) (by decide) ?_
      exact S5 v2 KT KJ hB2 XT GT YJ GJ NE
  · intro S4 S5 S6 v KT hB XT GT
    refine Qmt.fork [5] (cls hB) (by kernel_rfl) (by simp) ⟨?_, trivial⟩
    · refine Qmt.by_op rfl (by kernel_rfl) ?_
      obtain ⟨v2, KJ, hv, hKe, XJ, HN, GJ⟩ := HZ5.out v hB.size
      have hB2 := hB.trans (HN.out.mono hB.size)
      have YT := hide (XT.out.below HN.out)
      have NE : KT ≠ KJ := by have := XT.out.lt; omega
      go_wp2_with fail
      refine ⟨rfl, ?_⟩
      clear hv
      try simp only [hKe]
      clear hKe
      refine recast (d' := #[true, true, true, true, true, true, false]) (by decide) ?_
      exact S6 v2 KT KJ hB2 YT GT XJ GJ NE
  · intro S5 S6 v KJ hB XJ GJ
    refine Qmt.fork [3] (cls hB) (by kernel_rfl) (by simp) ⟨?_, trivial⟩
    · refine Qmt.by_op rfl (by kernel_rfl) ?_
      obtain ⟨v2, KT, hv, hKe, XT, HN, GT⟩ := HZ3.out v hB.size
      have hB2 := hB.trans (HN.out.mono hB.size)
      have YJ := hide (XJ.out.below HN.out)
      have NE : KT ≠ KJ := by have := XJ.out.lt; omega
      go_wp2_with fail
      refine ⟨rfl, ?_⟩
      clear hv
      try simp only [hKe]
      clear hKe
      refine Qmt.takes [4] 1 _ _ _ (cls hB2) (by kernel_rfl) ?_
      simp only [List.filterMap_cons, List.filterMap_nil, List.getElem?_toArray, List.getElem?_cons_zero, List.getElem?_cons_succ]
      change wpQuiet _ _ _ _ [_] _
      repeat (go_big_quiet_step (fail))
      refine wpQuiet_nil ?_
      refine recast (d' := #[true, true, true, true, true, true, false]) (by decide) ?_
      exact S6 v2 KT KJ hB2 XT GT YJ GJ NE
  · intro S6 v KT KJ hB XT GT XJ GJ NE
    refine Qmt.fork [2] (cls hB) (by kernel_rfl) (by simp) ⟨?_, trivial⟩
    · refine Qmt.by_op rfl (by kernel_rfl) ?_
      go_wp2_with fail
      refine ⟨rfl, ?_⟩
      refine Qmt.takes [4] 1 _ _ _ (cls hB) (by kernel_rfl) ?_
      simp only [List.filterMap_cons, List.filterMap_nil, List.getElem?_toArray, List.getElem?_cons_zero, List.getElem?_cons_succ]
      change wpQuiet _ _ _ _ [_] _
      repeat (go_big_quiet_step (fail))
      refine wpQuiet_nil ?_
      refine recast (d' := #[true, true, true, true, true, true, false]) (by decide) ?_
      exact S6 v KT KJ hB XT GT XJ GJ NE
  · intro v KT KJ hB XT GT XJ GJ NE
    refine Qmt.fork [6] (cls hB) (by kernel_rfl) (by simp) ⟨?_, trivial⟩
    refine Qmt.by_op rfl (by kernel_rfl) ?_
    have j0 := XJ.out.cell (i := 0) rfl
    have j1 := XJ.out.cell (i := 1) rfl
    have j2 := XJ.out.cell (i := 2) rfl
    have j3 := XJ.out.cell (i := 3) rfl
    have j4 := XJ.out.cell (i := 4) rfl
    have j5 := XJ.out.cell (i := 5) rfl
    have y0 := XJ.out.frozen 0
    have y1 := XJ.out.frozen 1
    have y2 := XJ.out.frozen 2
    have y3 := XJ.out.frozen 3
    have y4 := XJ.out.frozen 4
    have y5 := XJ.out.frozen 5
    have hk := ks6 v KJ (.int .i64 n) (.slice (some ⟨KT, 0, none⟩) 8 8) (.slice none 0 0) (.bool false) (.string ⟨#[]⟩) (.string ⟨#[]⟩)
    have HJ2 := hide (set6 XJ.out (.int .i64 n) (.slice (some ⟨KT, 0, none⟩) 8 8) (.slice none 0 0) (.bool false) (.string ⟨#[]⟩) (.string ⟨#[]⟩))
    have HT2 := hide (hk.blk XT.out NE)
    have hB2 := hB.trans (hk.below hB.size (by rintro k rfl; exact GJ))
    have hs2 := hk.size
    have hKT := XT.out.lt
    have hKJ := XJ.out.lt
    go_wp2_with fail
    refine ⟨rfl, ?_⟩
    clear j0 j1 j2 j3 j4 j5 y0 y1 y2 y3 y4 y5
    generalize ((((((v.setCell ⟨KJ, 0, none⟩ (.int .i64 n)).setCell ⟨KJ, 1, none⟩ (.slice (some ⟨KT, 0, none⟩) 8 8)).setCell ⟨KJ, 2, none⟩ (.slice none 0 0)).setCell ⟨KJ, 3, none⟩ (.bool false)).setCell ⟨KJ, 4, none⟩ (.string ⟨#[]⟩)).setCell ⟨KJ, 5, none⟩ (.string ⟨#[]⟩)) = v2 at HJ2 HT2 hB2 hs2 hk ⊢
    clear hk
    refine Qmt.by_end (cls hB2) (by kernel_rfl) ?_
    have HE2 := hide (HE1.out.below hB2)
    have HK2 := hide (HK1.out.below hB2)
    have HB2 := hide (HBB.out.trans (hB2.mono HBB.out.size))
    clear hB hB2 XT XJ HZ3 HZ5
    have hz : [Value.bool (negB 0), .string (bs (nm 0)), .string (dstr 0)] = [.bool false, .string ⟨#[]⟩, .string ⟨#[]⟩] := TwG.qv3_zero
    injection hz with z1 hz
    injection hz with z2 hz
    injection hz with z3 _
    have HL2 := hide (HT0.out v2 v2.heap.size KT HT2.out)
    have HM0 : Hid (T0.map (·.2) = ranksOf ((cs.take 0).map Cm.d)) := hide rfl
    have HJ3 : Hid (BlkT v2 KJ 111 [.int .i64 n, .slice (some ⟨KT, 0, none⟩) 8 8, .slice none 0 0, .bool (negB (totC (cs.take 0))), .string (bs (nm (totC (cs.take 0)))), .string (dstr (totC (cs.take 0)))]) := hide (by
      show BlkT v2 KJ _ [.int .i64 n, .slice (some ⟨KT, 0, none⟩) 8 8, .slice none 0 0, .bool (negB 0), .string (bs (nm 0)), .string (dstr 0)]
      rw [z1, z2, z3]
      exact HJ2.out)
    have HAD0 := Lib.hid (fun w (q : Rat) (hq : Lt q 30000000000) => add_e (p := q) (q := 0) (r := q) (hq.mono (by omega)) (Lt.zero.mono (by omega)) (by grind) w)
    rw [z1, z2, z3] at HAD0
    have HAD := Lib.hid (fun w (p q : Rat) (h1 : Lt p 40000000000) (h2 : Lt q 40000000000) => add_e h1 h2 rfl w)
    have hKTB : KT < v2.heap.size := by omega
    have hKJB : KJ < v2.heap.size := by omega
    have hV1v : V1.heap.size ≤ v2.heap.size := by omega
    have x3 := HE2.out.cell (i := 3) rfl
    clear z1 z2 z3 HT0 HT2 HJ2
    go_wp2_with fail
    clear x3
    generalize hBe : v2.heap.size = B at *
    have HBE := hide hBe
    clear hBe
    go_loopw [17] (fun vi wr => ∃ k : Nat, k ≤ n ∧ vi = .int .i64 k ∧ ∃ st, Hid (st.map (·.2) = ranksOf ((cs.take k).map Cm.d)) ∧ Hid (Lad8 wr B KT st) ∧ Hid (BlkT wr KJ 111 [.int .i64 n, .slice (some ⟨KT, 0, none⟩) 8 8, .slice none 0 0, .bool (negB (totC (cs.take k))), .string (bs (nm (totC (cs.take k)))), .string (dstr (totC (cs.take k)))]) ∧ Hid (BlkT wr w.heap.size 45 [.bool false, .string ⟨#[]⟩, .string ⟨#[]⟩, .slice A n c, .slice none 0 0]) ∧ Hid (BlkT wr V0.heap.size 111 [.int .i64 0, .slice none 0 0, .slice none 0 0, .bool false, .string ⟨#[]⟩, .string ⟨#[]⟩]) ∧ Hid (Below w.heap.size w wr) ∧ B ≤ wr.heap.size) (fun vi _ => n - (intOf vi).toNat)
    case atStart => exact ⟨0, by omega, rfl, T0, HM0, HL2, HJ3, HE2, HK2, HB2, by have := HBE.out; omega⟩
    case round =>
      obtain ⟨k, hk, rfl, st, HM, HL, HJ, HE, HK, HB, hBs⟩ := hrel
      by_cases hlt : k < n
      · obtain ⟨x, hx⟩ : ∃ x, cs[k]? = some x := ⟨_, List.getElem?_eq_getElem (by rw [HNL.out]; exact hlt)⟩
        have hxm := List.mem_of_getElem? hx
        obtain ⟨g, off, rfl, hg, hc⟩ := (HN.out.below HB.out).at_ hx
        have x0 : wr.cell? ⟨g, off + k * 5, none⟩ = _ := hc 0 _ rfl
        have x1 := hc 1 _ rfl
        have x2 := hc 2 _ rfl
        have x3 := hc 3 _ rfl
        have x4 := hc 4 _ rfl
        obtain ⟨hr0, hr8⟩ := HS.out.rk x hxm
        obtain ⟨r, hr⟩ := Int.eq_ofNat_of_zero_le hr0
        have hr8' : r < 8 := by omega
        have HXA := hide (HS.out.amt x hxm)
        have HX := hide hx
        have HTS := hide (HS.out.sum k r (by rw [HNL.out]; omega) hr8')
        have HTT := hide (HS.out.tot k (by rw [HNL.out]; omega))
        have HTC : Hid (totC (cs.take (k + 1)) = totC (cs.take k) + x.amt) := hide (by rw [TwE.take_snoc hx]; exact totC_snoc _ _)
        have HRS : Hid (ranksOf ((cs.take (k + 1)).map Cm.d) = (ranksOf ((cs.take k).map Cm.d)).set r (rankT r 0 ((cs.take k).map Cm.d) ++ [((k : Int), x.amt)])) := hide (by
          have hd : x.d.rank = r := by show x.rank.toNat = r; omega
          have hl : ((cs.take k).map Cm.d).length = k := by rw [List.length_map, List.length_take, HNL.out]; omega
          rw [TwE.take_snoc hx, List.map_append]
          show ranksOf ((cs.take k).map Cm.d ++ [x.d]) = _
          rw [ranks_snoc _ _ (by omega), hd, hl]
          rfl)
        have hst : (st.map (·.2))[r]? = some (rankT r 0 ((cs.take k).map Cm.d)) := by rw [HM.out]; exact ranks_at _ r hr8'
        have HTL : Hid ((rankT r 0 ((cs.take k).map Cm.d)).length ≤ 1000) := hide (Nat.le_trans (rankT_le _ _ _) (by rw [List.length_map, List.length_take]; omega))
        rw [List.getElem?_map] at hst
        obtain ⟨vl, hvl⟩ : ∃ vl, st[r]? = some vl := by
          cases h9 : st[r]? with
          | none => rw [h9] at hst; cases hst
          | some vl => exact ⟨vl, rfl⟩
        rw [hvl] at hst
        injection hst with hst
        obtain ⟨v, l⟩ := vl
        dsimp only at hst
        subst hst
        have HVL := hide hvl
        generalize rankT r 0 ((cs.take k).map Cm.d) = l at *
        obtain ⟨hd, rk, am⟩ := x
        dsimp only at *
        subst hr
        obtain ⟨V, hV, HC, HBV, hsV⟩ := cm_new wr (.int .i64 hd) (.int .i64 r) (.bool (negB am)) (.string (bs (nm am))) (.string (dstr am))
        have HLV := hide (HL.out.below HBV.out)
        have HJV := hide (HJ.out.below HBV.out)
        have HEV := hide (HE.out.below HBV.out)
        have HKV := hide (HK.out.below HBV.out)
        have HBW := hide (HB.out.trans (HBV.out.mono HB.out.size))
        have d2 := HC.out.cell (i := 2) rfl
        have d3 := HC.out.cell (i := 3) rfl
        have d4 := HC.out.cell (i := 4) rfl
        have HOL : Hid (∀ gg, v.ownBlock = some gg → gg < wr.heap.size) := hide (fun gg hg => ((HL.out.own r _ HVL.out).lt gg hg).2)
        clear hx hxm hc hr0 hr8 hvl HBV HL HJ HE HK HB
        go_wp2_with fail
        refine (HAD0.out _ am HXA.out).mono ?_
        rintro e w5 ⟨rfl, hb5⟩
        obtain ⟨V6, hV6, HA6, hB6, hl6⟩ := box_new w5 (.bool (negB am)) (.string (bs (nm am))) (.string (dstr am))
        have hc6 := hb5.trans (hB6.mono hb5.size)
        have HL6 := hide (HLV.out.below hc6)
        have HJ6 := hide (HJV.out.below hc6)
        have HE6 := hide (HEV.out.below hc6)
        have HK6 := hide (HKV.out.below hc6)
        have HC6 := hide (HC.out.below hc6)
        have HB6 := hide (HBW.out.trans (hc6.mono HBW.out.size))
        have hsx : V.heap.size ≤ w5.heap.size := hb5.size
        clear hb5 hB6 hc6 d2 d3 d4 x0 x1 x2 x3 x4 HLV HJV HEV HKV HC
        have j1 := blk_kin HJ6.out (i := 1) rfl
        have t1 := blk_kin HC6.out (i := 1) rfl
        obtain ⟨a0, a1, a2⟩ := HA6.out.kin
        have hr8z : (r : Int) < 8 := by omega
        go_wp2_with fail
        refine Qtl.region (I := Below V6.heap.size V6) 7 (Qin.start _ _) (by kernel_rfl) (by kernel_rfl) ?_
        simp only [List.take_succ_cons, List.take_zero, List.drop_succ_cons, List.drop_zero]
        repeat (go_big_quiet_step (fail))
        refine wpQuiet_nil ?_
        intro u
        obtain ⟨u, hu⟩ := u
        dsimp only
        clear j1 t1 a0 a1 a2
        have HLu := hide (HL6.out.below hu)
        have HJu := hide (HJ6.out.below hu)
        have HEu := hide (HE6.out.below hu)
        have HKu := hide (HK6.out.below hu)
        have HAu := hide (HA6.out.keep hu HA6.out.lt)
        have HBu := hide (HB6.out.trans (hu.mono HB6.out.size))
        have hsu : V6.heap.size ≤ u.heap.size := hu.size
        clear hu
        have hrl : r < st.length := (List.getElem?_eq_some_iff.1 HVL.out).1
        have HTA := Lib.hid (@tadd_any B KT (r * 4) l.length (st.flatMap tvv) (l.flatMap pv) v (tsum l) am (k : Int) HTS.out (HXA.out.mono (by omega)) HTL.out u (by omega) HLu.out.blk
          (by have := flat_get tvv_len st r _ HVL.out 0 (by omega); rw [Nat.add_zero] at this; exact this)
          (flat_get tvv_len st r _ HVL.out 1 (by omega)) (flat_get tvv_len st r _ HVL.out 2 (by omega)) (flat_get tvv_len st r _ HVL.out 3 (by omega))
          (HLu.out.own r _ HVL.out) (fun e => by have := ((HLu.out.own r _ HVL.out).lt _ e).1; omega))
        go_wp2_with fail
        refine HTA.out.mono ?_
        intro e w7 h7
        obtain ⟨v', rfl, hl7, hk7⟩ := HLu.out.add HVL.out hKTB h7
        have HL7 := hide hl7
        have hneJ : ¬ (fun j => j = KT ∨ some j = v.ownBlock) KJ := by
          rintro (e | e)
          · exact NE e.symm
          · have := ((HLu.out.own r _ HVL.out).lt _ e.symm).1; omega
        have hneE : ¬ (fun j => j = KT ∨ some j = v.ownBlock) w.heap.size := by
          rintro (e | e)
          · omega
          · have := ((HLu.out.own r _ HVL.out).lt _ e.symm).1; omega
        have hneK : ¬ (fun j => j = KT ∨ some j = v.ownBlock) V0.heap.size := by
          rintro (e | e)
          · omega
          · have := ((HLu.out.own r _ HVL.out).lt _ e.symm).1; omega
        have hneA : ¬ (fun j => j = KT ∨ some j = v.ownBlock) w5.heap.size := by
          rintro (e | e)
          · omega
          · have := HOL.out _ e.symm; omega
        have HJ7 := hide (hk7.blk HJu.out hneJ)
        have HE7 := hide (hk7.blk HEu.out hneE)
        have HK7 := hide (hk7.blk HKu.out hneK)
        have HA7 := hide (Ks.bx hk7 HAu.out HAu.out.lt hneA)
        have HB7 := hide (HBu.out.trans (hk7.below HBu.out.size (by
          rintro j (e | e)
          · omega
          · have := ((HLu.out.own r _ HVL.out).lt _ e.symm).1; omega)))
        have hs7 := hk7.size
        clear h7 hl7 hk7 HTA hneJ hneE hneK hneA HLu HJu HEu HKu HAu HBu
        have j3 := HJ7.out.cell (i := 3) rfl
        have j4 := HJ7.out.cell (i := 4) rfl
        have j5 := HJ7.out.cell (i := 5) rfl
        obtain ⟨a0, a1, a2, b0, b1, b2⟩ := HA7.out
        go_wp2_with fail
        refine (HAD.out _ _ am HTT.out (HXA.out.mono (by omega))).mono ?_
        rintro e w8 ⟨rfl, hb8⟩
        have HJ8 := hide (HJ7.out.below hb8)
        have j3' := HJ8.out.cell (i := 3) rfl
        have j4' := HJ8.out.cell (i := 4) rfl
        have j5' := HJ8.out.cell (i := 5) rfl
        have y3 := HJ8.out.frozen 3
        have y4 := HJ8.out.frozen 4
        have y5 := HJ8.out.frozen 5
        have HL8 := hide (HL7.out.below hb8)
        have HE8 := hide (HE7.out.below hb8)
        have HK8 := hide (HK7.out.below hb8)
        have HB8 := hide (HB7.out.trans (hb8.mono HB7.out.size))
        have hs8 := hb8.size
        rw [← HTC.out]
        generalize htk : totC (cs.take (k + 1)) = tk at *
        have HTK := hide htk
        clear htk
        have hk9 := (((Ks.refl (fun j => j = KJ) w8).setCell (p := ⟨KJ, 3, none⟩) (.inl rfl) (.bool (negB tk))).setCell (p := ⟨KJ, 4, none⟩) (.inl rfl) (.string (bs (nm tk)))).setCell (p := ⟨KJ, 5, none⟩) (.inl rfl) (.string (dstr tk))
        have HJ9 := hide (((HJ8.out.set 3 (.bool (negB tk))).set 4 (.string (bs (nm tk)))).set 5 (.string (dstr tk)))
        have HL9 := hide (HL8.out.ks hk9 (by exact NE) (by rintro j h1 _ rfl; omega))
        have HE9 := hide (hk9.blk HE8.out (by show ¬ w.heap.size = KJ; omega))
        have HK9 := hide (hk9.blk HK8.out (by show ¬ V0.heap.size = KJ; omega))
        have HB9 := hide (HB8.out.trans (hk9.below HB8.out.size (by rintro j rfl; omega)))
        have hs9 := hk9.size
        clear hb8 hk9 j3 j4 j5 a0 a1 a2 b0 b1 b2 HJ7 HJ8 HL7 HL8
        go_wp2_with fail
        refine ⟨⟨k + 1, by omega, rfl, st.set r (v', l ++ [((k : Int), am)]), ?_, HL9, (by rw [HTK.out]; exact HJ9), HE9, HK9, HB9, by omega⟩, by simp only [intOf]; omega⟩
        rw [HRS.out, List.map_set, HM.out]
        exact hide rfl
      · have hkn : k = n := by omega
        subst hkn
        have x4 := HE.out.cell (i := 4) rfl
        have ht : cs.take k = cs := List.take_of_length_le (by rw [HNL.out]; omega)
        rw [ht] at HM HJ
        have HKL := HNL
        go_wp2_with fail
        clear x4
        go_loopw [43] (fun vi wx => vi = .int .i64 0 ∧ Hid (Lad8 wx B KT st) ∧ Hid (BlkT wx KJ 111 [.int .i64 k, .slice (some ⟨KT, 0, none⟩) 8 8, .slice none 0 0, .bool (negB (totC cs)), .string (bs (nm (totC cs))), .string (dstr (totC cs))]) ∧ Hid (BlkT wx V0.heap.size 111 [.int .i64 0, .slice none 0 0, .slice none 0 0, .bool false, .string ⟨#[]⟩, .string ⟨#[]⟩]) ∧ Hid (Below w.heap.size w wx) ∧ B ≤ wx.heap.size) (fun _ _ => 0)
        case atStart => exact ⟨rfl, HL, HJ, HK, HB, hBs⟩
        case round =>
          obtain ⟨rfl, HLx, HJx, HKx, HBx, hBx⟩ := hrel
          have j0 := HJx.out.cell (i := 0) rfl
          have j1 := HJx.out.cell (i := 1) rfl
          have j2 := HJx.out.cell (i := 2) rfl
          have j3 := HJx.out.cell (i := 3) rfl
          have j4 := HJx.out.cell (i := 4) rfl
          have j5 := HJx.out.cell (i := 5) rfl
          have q0 := HKx.out.cell (i := 0) rfl
          have q1 := HKx.out.cell (i := 1) rfl
          have q2 := HKx.out.cell (i := 2) rfl
          have q3 := HKx.out.cell (i := 3) rfl
          have q4 := HKx.out.cell (i := 4) rfl
          have q5 := HKx.out.cell (i := 5) rfl
          have y0 := HKx.out.frozen 0
          have y1 := HKx.out.frozen 1
          have y2 := HKx.out.frozen 2
          have y3 := HKx.out.frozen 3
          have y4 := HKx.out.frozen 4
          have y5 := HKx.out.frozen 5
          go_wp2_with fail
          refine bodyPost_ret (results_lay rfl _ rfl (set6 HKx.out _ _ _ _ _ _)) rfl ?_
          have hk9 := ks6 wr V0.heap.size (.int .i64 k) (.slice (some ⟨KT, 0, none⟩) 8 8) (.slice none 0 0) (.bool (negB (totC cs))) (.string (bs (nm (totC cs)))) (.string (dstr (totC cs)))
          refine ⟨some ⟨KT, 0, none⟩, rfl, ?_, HBx.out.trans (hk9.below HBx.out.size (by rintro j rfl; omega))⟩
          have hLf := HLx.out.ks hk9 (by show ¬ KT = V0.heap.size; omega) (by rintro j h1 _ rfl; omega)
          refine hLf.at_ HM.out (by rw [ranks_len]; unfold maxLen; omega) (fun t ht => ?_)
          unfold ranksOf at ht
          obtain ⟨r, _, rfl⟩ := List.mem_map.1 ht
          refine Nat.le_trans (rankT_le _ _ _) ?_
          rw [List.length_map, HKL.out]
          unfold maxLen
          omega
end Go.Proofs.YtpbgmpjnfndfjaaGreatDoor.TwR
namespace Go.Proofs.YtpbgmpjnfndfjaaGreatDoor.TwS
open Go.RowKit Wd RnA RnB RnW RnQ RnR RnP RoA RoC RoL RtA RtB RtC RpB RpC RpE RpF RpG RpH RnY RpI RpJ RpK RpL PqB PfD PfE TqA TwA TwB TwC TwD TwE TwF TwG TwH TwI TwJ TwK TwP TqB TwQ TwR TpB TpC TpD TpO TpT TpU
theorem bools_under : Tryz.prog.underlying 68 = some (.slice 4) := by kernel_rfl
theorem bool_info : (Tryz.prog.info? 4).map (fun i => (i.zero, i.size, i.bytes)) = some (some (.bool false), 1, 1) := by kernel_rfl
theorem make_bools (n : Nat) (h : n ≤ 100) (w : World) : ∃ cs, (Instr.makeSlice 68 (.int .i64 n) (.int .i64 n)).run Tryz.prog w = .ok (.slice (some ⟨w.heap.size, 0, none⟩) n n) (w.alloc (.cells cs 4)) := by
  obtain ⟨i0, hi, hz0, hz1, hz2⟩ := info_parts bool_info
  have h := run_make (P := Tryz.prog) w _ _ i0 _ bools_under hi hz0 .i64 .i64 n n (by omega) (by omega) (by rw [hz2]; omega) (by omega)
  exact ⟨_, h⟩
set_option maxHeartbeats 8000000 in
set_option maxRecDepth 100000 in
theorem check_any {cs : List Cm} (hl : cs.length ≤ 24) (hc : ∀ c ∈ cs, c.holder = -1 ∧ 0 ≤ c.rank ∧ c.rank ≤ 7 ∧ ¬ c.amt < 0 ∧ Lt c.amt 30000000000) {A : Option Addr} {c : Nat} (w : World) (h : RowAt 5 Cm.vals w A cs) :
    Calls Tryz.prog 32 #[.agg #[.bool false, .string ⟨#[]⟩, .string ⟨#[]⟩, .slice A cs.length c, .slice none 0 0]] w fun e w' => e = .returned (.int .i64 0) ∧ Below w.heap.size w w' := by
  have hz : [Value.bool (negB 0), .string (bs (nm 0)), .string (dstr 0)] = [.bool false, .string ⟨#[]⟩, .string ⟨#[]⟩] := TwG.qv3_zero
  have HS0 := Lib.hid (fun w => sgn_e (p := 0) (s := 0) (Lt.zero.mono (by omega)) (by decide) w)
  injection hz with z1 hz
  injection hz with z2 hz
  injection hz with z3 _
  rw [z1, z2, z3] at HS0
  have HC := hide hc
  have HN := hide (RowAt.toB h)
  obtain ⟨n, hn⟩ : ∃ n, cs.length = n := ⟨_, rfl⟩
  have HNL := hide hn
  have hn1 : n ≤ 24 := by rw [← hn]; exact hl
  rw [hn]
  obtain ⟨V0, hV0, HE0, HB0, hl0⟩ := es_new w (.bool false) (.string ⟨#[]⟩) (.string ⟨#[]⟩) (.slice A n c) (.slice none 0 0)
  have x0 := HE0.out.cell (i := 0) rfl
  have x1 := HE0.out.cell (i := 1) rfl
  have x2 := HE0.out.cell (i := 2) rfl
  have x3 := HE0.out.cell (i := 3) rfl
  have x4 := HE0.out.cell (i := 4) rfl
  clear hc h hn hl z1 z2 z3
  go_enter Tryz.func32, Tryz.ntmps32
  go_wp2_with fail
  refine (HS0.out _).mono ?_
  rintro e w1 ⟨rfl, hb1⟩
  have HE1 := hide (HE0.out.below hb1)
  have HB1 := hide (HB0.out.trans (hb1.mono HB0.out.size))
  clear hb1 x0 x1 x2 x3 x4
  have x3 := HE1.out.cell (i := 3) rfl
  go_wp2_with fail
  clear x3
  go_loopw [30] (fun vi wr => ∃ k : Nat, k ≤ n ∧ vi = .int .i64 k ∧ Hid (BlkT wr w.heap.size 45 [.bool false, .string ⟨#[]⟩, .string ⟨#[]⟩, .slice A n c, .slice none 0 0]) ∧ Hid (Below w.heap.size w wr)) (fun vi _ => n - (intOf vi).toNat)
  case atStart => exact ⟨0, by omega, rfl, HE1, HB1⟩
  case round =>
    obtain ⟨k, hk, rfl, HE, HB⟩ := hrel
    by_cases hlt : k < n
    · obtain ⟨x, hx⟩ : ∃ x, cs[k]? = some x := ⟨_, List.getElem?_eq_getElem (by rw [HNL.out]; exact hlt)⟩
      obtain ⟨hh, hr0, hr7, ha, hal⟩ := HC.out x (List.mem_of_getElem? hx)
      obtain ⟨g, off, rfl, hg, hcc⟩ := (HN.out.below HB.out).at_ hx
      have x0 : wr.cell? ⟨g, off + k * 5, none⟩ = _ := hcc 0 _ rfl
      have x1 := hcc 1 _ rfl
      have x2 := hcc 2 _ rfl
      have x3 := hcc 3 _ rfl
      have x4 := hcc 4 _ rfl
      obtain ⟨hd, rk, am⟩ := x
      dsimp only at *
      subst hh
      obtain ⟨sg, hsg⟩ : ∃ sg, sgnQ am = sg := ⟨_, rfl⟩
      have hs0 : 0 ≤ sg ∧ sg ≤ 1 := by rw [← hsg]; exact sgnQ_nn (by grind)
      have HSG := Lib.hid (fun w => sgn_e (hal.mono (by omega)) hsg w)
      obtain ⟨s1, s2⟩ := hs0
      obtain ⟨V, hV, HX, HBV, hsV⟩ := cm_new wr (.int .i64 (-1)) (.int .i64 rk) (.bool (negB am)) (.string (bs (nm am))) (.string (dstr am))
      have HEV := hide (HE.out.below HBV.out)
      have HBW := hide (HB.out.trans (HBV.out.mono HB.out.size))
      have d0 := HX.out.cell (i := 0) rfl
      have d1 := HX.out.cell (i := 1) rfl
      have d2 := HX.out.cell (i := 2) rfl
      have d3 := HX.out.cell (i := 3) rfl
      have d4 := HX.out.cell (i := 4) rfl
      clear hx hcc ha hal hsg HE HB HBV
      go_wp2_with fail
      refine (HSG.out _).mono ?_
      rintro e w4 ⟨rfl, hb4⟩
      have HE4 := hide (HEV.out.below hb4)
      have HB4 := hide (HBW.out.trans (hb4.mono HBW.out.size))
      clear hb4 d0 d1 d2 d3 d4 x0 x1 x2 x3 x4
      go_wp2_with fail
      exact ⟨⟨k + 1, by omega, rfl, HE4, HB4⟩, by simp only [intOf]; omega⟩
    · have hkn : k = n := by omega
      subst hkn
      have x3 := HE.out.cell (i := 3) rfl
      have x4 := HE.out.cell (i := 4) rfl
      obtain ⟨bc, hbc⟩ := make_bools k (by omega) wr
      have hb2 : Below wr.heap.size wr (wr.alloc (.cells bc 4)) := (Below.refl _ _).alloc (Nat.le_refl _) _
      have HB2 := hide (HB.out.trans (hb2.mono HB.out.size))
      have x4' := (HE.out.below hb2).cell (i := 4) rfl
      clear hb2
      go_wp2_with fail
      clear x3 x4 x4'
      go_loopw [65] (fun vi wx => vi = .int .i64 0 ∧ Hid (Below w.heap.size w wx)) (fun _ _ => 0)
      case atStart => exact ⟨rfl, HB2⟩
      case round =>
        obtain ⟨rfl, HBx⟩ := hrel
        go_wp2_with fail
        go_ret
        exact ⟨rfl, HBx.out⟩
end Go.Proofs.YtpbgmpjnfndfjaaGreatDoor.TwS
namespace Go.Proofs.YtpbgmpjnfndfjaaGreatDoor.TwT
open Go.RowKit Wd RnA RnB RnW RnQ RnR RnP RoA RoC RoL RtA RtB RtC RpB RpC RpE RpF RpG RpH RnY RpI RpJ RpK RpL PqB PfD PfE TqA TwA TwB TwC TwD TwE TwF TwG TwH TwI TwJ TwK TwL TwP TqB TwQ TwR TwS TpB TpC TpD TpO TpT TpU
theorem results_srs {fn : Func} {p u t : Tmp} (h : fn.results = #[.tmp u, .cell p 32, .tmp t]) (tmps : Array Value) {w : World} {k : Nat} {x y z : Value} (hp : tmps.getD p undef = .pointer (some ⟨k, 0, none⟩)) (hb : Bx w k x y z) :
    (results fn tmps).run Tryz.prog w = .ok (.tuple #[tmps.getD u undef, .agg #[x, y, z], tmps.getD t undef]) w := by
  have hp' : tmps[p]?.getD undef = .pointer (some ⟨k, 0, none⟩) := by simpa using hp
  simp only [results, h]
  simp [hp', asAddr, load3 hb]
theorem max_nn {m : Rat} (h : 0 ≤ m) : maxQ m 0 = m := by
  rw [maxQ_eq, if_neg (by grind)]
/-- what Deliver leaves: the amounts in block g -/
def DvP (v : List Rat) (w : World) (e : Ending) (w' : World) : Prop := ∃ g gc gp, e = .returned (.tuple #[.slice (some ⟨g, 0, none⟩) v.length gc, .agg #[.bool false, .string ⟨#[]⟩, .string ⟨#[]⟩], .int .i64 0]) ∧ w.heap.size ≤ g ∧ BlkT w' g 32 (v.flatMap qv3 ++ gp) ∧ Below w.heap.size w w'
theorem pools_nil (B : Nat) (w : World) : PoolsAt B w none [] := ⟨by simp, fun h => by simp at h⟩
set_option maxHeartbeats 8000000 in
set_option maxRecDepth 100000 in
theorem top_deliver {cs : List Cm} {m : Rat} (hl : cs.length ≤ 24) (hc : ∀ c ∈ cs, c.holder = -1 ∧ 0 ≤ c.rank ∧ c.rank ≤ 7 ∧ ¬ c.amt < 0 ∧ Lt c.amt 30000000000) (hs : LySz cs) (hd : DelSz cs.length (ranksOf (cs.map Cm.d)) [] m) (hm : Lt m 40000000000) (hm0 : 0 ≤ m) {A : Option Addr} {c : Nat} (w : World) (h : RowAt 5 Cm.vals w A cs) :
    Calls Tryz.prog 10 #[.agg #[.bool false, .string ⟨#[]⟩, .string ⟨#[]⟩, .slice A cs.length c, .slice none 0 0], .agg #[.bool (negB m), .string (bs (nm m)), .string (dstr m)]] w (DvP (gv cs.length (ranksOf (cs.map Cm.d)) m) w) := by
  have HC := Lib.hid (fun w h => @check_any cs hl hc A c w h)
  have HL := Lib.hid (fun w h => @lay_any cs hs A c w h)
  have hpn := @positive_any m hm
  rw [max_nn hm0] at hpn
  have HP := hide hpn
  have HD := Lib.hid (fun B A tt w hB h => @deliver_any B cs.length 0 0 8 8 (ranksOf (cs.map Cm.d)) [] m tt A none hd (ranks_len _) rfl (Nat.le_refl _) w hB h (pools_nil B w))
  have hz : [Value.bool (negB 0), .string (bs (nm 0)), .string (dstr 0)] = [.bool false, .string ⟨#[]⟩, .string ⟨#[]⟩] := TwG.qv3_zero
  injection hz with z1 hz
  injection hz with z2 hz
  injection hz with z3 _
  have he : ∀ v : List Rat, poolsPay v [] (zeroPools v [], 0) = (v, 0) := fun v => rfl
  unfold DelP at HD
  simp only [he, z1, z2, z3] at HD
  unfold LayP at HL
  have HGL := hide (gv_len cs.length (ranksOf (cs.map Cm.d)) m)
  unfold DvP
  rw [HGL.out]
  generalize gv cs.length (ranksOf (cs.map Cm.d)) m = v at *
  generalize ranksOf (cs.map Cm.d) = L at *
  generalize totC cs = tt at *
  have HN := hide (RowAt.toB h)
  obtain ⟨n, hn⟩ : ∃ n, cs.length = n := ⟨_, rfl⟩
  rw [hn] at HC HL HD ⊢
  obtain ⟨V0, hV0, HE0, HB0, hl0⟩ := es_new w (.bool false) (.string ⟨#[]⟩) (.string ⟨#[]⟩) (.slice A n c) (.slice none 0 0)
  obtain ⟨V1, hV1, HM1, hB1, hl1⟩ := box_new V0 (.bool (negB m)) (.string (bs (nm m))) (.string (dstr m))
  obtain ⟨V2, hV2, HZ2, hB2, hl2⟩ := box_new V1 (.bool false) (.string ⟨#[]⟩) (.string ⟨#[]⟩)
  have HE2 := hide ((HE0.out.below hB1).below hB2)
  have HM2 := hide (HM1.out.keep hB2 HM1.out.lt)
  have HBB := hide ((HB0.out.trans (hB1.mono (by omega))).trans (hB2.mono (by omega)))
  have hw1 : w.heap.size < V1.heap.size := by omega
  have x0 := HE2.out.cell (i := 0) rfl
  have x1 := HE2.out.cell (i := 1) rfl
  have x2 := HE2.out.cell (i := 2) rfl
  have x3 := HE2.out.cell (i := 3) rfl
  have x4 := HE2.out.cell (i := 4) rfl
  clear h hl hc hs hd hm hm0 hn hB1 hB2 z1 z2 z3 he hpn
  go_enter Tryz.func10, Tryz.ntmps10
  go_wp2_with fail
  refine (HC.out _ ((HN.out.below HBB.out).toAt HBB.out.size)).mono ?_
  rintro e w3 ⟨rfl, hb3⟩
  have HE3 := hide (HE2.out.below hb3)
  have HM3 := hide (HM2.out.keep hb3 HM2.out.lt)
  have HZ3 := hide (HZ2.out.keep hb3 HZ2.out.lt)
  have HB3 := hide (HBB.out.trans (hb3.mono HBB.out.size))
  have hs3 := hb3.size
  clear hb3 x0 x1 x2 x3 x4
  have x0 := blk_kin HE3.out (i := 0) rfl
  have x1 := blk_kin HE3.out (i := 1) rfl
  have x2 := blk_kin HE3.out (i := 2) rfl
  have x3 := blk_kin HE3.out (i := 3) rfl
  have x4 := blk_kin HE3.out (i := 4) rfl
  obtain ⟨m0, m1, m2⟩ := HM3.out.kin
  have HNw := Lib.hid (fun (u : World) (hu : Below w3.heap.size w3 u) => (HN.out.below (HB3.out.trans (hu.mono HB3.out.size))).toAt (Nat.le_trans HB3.out.size hu.size))
  go_wp2_with fail
  refine Qmt.wp_region (C := Cls (Below w3.heap.size w3)) (by kernel_rfl) (by kernel_rfl) ?_
  simp only [List.length_cons, List.length_nil]
  refine Qmt.takes [0, 2] 9 _ _ _ (cls (Qin.start _ _)) (by kernel_rfl) ?_
  simp only [List.filterMap_cons, List.filterMap_nil, List.getElem?_toArray, List.getElem?_cons_zero, List.getElem?_cons_succ]
  change wpQuiet _ _ _ _ [_, _] _
  repeat (go_big_quiet_step (fail))
  refine wpQuiet_nil ?_
  have hB := Qin.start w3.heap.size w3
  generalize ({ w3 with drawn := w3.drawn + 1 } : World) = v1 at hB ⊢
  clear x0 x1 x2 x3 x4 m0 m1 m2
  have HZN := Lib.hid (fun (w : World) (h : w3.heap.size ≤ w.heap.size) => rz_new w h)
  refine recast (d' := #[true, false, true, false, false, false, false, false, false, false, false]) (by decide) ?_
  apply holes7
    (F0 := fun (G_ : World → Nat → Prop) => ∀ (v1 : World) (KZ : Nat), Below w3.heap.size w3 v1 → Hid (Bx v1 KZ (.bool false) (.string ⟨#[]⟩) (.string ⟨#[]⟩)) → w3.heap.size ≤ KZ → G_ v1 KZ)
    (F1 := fun (G_ : World → Option Addr → Nat → Prop) => ∀ (v1 : World) (LA : Option Addr) (LB : Nat), Below w3.heap.size w3 v1 → Hid (LadAt LB v1 LA L) → LB ≤ v1.heap.size → G_ v1 LA LB)
    (F2 := fun (G_ : World → Nat → Option Addr → Nat → Prop) => ∀ (v1 : World) (KZ : Nat) (LA : Option Addr) (LB : Nat), Below w3.heap.size w3 v1 → Hid (Bx v1 KZ (.bool false) (.string ⟨#[]⟩) (.string ⟨#[]⟩)) → w3.heap.size ≤ KZ → Hid (LadAt LB v1 LA L) → LB ≤ v1.heap.size → G_ v1 KZ LA LB)
    (F3 := fun (G_ : World → Option Addr → Nat → Prop) => ∀ (v1 : World) (LA : Option Addr) (LB : Nat), Below w3.heap.size w3 v1 → Hid (LadAt LB v1 LA L) → LB ≤ v1.heap.size → G_ v1 LA LB)
    (F4 := fun (G_ : World → Nat → Option Addr → Nat → Prop) => ∀ (v1 : World) (KZ : Nat) (LA : Option Addr) (LB : Nat), Below w3.heap.size w3 v1 → Hid (Bx v1 KZ (.bool false) (.string ⟨#[]⟩) (.string ⟨#[]⟩)) → w3.heap.size ≤ KZ → Hid (LadAt LB v1 LA L) → LB ≤ v1.heap.size → G_ v1 KZ LA LB)
    (F5 := fun (G_ : World → Option Addr → Nat → Nat → List Value → Prop) => ∀ (v1 : World) (LA : Option Addr) (g : Nat) (gc : Nat) (gp : List Value), Below w3.heap.size w3 v1 → Hid (BlkT v1 g 32 (v.flatMap qv3 ++ gp)) → w3.heap.size ≤ g → G_ v1 LA g gc gp)
    (F6 := fun (G_ : World → Nat → Option Addr → Nat → Nat → List Value → Prop) => ∀ (v1 : World) (KZ : Nat) (LA : Option Addr) (g : Nat) (gc : Nat) (gp : List Value), Below w3.heap.size w3 v1 → Hid (Bx v1 KZ (.bool false) (.string ⟨#[]⟩) (.string ⟨#[]⟩)) → w3.heap.size ≤ KZ → Hid (BlkT v1 g 32 (v.flatMap qv3 ++ gp)) → w3.heap.size ≤ g → g ≠ KZ → G_ v1 KZ LA g gc gp)
  · intro S1 S2 S3 S4 S5 S6 S7
    refine Qmt.fork [1, 8] (cls hB) (by kernel_rfl) (by simp) ⟨?_, ?_, trivial⟩
    · refine Qmt.by_op rfl (by kernel_rfl) ?_
      go_wp2_with fail
      refine (HL.out _ (HNw.out v1 hB)).mono ?_
      rintro e v2 ⟨LA, rfl, hla, hb⟩
      obtain ⟨LB, hLBe⟩ : ∃ LB, v2.heap.size = LB := ⟨_, rfl⟩
      rw [hLBe] at hla
      have HLA2 := hide hla
      have hLB2 : LB ≤ v2.heap.size := by omega
      clear hLBe hla
      have hB2 := hB.trans (hb.mono hB.size)
      clear hb
      go_wp2_with fail
      refine ⟨rfl, ?_⟩
      refine recast (d' := #[true, true, true, false, false, false, false, false, false, false, false]) (by decide) ?_
      exact S2 v2 LA LB hB2 HLA2 hLB2
    · refine Qmt.by_op rfl (by kernel_rfl) ?_
      obtain ⟨v2, KZ, hv, hKe, XZ, HNb, GZ⟩ := HZN.out v1 hB.size
      have hB2 := hB.trans (HNb.out.mono hB.size)
      go_wp2_with fail
      refine ⟨rfl, ?_⟩
      clear hv
      try simp only [hKe]
      clear hKe
      refine recast (d' := #[true, false, true, false, false, false, false, false, true, false, false]) (by decide) ?_
      exact S1 v2 KZ hB2 XZ GZ
  · intro S2 S3 S4 S5 S6 S7 v1 KZ hB XZ GZ
    refine Qmt.fork [1] (cls hB) (by kernel_rfl) (by simp) ⟨?_, trivial⟩
    · refine Qmt.by_op rfl (by kernel_rfl) ?_
      go_wp2_with fail
      refine (HL.out _ (HNw.out v1 hB)).mono ?_
      rintro e v2 ⟨LA, rfl, hla, hb⟩
      obtain ⟨LB, hLBe⟩ : ∃ LB, v2.heap.size = LB := ⟨_, rfl⟩
      rw [hLBe] at hla
      have HLA2 := hide hla
      have hLB2 : LB ≤ v2.heap.size := by omega
      clear hLBe hla
      have hB2 := hB.trans (hb.mono hB.size)
      have XZ2 := hide (XZ.out.keep hb XZ.out.lt)
      clear hb
      go_wp2_with fail
      refine ⟨rfl, ?_⟩
      refine recast (d' := #[true, true, true, false, false, false, false, false, true, false, false]) (by decide) ?_
      exact S3 v2 KZ LA LB hB2 XZ2 GZ HLA2 hLB2
  · intro S3 S4 S5 S6 S7 v1 LA LB hB HLA hLB
    refine Qmt.fork [3, 8] (cls hB) (by kernel_rfl) (by simp) ⟨?_, ?_, trivial⟩
    · refine Qmt.by_op rfl (by kernel_rfl) ?_
      go_wp2_with fail
      refine (HP.out _).mono ?_
      rintro e v2 ⟨rfl, hb⟩
      have HLA2 := hide (HLA.out.below (hb.mono hLB))
      have hLB2 : LB ≤ v2.heap.size := Nat.le_trans hLB hb.size
      have hB2 := hB.trans (hb.mono hB.size)
      clear hb
      go_wp2_with fail
      refine ⟨rfl, ?_⟩
      refine recast (d' := #[true, true, true, true, false, false, false, false, false, false, false]) (by decide) ?_
      exact S4 v2 LA LB hB2 HLA2 hLB2
    · refine Qmt.by_op rfl (by kernel_rfl) ?_
      obtain ⟨v2, KZ, hv, hKe, XZ, HNb, GZ⟩ := HZN.out v1 hB.size
      have hB2 := hB.trans (HNb.out.mono hB.size)
      have HLA2 := hide (HLA.out.below (HNb.out.mono hLB))
      have hLB2 : LB ≤ v2.heap.size := Nat.le_trans hLB HNb.out.size
      go_wp2_with fail
      refine ⟨rfl, ?_⟩
      clear hv
      try simp only [hKe]
      clear hKe
      refine recast (d' := #[true, true, true, false, false, false, false, false, true, false, false]) (by decide) ?_
      exact S3 v2 KZ LA LB hB2 XZ GZ HLA2 hLB2
  · intro S4 S5 S6 S7 v1 KZ LA LB hB XZ GZ HLA hLB
    refine Qmt.fork [3] (cls hB) (by kernel_rfl) (by simp) ⟨?_, trivial⟩
    · refine Qmt.by_op rfl (by kernel_rfl) ?_
      go_wp2_with fail
      refine (HP.out _).mono ?_
      rintro e v2 ⟨rfl, hb⟩
      have HLA2 := hide (HLA.out.below (hb.mono hLB))
      have hLB2 : LB ≤ v2.heap.size := Nat.le_trans hLB hb.size
      have hB2 := hB.trans (hb.mono hB.size)
      have XZ2 := hide (XZ.out.keep hb XZ.out.lt)
      clear hb
      go_wp2_with fail
      refine ⟨rfl, ?_⟩
      refine recast (d' := #[true, true, true, true, false, false, false, false, true, false, false]) (by decide) ?_
      exact S5 v2 KZ LA LB hB2 XZ2 GZ HLA2 hLB2
  · intro S5 S6 S7 v1 LA LB hB HLA hLB
    refine Qmt.fork [4, 8] (cls hB) (by kernel_rfl) (by simp) ⟨?_, ?_, trivial⟩
    · refine Qmt.by_op rfl (by kernel_rfl) ?_
      go_wp2_with fail
      refine (HD.out LB LA tt _ hLB HLA.out).mono ?_
      rintro e v2 ⟨g, gc, gp, rfl, hgw, hgb, hb⟩
      have HG2 := hide hgb
      have Gg : w3.heap.size ≤ g := Nat.le_trans hB.size hgw
      have hB2 := hB.trans (hb.mono hB.size)
      clear hb
      go_wp2_with fail
      refine ⟨rfl, ?_⟩
      refine Qmt.takes [5, 6, 7] 3 _ _ _ (cls hB2) (by kernel_rfl) ?_
      simp only [List.filterMap_cons, List.filterMap_nil, List.getElem?_toArray, List.getElem?_cons_zero, List.getElem?_cons_succ]
      change wpQuiet _ _ _ _ [_, _, _] _
      repeat (go_big_quiet_step (fail))
      refine wpQuiet_nil ?_
      refine recast (d' := #[true, true, true, true, true, true, true, true, false, false, false]) (by decide) ?_
      exact S6 v2 LA g gc gp hB2 HG2 Gg
    · refine Qmt.by_op rfl (by kernel_rfl) ?_
      obtain ⟨v2, KZ, hv, hKe, XZ, HNb, GZ⟩ := HZN.out v1 hB.size
      have hB2 := hB.trans (HNb.out.mono hB.size)
      have HLA2 := hide (HLA.out.below (HNb.out.mono hLB))
      have hLB2 : LB ≤ v2.heap.size := Nat.le_trans hLB HNb.out.size
      go_wp2_with fail
      refine ⟨rfl, ?_⟩
      clear hv
      try simp only [hKe]
      clear hKe
      refine recast (d' := #[true, true, true, true, false, false, false, false, true, false, false]) (by decide) ?_
      exact S5 v2 KZ LA LB hB2 XZ GZ HLA2 hLB2
  · intro S6 S7 v1 KZ LA LB hB XZ GZ HLA hLB
    refine Qmt.fork [4] (cls hB) (by kernel_rfl) (by simp) ⟨?_, trivial⟩
    · refine Qmt.by_op rfl (by kernel_rfl) ?_
      go_wp2_with fail
      refine (HD.out LB LA tt _ hLB HLA.out).mono ?_
      rintro e v2 ⟨g, gc, gp, rfl, hgw, hgb, hb⟩
      have HG2 := hide hgb
      have Gg : w3.heap.size ≤ g := Nat.le_trans hB.size hgw
      have NZ : g ≠ KZ := by have := XZ.out.lt; omega
      have hB2 := hB.trans (hb.mono hB.size)
      have XZ2 := hide (XZ.out.keep hb XZ.out.lt)
      clear hb
      go_wp2_with fail
      refine ⟨rfl, ?_⟩
      refine Qmt.takes [5, 6, 7, 9] 1 _ _ _ (cls hB2) (by kernel_rfl) ?_
      simp only [List.filterMap_cons, List.filterMap_nil, List.getElem?_toArray, List.getElem?_cons_zero, List.getElem?_cons_succ]
      change wpQuiet _ _ _ _ [_, _, _, _] _
      repeat (go_big_quiet_step (fail))
      refine wpQuiet_nil ?_
      refine recast (d' := #[true, true, true, true, true, true, true, true, true, true, false]) (by decide) ?_
      exact S7 v2 KZ LA g gc gp hB2 XZ2 GZ HG2 Gg NZ
  · intro S7 v1 LA g gc gp hB HGv Gg
    refine Qmt.fork [8] (cls hB) (by kernel_rfl) (by simp) ⟨?_, trivial⟩
    · refine Qmt.by_op rfl (by kernel_rfl) ?_
      obtain ⟨v2, KZ, hv, hKe, XZ, HNb, GZ⟩ := HZN.out v1 hB.size
      have hB2 := hB.trans (HNb.out.mono hB.size)
      have HG2 := hide (HGv.out.below HNb.out)
      have NZ : g ≠ KZ := by have := HGv.out.lt; omega
      go_wp2_with fail
      refine ⟨rfl, ?_⟩
      clear hv
      try simp only [hKe]
      clear hKe
      refine Qmt.takes [9] 1 _ _ _ (cls hB2) (by kernel_rfl) ?_
      simp only [List.filterMap_cons, List.filterMap_nil, List.getElem?_toArray, List.getElem?_cons_zero, List.getElem?_cons_succ]
      change wpQuiet _ _ _ _ [_] _
      repeat (go_big_quiet_step (fail))
      refine wpQuiet_nil ?_
      refine recast (d' := #[true, true, true, true, true, true, true, true, true, true, false]) (by decide) ?_
      exact S7 v2 KZ LA g gc gp hB2 XZ GZ HG2 Gg NZ
  · intro v1 KZ LA g gc gp hB XZ GZ HGv Gg NZ
    refine Qmt.fork [10] (cls hB) (by kernel_rfl) (by simp) ⟨?_, trivial⟩
    refine Qmt.by_op rfl (by kernel_rfl) ?_
    have hk := (((Ks.refl (fun k => k = KZ) v1).setCell (p := ⟨KZ, 0, none⟩) (.inl rfl) (.bool false)).setCell (p := ⟨KZ, 1, none⟩) (.inl rfl) (.string ⟨#[]⟩)).setCell (p := ⟨KZ, 2, none⟩) (.inl rfl) (.string ⟨#[]⟩)
    obtain ⟨v2, hv, YZ, hB2⟩ := bx_put hB XZ.out GZ (.bool false) (.string ⟨#[]⟩) (.string ⟨#[]⟩)
    rw [hv] at hk
    obtain ⟨c0, c1, c2, f0, f1, f2⟩ := XZ.out
    go_wp2_with fail
    refine ⟨rfl, ?_⟩
    try rw [hv]
    clear hv c0 c1 c2 f0 f1 f2
    refine Qmt.by_end (cls hB2) (by kernel_rfl) ?_
    have HZ4 := hide (HZ3.out.keep hB2 HZ3.out.lt)
    have HB4 := hide (HB3.out.trans (hB2.mono HB3.out.size))
    have HG4 := hide (hk.blk HGv.out (by exact NZ))
    have hgs : g ≠ V1.heap.size := by omega
    clear hk hB hB2 XZ HGv
    obtain ⟨a0, a1, a2, e0, e1, e2⟩ := YZ.out
    obtain ⟨c0, c1, c2, f0, f1, f2⟩ := HZ4.out
    go_wp2_with fail
    go_region
    go_wp2_with fail
    refine bodyPost_ret (results_srs rfl _ rfl (Bx.drew (HZ4.out.set3 _ _ _))) rfl ?_
    refine ⟨g, gc, gp, rfl, Nat.le_trans HB3.out.size Gg, ?_, (below_set3 HB4.out (by omega) _ _ _).drew⟩
    have hb := HG4.out
    unfold BlkT at hb ⊢
    show ((((v2.setCell _ _).setCell _ _).setCell _ _).heap)[g]? = _
    rw [Below.heap_setCell _ _ _ _ hgs, Below.heap_setCell _ _ _ _ hgs, Below.heap_setCell _ _ _ _ hgs]
    exact hb
end Go.Proofs.YtpbgmpjnfndfjaaGreatDoor.TwT
namespace Go.Proofs.YtpbgmpjnfndfjaaGreatDoor.TwU
open Go.RowKit RnQ RnR RnY TwC TwD TwE TwF TwG TwJ TwK TwQ TwR TpB TpC TpD TpF TpO TpT TpU
theorem lt_sumR {a : Nat} : ∀ (l : List Rat), (∀ x ∈ l, Lt x a) → Lt (sumR l) (l.length * (a + 1) + 1)
  | [], _ => Lt.zero.mono (by omega)
  | x :: l, h => by
    have ih := lt_sumR l (fun y hy => h y (List.mem_cons_of_mem _ hy))
    show Lt (x + sumR l) _
    refine ((h x (List.mem_cons_self ..)).add ih).mono ?_
    rw [List.length_cons, Nat.add_mul]
    omega
theorem mul_bound {k n a : Nat} (h : k ≤ n) : k * a ≤ n * a := Nat.mul_le_mul_right a h
theorem tsum_lt {a n : Nat} {t : List Part} (h : ∀ p ∈ t, Lt p.2 a) (hn : t.length ≤ n) : Lt (tsum t) (n * (a + 1) + 1) := by
  have := lt_sumR (a := a) (t.map (·.2)) (by
    intro x hx
    obtain ⟨p, hp, rfl⟩ := List.mem_map.1 hx
    exact h p hp)
  refine this.mono ?_
  rw [List.length_map]
  have := mul_bound (a := a + 1) hn
  omega
theorem lt_sub {x y : Rat} {i j : Nat} (hx : Lt x i) (hy : Lt y j) : Lt (x - y) (i + j + 1) := by
  rw [Rat.sub_eq_add_neg]
  exact hx.add hy.neg
theorem split_left : ∀ (S : List Rat) (m : Rat), (TpB.split S m).2 = m - sumR (S.take (TpB.split S m).1)
  | [], m => by show m = m - 0; grind
  | s :: S, m => by
    unfold TpB.split
    split
    · show m = m - 0; grind
    · have ih := split_left S (m - s)
      show _ = m - (s + sumR (S.take (TpB.split S (m - s)).1))
      rw [ih]
      grind
theorem split_bnd : ∀ (S : List Rat) (m : Rat), 0 ≤ m → 0 ≤ (TpB.split S m).2 ∧ ∀ s, S[(TpB.split S m).1]? = some s → (TpB.split S m).2 < s
  | [], m, h => ⟨h, fun s hs => by simp at hs⟩
  | x :: S, m, h => by
    unfold TpB.split
    split
    · rename_i hlt
      refine ⟨h, fun s hs => ?_⟩
      have e : x = s := by simpa using hs
      rw [← e]; exact hlt
    · rename_i hge
      obtain ⟨h1, h2⟩ := split_bnd S (m - x) (by grind)
      exact ⟨h1, fun s hs => h2 s (by simpa using hs)⟩
theorem flat_le {n k : Nat} : ∀ (L : List (List Part)), (∀ t ∈ L, t.length ≤ n) → L.length ≤ k → L.flatten.length ≤ k * n
  | [], _, _ => by simp
  | t :: L, h, hk => by
    rw [List.length_cons] at hk
    have ih := flat_le (k := k - 1) L (fun u hu => h u (List.mem_cons_of_mem _ hu)) (by omega)
    rw [List.flatten_cons, List.length_append]
    have h1 := h t (List.mem_cons_self ..)
    have e : k * n = (k - 1) * n + n := by rw [← Nat.succ_mul]; congr 1; omega
    omega
theorem pays_len : ∀ (L : List (List Part)) (m : Rat), (pays L m).length ≤ L.flatten.length
  | [], _ => Nat.le_refl _
  | t :: L, m => by
    unfold pays
    split
    · rw [List.length_map, List.flatten_cons, List.length_append]; omega
    · rw [List.length_append, List.flatten_cons, List.length_append]
      have := pays_len L (m - tsum t)
      omega
theorem addR_lt {s : List Rat × Rat} {c : Int} {q : Rat} {u p : Nat} (h1 : ∀ x ∈ s.1, Lt x u) (h2 : Lt s.2 u) (hq : Lt q p) (hu : 1 ≤ u) : (∀ x ∈ (addR s c q).1, Lt x (u + p + 1)) ∧ Lt (addR s c q).2 (u + p + 1) := by
  unfold addR
  split
  · exact ⟨fun x hx => (h1 x hx).mono (by omega), h2.add hq⟩
  · refine ⟨fun x hx => ?_, h2.mono (by omega)⟩
    rcases List.mem_or_eq_of_mem_set hx with hx | rfl
    · exact (h1 x hx).mono (by omega)
    · refine Lt.add ?_ hq
      rw [List.getD_eq_getElem?_getD]
      cases hs : s.1[c.toNat]? with
      | none => exact Lt.zero.mono hu
      | some y => exact h1 y (List.mem_of_getElem? hs)
theorem addAll_lt {p : Nat} : ∀ (l : List Part) (s : List Rat × Rat) (u : Nat), (∀ q ∈ l, Lt q.2 p) → (∀ x ∈ s.1, Lt x u) → Lt s.2 u → 1 ≤ u → (∀ x ∈ (addAll s l).1, Lt x (u + l.length * (p + 1))) ∧ Lt (addAll s l).2 (u + l.length * (p + 1))
  | [], s, u, _, h1, h2, _ => ⟨fun x hx => (h1 x hx).mono (by omega), h2.mono (by omega)⟩
  | q :: l, s, u, hq, h1, h2, hu => by
    obtain ⟨g1, g2⟩ := addR_lt (c := q.1) h1 h2 (hq q (List.mem_cons_self ..)) hu
    obtain ⟨k1, k2⟩ := addAll_lt l (addR s q.1 q.2) (u + p + 1) (fun x hx => hq x (List.mem_cons_of_mem _ hx)) g1 g2 (by omega)
    have e : u + p + 1 + l.length * (p + 1) = u + (q :: l).length * (p + 1) := by rw [List.length_cons, Nat.add_mul]; omega
    rw [e] at k1 k2
    exact ⟨k1, k2⟩
/-- a ladder of few small parts -/
structure Few8 (n : Nat) (L : List (List Part)) : Prop where
  len : L.length = 8
  inn : ∀ t ∈ L, ∀ p ∈ t, 0 ≤ p.1 ∧ p.1 < (n : Int)
  tl : ∀ t ∈ L, t.length ≤ 24
  amt : ∀ t ∈ L, ∀ p ∈ t, Lt p.2 4000
section
variable {n : Nat} {L : List (List Part)} {m : Rat}
theorem Few8.tsum (h : Few8 n L) {t : List Part} (ht : t ∈ L) : Lt (TpC.tsum t) 100000 := (tsum_lt (h.amt t ht) (h.tl t ht)).mono (by omega)
theorem Few8.rest (h : Few8 n L) (hm : Lt m 10000000) (k : Nat) : Lt (m - sumR (sums (L.take k))) 11000000 := by
  have hs := lt_sumR (a := 100000) (sums (L.take k)) (by
    intro x hx
    unfold sums at hx
    obtain ⟨t, ht, rfl⟩ := List.mem_map.1 hx
    exact h.tsum (List.mem_of_mem_take ht))
  have hl : (sums (L.take k)).length ≤ 8 := by unfold sums; rw [List.length_map, List.length_take, h.len]; omega
  have h2 : (sums (L.take k)).length * (100000 + 1) ≤ 8 * (100000 + 1) := mul_bound hl
  exact (lt_sub hm hs).mono (by omega)
theorem Few8.left (h : Few8 n L) (hm : Lt m 10000000) : Lt (TpB.split (sums L) m).2 11000000 := by
  rw [split_left]
  have e : (sums L).take (TpB.split (sums L) m).1 = sums (L.take (TpB.split (sums L) m).1) := by unfold sums; rw [List.map_take]
  rw [e]
  exact h.rest hm _
theorem Few8.share (h : Few8 n L) (hm : Lt m 10000000) (h0 : 0 ≤ m) {t : List Part} (ht : L[(TpB.split (sums L) m).1]? = some t) : TpC.tsum t ≠ 0 ∧ Lt ((TpB.split (sums L) m).2 / TpC.tsum t) 11100000 := by
  obtain ⟨h1, h2⟩ := split_bnd (sums L) m h0
  have h3 := h2 (TpC.tsum t) (by unfold sums; rw [List.getElem?_map]; unfold sums at ht; rw [ht]; rfl)
  have hne : TpC.tsum t ≠ 0 := by grind
  exact ⟨hne, ((h.left hm).div (h.tsum (List.mem_of_getElem? ht)) hne).mono (by omega)⟩
theorem Few8.pay (h : Few8 n L) (hm : Lt m 10000000) (h0 : 0 ≤ m) : ∀ p ∈ pays L m, Lt p.2 11200000 := by
  intro p hp
  rw [pays_split] at hp
  rcases List.mem_append.1 hp with hp | hp
  · obtain ⟨t, ht, hp⟩ := List.mem_flatten.1 hp
    exact (h.amt t (List.mem_of_mem_take ht) p hp).mono (by omega)
  · cases ht : L[(TpB.split (sums L) m).1]? with
    | none => rw [ht] at hp; cases hp
    | some t =>
      rw [ht] at hp
      have hp' : p ∈ sharesL t ((TpB.split (sums L) m).2 / TpC.tsum t) := hp
      unfold sharesL at hp'
      obtain ⟨q, hq, rfl⟩ := List.mem_map.1 hp'
      exact ((h.amt t (List.mem_of_getElem? ht) q hq).mul (h.share hm h0 ht).2).mono (by omega)
theorem Few8.plen (h : Few8 n L) : (pays L m).length ≤ 192 := Nat.le_trans (pays_len L m) (flat_le (n := 24) (k := 8) L h.tl (by rw [h.len]; omega))
theorem Few8.adds (h : Few8 n L) (hm : Lt m 10000000) (h0 : 0 ≤ m) {l : List Part} (hl : l <+: pays L m) : SzR (addAll (zeros n, 0) l) := by
  have hll : l.length ≤ 192 := Nat.le_trans hl.length_le h.plen
  have hz : ∀ x ∈ zeros n, Lt x 1 := by
    intro x hx
    unfold zeros at hx
    rw [(List.mem_replicate.1 hx).2]
    exact Lt.zero
  obtain ⟨k1, k2⟩ := addAll_lt (p := 11200000) l (zeros n, 0) 1 (fun q hq => h.pay hm h0 q (hl.subset hq)) hz Lt.zero (by omega)
  have hb : l.length * (11200000 + 1) ≤ 192 * (11200000 + 1) := mul_bound hll
  exact ⟨fun x hx => (k1 x hx).mono (by omega), k2.mono (by omega)⟩
theorem Few8.del (h : Few8 n L) (hn : n ≤ 100) (hm : Lt m 10000000) (h0 : 0 ≤ m) : DelSz n L [] m := by
  have hlen : L.length ≤ 100 := by rw [h.len]; omega
  have hz : (zeros n).length = n := by simp [zeros]
  refine ⟨hn, ⟨⟨hlen, fun t ht => (h.tsum ht).mono (by omega), fun k _ => (h.rest hm k).mono (by omega)⟩, hm.mono (by omega), fun t ht => Nat.le_trans (h.tl t ht) (by omega), fun t ht p hp => (h.amt t ht p hp).mono (by omega), ⟨?_, by rw [hz]; exact hn, fun p hp => (h.pay hm h0 p hp).mono (by omega), fun l' hl => h.adds hm h0 hl⟩, (h.left hm).mono (by omega), fun t ht => ⟨(h.share hm h0 ht).1, (h.share hm h0 ht).2.mono (by omega)⟩⟩, fun p hp => (by cases hp), ?_, fun p hp => (by cases hp), fun k p hk => (by simp at hk)⟩
  · intro p hp
    right
    show 0 ≤ p.1 ∧ p.1 < ((zeros n).length : Int)
    rw [hz]
    exact pays_claims (Q := fun c => 0 ≤ c ∧ c < (n : Int)) L m h.inn p hp
  · exact fun x hx => (h.adds hm h0 (List.prefix_refl _)).1 x hx
end
/-- the claims of an estate, few and small -/
structure FewC (cs : List Cm) : Prop where
  len : cs.length ≤ 24
  each : ∀ c ∈ cs, c.holder = -1 ∧ 0 ≤ c.rank ∧ c.rank ≤ 7 ∧ ¬ c.amt < 0 ∧ Lt c.amt 4000
theorem FewC.few {cs : List Cm} (h : FewC cs) (k : Nat) : Few8 (cs.take k).length (ranksOf ((cs.take k).map Cm.d)) := by
  have hin : ∀ t ∈ ranksOf ((cs.take k).map Cm.d), ∃ r, t = rankT r 0 ((cs.take k).map Cm.d) := fun t ht => by
    unfold ranksOf at ht
    obtain ⟨r, _, rfl⟩ := List.mem_map.1 ht
    exact ⟨r, rfl⟩
  refine ⟨ranks_len _, fun t ht p hp => ?_, fun t ht => ?_, fun t ht p hp => ?_⟩
  all_goals obtain ⟨r, rfl⟩ := hin t ht
  · have := rankT_in r _ 0 p hp
    rw [List.length_map] at this
    exact ⟨by simpa using this.1, by simpa using this.2.1⟩
  · refine Nat.le_trans (rankT_le _ _ _) ?_
    rw [List.length_map, List.length_take]
    have := h.len
    omega
  · obtain ⟨_, _, c, hc, e⟩ := rankT_in r _ 0 p hp
    obtain ⟨x, hx, rfl⟩ := List.mem_map.1 hc
    rw [e]
    exact (h.each x (List.mem_of_mem_take hx)).2.2.2.2
theorem FewC.tot_lt {cs : List Cm} (h : FewC cs) (k : Nat) : Lt (totC (cs.take k)) 40000000000 := by
  unfold totC
  have h0 : ∀ x ∈ (cs.take k).map (·.amt), Lt x 4000 := by
    intro x hx
    obtain ⟨c, hc, rfl⟩ := List.mem_map.1 hx
    exact (h.each c (List.mem_of_mem_take hc)).2.2.2.2
  have hl : ((cs.take k).map (·.amt)).length ≤ 24 := by rw [List.length_map, List.length_take]; have := h.len; omega
  generalize (cs.take k).map (·.amt) = l at *
  have h2 : l.length * (4000 + 1) + 1 ≤ 40000000000 := by omega
  exact (lt_sumR l h0).mono h2
theorem FewC.ly {cs : List Cm} (h : FewC cs) : LySz cs := by
  refine ⟨by have := h.len; omega, fun c hc => ?_, fun c hc => ?_, fun k r _ hr => ?_, fun k _ => ?_⟩
  · obtain ⟨_, h1, h2, _, _⟩ := h.each c hc
    exact ⟨h1, by omega⟩
  · exact (h.each c hc).2.2.2.2.mono (by omega)
  · refine ((h.few k).tsum ?_).mono (by omega)
    unfold ranksOf
    exact List.mem_map.2 ⟨r, List.mem_range.2 hr, rfl⟩
  · exact h.tot_lt k
theorem FewC.del {cs : List Cm} (h : FewC cs) {m : Rat} (hm : Lt m 10000000) (h0 : 0 ≤ m) : DelSz cs.length (ranksOf (cs.map Cm.d)) [] m := by
  have := (h.few cs.length)
  rw [List.take_length] at this
  exact this.del (by have := h.len; omega) hm h0
/-- the estate of claims -/
def estOf (cs : List Cm) : EstD := ⟨0, cs.map Cm.d, []⟩
theorem FewC.eok {cs : List Cm} (h : FewC cs) : EOk (estOf cs) := by
  refine ⟨by show (0 : Rat) ≤ 0; grind, fun c hc => ?_, fun c hc => ?_, fun a ha => (by cases ha), fun a ha => (by cases ha), List.Pairwise.nil⟩
  all_goals
    obtain ⟨x, hx, rfl⟩ := List.mem_map.1 hc
    obtain ⟨_, h1, h2, h3, _⟩ := h.each x hx
  · show 0 ≤ x.amt; grind
  · show x.rank.toNat < 8; omega
theorem gv_eq {cs : List Cm} (h : FewC cs) (m : Rat) : gv cs.length (ranksOf (cs.map Cm.d)) m = (List.range cs.length).map (deliver (layOf (estOf cs)) m) := by
  have e := TwO.deliver_eq (lay_ok h.eok) m (fun p hp => by cases hp)
  have hc : (layOf (estOf cs)).cnt = cs.length := by show ((cs.map Cm.d)).length = _; rw [List.length_map]
  rw [hc] at e
  exact congrArg Prod.fst e
end Go.Proofs.YtpbgmpjnfndfjaaGreatDoor.TwU
