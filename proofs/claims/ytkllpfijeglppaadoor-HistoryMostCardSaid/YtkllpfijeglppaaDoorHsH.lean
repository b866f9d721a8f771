/- The walk of line. -/
import Derived.Test.YtkllpfijeglppaaDoorHsG
namespace Go.Proofs.YtkllpfijeglppaaDoor.HsH
open Go.RowKit Hs HsB HsC HsD HsF HsG
theorem join_bound (l : List ByteArray) (h : ∀ x ∈ l, x.size ≤ 21) (hl : l.length ≤ 6) : (Lib.join (l.map (fun x : ByteArray => x.data.toList)) [32]).length ≤ 1000 := by
  cases l with
  | nil => simp [Lib.join_nil]
  | cons a l =>
    rw [List.map_cons, Lib.join_length]
    have key : ∀ m : List ByteArray, (∀ x ∈ m, x.size ≤ 21) → Lib.lens (m.map (fun x : ByteArray => x.data.toList)) ≤ 21 * m.length := by
      intro m
      induction m with
      | nil => intro _; simp [Lib.lens]
      | cons b m ih =>
        intro hm
        have h1 := hm b (by simp)
        have h2 := ih (fun x hx => hm x (by simp [hx]))
        have h3 : b.data.toList.length = b.size := by simp
        simp only [List.map_cons, Lib.lens, List.length_cons, List.sum_cons, List.map_map] at h2 ⊢
        omega
    have := key (a :: l) h
    simp only [List.length_cons, List.map_cons, List.length_map] at this hl ⊢
    simp
    omega
theorem mk_append (a b : List UInt8) : ((⟨a.toArray⟩ : ByteArray) ++ ⟨b.toArray⟩) = ⟨(a ++ b).toArray⟩ := by
  apply ByteArray.ext
  apply Array.toList_inj.1
  simp [ByteArray.data_append]
theorem mk_size (a : List UInt8) : (⟨a.toArray⟩ : ByteArray).size = a.length := by simp [ByteArray.size]
/-- the text of the words with spaces between them -/
def joinOf (xs : List ByteArray) : List UInt8 := Lib.join (xs.map (fun x : ByteArray => x.data.toList)) [32]
theorem join_any (g c B : Nat) (xs : List ByteArray) (w : World) (h : w.ownsRow B 9 1 (.slice (some ⟨g, 0, none⟩) xs.length c) xs.length (strs xs)) (hg : g < w.heap.size) (hc : xs.length ≤ c) (hl : xs.length ≤ 6) (hj : (joinOf xs).length ≤ 1000) :
    Calls Tryd.prog 52 #[.slice (some ⟨g, 0, none⟩) xs.length c, .string ⟨#[32]⟩] w fun e w' => e = .returned (.string ⟨(joinOf xs).toArray⟩) ∧ Below w.heap.size w w' := by
  have hcells : ∀ (j : Nat) x, xs[j]? = some x → w.cell? ⟨g, 0 + j, none⟩ = some (.string x) := by
    intro j x hj
    have hjl : j < xs.length := (List.getElem?_eq_some_iff.1 hj).1
    rw [Nat.zero_add, h.cellAt j (by omega)]
    simp [strs, hj]
  have hN : xs.length ≤ 140737488355328 := by omega
  have hJ : (Lib.join (xs.map fun x : ByteArray => x.data.toList) (⟨#[32]⟩ : ByteArray).data.toList).length ≤ 140737488355328 := Nat.le_trans hj (by omega)
  exact Tryd.strings_Join g 0 c xs ⟨#[32]⟩ w hcells hg hN hc hJ
set_option maxHeartbeats 2000000 in
set_option maxRecDepth 100000 in
theorem line_any (r : HRow) (w : World) (hin : RowIn r) (he : Env w) :
    Calls Tryd.prog 34 #[.agg #[.int .i64 r.day, .int .i64 r.kind, .int .i64 r.src, .int .i64 r.dst, .int .i64 r.amount, .int .i64 r.worth]] w
      fun e w' => e = .returned (.tuple #[.string (lineOf r).1, .bool (lineOf r).2]) ∧ Below w.heap.size w w' := by
  obtain ⟨i0, hi, hz0, hz1, hz2⟩ := info_parts infoS
  have hx := wordsOf_in hin
  obtain ⟨hl1, hl2⟩ := wordsOf_len r
  obtain ⟨key, ns, ok, hw⟩ : ∃ key ns ok, wordsOf r = (key, ns, ok) := ⟨_, _, _, rfl⟩
  rw [hw] at hx hl1 hl2
  dsimp only at hx hl1 hl2
  have HW := hide hw
  have HX := hide hx
  clear hw hx
  go_enter Tryd.func34, Tryd.ntmps34
  go_wp2_with fail
  refine (words_any r _).mono ?_
  rw [HW.out]
  rintro e w1 ⟨v, rfl, hown, hb1⟩
  obtain ⟨A, cp, rfl⟩ := own_slice hown
  dsimp only
  have hbel1 : Below w.heap.size w w1 := ((Below.refl _ _).alloc (Nat.le_refl _) _).trans (hb1.mono (by simp))
  go_wp2_with fail
  go_loopw [6, 7, 20] (fun vk vo vi wr => ∃ k : Nat, k ≤ ns.length ∧ vi = .int .i64 k ∧ vk = .bool (ok && (ns.take k).all fits) ∧ wr.ownsRow w1.heap.size 9 1 vo (outOf key (ns.take k)).length (strs (outOf key (ns.take k))) ∧ Below w1.heap.size w1 wr) (fun _ _ vi _ => ns.length - (intOf vi).toNat)
  case atStart => exact ⟨0, by omega, rfl, by simp, World.ownsRow_nil _ _ _ _, Below.refl _ _⟩
  case round =>
    obtain ⟨k, hk, rfl, rfl, hrow, hbr⟩ := hrel
    have hownr := own_below hown hbr
    have hwr : w.heap.size ≤ wr.heap.size := Nat.le_trans hbel1.size hbr.size
    have hew : Env wr := he.below (hbel1.trans (hbr.mono hbel1.size))
    have hol : (outOf key (ns.take k)).length ≤ 6 := (outOf_le hl2 (by simp; omega) (fun m hm => HX.out m (List.mem_of_mem_take hm))).2
    obtain ⟨B, c2, rfl⟩ := own_slice hrow
    by_cases hlt : k < ns.length
    · obtain ⟨n, hn0⟩ : ∃ n, ns[k]? = some n := ⟨_, List.getElem?_eq_getElem hlt⟩
      have hn : In64 n := HX.out n (List.mem_of_getElem? hn0)
      obtain ⟨g, cg, hA, _, _⟩ := hownr.form (by omega)
      cases hA
      have hcell : wr.cell? ⟨g, k, none⟩ = some (.int .i64 n) := (hownr.cellAt k (by omega)).trans (ints_get hn0)
      have htk : Hid (ns.take (k + 1) = ns.take k ++ [n]) := by
        show ns.take (k + 1) = _
        rw [List.take_add_one, hn0]; rfl
      have hnin := hide hn0
      clear hn0
      have htkall : (ns.take (k + 1)).all fits = ((ns.take k).all fits && fits n) := by rw [htk.out]; simp
      have HTA := hide htkall
      clear htkall
      cases h0 : ((k : Int) == 0)
      · have hk0 : ns.take k ≠ [] := by
          intro e
          have := congrArg List.length e
          have h0' : (k : Int) ≠ 0 := by simpa using h0
          rw [List.length_take, List.length_nil] at this
          omega
        have hout : Hid (outOf key (ns.take (k + 1)) = outOf key (ns.take k) ++ [tx n]) := by
          show outOf key (ns.take (k + 1)) = _
          rw [htk.out, outOf_snoc _ _ _ hk0]
        clear hk0
        cases hb : (ok && (ns.take k).all fits) <;> cases hf : fits n
        all_goals
          have hnew : Hid ((ok && (ns.take (k + 1)).all fits) = ((ok && (ns.take k).all fits) && fits n)) := by
            show (ok && (ns.take (k + 1)).all fits) = _
            rw [HTA.out, Bool.and_assoc]
          have HF := hide hf
          have HB := hide hb
          clear hf
          go_wp2_with (first
            | (go_at_call 51; refine (word_any n _ hn hew).mono ?_; rintro e w2 ⟨rfl, hb2⟩; rw [HF.out]; have hrow2 := own_below hrow hb2; have hsz2 := hb2.size)
            | (at_builtin
               refine wpList_append_own _ rfl (.tmp 34) (.tmp 36) 94 rfl w1.heap.size 9 i0 _ 1 16 Tryd.underlying94 hi hz0 hz1 hz2 rfl (by decide) _ _ _ rfl (hrow2.alloc _) ⟨w2.heap.size, 0, none⟩ 1 1 [.string (tx n)] rfl rfl ?c1 ?c2 ?c3 ?c4 ?c5 ?_
               case c1 => exact cells_new _ [.string (tx n)] _
               case c2 => simp [Value.oneCell']
               case c3 => unfold maxLen; omega
               case c4 => omega
               case c5 => have := hbr.size; simp; omega
               intro v3 w3 hown3 hg3 _)
            )
          go_roundw
          case rel =>
            refine ⟨k + 1, by omega, by go_num, ?_, ?_, ?_⟩
            · rw [hnew.out, HB.out, HF.out]; rfl
            · rw [hout.out]
              show w3.ownsRow _ _ _ _ (_ ++ [tx n]).length (strs (_ ++ [tx n]))
              rw [List.length_append]
              have e : strs (outOf key (ns.take k) ++ [tx n]) = strs (outOf key (ns.take k)) ++ [.string (tx n)] := by simp [strs]
              rw [e]
              exact hown3
            · refine (((hbr.trans (hb2.mono hbr.size)).alloc (Nat.le_trans hbr.size hb2.size) _).grown hg3 (by have := hbr.size; simp; omega) ?_)
              intro g' hg'
              exact (hrow2.lt g' hg').1
          case measure => simp [intOf]; omega
      · obtain rfl : k = 0 := by
          have h0' : (k : Int) = 0 := by simpa using h0
          omega
        have hout : Hid (outOf key (ns.take (0 + 1)) = [tx n, key]) := by
          show outOf key (ns.take (0 + 1)) = _
          rw [htk.out]; rfl
        clear h0
        cases hb : (ok && (ns.take 0).all fits) <;> cases hf : fits n
        all_goals
          have hnew : Hid ((ok && (ns.take (0 + 1)).all fits) = ((ok && (ns.take 0).all fits) && fits n)) := by
            show (ok && (ns.take (0 + 1)).all fits) = _
            rw [HTA.out, Bool.and_assoc]
          have HF := hide hf
          have HB := hide hb
          clear hf
          go_wp2_with (first
            | (go_at_call 51; refine (word_any n _ hn hew).mono ?_; rintro e w2 ⟨rfl, hb2⟩; rw [HF.out]; have hrow2 := own_below hrow hb2; have hsz2 := hb2.size)
            | (at_builtin
               refine wpList_append_own _ rfl (.tmp 34) (.tmp 36) 94 rfl w1.heap.size 9 i0 _ 1 16 Tryd.underlying94 hi hz0 hz1 hz2 rfl (by decide) _ _ _ rfl (hrow2.alloc _) ⟨w2.heap.size, 0, none⟩ 1 1 [.string (tx n)] rfl rfl ?c1 ?c2 ?c3 ?c4 ?c5 ?_
               case c1 => exact cells_new _ [.string (tx n)] _
               case c2 => simp [Value.oneCell']
               case c3 => unfold maxLen; omega
               case c4 => omega
               case c5 => have := hbr.size; simp; omega
               intro v3 w3 hown3 hg3 _)
            | (at_builtin
               refine wpList_append_own _ rfl (.tmp 40) (.tmp 42) 94 rfl w1.heap.size 9 i0 _ 1 16 Tryd.underlying94 hi hz0 hz1 hz2 rfl (by decide) _ _ _ rfl (hown3.alloc _) ⟨w3.heap.size, 0, none⟩ 1 1 [.string key] rfl rfl ?c1 ?c2 ?c3 ?c4 ?c5 ?_
               case c1 => exact cells_new _ [.string key] _
               case c2 => simp [Value.oneCell']
               case c3 => unfold maxLen; omega
               case c4 => omega
               case c5 => have := hbr.size; have := hg3.size; simp at this ⊢; omega
               intro v4 w4 hown4 hg4 _)
            )
          go_roundw
          case rel =>
            refine ⟨0 + 1, by omega, by go_num, ?_, ?_, ?_⟩
            · rw [hnew.out, HB.out, HF.out]; rfl
            · rw [hout.out]
              exact hown4
            · have hA := ((hbr.trans (hb2.mono hbr.size)).alloc (Nat.le_trans hbr.size hb2.size) (.cells #[.string (tx n)] 9)).grown hg3 (by have := hbr.size; simp; omega) (fun g' hg' => (hrow2.lt g' hg').1)
              exact (hA.alloc hA.size _).grown hg4 (by have := hA.size; simp; omega) (fun g' hg' => (hown3.lt g' hg').1)
          case measure => simp [intOf]; omega
    · obtain rfl : k = ns.length := by omega
      rw [List.take_length] at hrow hol
      have hall : (ns.take ns.length).all fits = ns.all fits := by rw [List.take_length]
      rw [hall]
      clear hall
      have hlen : lineOf r = (⟨(joinOf (outOf key ns) ++ [10]).toArray⟩, ok && ns.all fits) := by
        unfold lineOf; rw [HW.out]; rfl
      have HLN := hide hlen
      clear hlen
      have hjb : (joinOf (outOf key ns)).length ≤ 1000 := join_bound _ (outOf_le hl2 hl1 HX.out).1 (outOf_le hl2 hl1 HX.out).2
      have hbw : Below w.heap.size w wr := hbel1.trans (hbr.mono hbel1.size)
      rcases Nat.eq_zero_or_pos (outOf key ns).length with hz | hp
      · have hnil : Hid (outOf key ns = []) := List.eq_nil_of_length_eq_zero hz
        clear hjb
        have HZ := hide hz
        clear hz
        go_wp2_with fail
        rw [HZ.out]
        refine (Tryd.strings_Join_none _ _ _ _).mono ?_
        rintro e w2 ⟨rfl, rfl⟩
        go_wp2_with fail
        go_ret2
        refine ⟨?_, hbw⟩
        rw [HLN.out, hnil.out]; rfl
      · obtain ⟨g3, c3, hB, _, hg3⟩ := hrow.form hp
        cases hB
        have hcap : (outOf key ns).length ≤ c2 := by
          rcases hrow.2 with ⟨h, _⟩ | ⟨_, _, _, h, _, _, h2, _⟩
          · cases h
          · injection h with _ _ h3; omega
        have hcon := join_any g3 c2 w1.heap.size (outOf key ns) wr hrow hg3 hcap hol hjb
        have HC := Lib.hid hcon
        clear hcon
        have hjs : (⟨(joinOf (outOf key ns)).toArray⟩ : ByteArray).size ≤ 1000 := by rw [mk_size]; exact hjb
        have hma : Hid ((⟨(joinOf (outOf key ns)).toArray⟩ : ByteArray) ++ ⟨#[10]⟩ = ⟨(joinOf (outOf key ns) ++ [10]).toArray⟩) := mk_append (joinOf (outOf key ns)) [10]
        go_wp2_with fail
        refine HC.out.mono ?_
        rintro e w2 ⟨rfl, hb2⟩
        go_wp2_with fail
        go_ret2
        refine ⟨?_, hbw.trans (hb2.mono hbw.size)⟩
        rw [HLN.out, ← hma.out]
        rfl
end Go.Proofs.YtkllpfijeglppaaDoor.HsH
