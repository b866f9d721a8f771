/- The walk of the law HistoryParse. -/
import Derived.Test.YtkllpfijeglppaaDoorHsLaw1
import Derived.Test.YtkllpfijeglppaaDoorWd
import Derived.Lib.ConvBytes
import Derived.Deep.RegionLaw
import Derived.IntWalk
namespace Go.Proofs.YtkllpfijeglppaaDoor.HsLaw8
open Go.RowKit Hs HsB HsC HsD HsF HsG HsH HsE HsI HsJ HsK HsL HsM HsN HsO HsP HsQ HsR HsS HsT HsU HsV HsW HsLaw1 Wd
theorem formatOf_le (l : List HRow) : (formatOf l).length ≤ 8192 := by
  unfold formatOf
  split
  · simp
  · rename_i h
    omega
/-- the bytes of a slice: some string -/
def BytesN (w : World) (b n : Nat) : Prop := ∃ s : ByteArray, s.size = n ∧ Lib.Bytes w b 0 s
theorem conv_below (w : World) (e : TypeId) (s : ByteArray) : Below w.heap.size w (Lib.bytesWorld w e s) :=
  ⟨rfl, rfl, rfl, by rw [Lib.bytesWorld_size]; omega, fun k hk => Lib.bytesWorld_at_old w e s k hk⟩
theorem conv_bytes (w : World) (e : TypeId) (s : ByteArray) : Lib.Bytes (Lib.bytesWorld w e s) w.heap.size 0 s := by
  intro i hi
  rw [Nat.zero_add, Lib.bytesWorld_cell w e s i hi]
  have : s.data.toList.getD i 0 = s[i] := by
    rw [List.getD_eq_getElem?_getD, List.getElem?_eq_getElem (by simpa using hi)]; rfl
  rw [this]
theorem conv_frozen (w : World) (e : TypeId) (s : ByteArray) (j : Nat) (hj : j < s.size) : (Lib.bytesWorld w e s).frozen? ⟨w.heap.size, j, none⟩ = false := by
  have h := Lib.bytesWorld_at_new w e s
  have h2 : s.size ≤ (Lib.bytesCells w e s).size := by simp [Lib.bytesCells]
  unfold World.frozen?
  dsimp only
  rw [h]
  have h3 : ¬ (Lib.bytesCells w e s).size ≤ j := by omega
  simp only [h3, decide_false, Bool.false_and]
theorem bytes_set {w : World} {b k : Nat} {s : ByteArray} {c : Int} (h : Lib.Bytes w b 0 s) (hc : 0 ≤ c ∧ c ≤ 255) : BytesN (w.setCell ⟨b, k, none⟩ (.int .u8 c)) b s.size := by
  refine ⟨⟨s.data.setIfInBounds k (UInt8.ofNat c.toNat)⟩, Array.size_setIfInBounds, fun i hi => ?_⟩
  have hi' : i < s.size := by
    have e : (s.data.setIfInBounds k (UInt8.ofNat c.toNat)).size = s.data.size := Array.size_setIfInBounds
    have h2 : i < (s.data.setIfInBounds k (UInt8.ofNat c.toNat)).size := hi
    rw [e] at h2; exact h2
  have h1 := h i hi'
  rw [Nat.zero_add] at h1 ⊢
  by_cases e : k = i
  · subst e
    rw [World.cell?_setCell_same _ _ _ h1]
    have : ((⟨s.data.setIfInBounds k (UInt8.ofNat c.toNat)⟩ : ByteArray)[k]'hi) = UInt8.ofNat c.toNat := by
      rw [ByteArray.getElem_eq_getElem_data]; simp
    rw [this, UInt8.toNat_ofNat']
    congr 2
    omega
  · rw [World.cell?_setCell_other _ _ _ _ (by intro h'; injection h' with _ h2; exact e h2), h1]
    have : ((⟨s.data.setIfInBounds k (UInt8.ofNat c.toNat)⟩ : ByteArray)[i]'hi) = s[i] := by
      rw [ByteArray.getElem_eq_getElem_data, ByteArray.getElem_eq_getElem_data]
      rw [Array.getElem_setIfInBounds_ne _ e]
    rw [this]
theorem reads_of {W : World} {g o : Nat} {l : List UInt8} {F : ByteArray} (h : Lib.Bytes W g 0 F) (hg : g < W.heap.size) (hl : ∀ j u, l[j]? = some u → F.data.toList[o + j]? = some u) : Reads W W.heap.size 1 (some ⟨g, o, none⟩) l.length (Lib.byteCells l) := by
  refine ⟨by simp [Lib.byteCells], fun _ => ⟨⟨g, o, none⟩, rfl, hg, fun j u hu => ?_⟩⟩
  simp only [Lib.byteCells, List.getElem?_map, Option.map_eq_some_iff] at hu
  obtain ⟨b, hb, rfl⟩ := hu
  have h1 := hl j b hb
  obtain ⟨h2, h3⟩ := List.getElem?_eq_some_iff.1 h1
  have h4 : o + j < F.size := by simpa using h2
  have h5 := h (o + j) h4
  have e : (⟨g, o, none⟩ : Addr).add j = ⟨g, 0 + (o + j), none⟩ := by
    unfold Addr.add
    by_cases hj : j = 0
    · subst hj; simp
    · simp [hj]
  rw [e, h5]
  have h6 : F[o + j] = b := h3
  rw [h6]
theorem own_empty {V : World} {base g : Nat} (hb : base ≤ g) (h : V.heap[g]? = some (.cells #[] 5 (0, 0))) : V.ownsRow base 5 1 (.slice (some ⟨g, 0, none⟩) 0 0) 0 [] :=
  ⟨rfl, .inr ⟨g, 0, #[], rfl, hb, h, Nat.le_refl _, Nat.zero_le _, rfl, rfl⟩⟩
theorem cell_one {V : World} {g : Nat} {z : Value} (h : V.heap[g]? = some (.cells #[z] 5 (0, 0))) (hg : g < V.heap.size) : Reads V V.heap.size 1 (some ⟨g, 0, none⟩) 1 [z] := by
  refine ⟨rfl, fun _ => ⟨⟨g, 0, none⟩, rfl, hg, fun j u hu => ?_⟩⟩
  have hj : j = 0 := by
    have := (List.getElem?_eq_some_iff.1 hu).1
    simp at this; exact this
  subst hj
  have : z = u := by simpa using hu
  subst this
  have e : (⟨g, 0, none⟩ : Addr).add 0 = ⟨g, 0, none⟩ := by unfold Addr.add; simp
  rw [e, Lib.cell_of_heap h]; rfl
/-- a row of bytes that the call made -/
def Own (V : World) (base : Nat) (l : List UInt8) (v : Value) : Prop := V.ownsRow base 5 1 v l.length (Lib.byteCells l)
theorem Own.alloc {V : World} {base : Nat} {l : List UInt8} {v : Value} (h : Own V base l v) (o : Obj) : Own (V.alloc o) base l v := World.ownsRow.alloc h o
theorem Own.drew {V : World} {base : Nat} {l : List UInt8} {v : Value} (h : Own V base l v) : Own V.drew base l v := h
theorem Own.ge {V : World} {base : Nat} {l : List UInt8} {v : Value} (h : Own V base l v) : ∀ g, v.ownBlock = some g → base ≤ g := fun g hg => (World.ownsRow.lt h g hg).1
theorem below_drew {B : Nat} {a w : World} (h : Below B a w) : Below B a w.drew := ⟨h.os, h.tape, h.output, h.size, h.block⟩
theorem own0 (W : World) (base : Nat) (h : base ≤ W.heap.size) : Own (W.alloc (.cells #[] 5)) base [] (.slice (some ⟨W.heap.size, 0, none⟩) 0 0) := own_empty h (heap_alloc_new W _)
theorem app_step {V : World} {ops : Array Oper} {o : Oper} {a : Act} {K : Act → World → Prop} {Q : Exit → Act → World → Prop} {E : Prop} (s x : Operand) (hgd : o.guard = none)
    (ho : o.op = .call { callee := .builtin .append, args := #[s, x], argTypes := #[29, 29] }) (base : Nat) (l : List UInt8) (v : Value) (hs : a.eval s = v) (hown : Own V base l v) (news : List UInt8) (A : Option Addr) (c : Nat)
    (hx : a.eval x = .slice A news.length c) (hr : Reads V V.heap.size 1 A news.length (Lib.byteCells news)) (hl : l.length + news.length ≤ 20000) (hbase : base ≤ V.heap.size)
    (h : ∀ v' w', Own w' base (l ++ news) v' → V.grownBy w' v.ownBlock → K (a.put o.dst v') w') :
    if Region.wanted o (yielded ops a.tmps) = true then Oper.wp Tryd.prog o a V K Q else E := by
  obtain ⟨i0, hi, hz0, hz1, hz2⟩ := info_parts HsE.infoB
  refine step_append_any V hgd s x 29 ho base 5 i0 _ 1 1 Tryd.underlying29 hi hz0 hz1 hz2 rfl (by decide) v l.length (Lib.byteCells l) hs hown V.heap.size A news.length c (Lib.byteCells news) hx hr ?_ ?_ ?_ hbase ?_
  · intro u hu
    simp only [Lib.byteCells, List.mem_map] at hu
    obtain ⟨b, _, rfl⟩ := hu
    rfl
  · unfold maxLen; omega
  · omega
  · intro v' w' h1 h2 _
    refine h v' w' ?_ h2
    unfold Own
    rw [List.length_append, Lib.byteCells_append]
    exact h1
theorem app_step2 {V : World} {ops : Array Oper} {o : Oper} {a : Act} {K : Act → World → Prop} {Q : Exit → Act → World → Prop} {E : Prop} (s x : Operand) (hgd : o.guard = none)
    (ho : o.op = .call { callee := .builtin .append, args := #[s, x], argTypes := #[29, 29] }) (base : Nat) (l : List UInt8) (v : Value) (hs : a.eval s = v) (hown : Own V base l v) (hv : v.ownBlock ≠ none) (news : List UInt8) (A : Option Addr) (c : Nat)
    (hx : a.eval x = .slice A news.length c) (hr : Reads V V.heap.size 1 A news.length (Lib.byteCells news)) (hl : l.length + news.length ≤ 20000) (hbase : base ≤ V.heap.size)
    (h : ∀ v' w', Own w' base (l ++ news) v' → V.grownBy w' v.ownBlock → v'.ownBlock ≠ none → K (a.put o.dst v') w') :
    if Region.wanted o (yielded ops a.tmps) = true then Oper.wp Tryd.prog o a V K Q else E := by
  obtain ⟨i0, hi, hz0, hz1, hz2⟩ := info_parts HsE.infoB
  refine step_append_any V hgd s x 29 ho base 5 i0 _ 1 1 Tryd.underlying29 hi hz0 hz1 hz2 rfl (by decide) v l.length (Lib.byteCells l) hs hown V.heap.size A news.length c (Lib.byteCells news) hx hr ?_ ?_ ?_ hbase ?_
  · intro u hu
    simp only [Lib.byteCells, List.mem_map] at hu
    obtain ⟨b, _, rfl⟩ := hu
    rfl
  · unfold maxLen; omega
  · omega
  · intro v' w' h1 h2 h3
    refine h v' w' ?_ h2 ?_
    · unfold Own
      rw [List.length_append, Lib.byteCells_append]
      exact h1
    · rcases h3 with h3 | h3 <;> rw [h3]
      · exact hv
      · exact fun e => by cases e
theorem own_some2 {W : World} {base : Nat} {l : List UInt8} {v : Value} (h : Own W base l v) (hv : v.ownBlock ≠ none) : ∃ b c, v = .slice (some ⟨b, 0, none⟩) l.length c := by
  rcases h.2 with ⟨h1, _⟩ | ⟨g, cap, cur, h1, _⟩
  · subst h1; exact absurd rfl hv
  · exact ⟨g, cap, h1⟩
theorem reads_nil (W : World) (B : Nat) (A : Option Addr) : Reads W B 1 A ([] : List UInt8).length (Lib.byteCells []) := ⟨rfl, fun h => by cases h⟩
theorem own_bytes {W : World} {base : Nat} {l : List UInt8} {b c n : Nat} (h : Own W base l (.slice (some ⟨b, 0, none⟩) n c)) : b < W.heap.size ∧ BytesN W b n := by
  have hn : l.length = n := by
    rcases h.2 with ⟨h1, _⟩ | ⟨g, cap, cur, h1, _⟩
    · cases h1
    · injection h1 with _ h2 _; exact h2.symm
  subst hn
  rcases h.2 with ⟨h1, _⟩ | ⟨g, cap, cur, h1, _, hh, _⟩
  · cases h1
  · cases h1
    refine ⟨?_, ⟨l.toArray⟩, by simp [ByteArray.size], bytes_of_own h⟩
    rcases Nat.lt_or_ge b W.heap.size with hlt | hge
    · exact hlt
    · rw [Array.getElem?_eq_none hge] at hh; cases hh
theorem own_some {W : World} {base : Nat} {l : List UInt8} {v : Value} (h : Own W base l v) (hl : 0 < l.length) : ∃ b c, v = .slice (some ⟨b, 0, none⟩) l.length c := by
  obtain ⟨g, cg, hA, _, _⟩ := World.ownsRow.form h hl
  exact ⟨g, cg, hA⟩
theorem BytesN.below {w w' : World} {B b n : Nat} (h : BytesN w b n) (hb : Below B w w') (hlt : b < B) : BytesN w' b n := by
  obtain ⟨s, hs, hc⟩ := h
  exact ⟨s, hs, fun i hi => (hb.cell (p := ⟨b, 0 + i, none⟩) hlt).trans (hc i hi)⟩
theorem awake_keep {w W : World} {g N : Nat} (he : Env w) (h1 : Below w.heap.size w W) (hg : g < W.heap.size) (h2 : BytesN W g N) :
    Calls Tryd.prog 13 #[] W fun e w' => e = .returned (.bool true) ∧ Below w.heap.size w w' ∧ g < w'.heap.size ∧ BytesN w' g N :=
  (awake_any W (he.below h1)).mono fun _ _ ⟨e, h⟩ => ⟨e, h1.trans (h.mono h1.size), Nat.lt_of_lt_of_le hg h.size, h2.below h hg⟩
theorem same_keep {w W : World} {g N cap : Nat} (s : ByteArray) (hs : s.size ≤ 1000000) (he : Env w) (h1 : Below w.heap.size w W) (hg : g < W.heap.size) (h2 : BytesN W g N) :
    Calls Tryd.prog 17 #[.string s] W fun e w' => e = .returned (.bool true) ∧ Below w.heap.size w w' ∧ ∃ s' : ByteArray, s'.size = N ∧ (convert 29 9 (.slice (some ⟨g, 0, none⟩) N cap)).run Tryd.prog w' = .ok (.string s') w' :=
  (same_any s W hs (he.below h1)).mono fun _ w' ⟨e, h⟩ => by
    obtain ⟨s', hs', hc⟩ := h2.below h hg
    refine ⟨e, h1.trans (h.mono h1.size), s', hs', ?_⟩
    rw [← hs']
    exact Lib.run_convert_whole (P := Tryd.prog) w' 29 5 9 Tryd.underlying29 Tryd.underlying5 Tryd.underlying9 g 0 s' hc cap
set_option maxHeartbeats 8000000 in
set_option maxRecDepth 100000 in
theorem parse_law (s : ByteArray) (A : Option Addr) (n c : Nat) (a ch q : Int) (w : World) (hs : s.size ≤ maxLen) (hf : FivesAt w w.heap.size A n) (ha : 0 ≤ a ∧ a ≤ 65535) (hch : 0 ≤ ch ∧ ch ≤ 255) (hq : 0 ≤ q ∧ q ≤ 255) (he : Env w) :
    Calls Tryd.prog 4 #[.string s, .slice A n c, .int .u16 a, .int .u8 ch, .int .u8 q] w fun e w' => e = .returned (.bool true) ∧ Below w.heap.size w w' := by
  obtain ⟨i0, hi, hz0, hz1, hz2⟩ := info_parts HsE.infoB
  obtain ⟨ha0, ha1⟩ := ha
  obtain ⟨hc0, hc1⟩ := hch
  obtain ⟨hq0, hq1⟩ := hq
  have hn := hf.1
  unfold maxLen at hs hn
  have HF := hide hf
  clear hf
  by_cases h300 : 300 < s.size
  · go_enter Tryd.func4, Tryd.ntmps4
    go_wp2_with (go_at_call 13; refine (awake_any _ he).mono ?_; rintro e w1 ⟨rfl, hb⟩)
    go_ret
    exact ⟨rfl, hb⟩
  · by_cases h24 : 24 < n
    · go_enter Tryd.func4, Tryd.ntmps4
      go_wp2_with (go_at_call 13; refine (awake_any _ he).mono ?_; rintro e w1 ⟨rfl, hb⟩)
      go_ret
      exact ⟨rfl, hb⟩
    · have hconv := fun (W : World) (F : ByteArray) => Lib.run_convert_string_bytes (P := Tryd.prog) W 9 29 5 F Tryd.underlying9 Tryd.underlying29 Tryd.underlying5
      go_enter Tryd.func4, Tryd.ntmps4
      go_wp2_with fail
      refine (rows4_any A n c 20 w HF.out (by omega)).mono ?_
      rintro e w1 ⟨v, x, rfl, hbu, hxm, hown, hb1⟩
      obtain ⟨B, cp, rfl⟩ := own_slice hown
      have hx := rows_of_own hown (own_len hown)
      have hxin := built_in hbu (by omega) (by omega)
      clear hown hbu
      have hfl := formatOf_le x
      have hms := mk_size (formatOf x)
      obtain ⟨F, hF⟩ : ∃ F : ByteArray, F = ⟨(formatOf x).toArray⟩ := ⟨_, rfl⟩
      rw [← hF] at hms
      have hFs : F.size ≤ 8192 := by omega
      have hfc : Hid (∀ W, RowsAt W W.heap.size B x → Calls Tryd.prog 16 #[.slice B x.length cp] W fun e w' => e = .returned (.string F) ∧ Below W.heap.size W w') := fun W hW => by
        rw [hF]; exact rformat_any x B cp W hW hxin
      clear hF hms hfl
      rcases Nat.eq_zero_or_pos F.size with h0 | hpos
      · have hle : F.size ≤ 0 := by omega
        clear h0
        go_wp2_with (go_at_call 16; refine (hfc.out _ hx).mono ?_; rintro e w2 ⟨rfl, hb2⟩)
        have hbb2 := hb1.trans (hb2.mono hb1.size)
        refine (awake_keep (w := w) (g := w2.heap.size) (N := F.size) he (hbb2.trans ((conv_below w2 5 F).mono hbb2.size)) (by rw [Lib.bytesWorld_size]; omega) ⟨F, rfl, conv_bytes w2 5 F⟩).mono ?_
        rintro e w4 ⟨rfl, hb4, hg4, hn4⟩
        go_wp2_with fail
        refine (same_keep (cap := grownCap w2 F.size 0 5) s (by omega) he hb4 hg4 hn4).mono ?_
        rintro e w5 ⟨rfl, hb5, s', hs', hcv⟩
        have hs2 : s'.size ≤ 1000000 := by omega
        clear hs'
        go_wp2_with (go_at_call 17; refine (same_any s' w5 hs2 (he.below hb5)).mono ?_; rintro e w6 ⟨rfl, hb6⟩)
        go_ret
        exact ⟨rfl, hb5.trans (hb6.mono hb5.size)⟩
      · obtain ⟨k, hk⟩ : ∃ k : Nat, a % (F.size : Int) = (k : Int) := Int.eq_ofNat_of_zero_le (Int.emod_nonneg _ (by omega))
        have hkl : k < F.size := by have := Int.emod_lt_of_pos a (show (0 : Int) < F.size by omega); omega
        have hcell : ∀ W : World, (Lib.bytesWorld W 5 F).cell? ⟨W.heap.size, k, none⟩ = some (.int .u8 (F[k].toNat : Int)) := fun W => by
          have := conv_bytes W 5 F k hkl
          rw [Nat.zero_add] at this
          exact this
        have hfrz : ∀ W : World, (Lib.bytesWorld W 5 F).frozen? ⟨W.heap.size, k, none⟩ = false := fun W => conv_frozen W 5 F k hkl
        rcases (by omega : q % 4 = 0 ∨ q % 4 = 1 ∨ q % 4 = 2 ∨ q % 4 = 3) with hq' | hq' | hq' | hq'
        · have t0 : (q % 4 == 0) = true := by simp [hq']
          clear hq'
          go_wp2_with (go_at_call 16; refine (hfc.out _ hx).mono ?_; rintro e w2 ⟨rfl, hb2⟩)
          have hbb2 := hb1.trans (hb2.mono hb1.size)
          refine (awake_keep (w := w) (g := w2.heap.size) (N := F.size) he ?_ ?_ ?_).mono ?_
          · exact (hbb2.trans ((conv_below w2 5 F).mono hbb2.size)).setCell (p := ⟨w2.heap.size, k, none⟩) hbb2.size _
          · simp [Lib.bytesWorld_size]
          · exact bytes_set (conv_bytes w2 5 F) ⟨hc0, hc1⟩
          rintro e w4 ⟨rfl, hb4, hg4, hn4⟩
          go_wp2_with fail
          refine (same_keep (cap := grownCap w2 F.size 0 5) s (by omega) he hb4 hg4 hn4).mono ?_
          rintro e w5 ⟨rfl, hb5, s', hs', hcv⟩
          have hs2 : s'.size ≤ 1000000 := by omega
          clear hs'
          go_wp2_with (go_at_call 17; refine (same_any s' w5 hs2 (he.below hb5)).mono ?_; rintro e w6 ⟨rfl, hb6⟩)
          go_ret
          exact ⟨rfl, hb5.trans (hb6.mono hb5.size)⟩
        · have t0 : (q % 4 == 0) = false := by simp [hq']
          have t1 : (q % 4 == 1) = true := by simp [hq']
          clear hq'
          go_wp2_with (go_at_call 16; refine (hfc.out _ hx).mono ?_; rintro e w2 ⟨rfl, hb2⟩)
          have hbb := hb1.trans (hb2.mono hb1.size)
          have hbW := hbb.trans ((conv_below w2 5 F).mono hbb.size)
          have hsz : (Lib.bytesWorld w2 5 F).heap.size = w2.heap.size + 1 := Lib.bytesWorld_size _ _ _
          have hby := conv_bytes w2 5 F
          have hcap : F.size ≤ grownCap w2 F.size 0 5 := grownCap_ge _ _ _ _
          have hkc : ¬ grownCap w2 F.size 0 5 = k := by omega
          generalize hW : Lib.bytesWorld w2 5 F = W at *
          obtain ⟨l1, hl1⟩ : ∃ l1, l1 = F.data.toList.take k := ⟨_, rfl⟩
          obtain ⟨l2, hl2⟩ : ∃ l2, l2 = F.data.toList.drop k := ⟨_, rfl⟩
          have hr1 : Reads W W.heap.size 1 (some ⟨w2.heap.size, 0, none⟩) l1.length (Lib.byteCells l1) := reads_of (o := 0) hby (by omega) (fun j u hu => by rw [hl1] at hu; rw [Nat.zero_add]; rw [List.getElem?_take] at hu; split at hu; exact hu; cases hu)
          have hr2 : Reads W W.heap.size 1 (some ⟨w2.heap.size, k, none⟩) l2.length (Lib.byteCells l2) := reads_of (o := k) hby (by omega) (fun j u hu => by rw [hl2, List.getElem?_drop] at hu; exact hu)
          have hn1 : l1.length = k := by rw [hl1]; simp; omega
          have hn2 : l2.length = F.size - k := by rw [hl2]; simp
          have R1 := Lib.hid hr1
          have R2 := Lib.hid hr2
          have N1 := hide hn1
          have N2 := hide hn2
          have SZ := hide hsz
          have CB : Hid (Lib.byteCells [UInt8.ofNat ch.toNat] = [.int .u8 ch]) := by
            show [Value.int .u8 _] = _
            rw [UInt8.toNat_ofNat']
            congr 2
            omega
          have hkc1 : k ≤ grownCap w2 F.size 0 5 := by omega
          have hl1b : l1.length ≤ 8192 := by omega
          have hl2b : l2.length ≤ 8192 := by omega
          have hkle : k ≤ F.size := by omega
          clear hr1 hr2 hby hcell hfrz hconv hW hl1 hl2 hn1 hn2 hsz
          have oA : Own (W.alloc (.cells #[] 5)).drew W.heap.size [] (.slice (some ⟨W.heap.size, 0, none⟩) 0 0) := own0 W _ (Nat.le_refl _)
          have oB : Own ((W.alloc (.cells #[] 5)).alloc (.cells #[.int .u8 ch] 5)).drew W.heap.size [] (.slice (some ⟨W.heap.size, 0, none⟩) 0 0) := (own0 W _ (Nat.le_refl _)).alloc _
          have oC : Own ((W.alloc (.cells #[.int .u8 ch] 5)).alloc (.cells #[] 5)).drew W.heap.size [] (.slice (some ⟨W.heap.size + 1, 0, none⟩) 0 0) := by
            have h := own0 (W.alloc (.cells #[.int .u8 ch] 5)) W.heap.size (by simp)
            rw [show (W.alloc (.cells #[.int .u8 ch] 5)).heap.size = W.heap.size + 1 by simp] at h
            exact h
          have rA : Reads (W.alloc (.cells #[] 5)).drew ((W.alloc (.cells #[] 5)).drew).heap.size 1 (some ⟨w2.heap.size, 0, none⟩) l1.length (Lib.byteCells l1) := (R1.out.alloc (Nat.le_refl _) _).more (by simp)
          have rB : Reads ((W.alloc (.cells #[] 5)).alloc (.cells #[.int .u8 ch] 5)).drew (((W.alloc (.cells #[] 5)).alloc (.cells #[.int .u8 ch] 5)).drew).heap.size 1 (some ⟨w2.heap.size, 0, none⟩) l1.length (Lib.byteCells l1) := (((R1.out.alloc (Nat.le_refl _) (.cells #[] 5)).more (by simp)).alloc (Nat.le_refl _) _).more (by simp)
          have rC : Reads ((W.alloc (.cells #[.int .u8 ch] 5)).alloc (.cells #[] 5)).drew (((W.alloc (.cells #[.int .u8 ch] 5)).alloc (.cells #[] 5)).drew).heap.size 1 (some ⟨w2.heap.size, 0, none⟩) l1.length (Lib.byteCells l1) := (((R1.out.alloc (Nat.le_refl _) (.cells #[.int .u8 ch] 5)).more (by simp)).alloc (Nat.le_refl _) _).more (by simp)
          have bA : Below W.heap.size W ((W.alloc (.cells #[] 5)).drew) := below_drew ((Below.refl _ _).alloc (Nat.le_refl _) _)
          have bB : Below W.heap.size W (((W.alloc (.cells #[] 5)).alloc (.cells #[.int .u8 ch] 5)).drew) := below_drew (((Below.refl _ _).alloc (Nat.le_refl _) _).alloc (by simp) _)
          have bC : Below W.heap.size W (((W.alloc (.cells #[.int .u8 ch] 5)).alloc (.cells #[] 5)).drew) := below_drew (((Below.refl _ _).alloc (Nat.le_refl _) _).alloc (by simp) _)
          have kB : (((W.alloc (.cells #[] 5)).alloc (.cells #[.int .u8 ch] 5)).drew).heap[W.heap.size + 1]? = some (.cells #[.int .u8 ch] 5 (0, 0)) := by
            have h := heap_alloc_new (W.alloc (.cells #[] 5)) (.cells #[.int .u8 ch] 5)
            rw [show (W.alloc (.cells #[] 5)).heap.size = W.heap.size + 1 by simp] at h
            exact h
          have kC : (((W.alloc (.cells #[.int .u8 ch] 5)).alloc (.cells #[] 5)).drew).heap[W.heap.size]? = some (.cells #[.int .u8 ch] 5 (0, 0)) := (Below.heap_alloc (W.alloc (.cells #[.int .u8 ch] 5)) (.cells #[] 5) W.heap.size (by simp)).trans (heap_alloc_new W (.cells #[.int .u8 ch] 5))
          have zB : (((W.alloc (.cells #[] 5)).alloc (.cells #[.int .u8 ch] 5)).drew).heap.size = W.heap.size + 2 := by simp
          have zC : (((W.alloc (.cells #[.int .u8 ch] 5)).alloc (.cells #[] 5)).drew).heap.size = W.heap.size + 2 := by simp
          have OA := hide oA
          have OB := hide oB
          have OC := hide oC
          have RA := Lib.hid rA
          have RB := Lib.hid rB
          have RC := Lib.hid rC
          have BA := hide bA
          have BB := hide bB
          have BC := hide bC
          have KB := hide kB
          have KC := hide kC
          have ZB := hide zB
          have ZC := hide zC
          clear oA oB oC rA rB rC bA bB bC kB kC zB zC
          go_region_law (first | (refine app_step (.tmp 44) (.tmp 47) (by rfl) (by rfl) W.heap.size [] _ (by rfl) OA.out l1 _ _ (by rw [N1.out]; rfl) RA.out ?_ BA.out.size ?_; (· simp only [List.length_nil]; omega); intro v1 w1 hown1 hg1; have hbel1 := BA.out.grown hg1 BA.out.size (Own.ge OA.out); have hC : Reads (w1.alloc (.cells #[.int .u8 ch] 5)) (w1.alloc (.cells #[.int .u8 ch] 5)).heap.size 1 (some ⟨w1.heap.size, 0, none⟩) [UInt8.ofNat ch.toNat].length (Lib.byteCells [UInt8.ofNat ch.toNat]) := (by rw [CB.out]; exact cell_one (heap_alloc_new w1 _) (by simp)); have hO := hown1.alloc (.cells #[.int .u8 ch] 5); have hS : W.heap.size ≤ (w1.alloc (.cells #[.int .u8 ch] 5)).heap.size := Nat.le_trans hbel1.size (by simp); have hB := hbel1.alloc hbel1.size (.cells #[.int .u8 ch] 5)) | (refine app_step (.tmp 44) (.tmp 47) (by rfl) (by rfl) W.heap.size [] _ (by rfl) OB.out l1 _ _ (by rw [N1.out]; rfl) RB.out ?_ BB.out.size ?_; (· simp only [List.length_nil]; omega); intro v1 w1 hown1 hg1; have hbel1 := BB.out.grown hg1 BB.out.size (Own.ge OB.out); have hsz1 := hg1.size; rw [ZB.out] at hsz1; have hC : Reads w1 w1.heap.size 1 (some ⟨W.heap.size + 1, 0, none⟩) [UInt8.ofNat ch.toNat].length (Lib.byteCells [UInt8.ofNat ch.toNat]) := (by rw [CB.out]; exact cell_one ((hg1.block (W.heap.size + 1) (by rw [ZB.out]; omega) (by simp [Value.ownBlock])).trans KB.out) (by omega)); have hO := hown1; have hS : W.heap.size ≤ w1.heap.size := hbel1.size; have hB := hbel1) | (refine app_step (.tmp 44) (.tmp 47) (by rfl) (by rfl) W.heap.size [] _ (by rfl) OC.out l1 _ _ (by rw [N1.out]; rfl) RC.out ?_ BC.out.size ?_; (· simp only [List.length_nil]; omega); intro v1 w1 hown1 hg1; have hbel1 := BC.out.grown hg1 BC.out.size (Own.ge OC.out); have hsz1 := hg1.size; rw [ZC.out] at hsz1; have hC : Reads w1 w1.heap.size 1 (some ⟨W.heap.size, 0, none⟩) [UInt8.ofNat ch.toNat].length (Lib.byteCells [UInt8.ofNat ch.toNat]) := (by rw [CB.out]; exact cell_one ((hg1.block W.heap.size (by rw [ZC.out]; omega) (by simp [Value.ownBlock])).trans KC.out) (by omega)); have hO := hown1; have hS : W.heap.size ≤ w1.heap.size := hbel1.size; have hB := hbel1) | (refine app_step (.tmp 48) (.tmp 50) (by rfl) (by rfl) W.heap.size ([] ++ l1) _ (by rfl) hO [UInt8.ofNat ch.toNat] _ _ (by rfl) hC ?_ hS ?_; (· simp only [List.nil_append, List.length_singleton]; omega); intro v3 w3 hown3 hg3; have hbel3 := hB.grown hg3 hS (Own.ge hO)) | (refine app_step (.tmp 51) (.tmp 54) (by rfl) (by rfl) W.heap.size ([] ++ l1 ++ [UInt8.ofNat ch.toNat]) _ (by rfl) hown3 l2 _ _ (by rw [N2.out]; rfl) ((R2.out.below hbel3).more hbel3.size) ?_ hbel3.size ?_; (· simp only [List.nil_append, List.length_append, List.length_singleton]; omega); intro v4 w4 hown4 hg4; have hbel4 := hbel3.grown hg4 hbel3.size (Own.ge hown3)))
          all_goals
            have hN : ([] ++ l1 ++ [UInt8.ofNat ch.toNat] ++ l2).length ≤ 20000 := by
              simp only [List.nil_append, List.length_append, List.length_singleton]
              have := N1.out
              have := N2.out
              omega
            have hN0 : 0 < ([] ++ l1 ++ [UInt8.ofNat ch.toNat] ++ l2).length := by
              simp only [List.nil_append, List.length_append, List.length_singleton]
              omega
            generalize ([] ++ l1 ++ [UInt8.ofNat ch.toNat] ++ l2) = l4 at *
            obtain ⟨b4, c4, hv4⟩ := own_some hown4 hN0
            subst hv4
            obtain ⟨hb4l, hb4n⟩ := own_bytes hown4
            have hfin := hbW.trans (hbel4.mono hbW.size)
            go_wp2_with fail
            refine (awake_keep (w := w) (g := b4) (N := l4.length) he hfin hb4l hb4n).mono ?_
            rintro e w7 ⟨rfl, hb7, hg7, hn7⟩
            go_wp2_with fail
            refine (same_keep (cap := c4) s (by omega) he hb7 hg7 hn7).mono ?_
            rintro e w5 ⟨rfl, hb5, s', hs', hcv⟩
            have hs2 : s'.size ≤ 1000000 := by omega
            clear hs'
            go_wp2_with (go_at_call 17; refine (same_any s' w5 hs2 (he.below hb5)).mono ?_; rintro e w6 ⟨rfl, hb6⟩)
            go_ret
            exact ⟨rfl, hb5.trans (hb6.mono hb5.size)⟩
        · have t0 : (q % 4 == 0) = false := by simp [hq']
          have t1 : (q % 4 == 1) = false := by simp [hq']
          have t2 : (q % 4 == 2) = true := by simp [hq']
          clear hq'
          go_wp2_with (go_at_call 16; refine (hfc.out _ hx).mono ?_; rintro e w2 ⟨rfl, hb2⟩)
          have hbb := hb1.trans (hb2.mono hb1.size)
          have hbW := hbb.trans ((conv_below w2 5 F).mono hbb.size)
          have hsz : (Lib.bytesWorld w2 5 F).heap.size = w2.heap.size + 1 := Lib.bytesWorld_size _ _ _
          have hby := conv_bytes w2 5 F
          have hcap : F.size ≤ grownCap w2 F.size 0 5 := grownCap_ge _ _ _ _
          generalize hW : Lib.bytesWorld w2 5 F = W at *
          obtain ⟨cp2, hcp2⟩ : ∃ c, grownCap w2 F.size 0 5 = c := ⟨_, rfl⟩
          rw [hcp2] at hcap ⊢
          obtain ⟨l1, hl1⟩ : ∃ l1, l1 = F.data.toList.take k := ⟨_, rfl⟩
          obtain ⟨m, hm⟩ : ∃ m, m = k + 1 := ⟨_, rfl⟩
          obtain ⟨l2, hl2⟩ : ∃ l2, l2 = F.data.toList.drop m := ⟨_, rfl⟩
          have hr1 : Reads W W.heap.size 1 (some ⟨w2.heap.size, 0, none⟩) l1.length (Lib.byteCells l1) := reads_of (o := 0) hby (by omega) (fun j u hu => by rw [hl1] at hu; rw [Nat.zero_add]; rw [List.getElem?_take] at hu; split at hu; exact hu; cases hu)
          have hr2 : Reads W W.heap.size 1 (some ⟨w2.heap.size, m, none⟩) l2.length (Lib.byteCells l2) := reads_of (o := m) hby (by omega) (fun j u hu => by rw [hl2, List.getElem?_drop] at hu; exact hu)
          have hn1 : l1.length = k := by rw [hl1]; simp; omega
          have hn2 : l2.length = F.size - m := by rw [hl2]; simp
          have hr3 : cp2 = m → Reads W W.heap.size 1 (some ⟨w2.heap.size, 0, none⟩) l2.length (Lib.byteCells l2) := fun e => by
            have : l2 = [] := List.eq_nil_of_length_eq_zero (by omega)
            rw [this]; exact reads_nil _ _ _
          have R1 := Lib.hid hr1
          have R2 := Lib.hid hr2
          have R3 := Lib.hid hr3
          have N1 := hide hn1
          have N2 := hide hn2
          have hl1b : l1.length ≤ 8192 := by omega
          have hl2b : l2.length ≤ 8192 := by omega
          have hkle : k ≤ F.size := by omega
          have hkc1 : k ≤ cp2 := by omega
          have hks0 : k ≤ m := by omega
          have hks1 : m ≤ F.size := by omega
          have hks2 : m ≤ cp2 := by omega
          have oA : Own (W.alloc (.cells #[] 5)).drew W.heap.size [] (.slice (some ⟨W.heap.size, 0, none⟩) 0 0) := own0 W _ (Nat.le_refl _)
          have rA : Reads (W.alloc (.cells #[] 5)).drew ((W.alloc (.cells #[] 5)).drew).heap.size 1 (some ⟨w2.heap.size, 0, none⟩) l1.length (Lib.byteCells l1) := (R1.out.alloc (Nat.le_refl _) _).more (by simp)
          have bA : Below W.heap.size W ((W.alloc (.cells #[] 5)).drew) := below_drew ((Below.refl _ _).alloc (Nat.le_refl _) _)
          have OA := hide oA
          have RA := Lib.hid rA
          have BA := hide bA
          clear oA rA bA hr1 hr2 hr3 hby hcell hfrz hconv hW hl1 hl2 hn1 hn2 hsz hcp2
          have hsum : IntKind.i64.wrap ((k : Int) + 1) = (m : Int) := by rw [hm]; exact IntWalk.i64_in _ (by omega)
          clear hm
          by_cases hce : cp2 = m
          · have R4 := Lib.hid (R3.out hce)
            go_region_law (first | (refine app_step2 (.tmp 58) (.tmp 61) (by rfl) (by rfl) W.heap.size [] _ (by rfl) OA.out (fun e => by cases e) l1 _ _ (by rw [N1.out]; rfl) RA.out ?_ BA.out.size ?_; (· simp only [List.length_nil]; omega); intro v1 w1 hown1 hg1 hv1; have hbel1 := BA.out.grown hg1 BA.out.size (Own.ge OA.out)) | (refine app_step2 (.tmp 62) (.tmp 66) (by rfl) (by rfl) W.heap.size ([] ++ l1) _ (by rfl) hown1 hv1 l2 _ _ (by rw [N2.out]; rfl) ((R4.out.below hbel1).more hbel1.size) ?_ hbel1.size ?_; (· simp only [List.nil_append]; omega); intro v4 w4 hown4 hg4 hv4; have hbel4 := hbel1.grown hg4 hbel1.size (Own.ge hown1)))
            all_goals
              have hN : ([] ++ l1 ++ l2).length ≤ 20000 := by
                simp only [List.nil_append, List.length_append]
                omega
              generalize ([] ++ l1 ++ l2) = l4 at *
              obtain ⟨b4, c4, hv4'⟩ := own_some2 hown4 hv4
              subst hv4'
              obtain ⟨hb4l, hb4n⟩ := own_bytes hown4
              have hfin := hbW.trans (hbel4.mono hbW.size)
              go_wp2_with fail
              refine (awake_keep (w := w) (g := b4) (N := l4.length) he hfin hb4l hb4n).mono ?_
              rintro e w7 ⟨rfl, hb7, hg7, hn7⟩
              go_wp2_with fail
              refine (same_keep (cap := c4) s (by omega) he hb7 hg7 hn7).mono ?_
              rintro e w5 ⟨rfl, hb5, s', hs', hcv⟩
              have hs2 : s'.size ≤ 1000000 := by omega
              clear hs'
              go_wp2_with (go_at_call 17; refine (same_any s' w5 hs2 (he.below hb5)).mono ?_; rintro e w6 ⟨rfl, hb6⟩)
              go_ret
              exact ⟨rfl, hb5.trans (hb6.mono hb5.size)⟩
          · have R4 := R2
            go_region_law (first | (refine app_step2 (.tmp 58) (.tmp 61) (by rfl) (by rfl) W.heap.size [] _ (by rfl) OA.out (fun e => by cases e) l1 _ _ (by rw [N1.out]; rfl) RA.out ?_ BA.out.size ?_; (· simp only [List.length_nil]; omega); intro v1 w1 hown1 hg1 hv1; have hbel1 := BA.out.grown hg1 BA.out.size (Own.ge OA.out)) | (refine app_step2 (.tmp 62) (.tmp 66) (by rfl) (by rfl) W.heap.size ([] ++ l1) _ (by rfl) hown1 hv1 l2 _ _ (by rw [N2.out]; rfl) ((R4.out.below hbel1).more hbel1.size) ?_ hbel1.size ?_; (· simp only [List.nil_append]; omega); intro v4 w4 hown4 hg4 hv4; have hbel4 := hbel1.grown hg4 hbel1.size (Own.ge hown1)))
            all_goals
              have hN : ([] ++ l1 ++ l2).length ≤ 20000 := by
                simp only [List.nil_append, List.length_append]
                omega
              generalize ([] ++ l1 ++ l2) = l4 at *
              obtain ⟨b4, c4, hv4'⟩ := own_some2 hown4 hv4
              subst hv4'
              obtain ⟨hb4l, hb4n⟩ := own_bytes hown4
              have hfin := hbW.trans (hbel4.mono hbW.size)
              go_wp2_with fail
              refine (awake_keep (w := w) (g := b4) (N := l4.length) he hfin hb4l hb4n).mono ?_
              rintro e w7 ⟨rfl, hb7, hg7, hn7⟩
              go_wp2_with fail
              refine (same_keep (cap := c4) s (by omega) he hb7 hg7 hn7).mono ?_
              rintro e w5 ⟨rfl, hb5, s', hs', hcv⟩
              have hs2 : s'.size ≤ 1000000 := by omega
              clear hs'
              go_wp2_with (go_at_call 17; refine (same_any s' w5 hs2 (he.below hb5)).mono ?_; rintro e w6 ⟨rfl, hb6⟩)
              go_ret
              exact ⟨rfl, hb5.trans (hb6.mono hb5.size)⟩
        · have t0 : (q % 4 == 0) = false := by simp [hq']
          have t1 : (q % 4 == 1) = false := by simp [hq']
          have t2 : (q % 4 == 2) = false := by simp [hq']
          clear hq'
          go_wp2_with (go_at_call 16; refine (hfc.out _ hx).mono ?_; rintro e w2 ⟨rfl, hb2⟩)
          have hbb2 := hb1.trans (hb2.mono hb1.size)
          refine (awake_keep (w := w) (g := w2.heap.size) (N := F.size) he (hbb2.trans ((conv_below w2 5 F).mono hbb2.size)) (by rw [Lib.bytesWorld_size]; omega) ⟨F, rfl, conv_bytes w2 5 F⟩).mono ?_
          rintro e w4 ⟨rfl, hb4, hg4, hn4⟩
          go_wp2_with fail
          refine (same_keep (cap := grownCap w2 F.size 0 5) s (by omega) he hb4 hg4 hn4).mono ?_
          rintro e w5 ⟨rfl, hb5, s', hs', hcv⟩
          have hs2 : s'.size ≤ 1000000 := by omega
          clear hs'
          go_wp2_with (go_at_call 17; refine (same_any s' w5 hs2 (he.below hb5)).mono ?_; rintro e w6 ⟨rfl, hb6⟩)
          go_ret
          exact ⟨rfl, hb5.trans (hb6.mono hb5.size)⟩
end Go.Proofs.YtkllpfijeglppaaDoor.HsLaw8
