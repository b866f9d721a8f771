/- The walks of the reference's words, and of strings.Split at a space: a slice that reads as the pieces of a line. -/
import Derived.Test.YtkllpfijeglppaaDoorHsO
namespace Go.Proofs.YtkllpfijeglppaaDoor.HsP
open Go.RowKit Hs HsB HsC HsD HsF HsG HsH HsE HsI HsJ HsK HsL HsM HsN HsO
def toL (l : List ByteArray) : List (List UInt8) := l.map fun x : ByteArray => x.data.toList
/-- a slice reads as strings -/
def StrsAt (w : World) (B : Nat) (A : Option Addr) (ws : List ByteArray) : Prop :=
  ∃ b, A = some ⟨b, 0, none⟩ ∧ b < B ∧ ∀ (j : Nat) x, ws[j]? = some x → w.cell? ⟨b, j, none⟩ = some (.string x)
theorem StrsAt.below {w w' : World} {B : Nat} {A : Option Addr} {ws : List ByteArray} (h : StrsAt w B A ws) (hb : Below B w w') : StrsAt w' B A ws := by
  obtain ⟨b, hA, hlt, hc⟩ := h
  exact ⟨b, hA, hlt, fun j x hx => (hb.cell (p := ⟨b, j, none⟩) hlt).trans (hc j x hx)⟩
def Cut (s : ByteArray) (k f : Nat) (ws : List ByteArray) : Prop :=
  (k ≤ s.size → f ≤ k ∧ splA 32 [] s.data.toList = toL ws ++ splA 32 (s.extract f k).data.toList (s.data.toList.drop k)) ∧ (s.size < k → splA 32 [] s.data.toList = toL ws)
theorem drop_byte (s : ByteArray) (k : Nat) (h : k < s.size) : s.data.toList.drop k = s[k] :: s.data.toList.drop (k + 1) := by
  rw [List.drop_eq_getElem_cons (by simpa using h)]; rfl
theorem extract_L (s : ByteArray) (a b : Nat) : (s.extract a b).data.toList = (s.data.toList.take b).drop a := by
  simp [ByteArray.data_extract, List.drop_take]
theorem extract_snoc (s : ByteArray) (f k : Nat) (h : k < s.size) (hf : f ≤ k) : (s.extract f (k + 1)).data.toList = (s.extract f k).data.toList ++ [s[k]] := by
  rw [extract_L, extract_L, take_byte s k h, List.drop_append_of_le_length (by simp; omega)]
theorem extract_none (s : ByteArray) (f : Nat) : (s.extract f f).data.toList = [] := by
  rw [extract_L, List.drop_eq_nil_of_le (by simp; omega)]
theorem Cut.start (s : ByteArray) : Cut s 0 0 [] := by
  refine ⟨fun _ => ⟨Nat.le_refl _, ?_⟩, fun h => by omega⟩
  rw [extract_none]; rfl
theorem Cut.space {s : ByteArray} {k f : Nat} {ws : List ByteArray} (h : Cut s k f ws) (hk : k < s.size) (hs : s[k] = 32) : Cut s (k + 1) (k + 1) (ws ++ [s.extract f k]) := by
  obtain ⟨_, h2⟩ := h.1 (by omega)
  refine ⟨fun _ => ⟨Nat.le_refl _, ?_⟩, fun h => by omega⟩
  rw [h2, drop_byte s k hk, splA, if_pos hs, extract_none]
  simp [toL]
theorem Cut.other {s : ByteArray} {k f : Nat} {ws : List ByteArray} (h : Cut s k f ws) (hk : k < s.size) (hs : s[k] ≠ 32) : Cut s (k + 1) f ws := by
  obtain ⟨h1, h2⟩ := h.1 (by omega)
  refine ⟨fun _ => ⟨by omega, ?_⟩, fun h => by omega⟩
  rw [h2, drop_byte s k hk, splA, if_neg hs, extract_snoc s f k hk h1]
theorem Cut.last {s : ByteArray} {f : Nat} {ws : List ByteArray} (h : Cut s s.size f ws) : Cut s (s.size + 1) (s.size + 1) (ws ++ [s.extract f s.size]) := by
  obtain ⟨_, h2⟩ := h.1 (Nat.le_refl _)
  refine ⟨fun h => by omega, fun _ => ?_⟩
  rw [h2, List.drop_eq_nil_of_le (by simp)]
  simp [toL, splA]
/-- what a function that cuts a line returns -/
def WordsRet (s : ByteArray) (B : Nat) (e : Ending) (w' : World) : Prop :=
  ∃ (ws : List ByteArray) (A : Option Addr) (c : Nat), e = .returned (.slice A ws.length c) ∧ toL ws = splA 32 [] s.data.toList ∧ ws.length ≤ 9000 ∧ B ≤ w'.heap.size ∧ StrsAt w' w'.heap.size A ws
theorem splA_len (c : UInt8) : ∀ (s cur : List UInt8), (splA c cur s).length ≤ s.length + 1 ∧ splA c cur s ≠ []
  | [], cur => by simp [splA]
  | x :: l, cur => by
    rw [splA]
    split
    · have := (splA_len c l []).1; simp; omega
    · have h := splA_len c l (cur ++ [x]); simp; exact ⟨by omega, h.2⟩
theorem strs_of_own {w : World} {B : Nat} {A : Option Addr} {n c : Nat} {ws : List ByteArray} (h : w.ownsRow B 9 1 (.slice A n c) n (strs ws)) (hn : n = ws.length) (h0 : ws ≠ []) : StrsAt w w.heap.size A ws := by
  subst hn
  have hp : 0 < ws.length := by
    rcases Nat.eq_zero_or_pos ws.length with h1 | h1
    · exact absurd (List.eq_nil_of_length_eq_zero h1) h0
    · exact h1
  obtain ⟨g, cg, hA, _, hlt⟩ := h.form hp
  cases hA
  refine ⟨g, rfl, hlt, fun j x hx => ?_⟩
  have hj : j < ws.length := (List.getElem?_eq_some_iff.1 hx).1
  rw [h.cellAt j (by omega)]
  simp [strs, hx]
set_option maxHeartbeats 2000000 in
set_option maxRecDepth 100000 in
theorem rwords_any (s : ByteArray) (w : World) (hs : s.size ≤ 8192) :
    Calls Tryd.prog 63 #[.string s] w fun e w' => WordsRet s w.heap.size e w' ∧ Below w.heap.size w w' := by
  obtain ⟨i0, hi, hz0, hz1, hz2⟩ := info_parts infoS
  go_enter Tryd.func63, Tryd.ntmps63
  go_wp2_with fail
  go_loopw [3, 4, 5] (fun vo vf vi wr => ∃ (k f : Nat) (ws : List ByteArray), k ≤ s.size + 1 ∧ vi = .int .i64 k ∧ vf = .int .i64 f ∧ f ≤ k ∧ ws.length ≤ k ∧ Cut s k f ws ∧ wr.ownsRow w.heap.size 9 1 vo ws.length (strs ws) ∧ Below w.heap.size w wr) (fun _ _ vi _ => s.size + 1 - (intOf vi).toNat)
  case atStart => exact ⟨0, 0, [], by omega, rfl, rfl, by omega, by simp, Cut.start s, World.ownsRow_nil _ _ _ _, Below.refl _ _⟩
  case round =>
    obtain ⟨k, f, ws, hk, rfl, rfl, hf, hwl, hcut, hown, hbr⟩ := hrel
    obtain ⟨A, c, rfl⟩ := own_slice hown
    have HC := hide hcut
    clear hcut
    by_cases hle : k ≤ s.size
    · by_cases hlt : k < s.size
      · have hne : ((k : Int) == (s.size : Int)) = false := by simp; omega
        by_cases hsp : s[k] = 32
        · have h32 : ((s[k].toNat : Int) == 32) = true := by rw [hsp]; rfl
          have HN := hide (HC.out.space hlt hsp)
          clear hsp
          go_wp2_with (at_builtin
                       refine wpList_append_own _ rfl (.tmp 22) (.tmp 27) 94 rfl w.heap.size 9 i0 _ 1 16 Tryd.underlying94 hi hz0 hz1 hz2 rfl (by decide) _ _ _ rfl (hown.alloc _) ⟨wr.heap.size, 0, none⟩ 1 1 [.string (s.extract f k)] rfl rfl ?c1 ?c2 ?c3 ?c4 ?c5 ?_
                       case c1 => exact cells_new _ [.string (s.extract f k)] _
                       case c2 => simp [Value.oneCell']
                       case c3 => unfold maxLen; omega
                       case c4 => omega
                       case c5 => have := hbr.size; simp; omega
                       intro v1 w1 hown1 hg1 _)
          go_roundw
          case rel =>
            refine ⟨k + 1, k + 1, ws ++ [s.extract f k], by omega, by go_num, by go_num, by omega, by simp; omega, HN.out, ?_, ?_⟩
            · rw [List.length_append]; have e : strs (ws ++ [s.extract f k]) = strs ws ++ [.string (s.extract f k)] := by simp [strs]
              rw [e]; exact hown1
            · refine (hbr.alloc hbr.size _).grown hg1 (by have := hbr.size; simp; omega) ?_
              intro g hg
              exact (hown.lt g hg).1
          case measure => simp [intOf]; omega
        · have h32 : ((s[k].toNat : Int) == 32) = false := by
            simp only [beq_eq_false_iff_ne]
            intro e
            exact hsp (UInt8.toNat_inj.1 (by simpa using (by omega : s[k].toNat = 32)))
          have HN := hide (HC.out.other hlt hsp)
          clear hsp
          go_wp2_with fail
          go_roundw
          case rel => exact ⟨k + 1, f, ws, by omega, by go_num, rfl, by omega, by omega, HN.out, hown, hbr⟩
          case measure => simp [intOf]; omega
      · obtain rfl : k = s.size := by omega
        have HN := hide HC.out.last
        go_wp2_with (at_builtin
                     refine wpList_append_own _ rfl (.tmp 22) (.tmp 27) 94 rfl w.heap.size 9 i0 _ 1 16 Tryd.underlying94 hi hz0 hz1 hz2 rfl (by decide) _ _ _ rfl (hown.alloc _) ⟨wr.heap.size, 0, none⟩ 1 1 [.string (s.extract f s.size)] rfl rfl ?c1 ?c2 ?c3 ?c4 ?c5 ?_
                     case c1 => exact cells_new _ [.string (s.extract f s.size)] _
                     case c2 => simp [Value.oneCell']
                     case c3 => unfold maxLen; omega
                     case c4 => omega
                     case c5 => have := hbr.size; simp; omega
                     intro v1 w1 hown1 hg1 _)
        go_roundw
        case rel =>
          refine ⟨s.size + 1, s.size + 1, ws ++ [s.extract f s.size], by omega, by go_num, by go_num, by omega, by simp; omega, HN.out, ?_, ?_⟩
          · rw [List.length_append]; have e : strs (ws ++ [s.extract f s.size]) = strs ws ++ [.string (s.extract f s.size)] := by simp [strs]
            rw [e]; exact hown1
          · refine (hbr.alloc hbr.size _).grown hg1 (by have := hbr.size; simp; omega) ?_
            intro g hg
            exact (hown.lt g hg).1
        case measure => simp [intOf] <;> omega
    · obtain rfl : k = s.size + 1 := by omega
      have hfin := hide (HC.out.2 (by omega))
      go_wp2_with fail
      go_ret
      refine ⟨⟨ws, A, c, rfl, hfin.out.symm, by omega, hbr.size, strs_of_own hown rfl ?_⟩, hbr⟩
      intro e
      have h1 := (splA_len 32 s.data.toList []).2
      rw [hfin.out, e] at h1
      exact h1 rfl
theorem splA_count (c : UInt8) : ∀ (n : Nat) (s cur : List UInt8), s.length ≤ n → (splA c cur s).length = Lib.count s [c] + 1 := by
  intro n
  induction n with
  | zero =>
    intro s cur hs
    obtain rfl : s = [] := List.eq_nil_of_length_eq_zero (by omega)
    rfl
  | succ n ih =>
    intro s cur hs
    rw [splA_index]
    by_cases h : Lib.index s [c] = -1
    · rw [Lib.count_miss h, if_pos h]; rfl
    · rw [if_neg h]
      have h0 := index_ge c s
      obtain ⟨i, hi⟩ := Int.eq_ofNat_of_zero_le (show 0 ≤ Lib.index s [c] by omega)
      have hc := Lib.count_hit (by simp) hi
      have hlt := index_lt c s
      rw [hi] at hlt ⊢
      have hlt' : i < s.length := by rcases hlt with h | h <;> omega
      have ih' := ih (s.drop (i + 1)) [] (by simp; omega)
      rw [hc, List.length_cons, Int.toNat_natCast, ih']
      simp <;> omega
theorem split_any (s : ByteArray) (w : World) (hs : s.size ≤ 8192) (he : Env w) :
    Calls Tryd.prog 57 #[.string s, .string ⟨#[32]⟩] w fun e w' => WordsRet s w.heap.size e w' ∧ Below w.heap.size w w' := by
  obtain ⟨_, ⟨m, hm⟩, _⟩ := he
  refine (Tryd.strings_Split s ⟨#[32]⟩ m w (by omega) hm (by decide)).mono ?_
  rintro e w' ⟨rfl, rfl⟩
  have h1 : (Lib.splitB ⟨#[32]⟩ 0 (Lib.countB s ⟨#[32]⟩) s).map (fun x : ByteArray => x.data.toList) = splA 32 [] s.data.toList := by
    rw [Lib.splitB_data]
    exact splitK_eq 32 _ s.data.toList (Nat.le_refl _)
  have hlen : (Lib.splitB ⟨#[32]⟩ 0 (Lib.countB s ⟨#[32]⟩) s).length = Lib.countB s ⟨#[32]⟩ + 1 := by
    have h2 := congrArg List.length h1
    rw [List.length_map, splA_count 32 _ s.data.toList [] (Nat.le_refl _)] at h2
    exact h2
  refine ⟨⟨Lib.splitB ⟨#[32]⟩ 0 (Lib.countB s ⟨#[32]⟩) s, _, Lib.countB s ⟨#[32]⟩ + 1, by rw [hlen], h1, ?_, by simp, ⟨w.heap.size, rfl, by simp, ?_⟩⟩, (Below.refl _ _).alloc (Nat.le_refl _) _⟩
  · have h2 := congrArg List.length h1
    have h3 := (splA_len 32 s.data.toList []).1
    have h4 : s.data.toList.length = s.size := by simp
    rw [List.length_map] at h2
    omega
  · intro j x hx
    rw [World.cell?_alloc_new]
    simp [hx]
end Go.Proofs.YtkllpfijeglppaaDoor.HsP
