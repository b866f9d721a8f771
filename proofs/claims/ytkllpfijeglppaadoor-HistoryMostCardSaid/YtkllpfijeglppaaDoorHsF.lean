/- The walks of words and word. -/
import Derived.Test.YtkllpfijeglppaaDoorHsD
import Derived.Test.YtkllpfijeglppaaDoorShelf
import Derived.WalkSmall
import Derived.Lib.AppendIntMem
import Derived.Deep.QuietTactic
import Derived.BigQuiet
namespace Go.Proofs.YtkllpfijeglppaaDoor.HsF
open Go.RowKit Hs HsB HsC HsD
/-- what the library's functions read of package-level variables -/
def Env (w : World) : Prop := 6 ≤ w.heap.size ∧ (∃ m, w.cell? ⟨0, 0, none⟩ = some (.int .i64 m)) ∧ Lib.TabIs Tryd.prog w "internal/strconv.uint64pow10" .u64 Lib.pow10Tab
theorem gMax : Tryd.prog.globalNamed "internal/bytealg.MaxLen" = some 0 := by kernel_rfl
theorem gPow : Tryd.prog.globalNamed "internal/strconv.uint64pow10" = some 1 := by kernel_rfl
theorem Env.below {w w' : World} (h : Env w) (hb : Below w.heap.size w w') : Env w' := by
  obtain ⟨h1, ⟨m, h2⟩, h3⟩ := h
  refine ⟨Nat.le_trans h1 hb.size, ⟨m, (hb.cell (p := ⟨0, 0, none⟩) (by show 0 < w.heap.size; omega)).trans h2⟩, ?_⟩
  unfold Lib.TabIs at h3 ⊢
  exact var?_below hb gPow (by omega) h3
def key1 : ByteArray := ⟨#[112, 97, 121, 109, 101, 110, 116]⟩
def key2 : ByteArray := ⟨#[115, 117, 112, 112, 108, 121]⟩
def key3 : ByteArray := ⟨#[116, 114, 97, 110, 115, 102, 101, 114]⟩
/-- the keyword of a row, its numbers, and whether it has a line -/
def wordsOf (r : HRow) : ByteArray × List Int × Bool :=
  if r.kind = 1 then (key1, [r.day, r.src, r.dst, r.amount], r.worth == 0)
  else if r.kind = 2 then (key2, [r.day, r.src, r.dst, r.amount], r.worth == 0)
  else if r.kind = 3 then (key3, [r.day, r.src, r.dst, r.amount, r.worth], true)
  else (⟨#[]⟩, [], false)
def ints (l : List Int) : List Value := l.map (Value.int .i64)
def WordsPost (x : ByteArray × List Int × Bool) (w : World) (e : Ending) (w' : World) : Prop :=
  ∃ v, e = .returned (.tuple #[.string x.1, v, .bool x.2.2]) ∧ w'.ownsRow w.heap.size 2 1 v x.2.1.length (ints x.2.1) ∧ Below w.heap.size w w'
theorem infoI : (Tryd.prog.info? 2).map (fun i => (i.zero, i.size, i.bytes)) = some (some (.int .i64 0), 1, 8) := by kernel_rfl
theorem below_drewN {B : Nat} {a w : World} (h : Below B a w) (n : Nat) : Below B a (w.drewN n) := ⟨h.os, h.tape, h.output, h.size, h.block⟩
set_option maxHeartbeats 2000000 in
set_option maxRecDepth 100000 in
theorem words_any (r : HRow) (w : World) :
    Calls Tryd.prog 50 #[.agg #[.int .i64 r.day, .int .i64 r.kind, .int .i64 r.src, .int .i64 r.dst, .int .i64 r.amount, .int .i64 r.worth]] w (WordsPost (wordsOf r) w) := by
  obtain ⟨i0, hi, hz0, hz1, hz2⟩ := info_parts infoI
  obtain ⟨d, k, s, t, a, x⟩ := r
  have hlit : ((w.alloc (.cells #[.int .i64 d, .int .i64 k, .int .i64 s, .int .i64 t, .int .i64 a, .int .i64 x] 39)).alloc (.cells #[.int .i64 d, .int .i64 s, .int .i64 t, .int .i64 a] 2)).ownsRow w.heap.size 2 1 (.slice (some ⟨w.heap.size + 1, 0, none⟩) 4 4) 4 [.int .i64 d, .int .i64 s, .int .i64 t, .int .i64 a] := by
    have h := World.ownsRow_lit (base := w.heap.size) (e := 2) (size := 1) (w.alloc (.cells #[.int .i64 d, .int .i64 k, .int .i64 s, .int .i64 t, .int .i64 a, .int .i64 x] 39)) #[.int .i64 d, .int .i64 s, .int .i64 t, .int .i64 a] 4 (by simp) (by unfold maxLen; omega) rfl
    simpa using h
  have HL := Lib.hid hlit
  clear hlit
  cases h1 : (k == 1)
  · cases h2 : (k == 2)
    · cases h3 : (k == 3)
      · have hw : Hid (wordsOf ⟨d, k, s, t, a, x⟩ = (⟨#[]⟩, [], false)) := by
          simp only [beq_eq_false_iff_ne] at h1 h2 h3
          simp [Hid, wordsOf, h1, h2, h3]
        go_enter Tryd.func50, Tryd.ntmps50
        go_wp2_with fail
        go_ret3
        rw [hw.out]
        exact ⟨_, rfl, World.ownsRow_nil _ _ _ _, ((Below.refl _ _).alloc (Nat.le_refl _) _).alloc (by simp) _⟩
      · have hw : Hid (wordsOf ⟨d, k, s, t, a, x⟩ = (key3, [d, s, t, a, x], true)) := by
          simp only [beq_eq_false_iff_ne, beq_iff_eq] at h1 h2 h3
          simp [Hid, wordsOf, h3]
        go_enter Tryd.func50, Tryd.ntmps50
        go_wp2_with (first
          | (at_builtin
             refine wpList_append_own _ rfl (.tmp 31) (.tmp 34) 91 rfl w.heap.size 2 i0 _ 1 8 Tryd.underlying91 hi hz0 hz1 hz2 rfl (by decide) _ _ _ rfl (HL.out.alloc _) ⟨w.heap.size + 2, 0, none⟩ 1 1 [.int .i64 x] rfl rfl ?c1 ?c2 ?c3 ?c4 ?c5 ?_
             case c1 => exact cells_new3 _ _ _ [.int .i64 x] _
             case c2 => simp [Value.oneCell']
             case c3 => unfold maxLen; omega
             case c4 => omega
             case c5 => simp; omega
             intro v1 w1 hown1 hg1 _))
        go_ret3
        rw [hw.out]
        refine ⟨v1, rfl, hown1, ?_⟩
        refine ((((Below.refl _ _).alloc (Nat.le_refl _) _).alloc (by simp) _).alloc (by simp; omega) _).grown hg1 (by simp; omega) ?_
        intro g hg
        cases hg
        simp
    · have hw : Hid (wordsOf ⟨d, k, s, t, a, x⟩ = (key2, [d, s, t, a], x == 0)) := by
        simp only [beq_eq_false_iff_ne, beq_iff_eq] at h1 h2
        simp [Hid, wordsOf, h2]
      go_enter Tryd.func50, Tryd.ntmps50
      go_wp2_with fail
      go_quiet (fail)
      go_wp2_with fail
      go_ret3
      rw [hw.out]
      exact ⟨_, rfl, HL.out, below_drewN (((Below.refl _ _).alloc (Nat.le_refl _) _).alloc (by simp) _) nq⟩
  · have hw : Hid (wordsOf ⟨d, k, s, t, a, x⟩ = (key1, [d, s, t, a], x == 0)) := by
      simp only [beq_iff_eq] at h1
      simp [Hid, wordsOf, h1]
    go_enter Tryd.func50, Tryd.ntmps50
    go_wp2_with fail
    go_quiet (fail)
    go_wp2_with fail
    go_ret3
    rw [hw.out]
    exact ⟨_, rfl, HL.out, below_drewN (((Below.refl _ _).alloc (Nat.le_refl _) _).alloc (by simp) _) nq⟩
end Go.Proofs.YtkllpfijeglppaaDoor.HsF
