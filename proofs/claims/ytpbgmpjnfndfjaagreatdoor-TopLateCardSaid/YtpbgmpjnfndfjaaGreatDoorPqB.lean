/- Words for memory: a block that is known whole and is written while all else stays; lists of strings; lists of structs with such lists in them. -/
import Derived.Test.YtpbgmpjnfndfjaaGreatDoorWd
namespace Go.Proofs.YtpbgmpjnfndfjaaGreatDoor.PqB
theorem here : True := trivial
open Go.RowKit Wd
/-- all blocks of w but R are as they were -/
structure Kept (R : Nat) (w w' : World) : Prop where
  os : w'.os = w.os
  tape : w'.tape = w.tape
  output : w'.output = w.output
  size : w.heap.size ≤ w'.heap.size
  block : ∀ k, k < w.heap.size → k ≠ R → w'.heap[k]? = w.heap[k]?
section
variable {R B : Nat} {a w w' w'' : World}
theorem Kept.refl (R : Nat) (w : World) : Kept R w w := ⟨rfl, rfl, rfl, Nat.le_refl _, fun _ _ _ => rfl⟩
theorem Kept.trans (h : Kept R w w') (k : Kept R w' w'') : Kept R w w'' :=
  ⟨k.os.trans h.os, k.tape.trans h.tape, k.output.trans h.output, Nat.le_trans h.size k.size, fun i hi hr => (k.block i (by have := h.size; omega) hr).trans (h.block i hi hr)⟩
theorem Kept.of_below (h : Below w.heap.size w w') : Kept R w w' := ⟨h.os, h.tape, h.output, h.size, fun k hk _ => h.block k hk⟩
theorem Kept.below (h : Kept R w w') (hR : B ≤ R) (hB : B ≤ w.heap.size) : Below B w w' := ⟨h.os, h.tape, h.output, h.size, fun k hk => h.block k (by omega) (by omega)⟩
theorem Kept.step (h : Kept R a w) (hb : Below a.heap.size w w') : Kept R a w' :=
  ⟨hb.os.trans h.os, hb.tape.trans h.tape, hb.output.trans h.output, Nat.le_trans h.size hb.size, fun k hk hr => (hb.block k hk).trans (h.block k hk hr)⟩
theorem Kept.drew (h : Kept R a w) (n : Nat) : Kept R a (w.drewN n) := ⟨h.os, h.tape, h.output, h.size, h.block⟩
theorem Kept.setCell (h : Kept R a w) (i : Nat) (v : Value) : Kept R a (w.setCell ⟨R, i, none⟩ v) :=
  h.trans ⟨rfl, rfl, rfl, by simp [World.setCell], fun k _ hr => Below.heap_setCell _ _ _ _ hr⟩
theorem Kept.alloc (h : Kept R a w) (o : Obj) : Kept R a (w.alloc o) :=
  h.trans ⟨rfl, rfl, rfl, by simp, fun k hk _ => Below.heap_alloc _ _ _ hk⟩
theorem Kept.cell (h : Kept R w w') {p : Addr} (hp : p.block < w.heap.size) (hr : p.block ≠ R) : w'.cell? p = w.cell? p := World.cell?_of_block (h.block _ hp hr)
theorem Kept.frozen (h : Kept R w w') {p : Addr} (hp : p.block < w.heap.size) (hr : p.block ≠ R) : w'.frozen? p = w.frozen? p := World.frozen?_of_block (h.block _ hp hr)
theorem Kept.own {base size n : Nat} {e : TypeId} {v : Value} {xs : List Value} (h : Kept R w w') (ho : w.ownsRow base e size v n xs) (hb : R < base) : w'.ownsRow base e size v n xs := by
  refine ⟨ho.1, ?_⟩
  rcases ho.2 with h2 | ⟨g, cap, cur, hv, hg, hh, r⟩
  · exact .inl h2
  · refine .inr ⟨g, cap, cur, hv, hg, ?_, r⟩
    rw [h.block g (Array.getElem?_eq_some_iff.1 hh).1 (by omega)]
    exact hh
end
/-- a block that is known whole -/
def Blk (w : World) (R : Nat) (l : List Value) : Prop := ∃ T, w.heap[R]? = some (.cells l.toArray T (0, 0))
section
variable {R k : Nat} {w w' : World} {l : List Value}
theorem Blk.lt (h : Blk w R l) : R < w.heap.size := by
  obtain ⟨T, h⟩ := h
  exact (Array.getElem?_eq_some_iff.1 h).1
theorem Blk.cell (h : Blk w R l) {i : Nat} {v : Value} (hv : l[i]? = some v) : w.cell? ⟨R, i, none⟩ = some v := by
  obtain ⟨T, h⟩ := h
  simp [World.cell?, h, hv]
theorem Blk.frozen (h : Blk w R l) (i : Nat) : w.frozen? ⟨R, i, none⟩ = false := by
  obtain ⟨T, h⟩ := h
  simp [World.frozen?, h]
theorem Blk.new (w : World) (l : List Value) (T : TypeId) : Blk (w.alloc (.cells l.toArray T)) w.heap.size l := ⟨T, heap_alloc_new w _⟩
theorem Blk.set (h : Blk w R l) (i : Nat) (v : Value) : Blk (w.setCell ⟨R, i, none⟩ v) R (l.set i v) := by
  obtain ⟨T, h⟩ := h
  refine ⟨T, ?_⟩
  simp [World.setCell, Array.getElem?_modify, h]
theorem Blk.other (h : Blk w R l) (hk : k ≠ R) (i : Nat) (v : Value) : Blk (w.setCell ⟨k, i, none⟩ v) R l := by
  obtain ⟨T, h⟩ := h
  exact ⟨T, by rw [Below.heap_setCell _ _ _ _ (by simpa using hk.symm)]; exact h⟩
theorem Blk.keep {B : Nat} (h : Blk w R l) (hb : Below B w w') (hR : R < B) : Blk w' R l := by
  obtain ⟨T, h⟩ := h
  exact ⟨T, (hb.block R hR).trans h⟩
theorem Blk.below (h : Blk w R l) (hb : Below w.heap.size w w') : Blk w' R l := h.keep hb h.lt
theorem Blk.kept (h : Blk w R l) (hb : Kept k w w') (hR : R ≠ k) : Blk w' R l := by
  have hl := h.lt
  obtain ⟨T, h⟩ := h
  exact ⟨T, (hb.block R hl hR).trans h⟩
theorem Blk.drew (h : Blk w R l) (n : Nat) : Blk (w.drewN n) R l := h
theorem Blk.alloc (h : Blk w R l) (o : Obj) : Blk (w.alloc o) R l := by
  have hl := h.lt
  obtain ⟨T, h⟩ := h
  exact ⟨T, (Below.heap_alloc _ _ _ hl).trans h⟩
end
/-- a slice (of a capacity c) that reads as a list of strings, in a block that P allows -/
def Strs (P : Nat → Prop) (w : World) (A : Option Addr) (c : Nat) (l : List ByteArray) : Prop :=
  l.length ≤ maxLen ∧ (0 < l.length → ∃ b off, A = some ⟨b, off, none⟩ ∧ b < w.heap.size ∧ (P b ∧ l.length ≤ c) ∧ ∀ k s, l[k]? = some s → w.cell? ⟨b, off + k, none⟩ = some (.string s))
section
variable {P Q : Nat → Prop} {w w' : World} {A : Option Addr} {c : Nat} {l : List ByteArray}
theorem Strs.nil (P : Nat → Prop) (w : World) (A : Option Addr) {c : Nat} : Strs P w A c [] := ⟨Nat.zero_le _, fun h => by simp at h⟩
theorem Strs.mono (h : Strs P w A c l) (hp : ∀ b, P b → Q b) : Strs Q w A c l :=
  ⟨h.1, fun hl => by
    obtain ⟨b, off, e, hb, hP, hc⟩ := h.2 hl
    exact ⟨b, off, e, hb, ⟨hp b hP.1, hP.2⟩, hc⟩⟩
theorem Strs.below (h : Strs P w A c l) (hb : Below w.heap.size w w') : Strs P w' A c l :=
  ⟨h.1, fun hl => by
    obtain ⟨b, off, e, hlt, hP, hc⟩ := h.2 hl
    exact ⟨b, off, e, Nat.lt_of_lt_of_le hlt hb.size, hP, fun k s hk => (hb.cell (p := ⟨b, off + k, none⟩) hlt).trans (hc k s hk)⟩⟩
theorem Strs.kept {R : Nat} (h : Strs P w A c l) (hR : ¬ P R) (hb : Kept R w w') : Strs P w' A c l :=
  ⟨h.1, fun hl => by
    obtain ⟨b, off, e, hlt, hP, hc⟩ := h.2 hl
    exact ⟨b, off, e, Nat.lt_of_lt_of_le hlt hb.size, hP, fun k s hk => (hb.cell (p := ⟨b, off + k, none⟩) hlt (fun e => hR (e ▸ hP.1))).trans (hc k s hk)⟩⟩
theorem Strs.cap (h : Strs P w A c l) : l.length ≤ c := by
  rcases Nat.eq_zero_or_pos l.length with h0 | h0
  · omega
  · obtain ⟨_, _, _, _, hP, _⟩ := h.2 h0
    exact hP.2
theorem own_cap {base n size : Nat} {e : TypeId} {A : Option Addr} {cap : Nat} {xs : List Value} (h : w.ownsRow base e size (.slice A n cap) n xs) : n ≤ cap := by
  rcases h.2 with ⟨h1, h2⟩ | ⟨g, cap', cur, hv, _, _, h1, _⟩
  · injection h1 with _ h1 h3
    omega
  · injection hv with _ _ h3
    omega
theorem Strs.own {base : Nat} {e : TypeId} {v : Value} (h : w.ownsRow base e 1 v l.length (l.map Value.string)) (hp : ∀ b, base ≤ b → P b) (hl : l.length ≤ maxLen) : ∃ A c, v = .slice A l.length c ∧ Strs P w A c l := by
  rcases Nat.eq_zero_or_pos l.length with h0 | h0
  · obtain rfl : l = [] := List.eq_nil_of_length_eq_zero h0
    rcases h.2 with ⟨rfl, _⟩ | ⟨g, cap, cur, rfl, _, _⟩
    · exact ⟨none, 0, rfl, Strs.nil _ _ _⟩
    · exact ⟨_, cap, rfl, Strs.nil _ _ _⟩
  · obtain ⟨g, cap, rfl, hg, hlt⟩ := h.form h0
    have hc := h.cells (g := g) rfl
    have hcap : l.length ≤ cap := own_cap h
    refine ⟨_, cap, rfl, hl, fun _ => ⟨g, 0, rfl, hlt, ⟨hp g hg, hcap⟩, fun k s hk => ?_⟩⟩
    have := hc k (.string s) (by rw [List.getElem?_map, hk]; rfl)
    rw [Go.WideShapes.add_plain] at this
    exact this
end
end Go.Proofs.YtpbgmpjnfndfjaaGreatDoor.PqB
