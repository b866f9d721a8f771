/- PfS, PfB, PfA, PfC, PfD, PfE, PfF, PfG, PfH, PfI, in one text. -/
import Derived.Test.YtpbgmpjnfndfjaaGreatDoorRN
import Derived.Lib.Split
import Derived.Lib.CountLaws
import Derived.Lib.CutLaws
import Derived.Test.YtpbgmpjnfndfjaaGreatDoorNm
import Derived.Test.YtpbgmpjnfndfjaaGreatDoorRT
import Derived.Test.YtpbgmpjnfndfjaaGreatDoorRP
import Derived.Test.YtpbgmpjnfndfjaaGreatDoorPqB
import Derived.Test.YtpbgmpjnfndfjaaGreatDoorQmt
namespace Go.Proofs.YtpbgmpjnfndfjaaGreatDoor.PfS
theorem here : True := trivial
open Go.RowKit
/-- a list cut at each c; cur: what has been read of the first piece -/
def splA (c : UInt8) (cur : List UInt8) : List UInt8 → List (List UInt8)
  | [] => [cur]
  | x :: l => if x = c then cur :: splA c [] l else splA c (cur ++ [x]) l
theorem take_byte (s : ByteArray) (k : Nat) (h : k < s.size) : s.data.toList.take (k + 1) = s.data.toList.take k ++ [s[k]] := by
  rw [List.take_succ_eq_append_getElem (by simpa using h)]; rfl
def toL (l : List ByteArray) : List (List UInt8) := l.map fun x : ByteArray => x.data.toList
def Cut (c : UInt8) (s : ByteArray) (k f : Nat) (ws : List ByteArray) : Prop :=
  (k ≤ s.size → f ≤ k ∧ splA c [] s.data.toList = toL ws ++ splA c (s.extract f k).data.toList (s.data.toList.drop k)) ∧ (s.size < k → splA c [] s.data.toList = toL ws)
theorem drop_byte (s : ByteArray) (k : Nat) (h : k < s.size) : s.data.toList.drop k = s[k] :: s.data.toList.drop (k + 1) := by
  rw [List.drop_eq_getElem_cons (by simpa using h)]; rfl
theorem extract_L (s : ByteArray) (a b : Nat) : (s.extract a b).data.toList = (s.data.toList.take b).drop a := by
  simp [ByteArray.data_extract, List.drop_take]
theorem extract_snoc (s : ByteArray) (f k : Nat) (h : k < s.size) (hf : f ≤ k) : (s.extract f (k + 1)).data.toList = (s.extract f k).data.toList ++ [s[k]] := by
  rw [extract_L, extract_L, take_byte s k h, List.drop_append_of_le_length (by simp; omega)]
theorem Cut.other {c : UInt8} {s : ByteArray} {k f : Nat} {ws : List ByteArray} (h : Cut c s k f ws) (hk : k < s.size) (hs : s[k] ≠ c) : Cut c s (k + 1) f ws := by
  obtain ⟨h1, h2⟩ := h.1 (by omega)
  refine ⟨fun _ => ⟨by omega, ?_⟩, fun h => by omega⟩
  rw [h2, drop_byte s k hk, splA, if_neg hs, extract_snoc s f k hk h1]
end Go.Proofs.YtpbgmpjnfndfjaaGreatDoor.PfS
namespace Go.Proofs.YtpbgmpjnfndfjaaGreatDoor.PfB
theorem here : True := trivial
open Go.RowKit PfS LxW
def isUp (c : UInt8) : Bool := 65 ≤ c && c ≤ 90
def codeB (l : List UInt8) : Bool := l.all isUp && decide (l.length = 3)
theorem isUp_iff (c : UInt8) : isUp c = true ↔ 65 ≤ (c.toNat : Int) ∧ (c.toNat : Int) ≤ 90 := by
  simp [isUp, UInt8.le_iff_toNat_le]
  omega
theorem up_false {c : UInt8} (h : (c.toNat : Int) < 65 ∨ 90 < (c.toNat : Int)) : isUp c = false := by
  rw [Bool.eq_false_iff]; intro hc; have := (isUp_iff c).1 hc; omega
theorem code_bad {s : ByteArray} {k : Nat} (hk : k < s.size) (h : isUp s[k] = false) : codeB s.data.toList = false := by
  have : s.data.toList.all isUp = false := by
    rw [List.all_eq_false]; exact ⟨s[k], by rw [ByteArray.getElem_eq_getElem_data]; exact Array.mem_toList_iff.2 (Array.getElem_mem _), by simp [h]⟩
  unfold codeB; rw [this]; rfl
theorem code_end {s : ByteArray} (h : s.data.toList.all isUp = true) : codeB s.data.toList = ((s.size : Int) == 3) := by
  have hl : s.data.toList.length = s.size := by simp
  unfold codeB; rw [h, hl, Bool.true_and]; by_cases h3 : s.size = 3 <;> simp [h3] <;> omega
set_option maxHeartbeats 2000000 in
theorem code_any (s : ByteArray) (w : World) (hs : s.size ≤ maxLen) :
    Calls Tryz.prog 182 #[.string s] w fun e w' => e = .returned (.bool (codeB s.data.toList)) ∧ w = w' := by
  unfold maxLen at hs
  go_enter Tryz.func182, Tryz.ntmps182
  go_wp2_with fail
  go_loop [6] (fun vi => ∃ k : Nat, k ≤ s.size ∧ vi = .int .i64 k ∧ (s.data.toList.take k).all isUp = true) (fun vi => s.size - (intOf vi).toNat)
  case atStart => exact ⟨0, by omega, rfl, rfl⟩
  case round =>
    obtain ⟨k, hk, rfl, hd⟩ := hrel
    have HD := hide hd
    clear hd
    by_cases hlt : k < s.size
    · have hts := hide (take_byte s k hlt)
      by_cases h1 : (s[k].toNat : Int) < 65
      · have hr := hide (code_bad hlt (up_false (.inl h1)))
        go_wp2_with fail
        go_ret
        exact ⟨NmA.nret hr.out.symm, rfl⟩
      · by_cases h2 : 90 < (s[k].toNat : Int)
        · have hr := hide (code_bad hlt (up_false (.inr h2)))
          go_wp2_with fail
          go_ret
          exact ⟨NmA.nret hr.out.symm, rfl⟩
        · go_wp2_with fail
          go_round
          case rel =>
            refine ⟨k + 1, by omega, by go_num, ?_⟩
            rw [hts.out, List.all_append, HD.out]
            have := (isUp_iff s[k]).2 ⟨by omega, by omega⟩
            simp [this]
          case measure => simp [intOf]; omega
    · obtain rfl : k = s.size := by omega
      have htake : s.data.toList.take s.size = s.data.toList := List.take_of_length_le (by simp)
      have hr := hide (code_end (by rw [← htake]; exact HD.out))
      clear htake
      go_wp2_with fail
      go_ret
      exact ⟨NmA.nret hr.out.symm, rfl⟩
theorem within_any (n m : Int) (w : World) : Calls Tryz.prog 181 #[.int .i64 n, .int .i64 m] w fun e w' => e = .returned (.bool (decide (0 ≤ n) && decide (n ≤ m))) ∧ w = w' := by
  by_cases h1 : 0 ≤ n <;> by_cases h2 : n ≤ m
  all_goals
    go_enter Tryz.func181, Tryz.ntmps181
    go_wp2_with fail
    go_ret
    exact ⟨by simp [h1, h2], rfl⟩

end Go.Proofs.YtpbgmpjnfndfjaaGreatDoor.PfB
namespace Go.Proofs.YtpbgmpjnfndfjaaGreatDoor.PfA
theorem here : True := trivial
open RnQ RnR RnP PfS PfB
/-- a document, with the raw fields of its numbers -/
structure Dc where
  id : ByteArray
  est : Int
  cred : Int
  code : ByteArray
  neg : Bool
  num : ByteArray
  den : ByteArray
  inc : Int
  rank : Int
  rneg : Bool
  rnum : ByteArray
  rden : ByteArray
  rfrom : Int
  sec : Int
/-- the fourteen values of a document -/
def Dc.vals (x : Dc) : List Value := [.string x.id, .int .i64 x.est, .int .i64 x.cred, .string x.code, .bool x.neg, .string x.num, .string x.den, .int .i64 x.inc, .int .i64 x.rank, .bool x.rneg, .string x.rnum, .string x.rden, .int .i64 x.rfrom, .int .i64 x.sec]
end Go.Proofs.YtpbgmpjnfndfjaaGreatDoor.PfA
namespace Go.Proofs.YtpbgmpjnfndfjaaGreatDoor.PfC
theorem here : True := trivial
open Go.RowKit RoL RnA RnB RnW RnD RnQ RnR RnP RtA RpB RpC RpF RpH PfS PfB PfA
theorem mk_bd (s : Bool) {n d B : Nat} (hd : d ≠ 0) (h1 : n < B) (h2 : d < B) : nm (mk s n d) < B ∧ (mk s n d).den < B := by
  rw [nm_mk s n d hd, den_mk s n d hd]
  exact ⟨Nat.lt_of_le_of_lt (Nat.div_le_self _ _) h1, Nat.lt_of_le_of_lt (Nat.div_le_self _ _) h2⟩
end Go.Proofs.YtpbgmpjnfndfjaaGreatDoor.PfC
namespace Go.Proofs.YtpbgmpjnfndfjaaGreatDoor.PfD
theorem here : True := trivial
open Go.RowKit Wd RoL RnW RnQ RnR RnP RtA RpC RpF PqB PfS PfB PfA PfC
/-- a block that is known whole, with its type -/
def BlkT (w : World) (g : Nat) (T : TypeId) (L : List Value) : Prop := w.heap[g]? = some (.cells L.toArray T (0, 0))
section
variable {g k : Nat} {T : TypeId} {w w' : World} {L : List Value}
theorem BlkT.blk (h : BlkT w g T L) : Blk w g L := ⟨T, h⟩
theorem BlkT.lt (h : BlkT w g T L) : g < w.heap.size := h.blk.lt
theorem BlkT.cell (h : BlkT w g T L) {i : Nat} {v : Value} (hv : L[i]? = some v) : w.cell? ⟨g, i, none⟩ = some v := h.blk.cell hv
theorem BlkT.frozen (h : BlkT w g T L) (i : Nat) : w.frozen? ⟨g, i, none⟩ = false := h.blk.frozen i
theorem BlkT.set (h : BlkT w g T L) (i : Nat) (v : Value) : BlkT (w.setCell ⟨g, i, none⟩ v) g T (L.set i v) := by
  unfold BlkT at h ⊢
  simp [World.setCell, Array.getElem?_modify, h]
theorem BlkT.below (h : BlkT w g T L) (hb : Below w.heap.size w w') : BlkT w' g T L := (hb.block g h.lt).trans h
end
end Go.Proofs.YtpbgmpjnfndfjaaGreatDoor.PfD
namespace Go.Proofs.YtpbgmpjnfndfjaaGreatDoor.PfE
theorem here : True := trivial
open Go.RowKit Wd RoL RnW RnQ RnR RnP RtA RpB RpC RpF RpH PqB PfS PfB PfA PfC PfD
/-- the class of worlds as Qmt wants it -/
abbrev Cls (I : World → Prop) (w : World) : Prop := ∃ x : Qin.In I, w = x.val
instance inhab (W : World) : Nonempty (Qin.In (Below W.heap.size W)) := ⟨⟨_, Below.refl _ _⟩⟩
instance inkept (R : Nat) (W : World) : Nonempty (Qin.In (Kept R W)) := ⟨⟨_, Kept.refl _ _⟩⟩
theorem cls {I : World → Prop} {w : World} (h : I w) : Cls I w := ⟨⟨w, h⟩, rfl⟩
end Go.Proofs.YtpbgmpjnfndfjaaGreatDoor.PfE
namespace Go.Proofs.YtpbgmpjnfndfjaaGreatDoor.PfF
theorem here : True := trivial
open Go.RowKit Wd RoL RnW RnQ RnR RnP RtA RpB RpC RpF RpH PqB PfS PfB PfA PfC PfD PfE
end Go.Proofs.YtpbgmpjnfndfjaaGreatDoor.PfF
namespace Go.Proofs.YtpbgmpjnfndfjaaGreatDoor.PfG
theorem here : True := trivial
open Go.RowKit Wd RoL RnW RpF PqB PfS PfB PfA PfD
end Go.Proofs.YtpbgmpjnfndfjaaGreatDoor.PfG
namespace Go.Proofs.YtpbgmpjnfndfjaaGreatDoor.PfH
theorem here : True := trivial
open Go.RowKit Wd RoL RnW RpF PqB PfS PfB PfA PfD PfE
/-- a document as one value -/
def _root_.Go.Proofs.YtpbgmpjnfndfjaaGreatDoor.PfA.Dc.agg (x : Dc) : Value := .agg #[.string x.id, .int .i64 x.est, .int .i64 x.cred, .string x.code, .bool x.neg, .string x.num, .string x.den, .int .i64 x.inc, .int .i64 x.rank, .bool x.rneg, .string x.rnum, .string x.rden, .int .i64 x.rfrom, .int .i64 x.sec]
/-- a slice that reads as documents -/
def DocsAt (w : World) (A : Option Addr) (l : List Dc) : Prop :=
  l.length ≤ maxLen ∧ (0 < l.length → ∃ b off, A = some ⟨b, off, none⟩ ∧ b < w.heap.size ∧ ∀ k x, l[k]? = some x → ∀ j v, x.vals[j]? = some v → w.cell? ⟨b, off + k * 14 + j, none⟩ = some v)
theorem DocsAt.below {w w' : World} {A : Option Addr} {l : List Dc} (h : DocsAt w A l) (hb : Below w.heap.size w w') : DocsAt w' A l :=
  ⟨h.1, fun hl => by
    obtain ⟨b, off, e, hlt, hc⟩ := h.2 hl
    exact ⟨b, off, e, Nat.lt_of_lt_of_le hlt hb.size, fun k x hk j v hv => (hb.cell (p := ⟨b, _, none⟩) hlt).trans (hc k x hk j v hv)⟩⟩
theorem DocsAt.at {w : World} {A : Option Addr} {l : List Dc} (h : DocsAt w A l) {k : Nat} {x : Dc} (hk : l[k]? = some x) : ∃ b off, A = some ⟨b, off, none⟩ ∧ b < w.heap.size ∧ ∀ j v, x.vals[j]? = some v → w.cell? ⟨b, off + k * 14 + j, none⟩ = some v := by
  obtain ⟨b, off, e, hlt, hc⟩ := h.2 (by have := (List.getElem?_eq_some_iff.1 hk).1; omega)
  exact ⟨b, off, e, hlt, hc k x hk⟩
/-- the fourteen cells of a document -/
def DocAt (w : World) (b o : Nat) (x : Dc) : Prop :=
  w.cell? ⟨b, o, none⟩ = some (.string x.id) ∧ w.cell? ⟨b, o + 1, none⟩ = some (.int .i64 x.est) ∧ w.cell? ⟨b, o + 2, none⟩ = some (.int .i64 x.cred) ∧ w.cell? ⟨b, o + 3, none⟩ = some (.string x.code) ∧ w.cell? ⟨b, o + 4, none⟩ = some (.bool x.neg) ∧ w.cell? ⟨b, o + 5, none⟩ = some (.string x.num) ∧ w.cell? ⟨b, o + 6, none⟩ = some (.string x.den) ∧ w.cell? ⟨b, o + 7, none⟩ = some (.int .i64 x.inc) ∧ w.cell? ⟨b, o + 8, none⟩ = some (.int .i64 x.rank) ∧ w.cell? ⟨b, o + 9, none⟩ = some (.bool x.rneg) ∧ w.cell? ⟨b, o + 10, none⟩ = some (.string x.rnum) ∧ w.cell? ⟨b, o + 11, none⟩ = some (.string x.rden) ∧ w.cell? ⟨b, o + 12, none⟩ = some (.int .i64 x.rfrom) ∧ w.cell? ⟨b, o + 13, none⟩ = some (.int .i64 x.sec)
theorem any_take {α : Type} {f : α → Bool} {l : List α} {k : Nat} {x : α} (hk : l[k]? = some x) (h : (l.take k).any f = false) (hx : f x = false) : (l.take (k + 1)).any f = false := by
  rw [List.take_add_one, hk, List.any_append, h]
  simp [hx]
theorem any_hit {α : Type} {f : α → Bool} {l : List α} {k : Nat} {x : α} (hk : l[k]? = some x) (hx : f x = true) : l.any f = true :=
  List.any_eq_true.2 ⟨x, List.mem_of_getElem? hk, hx⟩
end Go.Proofs.YtpbgmpjnfndfjaaGreatDoor.PfH
namespace Go.Proofs.YtpbgmpjnfndfjaaGreatDoor.PfI
theorem here : True := trivial
open Go.RowKit Wd RoL RnW RpF PqB PfS PfB PfA PfD PfE PfH
/-- all blocks below B but R are as they were -/
structure Kb (R B : Nat) (w w' : World) : Prop where
  os : w'.os = w.os
  tape : w'.tape = w.tape
  output : w'.output = w.output
  size : w.heap.size ≤ w'.heap.size
  block : ∀ k, k < B → k ≠ R → w'.heap[k]? = w.heap[k]?
theorem Kb.refl (R B : Nat) (w : World) : Kb R B w w := ⟨rfl, rfl, rfl, Nat.le_refl _, fun _ _ _ => rfl⟩
theorem Kb.trans {R B : Nat} {a w w' : World} (h : Kb R B a w) (k : Kb R B w w') : Kb R B a w' :=
  ⟨k.os.trans h.os, k.tape.trans h.tape, k.output.trans h.output, Nat.le_trans h.size k.size, fun i hi hr => (k.block i hi hr).trans (h.block i hi hr)⟩
theorem Kb.below {R B : Nat} {w w' : World} (h : Kb R B w w') (hR : B ≤ R) : Below B w w' := ⟨h.os, h.tape, h.output, h.size, fun k hk => h.block k hk (by omega)⟩
theorem Kb.set {R B : Nat} {a w : World} (h : Kb R B a w) (i : Nat) (v : Value) : Kb R B a (w.setCell ⟨R, i, none⟩ v) :=
  h.trans ⟨rfl, rfl, rfl, by simp [World.setCell], fun k _ hr => Below.heap_setCell _ _ _ _ hr⟩
end Go.Proofs.YtpbgmpjnfndfjaaGreatDoor.PfI
