/- Words for memory: a slice that reads as a list of limbs or bytes; rows of the call's own. -/
import Derived.Test.YthppojbabkljpaaGreatDoorRnN
import Derived.Below
import Derived.Laws.OwnMore
import Derived.Deep.AppendLies
import Derived.Deep.Draws
import Derived.OwnWalk
namespace Go.Proofs.YthppojbabkljpaaGreatDoor.RnW
open Go.RowKit RnA RnB RnS RnC
theorem hide {p : Prop} (h : p) : Hid p := h
def uv (l : List Nat) : List Value := l.map fun (x : Nat) => .int .u32 (x : Int)
def bv (l : List UInt8) : List Value := l.map fun c => .int .u8 (c.toNat : Int)
theorem uv_length (l : List Nat) : (uv l).length = l.length := by simp [uv]
theorem bv_length (l : List UInt8) : (bv l).length = l.length := by simp [bv]
theorem uv_append (a b : List Nat) : uv (a ++ b) = uv a ++ uv b := by simp [uv]
theorem bv_append (a b : List UInt8) : bv (a ++ b) = bv a ++ bv b := by simp [bv]
theorem uv_set (l : List Nat) (k x : Nat) : (uv l).set k (.int .u32 (x : Int)) = uv (l.set k x) := by simp [uv, List.map_set]
theorem bv_set (l : List UInt8) (k : Nat) (c : UInt8) : (bv l).set k (.int .u8 (c.toNat : Int)) = bv (l.set k c) := by simp [bv, List.map_set]
theorem uv_get {l : List Nat} {k x : Nat} (h : l[k]? = some x) : (uv l)[k]? = some (.int .u32 (x : Int)) := by simp [uv, h]
theorem bv_get {l : List UInt8} {k : Nat} {c : UInt8} (h : l[k]? = some c) : (bv l)[k]? = some (.int .u8 (c.toNat : Int)) := by simp [bv, h]
theorem made_uv (n : Nat) : (madeCells (Value.int .u32 0).cells (n * 1)).toList = uv (List.replicate n 0) := by
  simp [madeCells, Value.cells, uv, Nat.mod_one, List.map_const']
theorem made_bv (n : Nat) : (madeCells (Value.int .u8 0).cells (n * 1)).toList = bv (List.replicate n 0) := by
  simp [madeCells, Value.cells, bv, Nat.mod_one, List.map_const']
/-- a slice reads as a list of limbs -/
def LAt (w : World) (B : Nat) (A : Option Addr) (l : List Nat) : Prop :=
  Ok l ∧ l.length ≤ maxLen ∧ (0 < l.length → ∃ b off, A = some ⟨b, off, none⟩ ∧ b < B ∧ ∀ (k x : Nat), l[k]? = some x → w.cell? ⟨b, off + k, none⟩ = some (.int .u32 (x : Int)))
section
variable {w w' : World} {B B' : Nat} {A : Option Addr} {l : List Nat}
theorem LAt.ok (h : LAt w B A l) : Ok l := h.1
theorem LAt.len (h : LAt w B A l) : l.length ≤ 9223372036854775807 := by have := h.2.1; unfold maxLen at this; omega
theorem LAt.below (h : LAt w B A l) (hb : Below B w w') : LAt w' B A l :=
  ⟨h.1, h.2.1, fun hp => by
    obtain ⟨b, off, e, hlt, hc⟩ := h.2.2 hp
    exact ⟨b, off, e, hlt, fun k x hk => (hb.cell (p := ⟨b, off + k, none⟩) hlt).trans (hc k x hk)⟩⟩
theorem LAt.mono (h : LAt w B A l) (hb : B ≤ B') : LAt w B' A l :=
  ⟨h.1, h.2.1, fun hp => by
    obtain ⟨b, off, e, hlt, hc⟩ := h.2.2 hp
    exact ⟨b, off, e, by omega, hc⟩⟩
theorem LAt.next (h : LAt w w.heap.size A l) (hb : Below w.heap.size w w') : LAt w' w'.heap.size A l := (h.below hb).mono hb.size
theorem LAt.nil : LAt w B A [] := ⟨Ok.nil, Nat.zero_le _, fun h => by simp at h⟩
theorem LAt.take (h : LAt w B A l) (k : Nat) : LAt w B A (l.take k) := by
  refine ⟨h.1.take k, Nat.le_trans (List.length_take_le' ..) h.2.1, fun hp => ?_⟩
  obtain ⟨b, off, e, hlt, hc⟩ := h.2.2 (by rw [List.length_take] at hp; omega)
  refine ⟨b, off, e, hlt, fun j x hj => hc j x ?_⟩
  rw [List.getElem?_take] at hj
  split at hj
  · exact hj
  · cases hj
theorem LAt.of_own {base T n c : Nat} (h : w.ownsRow base T 1 (.slice A n c) n (uv l)) (ho : Ok l) : LAt w w.heap.size A l := by
  have hn : n = l.length := by have := h.1; rw [uv_length] at this; omega
  subst hn
  have hm : l.length ≤ maxLen := by
    rcases h.2 with ⟨_, h0⟩ | ⟨g, cap, cur, hv, _, _, hnc, hcm, _⟩
    · rw [h0]; exact Nat.zero_le _
    · exact Nat.le_trans hnc hcm
  refine ⟨ho, hm, fun hp => ?_⟩
  obtain ⟨g, cg, hA, _, hlt⟩ := h.form hp
  cases hA
  refine ⟨g, 0, rfl, hlt, fun k x hk => ?_⟩
  have hkl : k < l.length := (List.getElem?_eq_some_iff.1 hk).1
  rw [Nat.zero_add]
  exact (h.cellAt k (by omega)).trans (uv_get hk)
end
theorem own_slice {w : World} {base e size n : Nat} {v : Value} {xs : List Value} (h : w.ownsRow base e size v n xs) : ∃ A c, v = .slice A n c := by
  rcases h.2 with ⟨rfl, rfl⟩ | ⟨g, cap, cur, rfl, _⟩
  · exact ⟨_, _, rfl⟩
  · exact ⟨_, _, rfl⟩
theorem own_len {w : World} {B e size n : Nat} {v : Value} {xs : List Value} (h : w.ownsRow B e size v n xs) : n ≤ maxLen := by
  rcases h.2 with ⟨rfl, h0⟩ | ⟨g, cap, cur, hv, _, _, hnc, hcm, _⟩
  · rw [h0]; exact Nat.zero_le _
  · exact Nat.le_trans hnc hcm
theorem own_cap {w : World} {B e size n c : Nat} {A : Option Addr} {xs : List Value} (h : w.ownsRow B e size (.slice A n c) n xs) : n ≤ c ∧ c ≤ maxLen := by
  rcases h.2 with ⟨h0, _⟩ | ⟨g, cap, cur, h0, _, _, hnc, hcm, _⟩
  · injection h0 with _ h1 h2; omega
  · injection h0 with _ h1 h2; omega
theorem own_below {w w' : World} {base size n : Nat} {e : TypeId} {v : Value} {xs : List Value} (h : w.ownsRow base e size v n xs) (hb : Below w.heap.size w w') : w'.ownsRow base e size v n xs :=
  h.kept (row := none) ⟨hb.os, hb.tape, hb.output, hb.size, fun i hi _ => hb.block i hi⟩ (by cases hv : v.ownBlock <;> simp)
theorem below_next {w w1 w2 : World} (h : Below w.heap.size w w1) (h2 : Below w1.heap.size w1 w2) : Below w.heap.size w w2 := h.trans (h2.mono h.size)
theorem below_drewN {B : Nat} {a w : World} (h : Below B a w) (n : Nat) : Below B a (w.drewN n) := ⟨h.os, h.tape, h.output, h.size, h.block⟩
theorem ret_int {k : IntKind} {a b : Int} (h : a = b) : Ending.returned (.int k a) = .returned (.int k b) := by rw [h]
theorem ret_bool {a b : Bool} (h : a = b) : Ending.returned (.bool a) = Ending.returned (.bool b) := by rw [h]
theorem ret_str {a b : ByteArray} (h : a = b) : Ending.returned (.string a) = Ending.returned (.string b) := by rw [h]
/-- the string of a number -/
def bs (n : Nat) : ByteArray := ⟨(bytesOf n).toArray⟩
/-- the value of a string -/
def nv (s : ByteArray) : Nat := bval s.data.toList
theorem nv_bs (n : Nat) : nv (bs n) = n := by unfold nv bs; simp [bval_bytesOf]
theorem bs_size (n : Nat) : (bs n).size = (bytesOf n).length := by simp [bs, ByteArray.size]
/-- what a function that makes limbs answers -/
def LPost (l : List Nat) (w : World) (e : Ending) (w' : World) : Prop :=
  ∃ A c, e = .returned (.slice A l.length c) ∧ l.length ≤ c ∧ c ≤ maxLen ∧ LAt w' w'.heap.size A l ∧ Below w.heap.size w w'
/-- what a function that makes a string answers -/
def SPost (s : ByteArray) (w : World) (e : Ending) (w' : World) : Prop := e = .returned (.string s) ∧ Below w.heap.size w w'
end Go.Proofs.YthppojbabkljpaaGreatDoor.RnW
