/- Plain: the documents of the law ProofMany. -/
import Derived.Test.YtghbhchkdomfhaaGreatDoorPgM
namespace Go.Proofs.YtghbhchkdomfhaaGreatDoor.PgT
open Lx RnQ RnR RnP PfS PfB PfA PfO PfP PfQ PfT PfU PfV
theorem zq : fixQ false (⟨#[]⟩ : ByteArray).data.toList (⟨#[]⟩ : ByteArray).data.toList = 0 := by decide +kernel
def nid (i : Nat) : ByteArray := ⟨#[110, UInt8.ofNat (97 + i / 26), UInt8.ofNat (97 + i % 26)]⟩
def manyD (i : Nat) : Dc := ⟨nid i, 0, 0, ⟨#[69, 85, 82]⟩, false, ⟨#[]⟩, ⟨#[]⟩, 0, 0, false, ⟨#[]⟩, ⟨#[]⟩, 0, -1⟩
def manyL (n : Nat) : List Dc := (List.range n).map manyD
theorem many_check : ∀ i < 70, checkD (manyD i) = 0 := by decide +kernel
theorem many_len : ∀ i < 70, (docL (manyD i)).length = 61 ∧ (docWs (manyD i)).length = 6 := by decide +kernel
theorem many_nodup : ((List.range 70).map nid).Nodup := by decide +kernel
theorem many_good {i : Nat} (h : i < 70) : PfV.Good (manyD i) := by
  refine ⟨many_check i h, (by show validB false [] [] = true; decide +kernel), (by show validB false [] [] = true; decide +kernel), ?_, ?_, ?_, ?_⟩
  · show nm (fixQ _ _ _) < _
    rw [show fixQ (manyD i).neg (manyD i).num.data.toList (manyD i).den.data.toList = 0 from zq]; decide +kernel
  · show (fixQ _ _ _).den < _
    rw [show fixQ (manyD i).neg (manyD i).num.data.toList (manyD i).den.data.toList = 0 from zq]; decide +kernel
  · show nm (fixQ _ _ _) < _
    rw [show fixQ (manyD i).rneg (manyD i).rnum.data.toList (manyD i).rden.data.toList = 0 from zq]; decide +kernel
  · show (fixQ _ _ _).den < _
    rw [show fixQ (manyD i).rneg (manyD i).rnum.data.toList (manyD i).rden.data.toList = 0 from zq]; decide +kernel
theorem many_succ (n : Nat) : manyL (n + 1) = manyL n ++ [manyD n] := by unfold manyL; rw [List.range_succ, List.map_append]; rfl
theorem many_length (n : Nat) : (manyL n).length = n := by simp [manyL]
theorem many_all {n : Nat} (h : n ≤ 70) : ∀ d ∈ manyL n, PfV.Good d := by
  intro d hd
  obtain ⟨i, hi, rfl⟩ := List.mem_map.1 hd
  exact many_good (by rw [List.mem_range] at hi; omega)
theorem many_ids {n : Nat} (h : n ≤ 70) : ((manyL n).map (·.id)).Nodup := by
  have e : (manyL n).map (·.id) = (List.range n).map nid := by unfold manyL; rw [List.map_map]; rfl
  rw [e]
  refine List.Nodup.sublist ?_ many_nodup
  exact List.Sublist.map _ (by
    have : List.range n = (List.range 70).take n := by rw [List.take_range, Nat.min_eq_left h]
    rw [this]
    exact List.take_sublist _ _)
theorem many_text : ∀ (n : Nat), n ≤ 70 → (textD (manyL n)).length = 61 * n ∧ ((manyL n).flatMap docWs).length = 6 * n
  | 0, _ => by simp [manyL, textD]
  | n + 1, h => by
    obtain ⟨h1, h2⟩ := many_text n (by omega)
    obtain ⟨k1, k2⟩ := many_len n (by omega)
    rw [many_succ, textD_snoc, List.flatMap_append, List.length_append, List.length_append, List.flatMap_singleton]
    omega
theorem many_few {n : Nat} (h : n ≤ 64) : fmtD (manyL n) = (textD (manyL n), 0) ∧ parseOf (textD (manyL n)) = (manyL n, 0, 0) := by
  obtain ⟨h1, h2⟩ := many_text n (by omega)
  exact ⟨fmt_text (many_all (by omega)) (many_ids (by omega)) (by rw [many_length]; omega) (by omega) (by omega), parse_text (many_all (by omega)) (many_ids (by omega)) (by rw [many_length]; omega) (by omega) (by omega)⟩
theorem many_split : ∀ (k : Nat), ∃ m, manyL (64 + (k + 1)) = manyL 64 ++ manyD 64 :: m
  | 0 => ⟨[], many_succ 64⟩
  | k + 1 => by
    obtain ⟨m, hm⟩ := many_split k
    refine ⟨m ++ [manyD (64 + (k + 1))], ?_⟩
    rw [show 64 + (k + 1 + 1) = 64 + (k + 1) + 1 by omega, many_succ, hm]
    simp
theorem many_more {n : Nat} (h : 64 < n) (h2 : n ≤ 70) : (fmtD (manyL n)) = ([], 2) ∧ parseOf (textD (manyL n)) = ([], 385, 2) := by
  obtain ⟨t1, t2⟩ := many_text n h2
  refine ⟨fmt_long (by rw [many_length]; exact h), ?_⟩
  obtain ⟨k, rfl⟩ : ∃ k, n = 64 + (k + 1) := ⟨n - 65, by omega⟩
  obtain ⟨m, hm⟩ := many_split k
  have hall := many_all h2
  have hids := many_ids (n := 65) (by omega)
  rw [hm] at hall t1 t2 ⊢
  have hnm : NmA.nmB (manyD 64).id = true := (check_all (many_check 64 (by omega))).1
  have h64 := many_text 64 (by omega)
  have := parse_stop (c := 2) hall (many_ids (by omega)) (by rw [many_length]; omega) (by omega) (by omega) (fun a ha => first_long hnm ha (fun x hx e => by
    rw [many_succ, List.map_append, List.nodup_append] at hids
    exact hids.2.2 x.id (List.mem_map_of_mem hx) (manyD 64).id (by simp) e) (by rw [many_length]; omega)) (by decide)
  rw [this, h64.2]
end Go.Proofs.YtghbhchkdomfhaaGreatDoor.PgT
