/- The walks of the reference's Digits, some, cut. -/
import Derived.Test.YthppojbabkljpaaGreatDoorRoI
import Derived.Test.YthppojbabkljpaaGreatDoorRnP
namespace Go.Proofs.YthppojbabkljpaaGreatDoor.RoL
open Go.RowKit RnA RnB RnS RnC RnK RnM RnL RnN RnD RnE RnQ RnR RnP RnW RoA RoB RoC RoD RoE RoF RoG RoH RoI
/-- the value of a slice of limbs, read in a world -/
def sval (w : World) : Value → Nat
  | .slice (some a) n _ => lval ((List.range n).map fun k => match w.cell? ⟨a.block, a.off + k, none⟩ with | some (.int .u32 x) => x.toNat | _ => 0)
  | _ => 0
theorem sval_at {w : World} {B : Nat} {A : Option Addr} {l : List Nat} (h : LAt w B A l) (c : Nat) : sval w (.slice A l.length c) = lval l := by
  rcases Nat.eq_zero_or_pos l.length with h0 | h0
  · have : l = [] := List.eq_nil_of_length_eq_zero h0
    subst this
    cases A <;> rfl
  · obtain ⟨b, off, rfl, _, hc⟩ := h.2.2 h0
    show lval _ = _
    congr 1
    refine List.ext_getElem? fun k => ?_
    by_cases hk : k < l.length
    · rw [List.getElem?_map, List.getElem?_range hk]
      have e := List.getElem?_eq_getElem hk
      have := hc k _ e
      simp only [Option.map_some, this, e, Int.toNat_natCast]
    · rw [List.getElem?_eq_none (by simp; omega), List.getElem?_eq_none (by omega)]
theorem str_ne {s : ByteArray} (h : 0 < s.size) : (s.toList = []) = False ∧ s.toList.isEmpty = false := by
  have e : s.toList = s.data.toList := Lib.toList_data s
  have h2 : s.toList ≠ [] := by
    intro h1
    rw [e] at h1
    have : s.data.toList.length = s.size := by simp
    rw [h1] at this
    simp at this
    omega
  exact ⟨eq_false h2, by simpa using h2⟩
theorem str_em {s : ByteArray} (h : s.size = 0) : s.toList = [] ∧ s.toList.isEmpty = true := by
  have e : s.toList = s.data.toList := Lib.toList_data s
  have h2 : s.toList = [] := by rw [e]; exact List.eq_nil_of_length_eq_zero (by simpa using h)
  exact ⟨h2, by rw [h2]; rfl⟩
theorem digs_snoc' {s : ByteArray} {k : Nat} (h : k < s.size) (hd : digs (s.data.toList.take k) = true) : digs (s.data.toList.take (k + 1)) = isDig s[k] := by
  rw [List.take_add_one, get_byte h]
  unfold digs at hd ⊢
  rw [List.all_append, hd]
  simp
theorem digs_bad {s : ByteArray} {k : Nat} (h : k < s.size) (hb : isDig s[k] = false) : digs s.data.toList = false := by
  unfold digs
  rw [List.all_eq_false]
  exact ⟨s[k], List.mem_of_getElem? (get_byte h), by simp [hb]⟩
theorem isDig_lo {c : UInt8} (h : (c.toNat : Int) < 48) : isDig c = false := by unfold isDig; simp; omega
theorem isDig_hi {c : UInt8} (h : (57 : Int) < (c.toNat : Int)) : isDig c = false := by unfold isDig; simp; omega
theorem isDig_in {c : UInt8} (h : ¬ (c.toNat : Int) < 48) (h2 : ¬ (57 : Int) < (c.toNat : Int)) : isDig c = true := by unfold isDig; simp; omega
theorem isInt_bad {l : List UInt8} (h : digs l = false) : isInt l = false := by unfold isInt; rw [h]; rfl
theorem isInt_tail {s : ByteArray} (h : digs s.data.toList = true) (h0 : 0 < s.size) : isInt s.data.toList = (decide (s.size = 1) || !((s[0].toNat : Int) == 48)) := by
  have hl : s.data.toList.length = s.size := by simp
  unfold isInt
  rw [h]
  have hg := get_byte h0
  rcases hd : s.data.toList with _ | ⟨c, l⟩
  · rw [hd] at hl; simp at hl; omega
  · rw [hd] at hg hl
    have hc : c = s[0] := by simpa using hg
    rw [← hc]
    rcases l with _ | ⟨c2, l⟩
    · have : s.size = 1 := by simp at hl; omega
      rw [this]
      by_cases h1 : c = 48
      · subst h1; rfl
      · simp [h1]
    · have : s.size ≠ 1 := by simp at hl; omega
      simp only [this, decide_false, Bool.false_or]
      by_cases h1 : c = 48
      · subst h1; rfl
      · have h2 : ¬ ((c.toNat : Int) = 48) := fun e => h1 (UInt8.toNat_inj.1 (by show c.toNat = 48; omega))
        simp [h1]
        intro e
        exact h1 (UInt8.toNat_inj.1 (by show c.toNat = 48; omega))
set_option maxHeartbeats 2000000 in
theorem rdigits_any (s : ByteArray) (w : World) (hs : s.size ≤ 1000000) :
    Calls Tryz.prog 67 #[.string s] w fun e w' => e = .returned (.bool (isInt s.data.toList)) ∧ w = w' := by
  go_enter Tryz.func67, Tryz.ntmps67
  go_wp2_with fail
  go_loop [3] (fun vi => ∃ k : Nat, k ≤ s.size ∧ vi = .int .i64 k ∧ Hid (digs (s.data.toList.take k) = true)) (fun vi => s.size - (intOf vi).toNat)
  case atStart => exact ⟨0, by omega, rfl, by show _ = _; rfl⟩
  case round =>
    obtain ⟨k, hk, rfl, HD⟩ := hrel
    by_cases hlt : k < s.size
    · have hsn := hide (digs_snoc' hlt HD.out)
      by_cases h1 : (s[k].toNat : Int) < 48
      · have hr := hide (isInt_bad (digs_bad hlt (isDig_lo h1)))
        go_wp2_with fail
        go_ret
        exact ⟨ret_bool hr.out.symm, rfl⟩
      · by_cases h2 : (57 : Int) < (s[k].toNat : Int)
        · have hr := hide (isInt_bad (digs_bad hlt (isDig_hi h2)))
          go_wp2_with fail
          go_ret
          exact ⟨ret_bool hr.out.symm, rfl⟩
        · have hnx : Hid (digs (s.data.toList.take (k + 1)) = true) := by show _ = _; rw [hsn.out]; exact isDig_in h1 h2
          go_wp2_with fail
          go_round
          case rel => exact ⟨k + 1, by omega, by go_num, hnx⟩
          case measure => simp [intOf]; omega
    · have hdg : digs s.data.toList = true := by
        have := HD.out
        rwa [List.take_of_length_le (by simp; omega)] at this
      by_cases h0 : 0 < s.size
      · have hr := hide (isInt_tail hdg h0)
        obtain ⟨hne1, hne2⟩ := str_ne h0
        by_cases h1 : s.size = 1
        · have e1 : ((s.size : Int) == 1) = true := by simp [h1]
          clear hdg
          go_wp2_with fail
          all_goals
            go_ret
            rw [hr.out]
            simp [h1]
        · have e1 : ((s.size : Int) == 1) = false := by simp; omega
          clear hdg
          go_wp2_with fail
          all_goals
            go_ret
            rw [hr.out]
            simp_all
      · have hs0 : s.size = 0 := by omega
        obtain ⟨hne1, hne2⟩ := str_em hs0
        have hr : Hid (isInt s.data.toList = false) := by
          show _ = _
          have : s.data.toList = [] := List.eq_nil_of_length_eq_zero (by simpa using hs0)
          rw [this]; rfl
        clear hdg
        go_wp2_with fail
        go_ret
        rw [hr.out]
        simp
/-- at least one digit -/
def someB (l : List UInt8) : Bool := digs l && decide (l ≠ [])
set_option maxHeartbeats 2000000 in
theorem rsome_any (s : ByteArray) (w : World) (hs : s.size ≤ 1000000) :
    Calls Tryz.prog 68 #[.string s] w fun e w' => e = .returned (.bool (someB s.data.toList)) ∧ w = w' := by
  go_enter Tryz.func68, Tryz.ntmps68
  go_wp2_with fail
  go_loop [3] (fun vi => ∃ k : Nat, k ≤ s.size ∧ vi = .int .i64 k ∧ Hid (digs (s.data.toList.take k) = true)) (fun vi => s.size - (intOf vi).toNat)
  case atStart => exact ⟨0, by omega, rfl, by show _ = _; rfl⟩
  case round =>
    obtain ⟨k, hk, rfl, HD⟩ := hrel
    by_cases hlt : k < s.size
    · have hsn := hide (digs_snoc' hlt HD.out)
      by_cases h1 : (s[k].toNat : Int) < 48
      · have hr : Hid (someB s.data.toList = false) := by show _ = _; unfold someB; rw [digs_bad hlt (isDig_lo h1)]; rfl
        go_wp2_with fail
        go_ret
        exact ⟨ret_bool hr.out.symm, rfl⟩
      · by_cases h2 : (57 : Int) < (s[k].toNat : Int)
        · have hr : Hid (someB s.data.toList = false) := by show _ = _; unfold someB; rw [digs_bad hlt (isDig_hi h2)]; rfl
          go_wp2_with fail
          go_ret
          exact ⟨ret_bool hr.out.symm, rfl⟩
        · have hnx : Hid (digs (s.data.toList.take (k + 1)) = true) := by show _ = _; rw [hsn.out]; exact isDig_in h1 h2
          go_wp2_with fail
          go_round
          case rel => exact ⟨k + 1, by omega, by go_num, hnx⟩
          case measure => simp [intOf]; omega
    · have hdg : digs s.data.toList = true := by
        have := HD.out
        rwa [List.take_of_length_le (by simp; omega)] at this
      have hr : Hid (someB s.data.toList = !s.toList.isEmpty) := by
        show _ = _
        unfold someB
        rw [hdg, Lib.toList_data]
        rcases s.data.toList with _ | ⟨c, l⟩ <;> rfl
      clear hdg
      go_wp2_with fail
      go_ret
      exact ⟨ret_bool hr.out.symm, rfl⟩
def st (l : List UInt8) : ByteArray := ⟨l.toArray⟩
theorem st_data (l : List UInt8) : (st l).data.toList = l := rfl
theorem st_size (l : List UInt8) : (st l).size = l.length := by simp [st, ByteArray.size]
theorem st_self (s : ByteArray) : st s.data.toList = s := ext_bytes rfl
/-- the two parts of a text at the first byte c -/
def cutL (c : UInt8) (l : List UInt8) : List UInt8 × List UInt8 × Bool := if c ∈ l then (upTo c l, behind c l, true) else (l, [], false)
def CutPost (x : List UInt8 × List UInt8 × Bool) (w : World) (e : Ending) (w' : World) : Prop :=
  e = .returned (.tuple #[.string (st x.1), .string (st x.2.1), .bool x.2.2]) ∧ Below w.heap.size w w'
theorem cut_at {s : ByteArray} {k : Nat} {c : UInt8} (h : k < s.size) (hn : c ∉ s.data.toList.take k) (hc : s[k] = c) :
    st (cutL c s.data.toList).1 = s.extract 0 k ∧ st (cutL c s.data.toList).2.1 = s.extract (k + 1) s.size ∧ (cutL c s.data.toList).2.2 = true := by
  have e : s.data.toList = s.data.toList.take k ++ c :: s.data.toList.drop (k + 1) := by
    conv => lhs; rw [← List.take_append_drop k s.data.toList]
    rw [RnA.drop_at (get_byte h), hc]
  have hm : c ∈ s.data.toList := by rw [e]; simp
  obtain ⟨h1, h2⟩ := upTo_app (b := s.data.toList.drop (k + 1)) hn
  rw [← e] at h1 h2
  unfold cutL
  rw [if_pos hm]
  refine ⟨?_, ?_, rfl⟩
  · refine ext_bytes ?_
    rw [st_data, h1]
    simp [ByteArray.data_extract]
  · refine ext_bytes ?_
    rw [st_data, h2, drop_bytes]
theorem cut_none {s : ByteArray} {c : UInt8} (hn : c ∉ s.data.toList) : cutL c s.data.toList = (s.data.toList, [], false) := by unfold cutL; rw [if_neg hn]
set_option maxHeartbeats 2000000 in
theorem rcut_any (s : ByteArray) (c : UInt8) (w : World) (hs : s.size ≤ 1000000) :
    Calls Tryz.prog 66 #[.string s, .int .u8 (c.toNat : Int)] w (CutPost (cutL c s.data.toList) w) := by
  go_enter Tryz.func66, Tryz.ntmps66
  go_wp2_with fail
  go_loop [7] (fun vi => ∃ k : Nat, k ≤ s.size ∧ vi = .int .i64 k ∧ Hid (c ∉ s.data.toList.take k)) (fun vi => s.size - (intOf vi).toNat)
  case atStart => exact ⟨0, by omega, rfl, by show ¬ _; simp⟩
  case round =>
    obtain ⟨k, hk, rfl, HN⟩ := hrel
    by_cases hlt : k < s.size
    · cases hc : ((s[k].toNat : Int) == (c.toNat : Int))
      · have hnx : Hid (c ∉ s.data.toList.take (k + 1)) := by
          show ¬ _
          rw [List.take_add_one, get_byte hlt]
          intro hm
          rcases List.mem_append.1 hm with hm | hm
          · exact HN.out hm
          · have : c = s[k] := by simpa using hm
            subst this
            simp at hc
        go_wp2_with fail
        go_round
        case rel => exact ⟨k + 1, by omega, by go_num, hnx⟩
        case measure => simp [intOf]; omega
      · have hcc : s[k] = c := UInt8.toNat_inj.1 (Int.ofNat_inj.1 (by simpa using hc))
        have hr := hide (cut_at hlt HN.out hcc)
        have hw1 : IntKind.i64.wrap ((k : Int) + 1) = (k : Int) + 1 := IntWalk.i64_in _ (by omega)
        clear hcc
        go_wp2_with fail
        go_quiet (fail)
        go_wp2_with fail
        go_ret3
        unfold CutPost
        rw [hr.out.1, hr.out.2.1, hr.out.2.2]
        exact ⟨rfl, below_drewN (Below.refl _ _) _⟩
    · have hnn : c ∉ s.data.toList := by
        have := HN.out
        rwa [List.take_of_length_le (by simp; omega)] at this
      have hr := hide (cut_none hnn)
      clear hnn
      go_wp2_with fail
      go_ret3
      unfold CutPost
      rw [hr.out]
      exact ⟨by rw [st_self]; rfl, Below.refl _ _⟩
end Go.Proofs.YthppojbabkljpaaGreatDoor.RoL
