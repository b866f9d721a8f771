/- The walk of strings.ContainsRune at the three signs. -/
import Derived.Test.YtnbdckfnohagbaaGreatDoorLxB
import Derived.Deep.QuietTactic
import Derived.BigQuiet
import Derived.Deep.RegionWith
import Derived.Lib.Bytealg
import Derived.WalkMore
namespace Go.Proofs.YtnbdckfnohagbaaGreatDoor.LxC
theorem here : True := trivial
open Go.RowKit Lx LxW LxB
set_option maxRecDepth 100000 in
theorem indexByte_any (s : ByteArray) (c : Int) (w : World) :
    Calls Tryz.prog 102 #[.string s, .int .u8 c] w fun e w' => e = .returned (.int .i64 (Lib.indexByte s.data.toList c.toNat.toUInt8)) ∧ w = w' := by
  go_enter Tryz.func102, Tryz.ntmps102
  go_wp2
  rw [run_callFunc_extern Tryz.func145 (by kernel_rfl) (by kernel_rfl) (by kernel_rfl) (e := Extern.BytealgIndexByte.indexByte) (by kernel_rfl), Lib.run_indexByteString]
  simp only [Result.andThen]
  rw [Oper.upon_value]
  go_wp2
  go_ret
  exact ⟨rfl, rfl⟩
set_option maxRecDepth 100000 in
theorem valid_any (c : Int) (w : World) (h0 : 0 ≤ c) (h1 : c < 256) :
    Calls Tryz.prog 103 #[.int .i32 c] w fun e w' => e = .returned (.bool true) ∧ w = w' := by
  go_enter Tryz.func103, Tryz.ntmps103
  go_wp2
  go_ret
  exact ⟨rfl, rfl⟩
set_option maxRecDepth 100000 in
theorem enc_hi (c : Int) (h0 : 128 ≤ c) (h1 : c < 256) : ∃ b0 b1 : UInt8, Utf8.encode c = ⟨#[b0, b1]⟩ ∧ 128 ≤ b0.toNat ∧ 128 ≤ b1.toNat := by
  have hv : Utf8.valid c = true := by simp [Utf8.valid]; omega
  refine ⟨UInt8.ofNat (0xC0 + c.toNat / 64), UInt8.ofNat (0x80 + c.toNat % 64), ?_, ?_, ?_⟩
  · unfold Utf8.encode
    simp only [hv, if_true]
    rw [if_neg (by omega), if_pos (by omega)]
  · rw [UInt8.toNat_ofNat']; omega
  · rw [UInt8.toNat_ofNat']; omega
set_option maxRecDepth 100000 in
theorem quiet_add_left {P : Program} {f : FuncId} {args : Array Value} {w : World} {a n : Nat} {v : Value}
    (h : Calls P f args (w.drewN (a + n)) fun e w' => e = .returned v ∧ w.drewN (a + n) = w') :
    Calls P f args (w.drewN (a + n)) fun e w'' => e = .returned v ∧ ∃ m, w'' = w.drewN (a + m) :=
  h.mono fun _ _ ⟨he, hm⟩ => ⟨he, n, hm.symm⟩
set_option maxRecDepth 100000 in
theorem idx_no (b0 b1 : UInt8) (h : 1 < (ByteArray.mk #[b0, b1]).size) (hb : 128 ≤ b1.toNat) (w : World) :
    Calls Tryz.prog 102 #[.string ((ByteArray.mk #[61, 44, 59]).extract 2 3), .int .u8 (((ByteArray.mk #[b0, b1])[1]'h).toNat : Int)] w fun e w' => e = .returned (.int .i64 (-1)) ∧ w = w' := by
  refine (indexByte_any _ _ _).mono ?_
  rintro e w' ⟨rfl, rfl⟩
  refine ⟨?_, rfl⟩
  have h1 : Lib.indexByte [59] b1 = -1 := by
    have h : ((59 : UInt8) == b1) = false := by
      rw [beq_eq_false_iff_ne]
      rintro rfl
      exact absurd hb (by decide)
    simp [Lib.indexByte, h]
  have h2 : (((ByteArray.mk #[b0, b1])[1]'h).toNat : Int).toNat.toUInt8 = b1 := by
    show ((b1.toNat : Int)).toNat.toUInt8 = b1
    simp
  have h3 : ((ByteArray.mk #[61, 44, 59]).extract 2 3).data.toList = [59] := by decide +kernel
  rw [h2, h3, h1]
set_option maxRecDepth 100000 in
set_option maxHeartbeats 1000000 in
set_option maxRecDepth 100000 in
theorem indexRune_hi (c : Int) (w : World) (h0 : 128 ≤ c) (h1 : c < 256) :
    Calls Tryz.prog 72 #[.string ⟨#[61, 44, 59]⟩, .int .i32 c] w fun e w' => e = .returned (.int .i64 (-1)) ∧ ∃ n, w' = w.drewN n := by
  obtain ⟨b0, b1, he, g0, g1⟩ := enc_hi c h0 h1
  have h44 : ((((ByteArray.mk #[61, 44, 59])[1]'(by decide)).toNat : Int) != (((ByteArray.mk #[b0, b1])[1]'(by show 1 < 2; omega)).toNat : Int)) = true := by
    show ((44 : Int) != (b1.toNat : Int)) = true
    rw [bne_iff_ne]; omega
  go_enter Tryz.func72, Tryz.ntmps72
  go_wp2_with (go_at_call 103; refine (valid_any _ _ (by omega) (by omega)).mono ?_; rintro e w' ⟨rfl, rfl⟩)
  go_step3
  go_wp2_with fail
  refine wp_loop_rounds 1 ?_
  rw [rounds_succ]
  go_wp2_with fail
  go_step3
  go_wp2_with fail
  go_quiet (fail)
  go_wp2_with fail
  go_quiet ((go_at_call 102; exact quiet_add_left (idx_no b0 b1 _ g1 _)))
  go_wp2_with fail
  rw [Exit.noGoto_ret]
  go_wp2_with fail
  rw [Exit.noGoto_ret]
  go_ret
  exact ⟨rfl, _, rfl⟩
set_option maxRecDepth 100000 in
set_option maxHeartbeats 1000000 in
set_option maxRecDepth 100000 in
theorem indexRune_lo (c : Int) (w : World) (h0 : 0 ≤ c) (h1 : c < 128) :
    Calls Tryz.prog 72 #[.string ⟨#[61, 44, 59]⟩, .int .i32 c] w fun e w' => e = .returned (.int .i64 (Lib.indexByte [61, 44, 59] c.toNat.toUInt8)) ∧ w = w' := by
  go_enter Tryz.func72, Tryz.ntmps72
  go_wp2_with (go_at_call 102; refine (indexByte_any _ _ _).mono ?_; rintro e w' ⟨rfl, rfl⟩)
  go_ret
  exact ⟨rfl, rfl⟩
set_option maxRecDepth 100000 in
theorem signIdx (c : Int) (h0 : 0 ≤ c) (h1 : c < 128) : decide (0 ≤ Lib.indexByte [61, 44, 59] c.toNat.toUInt8) = isSign c := by
  have hu : c.toNat.toUInt8.toNat = c.toNat := by simp; omega
  have e (k : UInt8) : (k == c.toNat.toUInt8) = (c == (k.toNat : Int)) := by
    rw [Bool.eq_iff_iff, beq_iff_eq, beq_iff_eq, ← UInt8.toNat_inj, hu]; omega
  have e61 := e 61; have e44 := e 44; have e59 := e 59
  simp only [Lib.indexByte, e61, e44, e59]
  show _ = (c == ((61 : UInt8).toNat : Int) || (c == ((44 : UInt8).toNat : Int) || c == ((59 : UInt8).toNat : Int)))
  cases (c == ((61 : UInt8).toNat : Int)) <;> cases (c == ((44 : UInt8).toNat : Int)) <;> cases (c == ((59 : UInt8).toNat : Int)) <;> rfl
set_option maxRecDepth 100000 in
theorem contains_any (c : Int) (w : World) (h0 : 0 ≤ c) (h1 : c < 256) :
    Calls Tryz.prog 46 #[.string ⟨#[61, 44, 59]⟩, .int .i32 c] w fun e w' => e = .returned (.bool (isSign c)) ∧ ∃ n, w' = w.drewN n := by
  by_cases h : c < 128
  · have hs := hide (signIdx c h0 h)
    go_enter Tryz.func46, Tryz.ntmps46
    go_wp2_with (go_at_call 72; refine (indexRune_lo _ _ (by omega) (by omega)).mono ?_; rintro e w' ⟨rfl, rfl⟩)
    go_ret
    exact ⟨by rw [← hs.out]; rfl, 0, rfl⟩
  · have hs : isSign c = false := by simp [isSign]; omega
    have hs := hide hs
    go_enter Tryz.func46, Tryz.ntmps46
    go_wp2_with fail
    refine (indexRune_hi _ _ (by omega) (by omega)).mono ?_
    rintro e w' ⟨rfl, n, rfl⟩
    go_wp2_with fail
    go_ret
    exact ⟨by rw [hs.out]; rfl, n, rfl⟩
end Go.Proofs.YtnbdckfnohagbaaGreatDoor.LxC
