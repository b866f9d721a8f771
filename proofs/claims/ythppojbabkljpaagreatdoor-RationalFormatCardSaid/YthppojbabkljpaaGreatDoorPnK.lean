/- The walks of the program's multiplyAdd and Parse. -/
import Derived.Test.YthppojbabkljpaaGreatDoorPnE
import Derived.Test.YthppojbabkljpaaGreatDoorRoM
namespace Go.Proofs.YthppojbabkljpaaGreatDoor.PnK
open Go.RowKit RnA RnB RnS RnC RnK RnM RnL RnN RnD RnE RnQ RnR RnP RnW RnX RoA RoB RoC RoD RoE RoF RoG RoH RoI RoL RoM PnA PnB PnC PnD PnE
/-- what multiplyAdd answers: the row that it was given, or a new one -/
def MAPost (B n V : Nat) (w : World) (e : Ending) (w' : World) : Prop :=
  ∃ v' n' out, e = .returned v' ∧ n' ≤ n + 1 ∧ out.length = n' ∧ Ok out ∧ Cn out ∧ lval out = V ∧ w'.ownsRow B 52 1 v' n' (uv out) ∧ Below B w w'
set_option maxHeartbeats 4000000 in
set_option maxRecDepth 100000 in
theorem muladd_any (B n d : Nat) (v : Value) (out : List Nat) (w : World) (hown : w.ownsRow B 52 1 v n (uv out)) (hB : B ≤ w.heap.size) (hl : out.length = n) (ho : Ok out) (hc : Cn out) (hn : n ≤ 100000) (hd : d ≤ 9) :
    Calls Tryz.prog 143 #[v, .int .u32 10, .int .u32 (d : Int)] w (MAPost B n (10 * lval out + d) w) := by
  obtain ⟨i0, hi0, hz0, hz1, hz2⟩ := info_parts u32Info
  have HL := hide hl
  have HO := hide ho
  have HC := hide hc
  have HBS := hide hB
  obtain ⟨A, cp, rfl⟩ := own_slice hown
  clear hl ho hc hB
  go_enter Tryz.func143, Tryz.ntmps143
  go_wp2_with fail
  go_loopw [7, 14] (fun vc vk wr => ∃ (k cc : Nat) (W : List Nat), k ≤ n ∧ cc < 4294967296 ∧ vk = .int .i64 k ∧ vc = .int .u64 cc ∧ Hid (MulAdd 10 d out W k cc) ∧ Hid (Ok W) ∧ wr.ownsRow B 52 1 (.slice A n cp) n (uv W) ∧ Below B w wr) (fun _ vk _ => n - (intOf vk).toNat)
  case atStart => exact ⟨0, d, out, by omega, by omega, rfl, rfl, MulAdd.start _ _ _, HO.out, hown, Below.refl _ _⟩
  case round =>
    clear hown
    obtain ⟨k, cc, W, hk, hcc, rfl, rfl, HM, HW, hown, hbr⟩ := hrel
    by_cases hkn : k < n
    · obtain ⟨g, cg, hA, _, hgl⟩ := hown.form (by omega)
      cases hA
      have hWl : W.length = n := by rw [HM.out.1, HL.out]
      obtain ⟨x, hx⟩ : ∃ x, W[k]? = some x := ⟨_, List.getElem?_eq_getElem (by omega)⟩
      have hx0 : out[k]? = some x := by rw [← getElem?_of_drop HM.out.2.1]; exact hx
      have hxl := HW.out.at_ hx
      have cx : wr.cell? ⟨g, k, none⟩ = some (.int .u32 (x : Int)) := (hown.cellAt k (by omega)).trans (uv_get hx)
      have fx := hown.frozenAt k
      have hstep := MulAdd.step HM.out hx0
      obtain ⟨T, hT⟩ : ∃ T, x * 10 + cc = T := ⟨_, rfl⟩
      rw [hT] at hstep
      have hTl : T < 47244640256 := by omega
      have p2 : (x : Int) * 10 + (cc : Int) = (T : Int) := by omega
      obtain ⟨D, hD⟩ : ∃ D, T % 4294967296 = D := ⟨_, rfl⟩
      rw [hD] at hstep
      have hDl : D < 4294967296 := by omega
      have p3 : (T : Int) % 4294967296 = (D : Int) := by omega
      have HM2 := hide hstep
      have HW2 : Hid (Ok (W.set k D)) := HW.out.set _ hDl
      obtain ⟨hos, hgs⟩ := hown.stored k (.int .u32 (D : Int))
      rw [uv_set] at hos
      have hbs := hbr.setCell (p := ⟨g, k, none⟩) (by assumption) (.int .u32 (D : Int))
      clear hx hx0 hstep hT hD hWl
      go_wp2_with fail
      go_roundw
      case rel => exact ⟨k + 1, T / 4294967296, _, by omega, by omega, by go_num, by go_num, HM2, HW2, hos, hbs⟩
      case measure => simp [intOf]; omega
    · obtain rfl : k = n := by omega
      by_cases hc0 : 0 < cc
      · have hfin : Hid (lval (W ++ [cc]) = 10 * lval out + d) := by
          show _ = _
          have h := HM.out
          rw [← HL.out] at h
          exact h.fin1
        have hcn : Hid (Cn (W ++ [cc])) := cn_snoc hc0
        have hok : Hid (Ok (W ++ [cc])) := HW.out.append (Ok.cons hcc Ok.nil)
        have hlen : Hid ((W ++ [cc]).length = k + 1) := by show _ = _; rw [List.length_append, HM.out.1, HL.out]; rfl
        have p4 : (cc : Int) % 4294967296 = (cc : Int) := by omega
        go_wp2_with (first
          | (at_builtin
             refine wpList_append_own _ rfl (.tmp 37) (.tmp 40) 88 rfl B 52 i0 _ 1 4 Tryz.underlying88 hi0 hz0 hz1 hz2 rfl (by decide) _ _ _ rfl (hown.alloc _) ⟨wr.heap.size, 0, none⟩ 1 1 [.int .u32 (cc : Int)] rfl rfl ?c1 ?c2 ?c3 ?c4 ?c5 ?_
             case c1 => exact cells_new _ [.int .u32 (cc : Int)] _
             case c2 => simp [Value.oneCell']
             case c3 => unfold maxLen; omega
             case c4 => omega
             case c5 => have := hbr.size; have := HBS.out; simp; omega
             intro v1 w1 hown1 hg1 _))
        have eT : [Value.int .u32 (cc : Int)] = uv [cc] := by simp [uv]
        rw [eT, ← uv_append] at hown1
        go_ret
        refine ⟨v1, k + 1, W ++ [cc], rfl, Nat.le_refl _, hlen.out, hok.out, hcn.out, hfin.out, hown1, ?_⟩
        refine (hbr.alloc (by have := hbr.size; have := HBS.out; omega) _).grown hg1 (by have := hbr.size; have := HBS.out; simp; omega) ?_
        intro g hg
        exact (hown.lt g hg).1
      · obtain rfl : cc = 0 := by omega
        have hfin : Hid (lval W = 10 * lval out + d) := by
          show _ = _
          have h := HM.out
          rw [← HL.out] at h
          exact h.fin0
        have hcn : Hid (Cn W) := by
          have h := HM.out
          rw [← HL.out] at h
          exact h.cn0 (by omega) HC.out
        have hlen : Hid (W.length = k) := by show _ = _; rw [HM.out.1, HL.out]
        go_wp2_with fail
        go_ret
        exact ⟨_, k, W, rfl, by omega, hlen.out, HW.out, hcn.out, hfin.out, hown, hbr⟩
def tenDigits : List UInt8 := [48, 49, 50, 51, 52, 53, 54, 55, 56, 57]
theorem dig_in {c : UInt8} (h : isDig c = true) : tenDigits.contains c = true := by
  simp only [isDig, Bool.and_eq_true, decide_eq_true_eq] at h
  have : c = UInt8.ofNat c.toNat := by simp
  rw [this]
  obtain ⟨h1, h2⟩ := h
  generalize c.toNat = n at *
  have : n = 48 ∨ n = 49 ∨ n = 50 ∨ n = 51 ∨ n = 52 ∨ n = 53 ∨ n = 54 ∨ n = 55 ∨ n = 56 ∨ n = 57 := by omega
  rcases this with rfl | rfl | rfl | rfl | rfl | rfl | rfl | rfl | rfl | rfl <;> rfl
theorem drop_all {p : UInt8 → Bool} : ∀ {l : List UInt8}, (∀ c ∈ l, p c = true) → l.dropWhile p = []
  | [], _ => rfl
  | c :: l, h => by
    rw [List.dropWhile_cons, if_pos (h c (List.mem_cons_self ..))]
    exact drop_all fun x hx => h x (List.mem_cons_of_mem _ hx)
theorem trim_digs {l : List UInt8} (h : digs l = true) : Lib.trimS l tenDigits = [] := by
  have hall : ∀ c ∈ l, tenDigits.contains c = true := fun c hc => by
    unfold digs at h
    rw [List.all_eq_true] at h
    exact dig_in (h c hc)
  have h1 : Lib.trimRightS l tenDigits = [] := by
    unfold Lib.trimRightS
    rw [List.reverse_eq_nil_iff]
    exact drop_all fun c hc => hall c (List.mem_reverse.1 hc)
  unfold Lib.trimS
  rw [h1]; rfl
def PPost (q : Nat) (w : World) (e : Ending) (w' : World) : Prop := e = .returned (.tuple #[.string (bs q), .int .i64 0]) ∧ Below w.heap.size w w'
set_option maxHeartbeats 4000000 in
set_option maxRecDepth 100000 in
/-- digits without a zero at their head -/
theorem nparse_any (s : ByteArray) (w : World) (hs : s.size ≤ 2000) (h0 : 0 < s.size) (hd : digs s.data.toList = true) (hh : s[0] ≠ 48) :
    Calls Tryz.prog 113 #[.string s] w (PPost (dec s.data.toList) w) := by
  obtain ⟨hne1, hne2⟩ := str_ne h0
  have h48 : ((s[0].toNat : Int) == 48) = false := by
    simp only [beq_eq_false_iff_ne]
    intro e
    exact hh (UInt8.toNat_inj.1 (by show s[0].toNat = 48; omega))
  have HD := hide hd
  have HTR : Hid (∀ w, Calls Tryz.prog 142 #[.string s, .string ⟨#[48, 49, 50, 51, 52, 53, 54, 55, 56, 57]⟩] w fun e w' => e = .returned (.string ⟨#[]⟩) ∧ Below w.heap.size w w') := fun w => by
    refine (Tryz.strings_Trim s ⟨#[48, 49, 50, 51, 52, 53, 54, 55, 56, 57]⟩ w (by omega) (by decide) (ascii_of_all (by decide))).mono ?_
    rintro e w' ⟨rfl, hb⟩
    refine ⟨?_, hb⟩
    have : Lib.trimS s.data.toList tenDigits = [] := trim_digs hd
    show Ending.returned (Value.string ⟨(Lib.trimS s.data.toList tenDigits).toArray⟩) = _
    rw [this]
  clear hd hh
  by_cases h1 : 1 < s.size
  all_goals
    go_enter Tryz.func113, Tryz.ntmps113
    go_wp2_with fail
    refine (HTR.out _).mono ?_
    rintro e w1 ⟨rfl, hb1⟩
    go_wp2_with fail
    go_loopw [4, 28] (fun vl vi wr => ∃ (i n : Nat) (out : List Nat), i ≤ s.size ∧ n ≤ i ∧ vi = .int .i64 i ∧ Hid (out.length = n) ∧ Hid (Ok out) ∧ Hid (Cn out) ∧ Hid (lval out = dec (s.data.toList.take i)) ∧ wr.ownsRow w.heap.size 52 1 vl n (uv out) ∧ Below w.heap.size w wr) (fun _ vi _ => s.size - (intOf vi).toNat)
    case atStart => exact ⟨0, 0, [], by omega, by omega, rfl, rfl, Ok.nil, .inl rfl, by show _ = _; simp [lval, dec], World.ownsRow_nil _ _ _ _, hb1⟩
    case round =>
      obtain ⟨i, n, out, hi, hni, rfl, HL, HO, HC, HV, hown, hbr⟩ := hrel
      by_cases hlt : i < s.size
      · obtain ⟨c, hc⟩ : ∃ c, s.data.toList[i]? = some c := ⟨_, List.getElem?_eq_getElem (by simpa using hlt)⟩
        have hix := index_at s (i : Int) i c rfl hc
        obtain ⟨hc1, hc2⟩ := digs_at HD.out hc
        obtain ⟨d, hdd⟩ : ∃ d, c.toNat - 48 = d := ⟨_, rfl⟩
        have hdt := hide (dec_take hc)
        rw [hdd] at hdt
        have hdl : d ≤ 9 := by omega
        have p1 : (c.toNat : Int) - 48 = (d : Int) := by omega
        have HMA := hide (muladd_any w.heap.size n d _ out wr hown hbr.size HL.out HO.out HC.out (by omega) hdl)
        clear hc hdd hown
        go_wp2_with fail
        refine HMA.out.mono ?_
        rintro e w5 ⟨v', n', out', rfl, hn', hl', ho', hc', hv', hown', hb'⟩
        have HL' := hide hl'
        have HO' := hide ho'
        have HC' := hide hc'
        have hv2 : Hid (lval out' = dec (s.data.toList.take (i + 1))) := by
          show _ = _
          rw [hv', hdt.out, HV.out]
        have hbf := hbr.trans hb'
        clear hl' ho' hc' hv' hb' HMA
        go_wp2_with fail
        go_roundw
        case rel => exact ⟨i + 1, n', out', by omega, by omega, by go_num, HL', HO', HC', hv2, hown', hbf⟩
        case measure => simp [intOf]; omega
      · obtain ⟨A, cp, rfl⟩ := own_slice hown
        have hv : Hid (lval out = dec s.data.toList) := by
          have h := HV.out
          rw [List.take_of_length_le (by simp; omega)] at h
          exact h
        have hL := LAt.of_own hown HO.out
        have hcap := own_cap hown
        obtain ⟨hL2, hle⟩ := LAt.strip hL
        rw [hv.out] at hL2 hle
        rw [HL.out] at hle
        have HL1 := hide hL
        have HL2 := hide hL2
        have HLV := hide (lval_limbs (dec s.data.toList))
        clear hL hL2
        go_wp2_with fail
        refine (trim_any out _ _ _ _ HL.out HL1.out hcap.1).mono ?_
        rintro e w3 ⟨rfl, rfl⟩
        rw [hv.out]
        go_wp2_with fail
        refine (text_any _ _ _ _ _ HL2.out rfl (by omega)).mono ?_
        rintro e w4 ⟨rfl, hb5⟩
        rw [HLV.out]
        go_wp2_with fail
        go_ret2
        exact ⟨rfl, hbr.trans (hb5.mono hbr.size)⟩
end Go.Proofs.YthppojbabkljpaaGreatDoor.PnK
