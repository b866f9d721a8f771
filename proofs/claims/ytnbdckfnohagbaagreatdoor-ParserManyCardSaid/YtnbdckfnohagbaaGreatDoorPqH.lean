/- The walk of the program's Parse. -/
import Derived.Test.YtnbdckfnohagbaaGreatDoorPqG
import Derived.Test.YtnbdckfnohagbaaGreatDoorLxD
namespace Go.Proofs.YtnbdckfnohagbaaGreatDoor.PqH
theorem here : True := trivial
open Go.RowKit Lx Wd RnW PqA PqB PqC PqD PqE PqF PqG RoL RnQ RnR RnP RtA RpC RpF
/-- what Parse leaves -/
def ParseP (p : List Cl × Nat × Nat) (w : World) (e : Ending) (w' : World) : Prop :=
  ∃ A c, e = .returned (.tuple #[.slice A p.1.length c, .int .i64 (p.2.1 : Int), .int .i64 (p.2.2 : Int)]) ∧ ClsAt w' A p.1 ∧ Below w.heap.size w w'
theorem parse_err {s : ByteArray} {ts : List Tok} {a : Nat} {er : Nat} (h : lex s = (ts, a, (er : Int))) (h0 : er ≠ 0) : parseOf s = ([], a, er) := by
  unfold parseOf; rw [h]; dsimp only; rw [if_neg (by omega)]; simp
theorem parse_ok {s : ByteArray} {ts : List Tok} {a : Nat} (h : lex s = (ts, a, 0)) : parseOf s = parseT ts := by
  unfold parseOf; rw [h]; dsimp only; rw [if_pos rfl]
theorem tvals_get : ∀ (l : List Tok) (k : Nat) (t : Tok), l[k]? = some t → ∀ j, j < 3 → (Lx.vals l)[k * 3 + j]? = t.vals[j]?
  | [], _, _, h, _, _ => by simp at h
  | y :: l, 0, t, h, j, hj => by
    simp only [List.getElem?_cons_zero, Option.some.injEq] at h
    subst h
    have e : Lx.vals (y :: l) = y.vals ++ Lx.vals l := by simp [Lx.vals]
    rw [e, List.getElem?_append_left (by show _ < 3; omega)]
    simp
  | y :: l, k + 1, t, h, j, hj => by
    have ih := tvals_get l k t (by simpa using h) j hj
    have e : Lx.vals (y :: l) = y.vals ++ Lx.vals l := by simp [Lx.vals]
    have hy : y.vals.length = 3 := rfl
    rw [e, List.getElem?_append_right (by rw [hy]; omega), hy, ← ih]
    congr 1
    omega
theorem toks_own {w : World} {B : Nat} {A : Option Addr} {c : Nat} {ts : List Tok} (h : w.ownsRow B 66 3 (.slice A ts.length c) ts.length (Lx.vals ts)) (hp : 0 < ts.length) {w' : World} (hb : Below w.heap.size w w') : ToksAt w' w.heap.size A ts := by
  obtain ⟨g, cap, hv, hg, hlt⟩ := h.form hp
  injection hv with h1 h2 h3
  subst h1
  have hc := h.cells (g := g) rfl
  refine ⟨g, 0, rfl, Nat.lt_of_lt_of_le hlt hb.size, hlt, fun k t hk => ?_⟩
  have hv := tvals_get ts k t hk
  have key : ∀ j, j < 3 → w'.cell? ⟨g, 0 + k * 3 + j, none⟩ = t.vals[j]? := fun j hj => by
    have hs : ∃ u, t.vals[j]? = some u := ⟨_, List.getElem?_eq_getElem (by show j < 3; exact hj)⟩
    obtain ⟨u, hu⟩ := hs
    have := hc (k * 3 + j) u ((hv j hj).trans hu)
    rw [Go.WideShapes.add_plain] at this
    rw [hu, ← this]
    refine (hb.cell (p := ⟨g, _, none⟩) hlt).trans ?_
    congr 2
    omega
  exact ⟨key 0 (by omega), key 1 (by omega), key 2 (by omega)⟩
theorem vals_one (x : Cl) (A : Option Addr) (c : Nat) : ∀ u ∈ Cl.vals x A c, u.oneCell' = true := by
  intro u hu
  simp only [Cl.vals, List.mem_cons, List.mem_nil_iff, or_false] at hu
  rcases hu with rfl | rfl | rfl | rfl | rfl | rfl | rfl | rfl <;> rfl
theorem reads_new (w : World) (l : List Value) (T : TypeId) (hl : l.length = 8) : Reads (w.alloc (.cells l.toArray T)) (w.heap.size + 1) 8 (some ⟨w.heap.size, 0, none⟩) 1 l := by
  refine ⟨by omega, fun _ => ⟨_, rfl, by show w.heap.size < w.heap.size + 1; omega, fun j u hj => ?_⟩⟩
  rw [Go.WideShapes.add_plain, Nat.zero_add]
  exact (Blk.new w l T).cell hj
set_option maxHeartbeats 8000000 in
set_option maxRecDepth 100000 in
theorem parse_cl (s : ByteArray) (w : World) (hs : s.size ≤ 8192) (he : Env w) :
    Calls Tryz.prog 10 #[.string s] w (ParseP (parseOf s) w) := by
  have HSP := Lib.hid (LxD.split_any s w hs)
  rw [← lex_small hs] at HSP
  obtain ⟨ha, ⟨hr1, hr2⟩, hgood⟩ := lex_facts hs
  obtain ⟨i0, hi, hz0, hz1, hz2⟩ := info_parts cl_info
  obtain ⟨⟨ts, a, er⟩, hlx⟩ : ∃ p, lex s = p := ⟨_, rfl⟩
  rw [hlx] at HSP ha hr1 hr2 hgood
  dsimp only at ha hr1 hr2 hgood
  obtain ⟨ek, rfl⟩ : ∃ k : Nat, er = (k : Int) := ⟨er.toNat, by omega⟩
  have HE := hide he
  unfold ParseP
  unfold LxD.SplitPost at HSP
  clear he
  by_cases h0 : ek = 0
  · subst h0
    obtain ⟨hts, hlen⟩ := hgood rfl
    have hp := parse_ok hlx
    have HPO := hide hp
    have HTS := hide hts
    have htl : 0 < ts.length := hts.pos
    clear hgood hr1 hr2 ha hlx hp hts
    go_enter Tryz.func10, Tryz.ntmps10
    go_wp2_with fail
    refine HSP.out.mono ?_
    rintro e w1 ⟨v, rfl, hown, hb1⟩
    obtain ⟨A, c, rfl⟩ := LxD.own_slice hown
    obtain ⟨W2, hW2⟩ : ∃ W2, w1.alloc (.cells #[.slice A ts.length c, .int .i64 0, .int .i64 0, .int .i64 0] 57) = W2 := ⟨_, rfl⟩
    have hbl := Blk.new w1 [.slice A ts.length c, .int .i64 0, .int .i64 0, .int .i64 0] 57
    have hb2 : Below w1.heap.size w1 W2 := by rw [← hW2]; exact (Below.refl _ _).alloc (Nat.le_refl _) _
    change Blk (w1.alloc (.cells #[.slice A ts.length c, .int .i64 0, .int .i64 0, .int .i64 0] 57)) w1.heap.size _ at hbl
    rw [hW2] at hbl
    have HR := hide (show Rd W2 w1.heap.size A c ts (.ok 0) from ⟨0, 0, 0, ⟨htl, rfl, rfl, rfl⟩, hbl, toks_own hown htl hb2⟩)
    have HB := hide (hb1.trans (hb2.mono hb1.size))
    have hsz := hb1.size
    clear hbl hb2 hown hb1
    go_wp2_with fail
    obtain ⟨R, hRe⟩ : ∃ R, w1.heap.size = R := ⟨_, rfl⟩
    rw [hRe] at HR hsz ⊢
    have hR0 : 0 < R := by have := HE.out.1; omega
    have hRW := HR.out.lt
    clear hRe hW2 HSP
    go_loopw [9] (fun vo wr => ∃ (f : Nat) (out : List Cl) (sx : St) (xs : List Value) (A' : Option Addr) (m c' : Nat), vo = .slice A' m c' ∧ Hid (out.length = m) ∧ m + f = ts.length + 1 ∧ (∀ n, sx = .ok n → ts.length + 1 ≤ n + f) ∧ Hid (parseT ts = answer (clauses ts f out sx)) ∧ Hid (Rd wr R A c ts sx) ∧ Hid (Below w.heap.size w wr) ∧ Hid (wr.ownsRow (R + 1) 45 8 (.slice A' m c') m xs) ∧ Hid (ClsIn (fun b => R < b ∧ (Value.slice A' m c').ownBlock ≠ some b) wr out xs) ∧ R < wr.heap.size) (fun _ wr => left ts.length R 1 2 wr)
    case atStart => exact ⟨ts.length + 1, [], .ok 0, [], none, 0, 0, rfl, rfl, by omega, fun n _ => by omega, rfl, HR, HB, World.ownsRow_nil _ _ _ _, rfl, hRW⟩
    case round =>
      clear HR HB hRW
      obtain ⟨f, out, sx, xs, A', m, c', rfl, HM, hmf, hfu, HP, HR, HB, HO, HC, hRW⟩ := hrel
      cases sx with
      | bad e1 a1 =>
        have hP := HP.out
        rw [clauses_bad] at hP
        have HQ := hide hP
        obtain ⟨n1, e2, a2, ⟨hn1, rfl, hne, rfl⟩, hBl, _⟩ := HR.out
        have g2 := hBl.cell (i := 2) rfl
        have g3 := hBl.cell (i := 3) rfl
        have hb0 : ((e2 : Int) == 0) = false := by simpa using hne
        have hb1 : ((e2 : Int) != 0) = true := by simpa using hne
        clear hBl hne hP HP hfu
        go_wp2_with fail
        go_quiet (fail)
        go_wp2_with fail
        go_ret3
        rw [HPO.out, HQ.out]
        exact ⟨none, 0, rfl, ClsAt.nil _ _, below_drewN HB.out nq⟩
      | ok n =>
        have HIS := Lib.hid (fun w h => is_any ts (.ok n) 5 ⟨#[]⟩ R A c w h)
        obtain ⟨n1, e2, a2, ⟨hn1, h1, h2, h3⟩, hBl, _⟩ := HR.out
        subst h1; subst h2; subst h3
        have g2 := hBl.cell (i := 2) rfl
        change wr.cell? ⟨R, 2, none⟩ = some (.int .i64 0) at g2
        clear hBl
        by_cases h5 : (tk ts n1).kind = 5
        · have hP := HP.out
          rw [clauses_end h5] at hP
          have HQ := hide hP
          have hii : isB ts 5 ⟨#[]⟩ (.ok n1) = true := by
            simp only [isB, hitT, h5]
            rw [show (ByteArray.mk #[]).toList = [] from tl_mk _]; rfl
          rw [hii] at HIS
          clear h5 hP hii HP hfu
          go_wp2_with fail
          refine (HIS.out _ HR.out).mono ?_
          rintro e w3 ⟨rfl, hb3⟩
          have g2' := (hb3.cell (p := ⟨R, 2, none⟩) hRW).trans g2
          go_wp2_with fail
          go_ret3
          rw [HPO.out, HQ.out]
          have hM := HM.out
          subst hM
          obtain ⟨A9, c9, e9, hcl⟩ := ClsAt.own HO.out HC.out (by unfold maxLen; omega)
          injection e9 with e91 e92 e93
          subst e91; subst e93
          exact ⟨A', c', rfl, hcl.below hb3, HB.out.trans (hb3.mono HB.out.size)⟩
        · have hii : isB ts 5 ⟨#[]⟩ (.ok n1) = false := by
            have hk : ((tk ts n1).kind == 5) = false := by simpa using h5
            simp only [isB, hitT, hk]; rfl
          rw [hii] at HIS
          have hf1 := hfu n1 rfl
          obtain ⟨f, rfl⟩ : ∃ f', f = f' + 1 := ⟨f - 1, by omega⟩
          have hP := HP.out
          rw [clauses_go h5] at hP
          have hfull : decide (64 ≤ out.length) = decide (64 ≤ (m : Int)) := by
            rw [HM.out]
            by_cases h : 64 ≤ m
            · rw [decide_eq_true h, decide_eq_true (by omega)]
            · rw [decide_eq_false h, decide_eq_false (by omega)]
          rw [hfull] at hP
          obtain ⟨⟨x, sz⟩, hx⟩ : ∃ p, clauseP ts (decide (64 ≤ (m : Int))) n1 = p := ⟨_, rfl⟩
          rw [hx] at hP
          have HQ := hide hP
          have HCL := Lib.hid (fun w h he => clause_any ts HTS.out n1 (decide (64 ≤ (m : Int))) R A c w h h5 (by omega) he hR0)
          rw [hx] at HCL
          unfold ClP at HCL
          have HX := hide hx
          have HR0 := hide HR.out
          clear h5 hP hii HP hx hfu hfull
          go_wp2_with fail
          refine (HIS.out _ HR.out).mono ?_
          rintro e w3 ⟨rfl, hb3⟩
          have hR3 := HR.out.below hb3
          have hB3 := HB.out.trans (hb3.mono HB.out.size)
          have hE3 := HE.out.below hB3
          have HB3 := hide hB3
          have HO3 := hide (own_below HO.out hb3)
          have HC3 := hide (HC.out.map (fun A c l h => h.below hb3))
          have hlt3 := Nat.lt_of_lt_of_le hRW hb3.size
          clear hb3 HO HC hB3
          go_wp2_with fail
          with_reducible refine (HCL.out _ hR3 hE3).mono ?_
          rintro e w4 ⟨A4, c4, rfl, hS4, hr4, hk4⟩
          have hB4 := HB3.out.trans (hk4.below hsz (by omega))
          have hO4 := hk4.own HO3.out (by omega)
          have hC4 := HC3.out.map (P' := fun b => R < b ∧ (Value.slice A' m c').ownBlock ≠ some b) (fun A c l h => h.kept (by omega) hk4)
          have hS4' : Strs (fun b => R < b ∧ (Value.slice A' m c').ownBlock ≠ some b) w4 A4 c4 x.list := hS4.mono (fun b hb => ⟨by omega, fun e => by have := (HO3.out.lt b e).2; omega⟩)
          have hsz4 := hk4.size
          obtain ⟨V, hV⟩ : ∃ V, w4.alloc (.cells #[.int .i64 x.kind, .string x.name, .string x.other, .slice A4 x.list.length c4, .bool x.neg, .string x.num, .string x.den, .int .i64 x.off] 45) = V := ⟨_, rfl⟩
          have hbV : Below w4.heap.size w4 V := by rw [← hV]; exact (Below.refl _ _).alloc (Nat.le_refl _) _
          have hrd := reads_new w4 (Cl.vals x A4 c4) 45 rfl
          change Reads (w4.alloc (.cells #[.int .i64 x.kind, .string x.name, .string x.other, .slice A4 x.list.length c4, .bool x.neg, .string x.num, .string x.den, .int .i64 x.off] 45)) _ _ _ _ _ at hrd
          rw [hV] at hrd
          have HRD := hide hrd
          have HOV := hide (own_below hO4 hbV)
          have HCV := hide ((hC4.map (P' := fun b => R < b ∧ (Value.slice A' m c').ownBlock ≠ some b) (fun A c l h => h.below hbV)).snoc (hS4'.below hbV) (c := c4))
          have HBV := hide (hB4.trans (hbV.mono hB4.size))
          have HRV := hide (hr4.below hbV)
          have hVs := hbV.size
          clear hB4 hO4 hC4 hS4 hS4' hrd hbV hr4 hk4 HO3 HC3 HR
          go_wp2_with (first
            | (at_builtin
               refine wpList_append_any _ rfl (.tmp 33) (.tmp 39) 23 rfl (R + 1) 45 i0 _ 8 112 Tryz.underlying23 hi hz0 hz1 hz2 rfl (by decide) _ _ _ rfl HOV.out _ _ 1 1 _ rfl HRD.out (vals_one x A4 c4) ?c3 ?c4 ?c5 ?_
               case c3 => unfold maxLen; omega
               case c4 => omega
               case c5 => omega
               intro v5 w5 hown5 hg5 hob5))
          obtain ⟨A5, c5, rfl⟩ := LxD.own_slice hown5
          have hgb : Below (R + 1) V w5 := (Below.refl _ _).grown hg5 (by omega) (fun g hg => (HOV.out.lt g hg).1)
          have HR5 := hide (HRV.out.low hgb)
          have hC5 := HCV.out.map (P' := fun b => R < b ∧ (Value.slice A5 (m + 1) c5).ownBlock ≠ some b) (fun A c l h => Strs.grown (Strs.mono' (Q := fun b => R < b ∧ (Value.slice A' m c').ownBlock ≠ some b ∧ b < V.heap.size) h (fun b hb hp => ⟨hp.1, hp.2, hb⟩)) hg5 (fun b hb => hb.2.1) |>.mono (fun b hb => ⟨hb.1, fun e => by
            rcases hob5 with h | h
            · rw [h] at e; exact hb.2.1 e
            · rw [h] at e; injection e with e; omega⟩))
          go_roundw
          case rel => exact ⟨f, out ++ [x], sz, _, A5, m + 1, c5, rfl, by show _ = _; rw [List.length_append, HM.out]; rfl, by omega, fun k hk => (by have := clause_next (full := decide (64 ≤ (m : Int))) (n := n1) (m := k) (by rw [HX.out]; exact hk); omega), HQ.out, HR5, HBV.out.grown hg5 (by omega) (fun g hg => by have := (HOV.out.lt g hg).1; omega), hown5, hC5, by have := hgb.size; omega⟩
          case measure => exact left_lt HR0.out HR5.out (fun k hk => clause_next (full := decide (64 ≤ (m : Int))) (n := n1) (m := k) (by rw [HX.out]; exact hk))
  · have hp := parse_err hlx h0
    have hne : ((ek : Int) != 0) = true := by simpa using h0
    have HPO := hide hp
    clear hlx hp h0 hgood
    go_enter Tryz.func10, Tryz.ntmps10
    go_wp2_with fail
    refine HSP.out.mono ?_
    rintro e w1 ⟨v, rfl, hown, hb1⟩
    go_wp2_with fail
    go_ret3
    rw [HPO.out]
    exact ⟨none, 0, rfl, ClsAt.nil _ _, hb1⟩
end Go.Proofs.YtnbdckfnohagbaaGreatDoor.PqH
