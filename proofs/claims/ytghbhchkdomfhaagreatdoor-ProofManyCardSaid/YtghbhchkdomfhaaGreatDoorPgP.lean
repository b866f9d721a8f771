/- The walk of built: valid documents with different IDs. -/
import Derived.Test.YtghbhchkdomfhaaGreatDoorPgN
namespace Go.Proofs.YtghbhchkdomfhaaGreatDoor.PgP
open Go.RowKit Wd RoL RnW RtA RpF PqB PfS PfB PfA PfD PfE PfH PfI PfJ PfO PfQ PfU PgC PgG PgH PgJ PgK PgL PgN PgO
set_option maxHeartbeats 2000000 in
set_option maxRecDepth 100000 in
theorem pick_any (k n : Nat) (w : World) (hk : k ≤ 65535) (hn : n ≤ 100000) :
    Calls Tryz.prog 24 #[.int .i64 (k : Int), .int .i64 (n : Int)] w fun e w' => ∃ i : Nat, (i ≤ n ∧ (0 < n → i < n)) ∧ e = .returned (.int .i64 (i : Int)) ∧ Below w.heap.size w w' := by
  by_cases h0 : n = 0
  · subst h0
    go_enter Tryz.func24, Tryz.ntmps24
    go_wp2_with fail
    go_ret
    exact ⟨0, ⟨by omega, fun h => by omega⟩, rfl, Below.refl _ _⟩
  · have hr : Hid ((k % n + n) % n < n) := Nat.mod_lt _ (by omega)
    go_enter Tryz.func24, Tryz.ntmps24
    go_wp2_with fail
    go_ret
    refine ⟨(k % n + n) % n, ⟨Nat.le_of_lt hr.out, fun _ => hr.out⟩, ?_, Below.refl _ _⟩
    congr 2
    have hlt : (k : Int) % (n : Int) < n := Int.emod_lt_of_pos _ (by omega)
    have hge : 0 ≤ (k : Int) % (n : Int) := Int.emod_nonneg _ (by omega)
    rw [show wrap64 ((k : Int) % (n : Int) + n) = (k : Int) % (n : Int) + n by unfold wrap64; omega, Int.tmod_eq_emod_of_nonneg (by omega)]
    rfl
/-- what built leaves -/
def BuiltP (w : World) (e : Ending) (w' : World) : Prop :=
  ∃ (l : List Dc) (A : Option Addr) (c : Nat), e = .returned (.slice A l.length c) ∧ (DocsAt w' A l ∧ l.length ≤ c ∧ ((A = none ∧ c = 0 ∧ l = []) ∨ ∃ g, A = some ⟨g, 0, none⟩)) ∧ l.length ≤ 10 ∧ (∀ x ∈ l, PfV.Good x) ∧ (l.map (·.id)).Nodup ∧ Below w.heap.size w w'
theorem own_capd {w : World} {base c : Nat} {e : TypeId} {A : Option Addr} {l : List Dc} (h : w.ownsRow base e 14 (.slice A l.length c) l.length (DV l)) : l.length ≤ c ∧ ((A = none ∧ c = 0 ∧ l = []) ∨ ∃ g, A = some ⟨g, 0, none⟩) := by
  rcases h.2 with ⟨h1, h2⟩ | ⟨g, cap', cur, hv, _, _, h1, _⟩
  · injection h1 with h0 h1 h3
    exact ⟨by omega, .inl ⟨h0, h3, List.eq_nil_of_length_eq_zero h2⟩⟩
  · injection hv with h0 _ h3
    exact ⟨by omega, .inr ⟨g, h0⟩⟩
theorem own_docs2 {w : World} {base c : Nat} {e : TypeId} {A : Option Addr} {l : List Dc} (h : w.ownsRow base e 14 (.slice A l.length c) l.length (DV l)) (hl : l.length ≤ 64) : DocsAt w A l := own_docs h (by unfold maxLen; omega)
theorem any_next {α : Type} {f : α → Bool} {l : List α} {k : Nat} {x : α} (hk : l[k]? = some x) : (l.take (k + 1)).any f = ((l.take k).any f || f x) := by
  rw [List.take_add_one, hk, List.any_append]
  simp
theorem twice_iff {l : List Dc} {s : ByteArray} (h : l.any (fun d => d.id.toList == s.toList) = false) : s ∉ l.map (·.id) := by
  intro hm
  obtain ⟨d, hd, e⟩ := List.mem_map.1 hm
  rw [List.any_eq_false] at h
  exact h d hd (by rw [show d.id = s from e]; simp)
set_option maxHeartbeats 16000000 in
set_option maxRecDepth 100000 in
theorem built_any (A : Option Addr) (n c : Nat) (w : World) (h : SixesAt w w.heap.size A n) :
    Calls Tryz.prog 22 #[.slice A n c] w (BuiltP w) := by
  obtain ⟨i0, hi, hz0, hz1, hz2⟩ := info_parts pr_info
  have hlen := h.1
  unfold maxLen at hlen
  have H := hide h
  clear h
  go_enter Tryz.func22, Tryz.ntmps22
  go_wp2_with fail
  go_loopw [3, 4, 5, 6, 8, 26, 24, 25] (fun vo vi _ _ _ _ _ _ wr => ∃ (k : Nat) (l : List Dc) (A' : Option Addr) (c' : Nat), k ≤ n ∧ k ≤ 10 ∧ l.length ≤ k ∧ vi = .int .i64 k ∧ vo = .slice A' l.length c' ∧ Hid (wr.ownsRow w.heap.size 27 14 (.slice A' l.length c') l.length (DV l)) ∧ Hid ((∀ x ∈ l, PfV.Good x) ∧ (l.map (·.id)).Nodup) ∧ Hid (Below w.heap.size w wr)) (fun _ vi _ _ _ _ _ _ _ => n - (intOf vi).toNat)
  case atStart => exact ⟨0, [], none, 0, by omega, by omega, by simp, rfl, rfl, World.ownsRow_nil _ _ _ _, hide ⟨fun x hx => (by cases hx), by simp⟩, Below.refl _ _⟩
  case round =>
    obtain ⟨k, l, A', c', hk, hk10, hlk, rfl, rfl, HO, HG, HB⟩ := hrel
    by_cases hlt : k < n
    · by_cases h10 : k < 10
      · obtain ⟨b, off, rfl, hb, hc⟩ := (H.out.below HB.out).2 (by omega)
        obtain ⟨z0, z1, z2, z3, z4, z5, g0, g1, g2, g3, g4, g5, c0, c1, c2, c3, c4, c5⟩ := hc k hlt
        have HPR := Lib.hid (fun w => proof_any z0 z1 z2 z3 z4 z5 g0 g1 g2 g3 g4 g5 w)
        unfold GenP at HPR
        clear hc
        go_wp2_with fail
        refine (HPR.out _).mono ?_
        rintro e w3 ⟨d, ⟨rfl, hgd⟩, hb3⟩
        have HGD := hide hgd
        have HB3 := hide (HB.out.trans (hb3.mono HB.out.size))
        have HO3 := hide (own_below HO.out hb3)
        clear hb3 hgd c0 c1 c2 c3 c4 c5
        obtain ⟨V, hV, HX, HBV, hsV⟩ := doc_new w3 d
        have HBT := hide (HB3.out.trans (HBV.out.mono HB3.out.size))
        have HOT := hide (own_below HO3.out HBV.out)
        have hl64 : l.length ≤ 64 := by omega
        unfold PfA.Dc.agg
        go_wp2_with fail
        obtain ⟨G, hG⟩ : ∃ G, w3.heap.size = G := ⟨_, rfl⟩
        rw [hG] at HX hsV ⊢
        clear hV hG
        go_loopw [26, 6, 8] (fun vj vt _ wr => ∃ (j : Nat), j ≤ l.length ∧ vj = .int .i64 j ∧ vt = .bool ((l.take j).any (fun q => q.id.toList == d.id.toList)) ∧ Hid (Below V.heap.size V wr)) (fun vj _ _ _ => l.length - (intOf vj).toNat)
        case atStart => exact ⟨0, by omega, rfl, rfl, Below.refl _ _⟩
        case round =>
          obtain ⟨j, hj, rfl, rfl, HBI⟩ := hrel
          have HXI := hide (HX.out.below HBI.out)
          have HOI := hide (own_below HOT.out HBI.out)
          have HBN := hide (HBT.out.trans (HBI.out.mono HBT.out.size))
          by_cases hjl : j < l.length
          · obtain ⟨x, hx⟩ : ∃ r, l[j]? = some r := ⟨_, List.getElem?_eq_getElem hjl⟩
            obtain ⟨b1, o1, rfl, hb1, p0, p1, p2, p3, p4, p5, p6, p7, p8, p9, p10, p11, p12, p13⟩ := (own_docs2 HOI.out hl64).full hx
            obtain ⟨U, hU, HU, HBU, hsU⟩ := doc_new wr x
            have HNX := hide (any_next (f := fun q : Dc => q.id.toList == d.id.toList) hx)
            have a0 := (HXI.out.below HBU.out).cell (i := 0) rfl
            have u0 := HU.out.cell (i := 0) rfl
            have HB5 := hide (HBI.out.trans (HBU.out.mono HBI.out.size))
            obtain ⟨tw, htw⟩ : ∃ tw, (l.take j).any (fun q => q.id.toList == d.id.toList) = tw := ⟨_, rfl⟩
            obtain ⟨eq, heq⟩ : ∃ eq, (x.id.toList == d.id.toList) = eq := ⟨_, rfl⟩
            have HQ : Hid ((l.take (j + 1)).any (fun q => q.id.toList == d.id.toList) = (tw || eq)) := by show _ = _; rw [HNX.out, htw, heq]
            rw [htw]
            clear hx htw
            cases tw <;> cases eq
            all_goals
              go_wp2_with fail
              go_roundw
              case rel => exact ⟨j + 1, by omega, by go_num, by rw [HQ.out]; rfl, HB5⟩
              case measure => simp [intOf]; omega
          · obtain rfl : j = l.length := by omega
            rw [List.take_length]
            cases htw : l.any (fun q => q.id.toList == d.id.toList)
            · have HG2 : Hid ((∀ x ∈ l ++ [d], PfV.Good x) ∧ ((l ++ [d]).map (·.id)).Nodup) := by
                refine ⟨fun x hx => ?_, ?_⟩
                · rcases List.mem_append.1 hx with hx | hx
                  · exact HG.out.1 x hx
                  · rw [List.mem_singleton.1 hx]; exact HGD.out
                · rw [List.map_append, List.nodup_append]
                  refine ⟨HG.out.2, by simp, fun a ha b hb e => ?_⟩
                  simp only [List.map_cons, List.map_nil, List.mem_singleton] at hb
                  subst hb; subst e
                  exact twice_iff htw ha
              obtain ⟨a0, a1, a2, a3, a4, a5, a6, a7, a8, a9, a10, a11, a12, a13⟩ := doc_at HXI.out
              obtain ⟨V2, hV2⟩ : ∃ V2, wr.alloc (.cells #[.string d.id, .int .i64 d.est, .int .i64 d.cred, .string d.code, .bool d.neg, .string d.num, .string d.den, .int .i64 d.inc, .int .i64 d.rank, .bool d.rneg, .string d.rnum, .string d.rden, .int .i64 d.rfrom, .int .i64 d.sec] 27) = V2 := ⟨_, rfl⟩
              have hbV2 : Below wr.heap.size wr V2 := by rw [← hV2]; exact (Below.refl _ _).alloc (Nat.le_refl _) _
              have hrd : Reads V2 (wr.heap.size + 1) 14 (some ⟨wr.heap.size, 0, none⟩) 1 d.vals := by rw [← hV2]; exact reads_new wr d.vals 27 rfl
              have HRE := hide hrd
              have HO2 := hide (own_below HOI.out hbV2)
              have HB2 := hide (HBN.out.trans (hbV2.mono HBN.out.size))
              have hs2 := HB2.out.size
              clear htw hrd hbV2
              go_wp2_with (first
                | (at_builtin
                   refine wpList_append_any _ rfl (.tmp 41) (.tmp 43) 29 rfl w.heap.size 27 i0 _ 14 160 Tryz.underlying29 hi hz0 hz1 hz2 rfl (by decide) _ _ _ rfl HO2.out _ _ 1 1 _ rfl HRE.out (DV_one _) ?c3 ?c4 ?c5 ?_
                   case c3 => unfold maxLen; omega
                   case c4 => omega
                   case c5 => omega
                   intro v5 w5 hown5 hg5 hob5))
              obtain ⟨A5, c5, rfl⟩ := PfJ.own_slice hown5
              rw [← DV_snoc] at hown5
              go_roundw
              case rel => exact ⟨k + 1, l ++ [d], A5, c5, by omega, by omega, by simp; omega, by go_num, by simp, (by show World.ownsRow _ _ _ _ (.slice A5 (l ++ [d]).length c5) (l ++ [d]).length _; rw [show (l ++ [d]).length = l.length + 1 by simp]; exact hown5), HG2, HB2.out.grown hg5 (by omega) (fun g hg => (HO2.out.lt g hg).1)⟩
              case measure => simp [intOf]; omega
            · clear htw
              go_wp2_with fail
              go_roundw
              case rel => exact ⟨k + 1, l, A', c', by omega, by omega, by omega, by go_num, rfl, HOI, HG, HBN⟩
              case measure => simp [intOf]; omega
      · have HCP := hide (own_capd HO.out)
        have HDC := hide (own_docs2 HO.out (by omega))
        go_wp2_with fail
        go_ret
        unfold BuiltP
        exact ⟨l, A', c', rfl, ⟨HDC.out, HCP.out⟩, by omega, HG.out.1, HG.out.2, HB.out⟩
    · have HCP := hide (own_capd HO.out)
      have HDC := hide (own_docs2 HO.out (by omega))
      go_wp2_with fail
      go_ret
      unfold BuiltP
      exact ⟨l, A', c', rfl, ⟨HDC.out, HCP.out⟩, by omega, HG.out.1, HG.out.2, HB.out⟩
end Go.Proofs.YtghbhchkdomfhaaGreatDoor.PgP
