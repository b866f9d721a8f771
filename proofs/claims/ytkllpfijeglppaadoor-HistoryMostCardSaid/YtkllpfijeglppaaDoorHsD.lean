/- The walk of Rows: it returns rows of a history of a number of parties, in order. -/
import Derived.Test.YtkllpfijeglppaaDoorHsC
namespace Go.Proofs.YtkllpfijeglppaaDoor.HsD
open Go.RowKit Hs HsB HsC
/-- what Rows says of each row -/
def RowOK (P : Int) (r : HRow) : Prop :=
  0 ≤ r.day ∧ 1 ≤ r.kind ∧ r.kind ≤ 3 ∧ 0 ≤ r.src ∧ r.src < P ∧ 0 ≤ r.dst ∧ r.dst < P ∧ r.src ≠ r.dst ∧ 0 ≤ r.amount ∧ r.amount < 40 ∧ 0 ≤ r.worth ∧ r.worth < 60 ∧ (r.kind ≠ 3 → r.worth = 0)
/-- rows in order of their days, none behind day D -/
def Built (P D : Int) (x : List HRow) : Prop := (∀ r ∈ x, RowOK P r ∧ r.day ≤ D) ∧ x.Pairwise (fun a b => a.day ≤ b.day)
theorem Built.nil (P D : Int) : Built P D [] := ⟨by simp, by simp⟩
theorem Built.snoc {P D : Int} {x : List HRow} {r : HRow} (h : Built P D x) (hr : RowOK P r) (hd : D ≤ r.day) : Built P r.day (x ++ [r]) := by
  refine ⟨fun t ht => ?_, ?_⟩
  · rcases List.mem_append.1 ht with ht | ht
    · exact ⟨(h.1 t ht).1, Int.le_trans (h.1 t ht).2 hd⟩
    · obtain rfl := List.mem_singleton.1 ht
      exact ⟨hr, Int.le_refl _⟩
  · rw [List.pairwise_append]
    refine ⟨h.2, by simp, fun a ha b hb => ?_⟩
    obtain rfl := List.mem_singleton.1 hb
    exact Int.le_trans (h.1 a ha).2 hd
def rvals (l : List HRow) : List Value := l.flatMap HRow.vals
theorem rvals_snoc (l : List HRow) (r : HRow) : rvals (l ++ [r]) = rvals l ++ r.vals := by simp [rvals]
theorem rvals_length (l : List HRow) : (rvals l).length = l.length * 6 := by
  unfold rvals
  induction l with
  | nil => rfl
  | cons a l ih => simp [List.flatMap_cons, HRow.vals, ih] at *; omega
/-- five numbers of an element -/
def FiveAt (w : World) (b o : Nat) : Prop := ∃ z0 z1 z2 z3 z4 : Nat, z0 < 65536 ∧ z1 < 65536 ∧ z2 < 65536 ∧ z3 < 65536 ∧ z4 < 65536 ∧
  w.cell? ⟨b, o, none⟩ = some (.int .u16 z0) ∧ w.cell? ⟨b, o + 1, none⟩ = some (.int .u16 z1) ∧ w.cell? ⟨b, o + 2, none⟩ = some (.int .u16 z2) ∧ w.cell? ⟨b, o + 3, none⟩ = some (.int .u16 z3) ∧ w.cell? ⟨b, o + 4, none⟩ = some (.int .u16 z4)
/-- a slice of elements of five numbers each -/
def FivesAt (w : World) (B : Nat) (A : Option Addr) (n : Nat) : Prop := n ≤ maxLen ∧ (0 < n → ∃ b off, A = some ⟨b, off, none⟩ ∧ b < B ∧ ∀ k, k < n → FiveAt w b (off + k * 5))
theorem FivesAt.below {w w' : World} {B n : Nat} {A : Option Addr} (h : FivesAt w B A n) (hb : Below B w w') : FivesAt w' B A n :=
  ⟨h.1, fun hp => by
    obtain ⟨b, off, e, hlt, hc⟩ := h.2 hp
    refine ⟨b, off, e, hlt, fun k hk => ?_⟩
    have hk' : ∀ j, w'.cell? ⟨b, j, none⟩ = w.cell? ⟨b, j, none⟩ := fun j => hb.cell (p := ⟨b, j, none⟩) hlt
    obtain ⟨z0, z1, z2, z3, z4, g0, g1, g2, g3, g4, c0, c1, c2, c3, c4⟩ := hc k hk
    exact ⟨z0, z1, z2, z3, z4, g0, g1, g2, g3, g4, (hk' _).trans c0, (hk' _).trans c1, (hk' _).trans c2, (hk' _).trans c3, (hk' _).trans c4⟩⟩
theorem own_slice {w : World} {base e size n : Nat} {v : Value} {xs : List Value} (h : w.ownsRow base e size v n xs) : ∃ A c, v = .slice A n c := by
  rcases h.2 with ⟨rfl, rfl⟩ | ⟨g, cap, cur, rfl, _⟩
  · exact ⟨_, _, rfl⟩
  · exact ⟨_, _, rfl⟩
theorem own_below {w w' : World} {B e size n : Nat} {v : Value} {xs : List Value} (h : w.ownsRow B e size v n xs) (hb : Below w.heap.size w w') : w'.ownsRow B e size v n xs := by
  obtain ⟨h1, h2⟩ := h
  refine ⟨h1, ?_⟩
  rcases h2 with h2 | ⟨g, cap, cur, hv, hg, hh, r⟩
  · exact .inl h2
  · refine .inr ⟨g, cap, cur, hv, hg, ?_, r⟩
    rw [hb.block g (by
      rcases Nat.lt_or_ge g w.heap.size with hlt | hge
      · exact hlt
      · rw [Array.getElem?_eq_none hge] at hh; cases hh)]
    exact hh
theorem cells_new (w : World) (l : List Value) (t : TypeId) : ∀ j u, l[j]? = some u → (w.alloc (.cells l.toArray t)).cell? ((⟨w.heap.size, 0, none⟩ : Addr).add j) = some u := by
  intro j u h
  have e : (⟨w.heap.size, 0, none⟩ : Addr).add j = ⟨w.heap.size, j, none⟩ := by
    unfold Addr.add
    by_cases hj : j = 0 <;> simp [hj]
  rw [e]
  simpa [World.cell?_alloc_new] using h
theorem cells_new3 (w : World) (o1 o2 : Obj) (l : List Value) (t : TypeId) : ∀ j u, l[j]? = some u → (((w.alloc o1).alloc o2).alloc (.cells l.toArray t)).cell? ((⟨w.heap.size + 2, 0, none⟩ : Addr).add j) = some u := by
  have h := cells_new ((w.alloc o1).alloc o2) l t
  simpa using h
theorem info : (Tryd.prog.info? 39).map (fun i => (i.zero, i.size, i.bytes)) = some (some (.agg #[.int .i64 0, .int .i64 0, .int .i64 0, .int .i64 0, .int .i64 0, .int .i64 0]), 6, 48) := by kernel_rfl
set_option maxHeartbeats 4000000 in
set_option maxRecDepth 100000 in
theorem rows4_any (A : Option Addr) (n c m : Nat) (w : World) (h : FivesAt w w.heap.size A n) (hm : m ≤ 100) :
    Calls Tryd.prog 14 #[.slice A n c, .int .i64 4, .int .i64 m] w fun e w' => ∃ v x, e = .returned v ∧ Built 4 (5 * (x.length : Int)) x ∧ x.length ≤ m ∧ w'.ownsRow w.heap.size 39 6 v x.length (rvals x) ∧ Below w.heap.size w w' := by
  obtain ⟨i0, hi, hz0, hz1, hz2⟩ := info_parts info
  have hlen := h.1
  unfold maxLen at hlen
  have H := hide h
  clear h
  go_enter Tryd.func14, Tryd.ntmps14
  go_wp2_with fail
  go_loopw [7, 8, 16] (fun vo vd vi wr => ∃ (k : Nat) (x : List HRow) (d : Int), k ≤ n ∧ vi = .int .i64 k ∧ vd = .int .i64 d ∧ 0 ≤ d ∧ d ≤ 5 * (x.length : Int) ∧ Built 4 d x ∧ x.length ≤ m ∧ wr.ownsRow w.heap.size 39 6 vo x.length (rvals x) ∧ Below w.heap.size w wr) (fun _ _ vi _ => n - (intOf vi).toNat)
  case atStart => exact ⟨0, [], 0, by omega, rfl, rfl, by omega, by simp, Built.nil _ _, by simp, World.ownsRow_nil _ _ _ _, Below.refl _ _⟩
  case round =>
    obtain ⟨k, x, d, hk, rfl, rfl, hd0, hd1, hbu, hxm, hown, hbr⟩ := hrel
    obtain ⟨B, cp, rfl⟩ := own_slice hown
    have HB := hide hbu
    clear hbu
    have hfin : Hid (Built 4 (5 * (x.length : Int)) x) := ⟨fun r hr => ⟨(HB.out.1 r hr).1, Int.le_trans (HB.out.1 r hr).2 hd1⟩, HB.out.2⟩
    by_cases hlt : k < n
    · obtain ⟨b, off, rfl, hbw, hc⟩ := (H.out.below hbr).2 (by omega)
      obtain ⟨z0, z1, z2, z3, z4, g0, g1, g2, g3, g4, c0, c1, c2, c3, c4⟩ := hc k hlt
      clear hc
      by_cases hf : m ≤ x.length
      · go_wp2_with fail
        go_ret
        exact ⟨_, x, rfl, hfin.out, hxm, hown.alloc _, hbr.alloc hbr.size _⟩
      · by_cases ht : (z2 : Int) % 4 ≤ (z3 : Int) % 3 <;> cases hk3 : ((1 : Int) + (z1 : Int) % 3 == 3)
        case pos.false =>
          have hk4 : Hid ((1 : Int) + (z1 : Int) % 3 ≠ 3) := by simpa [Hid] using hk3
          go_wp2_with (first
            | (at_builtin
               refine wpList_append_own _ rfl (.tmp 72) (.tmp 74) 22 rfl w.heap.size 39 i0 _ 6 48 Tryd.underlying22 hi hz0 hz1 hz2 rfl (by decide) _ _ _ rfl (((hown.alloc _).alloc _).alloc _) ⟨wr.heap.size + 2, 0, none⟩ 1 1 [.int .i64 (d + (z0 : Int) % 6), .int .i64 (1 + (z1 : Int) % 3), .int .i64 ((z2 : Int) % 4), .int .i64 ((z3 : Int) % 3 + 1), .int .i64 ((z4 : Int) % 40), .int .i64 (0)] rfl rfl ?c1 ?c2 ?c3 ?c4 ?c5 ?_
               case c1 => exact cells_new3 _ _ _ [.int .i64 (d + (z0 : Int) % 6), .int .i64 (1 + (z1 : Int) % 3), .int .i64 ((z2 : Int) % 4), .int .i64 ((z3 : Int) % 3 + 1), .int .i64 ((z4 : Int) % 40), .int .i64 (0)] _
               case c2 => simp [Value.oneCell']
               case c3 => unfold maxLen; omega
               case c4 => omega
               case c5 => have := hbr.size; simp; omega
               intro v1 w1 hown1 hg1 _))
          go_roundw
          case rel =>
            refine ⟨k + 1, x ++ [(⟨d + (z0 : Int) % 6, 1 + (z1 : Int) % 3, (z2 : Int) % 4, (z3 : Int) % 3 + 1, (z4 : Int) % 40, 0⟩ : HRow)], d + (z0 : Int) % 6, by omega, by go_num, rfl, by omega, by simp; omega, HB.out.snoc (r := (⟨d + (z0 : Int) % 6, 1 + (z1 : Int) % 3, (z2 : Int) % 4, (z3 : Int) % 3 + 1, (z4 : Int) % 40, 0⟩ : HRow)) ?_ (by show d ≤ d + (z0 : Int) % 6; omega), by simp; omega, ?_, ?_⟩
            · have hk5 := hk4.out
              refine ⟨?_, ?_, ?_, ?_, ?_, ?_, ?_, ?_, ?_, ?_, ?_, ?_, ?_⟩ <;> dsimp only <;> omega
            · rw [rvals_snoc, List.length_append]; exact hown1
            · refine (((hbr.alloc hbr.size _).alloc (by have := hbr.size; simp; omega) _).alloc (by have := hbr.size; simp; omega) _).grown hg1 (by have := hbr.size; simp; omega) ?_
              intro g hg
              exact (hown.lt g hg).1
          case measure => simp [intOf]; omega
        case pos.true =>
          have hk4 : Hid ((1 : Int) + (z1 : Int) % 3 = 3) := by simpa [Hid] using hk3
          go_wp2_with (first
            | (at_builtin
               refine wpList_append_own _ rfl (.tmp 72) (.tmp 74) 22 rfl w.heap.size 39 i0 _ 6 48 Tryd.underlying22 hi hz0 hz1 hz2 rfl (by decide) _ _ _ rfl (((hown.alloc _).alloc _).alloc _) ⟨wr.heap.size + 2, 0, none⟩ 1 1 [.int .i64 (d + (z0 : Int) % 6), .int .i64 (1 + (z1 : Int) % 3), .int .i64 ((z2 : Int) % 4), .int .i64 ((z3 : Int) % 3 + 1), .int .i64 ((z4 : Int) % 40), .int .i64 ((z4 : Int) / 40 % 60)] rfl rfl ?c1 ?c2 ?c3 ?c4 ?c5 ?_
               case c1 => exact cells_new3 _ _ _ [.int .i64 (d + (z0 : Int) % 6), .int .i64 (1 + (z1 : Int) % 3), .int .i64 ((z2 : Int) % 4), .int .i64 ((z3 : Int) % 3 + 1), .int .i64 ((z4 : Int) % 40), .int .i64 ((z4 : Int) / 40 % 60)] _
               case c2 => simp [Value.oneCell']
               case c3 => unfold maxLen; omega
               case c4 => omega
               case c5 => have := hbr.size; simp; omega
               intro v1 w1 hown1 hg1 _))
          go_roundw
          case rel =>
            refine ⟨k + 1, x ++ [(⟨d + (z0 : Int) % 6, 1 + (z1 : Int) % 3, (z2 : Int) % 4, (z3 : Int) % 3 + 1, (z4 : Int) % 40, (z4 : Int) / 40 % 60⟩ : HRow)], d + (z0 : Int) % 6, by omega, by go_num, rfl, by omega, by simp; omega, HB.out.snoc (r := (⟨d + (z0 : Int) % 6, 1 + (z1 : Int) % 3, (z2 : Int) % 4, (z3 : Int) % 3 + 1, (z4 : Int) % 40, (z4 : Int) / 40 % 60⟩ : HRow)) ?_ (by show d ≤ d + (z0 : Int) % 6; omega), by simp; omega, ?_, ?_⟩
            · have hk5 := hk4.out
              refine ⟨?_, ?_, ?_, ?_, ?_, ?_, ?_, ?_, ?_, ?_, ?_, ?_, ?_⟩ <;> dsimp only <;> omega
            · rw [rvals_snoc, List.length_append]; exact hown1
            · refine (((hbr.alloc hbr.size _).alloc (by have := hbr.size; simp; omega) _).alloc (by have := hbr.size; simp; omega) _).grown hg1 (by have := hbr.size; simp; omega) ?_
              intro g hg
              exact (hown.lt g hg).1
          case measure => simp [intOf]; omega
        case neg.false =>
          have hk4 : Hid ((1 : Int) + (z1 : Int) % 3 ≠ 3) := by simpa [Hid] using hk3
          go_wp2_with (first
            | (at_builtin
               refine wpList_append_own _ rfl (.tmp 72) (.tmp 74) 22 rfl w.heap.size 39 i0 _ 6 48 Tryd.underlying22 hi hz0 hz1 hz2 rfl (by decide) _ _ _ rfl (((hown.alloc _).alloc _).alloc _) ⟨wr.heap.size + 2, 0, none⟩ 1 1 [.int .i64 (d + (z0 : Int) % 6), .int .i64 (1 + (z1 : Int) % 3), .int .i64 ((z2 : Int) % 4), .int .i64 ((z3 : Int) % 3), .int .i64 ((z4 : Int) % 40), .int .i64 (0)] rfl rfl ?c1 ?c2 ?c3 ?c4 ?c5 ?_
               case c1 => exact cells_new3 _ _ _ [.int .i64 (d + (z0 : Int) % 6), .int .i64 (1 + (z1 : Int) % 3), .int .i64 ((z2 : Int) % 4), .int .i64 ((z3 : Int) % 3), .int .i64 ((z4 : Int) % 40), .int .i64 (0)] _
               case c2 => simp [Value.oneCell']
               case c3 => unfold maxLen; omega
               case c4 => omega
               case c5 => have := hbr.size; simp; omega
               intro v1 w1 hown1 hg1 _))
          go_roundw
          case rel =>
            refine ⟨k + 1, x ++ [(⟨d + (z0 : Int) % 6, 1 + (z1 : Int) % 3, (z2 : Int) % 4, (z3 : Int) % 3, (z4 : Int) % 40, 0⟩ : HRow)], d + (z0 : Int) % 6, by omega, by go_num, rfl, by omega, by simp; omega, HB.out.snoc (r := (⟨d + (z0 : Int) % 6, 1 + (z1 : Int) % 3, (z2 : Int) % 4, (z3 : Int) % 3, (z4 : Int) % 40, 0⟩ : HRow)) ?_ (by show d ≤ d + (z0 : Int) % 6; omega), by simp; omega, ?_, ?_⟩
            · have hk5 := hk4.out
              refine ⟨?_, ?_, ?_, ?_, ?_, ?_, ?_, ?_, ?_, ?_, ?_, ?_, ?_⟩ <;> dsimp only <;> omega
            · rw [rvals_snoc, List.length_append]; exact hown1
            · refine (((hbr.alloc hbr.size _).alloc (by have := hbr.size; simp; omega) _).alloc (by have := hbr.size; simp; omega) _).grown hg1 (by have := hbr.size; simp; omega) ?_
              intro g hg
              exact (hown.lt g hg).1
          case measure => simp [intOf]; omega
        case neg.true =>
          have hk4 : Hid ((1 : Int) + (z1 : Int) % 3 = 3) := by simpa [Hid] using hk3
          go_wp2_with (first
            | (at_builtin
               refine wpList_append_own _ rfl (.tmp 72) (.tmp 74) 22 rfl w.heap.size 39 i0 _ 6 48 Tryd.underlying22 hi hz0 hz1 hz2 rfl (by decide) _ _ _ rfl (((hown.alloc _).alloc _).alloc _) ⟨wr.heap.size + 2, 0, none⟩ 1 1 [.int .i64 (d + (z0 : Int) % 6), .int .i64 (1 + (z1 : Int) % 3), .int .i64 ((z2 : Int) % 4), .int .i64 ((z3 : Int) % 3), .int .i64 ((z4 : Int) % 40), .int .i64 ((z4 : Int) / 40 % 60)] rfl rfl ?c1 ?c2 ?c3 ?c4 ?c5 ?_
               case c1 => exact cells_new3 _ _ _ [.int .i64 (d + (z0 : Int) % 6), .int .i64 (1 + (z1 : Int) % 3), .int .i64 ((z2 : Int) % 4), .int .i64 ((z3 : Int) % 3), .int .i64 ((z4 : Int) % 40), .int .i64 ((z4 : Int) / 40 % 60)] _
               case c2 => simp [Value.oneCell']
               case c3 => unfold maxLen; omega
               case c4 => omega
               case c5 => have := hbr.size; simp; omega
               intro v1 w1 hown1 hg1 _))
          go_roundw
          case rel =>
            refine ⟨k + 1, x ++ [(⟨d + (z0 : Int) % 6, 1 + (z1 : Int) % 3, (z2 : Int) % 4, (z3 : Int) % 3, (z4 : Int) % 40, (z4 : Int) / 40 % 60⟩ : HRow)], d + (z0 : Int) % 6, by omega, by go_num, rfl, by omega, by simp; omega, HB.out.snoc (r := (⟨d + (z0 : Int) % 6, 1 + (z1 : Int) % 3, (z2 : Int) % 4, (z3 : Int) % 3, (z4 : Int) % 40, (z4 : Int) / 40 % 60⟩ : HRow)) ?_ (by show d ≤ d + (z0 : Int) % 6; omega), by simp; omega, ?_, ?_⟩
            · have hk5 := hk4.out
              refine ⟨?_, ?_, ?_, ?_, ?_, ?_, ?_, ?_, ?_, ?_, ?_, ?_, ?_⟩ <;> dsimp only <;> omega
            · rw [rvals_snoc, List.length_append]; exact hown1
            · refine (((hbr.alloc hbr.size _).alloc (by have := hbr.size; simp; omega) _).alloc (by have := hbr.size; simp; omega) _).grown hg1 (by have := hbr.size; simp; omega) ?_
              intro g hg
              exact (hown.lt g hg).1
          case measure => simp [intOf]; omega
    · go_wp2_with fail
      go_ret
      exact ⟨_, x, rfl, hfin.out, hxm, hown, hbr⟩
end Go.Proofs.YtkllpfijeglppaaDoor.HsD
