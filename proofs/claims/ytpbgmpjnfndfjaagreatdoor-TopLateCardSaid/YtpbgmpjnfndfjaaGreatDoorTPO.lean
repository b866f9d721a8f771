/- TpO, TpS, TpT, TpU, in one text. -/
import Derived.Test.YtpbgmpjnfndfjaaGreatDoorTPA
namespace Go.Proofs.YtpbgmpjnfndfjaaGreatDoor.TpO
open TpA TpB TpC TpD TpE TpF
structure ClaimD where
  holder : Int
  rank : Nat
  amt : Rat
structure PartD where
  claim : Int
  capped : Bool
  cap : Rat
structure EstD where
  cash : Rat
  claims : List ClaimD
  agr : List (List (List PartD))
/-- the claims of a rank -/
def rankT (r : Nat) : Nat → List ClaimD → List Part
  | _, [] => []
  | i, c :: cs => if c.rank = r then ((i : Int), c.amt) :: rankT r (i + 1) cs else rankT r (i + 1) cs
def ranksOf (cs : List ClaimD) : List (List Part) := (List.range 8).map (fun r => rankT r 0 cs)
def amtOf (cs : List ClaimD) (i : Nat) : Rat := match cs[i]? with
  | some c => c.amt
  | none => 0
def hasClaim (a : List (List PartD)) (i : Nat) : Bool := a.any (fun t => t.any (fun p => decide (p.claim = (i : Int))))
/-- the members of an agreement, in order -/
def membersOf (n : Nat) (a : List (List PartD)) : List Nat := (List.range n).filter (hasClaim a)
/-- what a part can receive; what is left of its claim -/
def room (rest : Nat → Rat) (p : PartD) : Rat := if p.claim = -1 then p.cap else if p.capped then (if rest p.claim.toNat < p.cap then rest p.claim.toNat else p.cap) else rest p.claim.toNat
def after (rest : Nat → Rat) (p : PartD) : Nat → Rat := if p.claim = -1 then rest else fun i => if i = p.claim.toNat then rest i - room rest p else rest i
def tierOf : (Nat → Rat) → List PartD → List Part × (Nat → Rat)
  | rest, [] => ([], rest)
  | rest, p :: ps => ((p.claim, room rest p) :: (tierOf (after rest p) ps).1, (tierOf (after rest p) ps).2)
def tiersOf : (Nat → Rat) → List (List PartD) → List (List Part) × (Nat → Rat)
  | rest, [] => ([], rest)
  | rest, t :: ts => ((tierOf rest t).1 :: (tiersOf (tierOf rest t).2 ts).1, (tiersOf (tierOf rest t).2 ts).2)
def ladderOf (cs : List ClaimD) (a : List (List PartD)) : List (List Part) :=
  (tiersOf (amtOf cs) a).1 ++ [(membersOf cs.length a).map (fun (i : Nat) => ((i : Int), (tiersOf (amtOf cs) a).2 i))]
def layOf (e : EstD) : Lay := ⟨e.claims.length, ranksOf e.claims, e.agr.map (fun a => (membersOf e.claims.length a, ladderOf e.claims a))⟩
structure EOk (e : EstD) : Prop where
  cash : 0 ≤ e.cash
  amt : ∀ c ∈ e.claims, 0 ≤ c.amt
  rank : ∀ c ∈ e.claims, c.rank < 8
  part : ∀ a ∈ e.agr, ∀ t ∈ a, ∀ p ∈ t, (p.claim = -1 ∧ p.capped = true) ∨ (0 ≤ p.claim ∧ p.claim < e.claims.length)
  cap : ∀ a ∈ e.agr, ∀ t ∈ a, ∀ p ∈ t, p.capped = true → 0 ≤ p.cap
  once : e.agr.Pairwise (fun a b => ∀ i, i < e.claims.length → hasClaim a i = true → hasClaim b i = false)
theorem rankT_in (r : Nat) : ∀ (cs : List ClaimD) (i : Nat), ∀ p ∈ rankT r i cs, (i : Int) ≤ p.1 ∧ p.1 < i + cs.length ∧ ∃ c ∈ cs, p.2 = c.amt
  | [], _, p, hp => by simp [rankT] at hp
  | c :: cs, i, p, hp => by
    simp only [rankT] at hp
    split at hp
    · rcases List.mem_cons.1 hp with rfl | hp
      · simp only [List.length_cons]
        exact ⟨Int.le_refl _, by omega, c, List.mem_cons_self .., rfl⟩
      · obtain ⟨h1, h2, d, hd, h3⟩ := rankT_in r cs (i + 1) p hp
        simp only [List.length_cons]
        exact ⟨by omega, by omega, d, List.mem_cons_of_mem _ hd, h3⟩
    · obtain ⟨h1, h2, d, hd, h3⟩ := rankT_in r cs (i + 1) p hp
      simp only [List.length_cons]
      exact ⟨by omega, by omega, d, List.mem_cons_of_mem _ hd, h3⟩
theorem rankT_got (r : Nat) : ∀ (cs : List ClaimD) (i k : Nat), got ((i + k : Nat) : Int) (rankT r i cs) = match cs[k]? with
    | some c => if c.rank = r then c.amt else 0
    | none => 0
  | [], _, _ => by simp [rankT, got_nil]
  | c :: cs, i, 0 => by
    simp only [rankT, List.getElem?_cons_zero, Nat.add_zero]
    have h0 : got (i : Int) (rankT r (i + 1) cs) = 0 := got_none _ _ (fun p hp => by have := (rankT_in r cs (i + 1) p hp).1; omega)
    split
    · rw [got_cons, if_pos rfl, h0]; grind
    · exact h0
  | c :: cs, i, k + 1 => by
    have ih := rankT_got r cs (i + 1) k
    rw [show i + 1 + k = i + (k + 1) by omega] at ih
    simp only [rankT, List.getElem?_cons_succ]
    split
    · rw [got_cons, if_neg (by show ¬ (i : Int) = ((i + (k + 1) : Nat) : Int); omega), ih]; grind
    · exact ih
theorem sumR_range (f : Nat → Rat) : ∀ n, sumR ((List.range n).map f) = sm n f
  | 0 => rfl
  | n + 1 => by rw [List.range_succ, List.map_append, sumR_app, sumR_range f n]; simp only [List.map_cons, List.map_nil, sumR, sm]; grind
theorem got_flat (c : Int) : ∀ (L : List (List Part)), got c L.flatten = sumR (L.map (got c))
  | [] => rfl
  | t :: L => by rw [List.flatten_cons, got_app, got_flat c L]; rfl
theorem ranks_got {cs : List ClaimD} (hr : ∀ c ∈ cs, c.rank < 8) (k : Nat) : got (k : Int) (ranksOf cs).flatten = amtOf cs k := by
  rw [got_flat]
  unfold ranksOf
  rw [List.map_map, sumR_range]
  have : ∀ r, (got (k : Int) ∘ fun r => rankT r 0 cs) r = match cs[k]? with
      | some c => if c.rank = r then c.amt else 0
      | none => 0 := fun r => by
    have := rankT_got r cs 0 k
    rw [Nat.zero_add] at this
    exact this
  rw [sm_congr 8 (fun r _ => this r)]
  unfold amtOf
  cases h : cs[k]? with
  | none => exact sm_zero 8
  | some c => exact sm_one 8 c.rank c.amt (hr c (List.mem_of_getElem? h))
theorem ranks_pos {cs : List ClaimD} (ha : ∀ c ∈ cs, 0 ≤ c.amt) : Pos (ranksOf cs) := by
  intro t ht p hp
  obtain ⟨r, _, rfl⟩ := List.mem_map.1 ht
  obtain ⟨_, _, c, hc, e⟩ := rankT_in r cs 0 p hp
  rw [e]; exact ha c hc
theorem room_nn {rest : Nat → Rat} {p : PartD} (hr : ∀ i, 0 ≤ rest i) (hc : p.capped = true → 0 ≤ p.cap) (h1 : p.claim = -1 → p.capped = true) : 0 ≤ room rest p := by
  have := hr p.claim.toNat
  unfold room
  split
  · exact hc (h1 ‹_›)
  · split
    · have := hc ‹_›
      split <;> grind
    · exact this
theorem room_le {rest : Nat → Rat} {p : PartD} (h : p.claim ≠ -1) : room rest p ≤ rest p.claim.toNat := by
  unfold room
  rw [if_neg h]
  split
  · split <;> grind
  · exact Rat.le_refl
theorem after_nn {rest : Nat → Rat} {p : PartD} (hr : ∀ i, 0 ≤ rest i) : ∀ i, 0 ≤ after rest p i := by
  intro i
  unfold after
  split
  · exact hr i
  · rename_i h
    show 0 ≤ (if i = p.claim.toNat then rest i - room rest p else rest i)
    split
    · rename_i e
      have := room_le (rest := rest) h
      rw [e]; grind
    · exact hr i
theorem tierOf_in : ∀ (t : List PartD) (rest : Nat → Rat), ∀ q ∈ (tierOf rest t).1, ∃ p ∈ t, q.1 = p.claim
  | [], _, q, hq => by simp [tierOf] at hq
  | p :: ps, rest, q, hq => by
    simp only [tierOf] at hq
    rcases List.mem_cons.1 hq with rfl | hq
    · exact ⟨p, List.mem_cons_self .., rfl⟩
    · obtain ⟨p', hp', e⟩ := tierOf_in ps _ q hq
      exact ⟨p', List.mem_cons_of_mem _ hp', e⟩
theorem tierOf_nn : ∀ (t : List PartD) (rest : Nat → Rat), (∀ i, 0 ≤ rest i) → (∀ p ∈ t, p.capped = true → 0 ≤ p.cap) → (∀ p ∈ t, p.claim = -1 → p.capped = true) → (∀ q ∈ (tierOf rest t).1, 0 ≤ q.2) ∧ ∀ i, 0 ≤ (tierOf rest t).2 i
  | [], rest, hr, _, _ => ⟨fun q hq => by simp [tierOf] at hq, hr⟩
  | p :: ps, rest, hr, h1, h2 => by
    obtain ⟨k1, k2⟩ := tierOf_nn ps (after rest p) (after_nn hr) (fun q hq => h1 q (List.mem_cons_of_mem _ hq)) (fun q hq => h2 q (List.mem_cons_of_mem _ hq))
    refine ⟨fun q hq => ?_, k2⟩
    simp only [tierOf] at hq
    rcases List.mem_cons.1 hq with rfl | hq
    · exact room_nn hr (h1 p (List.mem_cons_self ..)) (h2 p (List.mem_cons_self ..))
    · exact k1 q hq
theorem total_change (f : Nat → Rat) (k : Nat) (v : Rat) : ∀ (l : List Nat), l.Nodup → k ∈ l → total (fun i => if i = k then f i - v else f i) l = total f l - v
  | [], _, h => by cases h
  | i :: l, hn, h => by
    have hni := (List.nodup_cons.1 hn).1
    simp only [total]
    by_cases e : i = k
    · subst e
      rw [if_pos rfl, total_congr (g := fun j => if j = i then f j - v else f j) (h := f) l (fun j hj => if_neg (fun e2 => hni (by rw [← e2]; exact hj)))]
      grind
    · rcases List.mem_cons.1 h with rfl | h
      · exact absurd rfl e
      · rw [if_neg e, total_change f k v l (List.nodup_cons.1 hn).2 h]
        grind
/-- what the parts can receive and what is left of the members' claims is at least what they had -/
theorem tierOf_sum (l : List Nat) (hl : l.Nodup) : ∀ (t : List PartD) (rest : Nat → Rat), (∀ i, 0 ≤ rest i) → (∀ p ∈ t, p.capped = true → 0 ≤ p.cap) → (∀ p ∈ t, p.claim = -1 → p.capped = true) → (∀ p ∈ t, p.claim ≠ -1 → p.claim.toNat ∈ l) → total rest l ≤ tsum (tierOf rest t).1 + total (tierOf rest t).2 l
  | [], rest, _, _, _, _ => by simp only [tierOf, tsum, List.map_nil, sumR]; grind
  | p :: ps, rest, hr, h1, h2, h3 => by
    have ih := tierOf_sum l hl ps (after rest p) (after_nn hr) (fun q hq => h1 q (List.mem_cons_of_mem _ hq)) (fun q hq => h2 q (List.mem_cons_of_mem _ hq)) (fun q hq => h3 q (List.mem_cons_of_mem _ hq))
    have hn := room_nn hr (h1 p (List.mem_cons_self ..)) (h2 p (List.mem_cons_self ..))
    simp only [tierOf]
    rw [tsum_cons]
    by_cases e : p.claim = -1
    · have : after rest p = rest := by unfold after; rw [if_pos e]
      rw [this] at ih ⊢
      grind
    · have h4 := h3 p (List.mem_cons_self ..) e
      have : total (after rest p) l = total rest l - room rest p := by
        unfold after
        rw [if_neg e]
        exact total_change rest _ _ l hl h4
      rw [this] at ih
      grind
theorem tiersOf_in : ∀ (ts : List (List PartD)) (rest : Nat → Rat), ∀ u ∈ (tiersOf rest ts).1, ∀ q ∈ u, ∃ t ∈ ts, ∃ p ∈ t, q.1 = p.claim
  | [], _, u, hu => by simp [tiersOf] at hu
  | t :: ts, rest, u, hu => by
    intro q hq
    simp only [tiersOf] at hu
    rcases List.mem_cons.1 hu with rfl | hu
    · obtain ⟨p, hp, e⟩ := tierOf_in t rest q hq
      exact ⟨t, List.mem_cons_self .., p, hp, e⟩
    · obtain ⟨t', ht', p, hp, e⟩ := tiersOf_in ts _ u hu q hq
      exact ⟨t', List.mem_cons_of_mem _ ht', p, hp, e⟩
theorem tiersOf_nn : ∀ (ts : List (List PartD)) (rest : Nat → Rat), (∀ i, 0 ≤ rest i) → (∀ t ∈ ts, ∀ p ∈ t, p.capped = true → 0 ≤ p.cap) → (∀ t ∈ ts, ∀ p ∈ t, p.claim = -1 → p.capped = true) → (∀ u ∈ (tiersOf rest ts).1, ∀ q ∈ u, 0 ≤ q.2) ∧ ∀ i, 0 ≤ (tiersOf rest ts).2 i
  | [], rest, hr, _, _ => ⟨fun u hu => by simp [tiersOf] at hu, hr⟩
  | t :: ts, rest, hr, h1, h2 => by
    obtain ⟨j1, j2⟩ := tierOf_nn t rest hr (h1 t (List.mem_cons_self ..)) (h2 t (List.mem_cons_self ..))
    obtain ⟨k1, k2⟩ := tiersOf_nn ts (tierOf rest t).2 j2 (fun q hq => h1 q (List.mem_cons_of_mem _ hq)) (fun q hq => h2 q (List.mem_cons_of_mem _ hq))
    refine ⟨fun u hu => ?_, k2⟩
    simp only [tiersOf] at hu
    rcases List.mem_cons.1 hu with rfl | hu
    · exact j1
    · exact k1 u hu
theorem tiersOf_sum (l : List Nat) (hl : l.Nodup) : ∀ (ts : List (List PartD)) (rest : Nat → Rat), (∀ i, 0 ≤ rest i) → (∀ t ∈ ts, ∀ p ∈ t, p.capped = true → 0 ≤ p.cap) → (∀ t ∈ ts, ∀ p ∈ t, p.claim = -1 → p.capped = true) → (∀ t ∈ ts, ∀ p ∈ t, p.claim ≠ -1 → p.claim.toNat ∈ l) → total rest l ≤ sumR (sums (tiersOf rest ts).1) + total (tiersOf rest ts).2 l
  | [], rest, _, _, _, _ => by simp only [tiersOf, sums, List.map_nil, sumR]; grind
  | t :: ts, rest, hr, h1, h2, h3 => by
    obtain ⟨j1, j2⟩ := tierOf_nn t rest hr (h1 t (List.mem_cons_self ..)) (h2 t (List.mem_cons_self ..))
    have k1 := tierOf_sum l hl t rest hr (h1 t (List.mem_cons_self ..)) (h2 t (List.mem_cons_self ..)) (h3 t (List.mem_cons_self ..))
    have ih := tiersOf_sum l hl ts (tierOf rest t).2 j2 (fun q hq => h1 q (List.mem_cons_of_mem _ hq)) (fun q hq => h2 q (List.mem_cons_of_mem _ hq)) (fun q hq => h3 q (List.mem_cons_of_mem _ hq))
    simp only [tiersOf, sums, List.map_cons, sumR]
    have e : sumR (sums (tiersOf (tierOf rest t).2 ts).1) = sumR (List.map tsum (tiersOf (tierOf rest t).2 ts).1) := rfl
    grind
theorem members_nodup (n : Nat) (a : List (List PartD)) : (membersOf n a).Nodup := List.nodup_range.filter _
theorem members_mem {n : Nat} {a : List (List PartD)} {i : Nat} : i ∈ membersOf n a ↔ i < n ∧ hasClaim a i = true := by
  unfold membersOf
  rw [List.mem_filter, List.mem_range]
theorem hasClaim_of {a : List (List PartD)} {t : List PartD} {p : PartD} {i : Nat} (ht : t ∈ a) (hp : p ∈ t) (e : p.claim = (i : Int)) : hasClaim a i = true := by
  unfold hasClaim
  rw [List.any_eq_true]
  exact ⟨t, ht, by rw [List.any_eq_true]; exact ⟨p, hp, decide_eq_true e⟩⟩
theorem amt_nn {cs : List ClaimD} (ha : ∀ c ∈ cs, 0 ≤ c.amt) (i : Nat) : 0 ≤ amtOf cs i := by
  unfold amtOf
  cases h : cs[i]? with
  | none => exact Rat.le_refl
  | some c => exact ha c (List.mem_of_getElem? h)
theorem tsum_members (f : Nat → Rat) : ∀ (l : List Nat), tsum (l.map (fun (i : Nat) => ((i : Int), f i))) = total f l
  | [] => rfl
  | i :: l => by rw [List.map_cons, tsum_cons, tsum_members f l]; rfl
theorem sums_app (a b : List (List Part)) : sums (a ++ b) = sums a ++ sums b := by unfold sums; rw [List.map_append]
/-- an estate with valid data is laid out well -/
theorem lay_ok {e : EstD} (h : EOk e) : Ok2 (layOf e) := by
  have hc : ∀ a ∈ e.agr, ∀ t ∈ a, ∀ p ∈ t, p.claim = -1 → p.capped = true := fun a ha t ht p hp hm => by
    rcases h.part a ha t ht p hp with h1 | h1
    · exact h1.2
    · omega
  have hl : ∀ a ∈ e.agr, ∀ t ∈ a, ∀ p ∈ t, p.claim ≠ -1 → p.claim.toNat ∈ membersOf e.claims.length a := fun a ha t ht p hp hm => by
    rcases h.part a ha t ht p hp with h1 | h1
    · exact absurd h1.1 hm
    · exact members_mem.2 ⟨by omega, hasClaim_of ht hp (by omega)⟩
  have hnn := amt_nn h.amt
  refine { pos := ranks_pos h.amt, ppos := ?_, rin := ?_, pin := ?_, nodup := ?_, mem := ?_, disj := ?_, cover := ?_ }
  · intro P hP
    obtain ⟨a, ha, rfl⟩ := List.mem_map.1 hP
    obtain ⟨k1, k2⟩ := tiersOf_nn a (amtOf e.claims) hnn (h.cap a ha) (hc a ha)
    intro t ht p hp
    show 0 ≤ p.2
    rcases List.mem_append.1 ht with ht | ht
    · exact k1 t ht p hp
    · rw [List.mem_singleton.1 ht] at hp
      obtain ⟨i, _, rfl⟩ := List.mem_map.1 hp
      exact k2 i
  · intro t ht p hp
    obtain ⟨r, _, rfl⟩ := List.mem_map.1 ht
    obtain ⟨h1, h2, _⟩ := rankT_in r e.claims 0 p hp
    show 0 ≤ p.1 ∧ p.1 < (e.claims.length : Int)
    omega
  · intro P hP
    obtain ⟨a, ha, rfl⟩ := List.mem_map.1 hP
    intro t ht p hp
    show p.1 = -1 ∨ (0 ≤ p.1 ∧ p.1 < (e.claims.length : Int))
    rcases List.mem_append.1 ht with ht | ht
    · obtain ⟨t', ht', p', hp', e'⟩ := tiersOf_in a _ t ht p hp
      rcases h.part a ha t' ht' p' hp' with h1 | h1
      · exact .inl (by rw [e']; exact h1.1)
      · exact .inr (by rw [e']; exact h1)
    · rw [List.mem_singleton.1 ht] at hp
      obtain ⟨i, hi, rfl⟩ := List.mem_map.1 hp
      have := (members_mem.1 hi).1
      exact .inr ⟨by show (0 : Int) ≤ (i : Int); omega, by show (i : Int) < _; omega⟩
  · intro P hP
    obtain ⟨a, ha, rfl⟩ := List.mem_map.1 hP
    exact members_nodup _ _
  · intro P hP i hi
    obtain ⟨a, ha, rfl⟩ := List.mem_map.1 hP
    exact (members_mem.1 hi).1
  · show (e.agr.map _).Pairwise _
    rw [List.pairwise_map]
    refine h.once.imp (fun {a b} hab i hi hib => ?_)
    obtain ⟨h1, h2⟩ := members_mem.1 hi
    have := hab i h1 h2
    rw [(members_mem.1 hib).2] at this
    cases this
  · intro P hP
    obtain ⟨a, ha, rfl⟩ := List.mem_map.1 hP
    show total (fun i => got (i : Int) (ranksOf e.claims).flatten) (membersOf e.claims.length a) ≤ sumR (sums (ladderOf e.claims a))
    rw [total_congr (h := amtOf e.claims) _ (fun i _ => ranks_got h.rank i)]
    have := tiersOf_sum (membersOf e.claims.length a) (members_nodup _ _) a (amtOf e.claims) hnn (h.cap a ha) (hc a ha) (hl a ha)
    unfold ladderOf
    rw [sums_app, sumR_app]
    have e2 : sumR (sums [(membersOf e.claims.length a).map (fun (i : Nat) => ((i : Int), (tiersOf (amtOf e.claims) a).2 i))]) = total (tiersOf (amtOf e.claims) a).2 (membersOf e.claims.length a) := by
      simp only [sums, List.map_cons, List.map_nil, sumR, tsum_members]
      grind
    rw [e2]
    exact this
end Go.Proofs.YtpbgmpjnfndfjaaGreatDoor.TpO
namespace Go.Proofs.YtpbgmpjnfndfjaaGreatDoor.TpS
open TpA TpB TpC TpD TpE TpF TpO
theorem deliver_bare {e : EstD} (ha : e.agr = []) (x : Rat) (c : Nat) : deliver (layOf e) x c = gross (layOf e) x c := by
  have e1 : (layOf e).pools = [] := by unfold layOf; rw [ha]; rfl
  unfold deliver inPool
  rw [e1]
  simp only [List.any_nil, fromPools]
  grind
theorem pays_prefix {c : Int} : ∀ (L X : List (List Part)) (m : Rat), (∀ t ∈ X, ∀ p ∈ t, p.1 ≠ c) → got c (pays (L ++ X) m) = got c (pays L m)
  | [], X, m, h => by
    rw [List.nil_append]
    show _ = (0 : Rat)
    exact got_none c _ (pays_claims (Q := fun k => k ≠ c) X m h)
  | t :: L, X, m, h => by
    simp only [List.cons_append, pays]
    split
    · rfl
    · rw [got_app, got_app, pays_prefix L X _ h]
theorem rankT_app (r : Nat) : ∀ (cs ds : List ClaimD) (i : Nat), rankT r i (cs ++ ds) = rankT r i cs ++ rankT r (i + cs.length) ds
  | [], ds, i => by simp only [List.nil_append, rankT, List.length_nil, Nat.add_zero]
  | c :: cs, ds, i => by
    simp only [List.cons_append, rankT, List.length_cons, rankT_app r cs ds (i + 1)]
    rw [show i + 1 + cs.length = i + (cs.length + 1) by omega]
    split <;> rfl
theorem rankT_none {r : Nat} : ∀ (cs : List ClaimD) (i : Nat), (∀ c ∈ cs, c.rank ≠ r) → rankT r i cs = []
  | [], _, _ => rfl
  | c :: cs, i, h => by
    simp only [rankT]
    rw [if_neg (h c (List.mem_cons_self ..))]
    exact rankT_none cs (i + 1) (fun d hd => h d (List.mem_cons_of_mem _ hd))
/-- what claims of the first ranks are paid does not depend on claims of later ranks -/
theorem late_same {cs ds : List ClaimD} (h1 : ∀ c ∈ cs, c.rank < 4) (h2 : ∀ c ∈ ds, 4 ≤ c.rank) (cash : Rat) {k : Nat} (hk : k < cs.length) (m : Rat) :
    deliver (layOf ⟨cash, cs ++ ds, []⟩) m k = deliver (layOf ⟨cash, cs, []⟩) m k := by
  rw [deliver_bare rfl, deliver_bare rfl]
  show got (k : Int) (pays (ranksOf (cs ++ ds)) m) = got (k : Int) (pays (ranksOf cs) m)
  have e8 : List.range 8 = [0, 1, 2, 3] ++ [4, 5, 6, 7] := by decide
  unfold ranksOf
  rw [e8, List.map_append, List.map_append, pays_prefix, pays_prefix]
  · have : [0, 1, 2, 3].map (fun r => rankT r 0 (cs ++ ds)) = [0, 1, 2, 3].map (fun r => rankT r 0 cs) := by
      refine List.map_congr_left (fun r hr => ?_)
      have hr4 : r < 4 := by simp at hr; omega
      rw [rankT_app, rankT_none ds _ (fun c hc => by have := h2 c hc; omega), List.append_nil]
    rw [this]
  · intro t ht p hp
    obtain ⟨r, hr, rfl⟩ := List.mem_map.1 ht
    have hr4 : 4 ≤ r := by simp at hr; omega
    rw [rankT_none cs _ (fun c hc => by have := h1 c hc; omega)] at hp
    cases hp
  · intro t ht p hp
    obtain ⟨r, hr, rfl⟩ := List.mem_map.1 ht
    have hr4 : 4 ≤ r := by simp at hr; omega
    rw [rankT_app, rankT_none cs _ (fun c hc => by have := h1 c hc; omega), List.nil_append] at hp
    have := (rankT_in r ds (0 + cs.length) p hp).1
    omega
end Go.Proofs.YtpbgmpjnfndfjaaGreatDoor.TpS
namespace Go.Proofs.YtpbgmpjnfndfjaaGreatDoor.TpT
open TpA TpB TpC TpD TpE TpF TpO
/-- an amount added for a claim, or for the reserve -/
def addR (s : List Rat × Rat) (c : Int) (q : Rat) : List Rat × Rat := if c = -1 then (s.1, s.2 + q) else (s.1.set c.toNat (s.1.getD c.toNat 0 + q), s.2)
def addAll (s : List Rat × Rat) (l : List Part) : List Rat × Rat := l.foldl (fun s p => addR s p.1 p.2) s
/-- the claims of a list are those of a vector, or the reserve -/
def In (n : Nat) (l : List Part) : Prop := ∀ p ∈ l, p.1 = -1 ∨ (0 ≤ p.1 ∧ p.1 < (n : Int))
theorem addR_len (s : List Rat × Rat) (c : Int) (q : Rat) : (addR s c q).1.length = s.1.length := by
  unfold addR
  split
  · rfl
  · simp
theorem addAll_nil (s : List Rat × Rat) : addAll s [] = s := rfl
theorem addAll_cons (s : List Rat × Rat) (p : Part) (l : List Part) : addAll s (p :: l) = addAll (addR s p.1 p.2) l := rfl
theorem addAll_app (s : List Rat × Rat) (a b : List Part) : addAll s (a ++ b) = addAll (addAll s a) b := by unfold addAll; rw [List.foldl_append]
theorem addAll_snoc (s : List Rat × Rat) (l : List Part) (p : Part) : addAll s (l ++ [p]) = addR (addAll s l) p.1 p.2 := by rw [addAll_app]; rfl
theorem addAll_len (l : List Part) : ∀ (s : List Rat × Rat), (addAll s l).1.length = s.1.length := by
  induction l with
  | nil => intro s; rfl
  | cons p l ih => intro s; rw [addAll_cons, ih, addR_len]
theorem addR_get (s : List Rat × Rat) (c : Int) (q : Rat) (hc : c = -1 ∨ 0 ≤ c) (k : Nat) (hk : k < s.1.length) : (addR s c q).1.getD k 0 = s.1.getD k 0 + if c = (k : Int) then q else 0 := by
  unfold addR
  by_cases h : c = -1
  · rw [if_pos h, if_neg (by omega)]; grind
  · rw [if_neg h]
    obtain ⟨i, rfl⟩ := Int.eq_ofNat_of_zero_le (show 0 ≤ c by omega)
    simp only [Int.toNat_natCast]
    by_cases e : i = k
    · subst e
      rw [if_pos rfl]
      simp [List.getD_eq_getElem?_getD, hk]
    · rw [if_neg (by omega)]
      simp [List.getD_eq_getElem?_getD, e]
      grind
theorem addR_res (s : List Rat × Rat) (c : Int) (q : Rat) : (addR s c q).2 = s.2 + if c = -1 then q else 0 := by
  unfold addR
  split
  · rfl
  · show s.2 = s.2 + 0; grind
theorem addAll_get {n : Nat} (l : List Part) (hl : In n l) : ∀ (s : List Rat × Rat), s.1.length = n → ∀ k, k < n → (addAll s l).1.getD k 0 = s.1.getD k 0 + got k l := by
  induction l with
  | nil => intro s hs k hk; rw [addAll_nil, got_nil]; grind
  | cons p l ih =>
    intro s hs k hk
    have hp := hl p (List.mem_cons_self ..)
    rw [addAll_cons, ih (fun q hq => hl q (List.mem_cons_of_mem _ hq)) _ (by rw [addR_len, hs]) k hk, addR_get s p.1 p.2 (by omega) k (by omega), got_cons]
    grind
theorem addAll_res (l : List Part) : ∀ (s : List Rat × Rat), (addAll s l).2 = s.2 + got (-1) l := by
  induction l with
  | nil => intro s; rw [addAll_nil, got_nil]; grind
  | cons p l ih => intro s; rw [addAll_cons, ih, addR_res, got_cons]; grind
def zeros (n : Nat) : List Rat := List.replicate n 0
theorem zeros_get (n k : Nat) : (zeros n).getD k 0 = 0 := by
  unfold zeros
  rw [List.getD_eq_getElem?_getD, List.getElem?_replicate]
  split <;> rfl
theorem ext_getD {a b : List Rat} (h : a.length = b.length) (e : ∀ k, k < a.length → a.getD k 0 = b.getD k 0) : a = b := by
  refine List.ext_getElem h (fun k h1 h2 => ?_)
  have := e k h1
  rwa [List.getD_eq_getElem?_getD, List.getD_eq_getElem?_getD, List.getElem?_eq_getElem h1, List.getElem?_eq_getElem h2] at this
theorem range_getD (n : Nat) (f : Nat → Rat) (k : Nat) (hk : k < n) : ((List.range n).map f).getD k 0 = f k := by
  rw [List.getD_eq_getElem?_getD, List.getElem?_map, List.getElem?_range hk]
  rfl
theorem pays_in {n : Nat} {L : List (List Part)} (h : ∀ t ∈ L, In n t) (m : Rat) : In n (pays L m) := pays_claims (Q := fun c => c = -1 ∨ (0 ≤ c ∧ c < (n : Int))) L m h
theorem slopes_in {n : Nat} : ∀ {L : List (List Part)}, (∀ t ∈ L, In n t) → ∀ (m r : Rat), In n (slopes L m r)
  | [], _, _, _ => fun p hp => by simp [slopes] at hp
  | t :: L, h, m, r => by
    intro p hp
    simp only [slopes] at hp
    split at hp
    · obtain ⟨q, hq, rfl⟩ := List.mem_map.1 hp
      exact h t (List.mem_cons_self ..) q hq
    · exact slopes_in (fun u hu => h u (List.mem_cons_of_mem _ hu)) _ _ p hp
theorem ranks_in {L : Lay} (h : Ok2 L) : ∀ t ∈ L.ranks, In L.cnt t := fun t ht p hp => .inr (h.rin t ht p hp)
theorem pool_in {L : Lay} (h : Ok2 L) {P : List Nat × List (List Part)} (hP : P ∈ L.pools) : ∀ t ∈ P.2, In L.cnt t := fun t ht p hp => h.pin P hP t ht p hp
/-- what the ranks pay, as a vector -/
theorem gross_vec {L : Lay} (h : Ok2 L) (m : Rat) : addAll (zeros L.cnt, 0) (pays L.ranks m) = ((List.range L.cnt).map (gross L m), 0) := by
  have hi := pays_in (ranks_in h) m
  refine Prod.ext (ext_getD (by rw [addAll_len]; simp [zeros]) (fun k hk => ?_)) ?_
  · have hk' : k < L.cnt := by rw [addAll_len] at hk; simpa [zeros] using hk
    rw [addAll_get _ hi _ (by simp [zeros]) k hk', zeros_get, range_getD _ _ k hk']
    unfold gross
    grind
  · rw [addAll_res, got_none (-1) _ (pays_claims (Q := fun c => c ≠ -1) L.ranks m (fun t ht p hp => by have := h.rin t ht p hp; omega))]
    show (0 : Rat) + 0 = 0
    grind
theorem rate_vec {L : Lay} (h : Ok2 L) (m : Rat) : addAll (zeros L.cnt, 0) (slopes L.ranks m 1) = ((List.range L.cnt).map (rate L m), 0) := by
  have hi := slopes_in (ranks_in h) m 1
  refine Prod.ext (ext_getD (by rw [addAll_len]; simp [zeros]) (fun k hk => ?_)) ?_
  · have hk' : k < L.cnt := by rw [addAll_len] at hk; simpa [zeros] using hk
    rw [addAll_get _ hi _ (by simp [zeros]) k hk', zeros_get, range_getD _ _ k hk']
    unfold rate
    grind
  · have hn : ∀ (X : List (List Part)), (∀ t ∈ X, ∀ p ∈ t, p.1 ≠ -1) → ∀ m r, ∀ p ∈ slopes X m r, p.1 ≠ -1 := by
      intro X
      induction X with
      | nil => intro _ m r p hp; simp [slopes] at hp
      | cons t X ih =>
        intro hX m r p hp
        simp only [slopes] at hp
        split at hp
        · obtain ⟨q, hq, rfl⟩ := List.mem_map.1 hp
          exact hX t (List.mem_cons_self ..) q hq
        · exact ih (fun u hu => hX u (List.mem_cons_of_mem _ hu)) _ _ p hp
    rw [addAll_res, got_none (-1) _ (hn L.ranks (fun t ht p hp => by have := h.rin t ht p hp; omega) m 1)]
    show (0 : Rat) + 0 = 0
    grind
theorem total_range (n : Nat) (f : Nat → Rat) (l : List Nat) (hl : ∀ i ∈ l, i < n) : total (fun i => ((List.range n).map f).getD i 0) l = total f l := total_congr l (fun i hi => range_getD n f i (hl i hi))
/-- what stays of a vector when the members of pools are taken out -/
def taken (L : Lay) (v : List Rat) : List Rat := (List.range v.length).map (fun c => if inPool L c then 0 else v.getD c 0)
def poolsAdd (x : Rat) (L : Lay) : List (List Nat × List (List Part)) → List Rat × Rat → List Rat × Rat
  | [], s => s
  | p :: ps, s => poolsAdd x L ps (addAll s (pays p.2 (total (gross L x) p.1)))
def poolsSlope (x : Rat) (L : Lay) : List (List Nat × List (List Part)) → List Rat × Rat → List Rat × Rat
  | [], s => s
  | p :: ps, s => poolsSlope x L ps (addAll s (slopes p.2 (total (gross L x) p.1) (total (rate L x) p.1)))
theorem poolsAdd_get {L : Lay} (h : Ok2 L) (x : Rat) : ∀ (ps : List (List Nat × List (List Part))), (∀ p ∈ ps, p ∈ L.pools) → ∀ (s : List Rat × Rat), s.1.length = L.cnt → (poolsAdd x L ps s).1.length = L.cnt ∧ (∀ k, k < L.cnt → (poolsAdd x L ps s).1.getD k 0 = s.1.getD k 0 + fromPools x L k ps) ∧ (poolsAdd x L ps s).2 = s.2 + fromPools x L (-1) ps
  | [], _, s, hs => ⟨hs, fun k _ => by simp only [poolsAdd, fromPools]; grind, by simp only [poolsAdd, fromPools]; grind⟩
  | p :: ps, hp, s, hs => by
    have hi := pays_in (pool_in h (hp p (List.mem_cons_self ..))) (total (gross L x) p.1)
    obtain ⟨h1, h2, h3⟩ := poolsAdd_get h x ps (fun q hq => hp q (List.mem_cons_of_mem _ hq)) (addAll s (pays p.2 (total (gross L x) p.1))) (by rw [addAll_len, hs])
    simp only [poolsAdd, fromPools]
    refine ⟨h1, fun k hk => ?_, ?_⟩
    · rw [h2 k hk, addAll_get _ hi s hs k hk]; grind
    · rw [h3, addAll_res]; grind
theorem poolsSlope_get {L : Lay} (h : Ok2 L) (x : Rat) : ∀ (ps : List (List Nat × List (List Part))), (∀ p ∈ ps, p ∈ L.pools) → ∀ (s : List Rat × Rat), s.1.length = L.cnt → (poolsSlope x L ps s).1.length = L.cnt ∧ (∀ k, k < L.cnt → (poolsSlope x L ps s).1.getD k 0 = s.1.getD k 0 + slopePools x L k ps) ∧ (poolsSlope x L ps s).2 = s.2 + slopePools x L (-1) ps
  | [], _, s, hs => ⟨hs, fun k _ => by simp only [poolsSlope, slopePools]; grind, by simp only [poolsSlope, slopePools]; grind⟩
  | p :: ps, hp, s, hs => by
    have hi := slopes_in (pool_in h (hp p (List.mem_cons_self ..))) (total (gross L x) p.1) (total (rate L x) p.1)
    obtain ⟨h1, h2, h3⟩ := poolsSlope_get h x ps (fun q hq => hp q (List.mem_cons_of_mem _ hq)) (addAll s (slopes p.2 (total (gross L x) p.1) (total (rate L x) p.1))) (by rw [addAll_len, hs])
    simp only [poolsSlope, slopePools]
    refine ⟨h1, fun k hk => ?_, ?_⟩
    · rw [h2 k hk, addAll_get _ hi s hs k hk]; grind
    · rw [h3, addAll_res]; grind
/-- what is delivered, as a vector -/
theorem deliver_vec {L : Lay} (h : Ok2 L) (x : Rat) : poolsAdd x L L.pools (taken L ((List.range L.cnt).map (gross L x)), 0) = ((List.range L.cnt).map (deliver L x), reserved L x) := by
  have hl : (taken L ((List.range L.cnt).map (gross L x))).length = L.cnt := by simp [taken]
  obtain ⟨h1, h2, h3⟩ := poolsAdd_get h x L.pools (fun _ h => h) (taken L ((List.range L.cnt).map (gross L x)), 0) hl
  refine Prod.ext (ext_getD (by rw [h1]; simp) (fun k hk => ?_)) ?_
  · rw [h1] at hk
    rw [h2 k hk, range_getD _ _ k hk]
    unfold taken
    rw [range_getD _ _ k (by simpa using hk), range_getD _ _ k hk]
    rfl
  · rw [h3]
    show (0 : Rat) + fromPools x L (-1) L.pools = reserved L x
    unfold reserved
    grind
theorem slope_vec {L : Lay} (h : Ok2 L) (x : Rat) : poolsSlope x L L.pools (taken L ((List.range L.cnt).map (rate L x)), 0) = ((List.range L.cnt).map (slope L x), reserveSlope L x) := by
  have hl : (taken L ((List.range L.cnt).map (rate L x))).length = L.cnt := by simp [taken]
  obtain ⟨h1, h2, h3⟩ := poolsSlope_get h x L.pools (fun _ h => h) (taken L ((List.range L.cnt).map (rate L x)), 0) hl
  refine Prod.ext (ext_getD (by rw [h1]; simp) (fun k hk => ?_)) ?_
  · rw [h1] at hk
    rw [h2 k hk, range_getD _ _ k hk]
    unfold taken
    rw [range_getD _ _ k (by simpa using hk), range_getD _ _ k hk]
    rfl
  · rw [h3]
    show (0 : Rat) + slopePools x L (-1) L.pools = reserveSlope L x
    unfold reserveSlope
    grind
end Go.Proofs.YtpbgmpjnfndfjaaGreatDoor.TpT
namespace Go.Proofs.YtpbgmpjnfndfjaaGreatDoor.TpU
open TpA TpB TpC TpD TpE TpF TpO TpT
def sharesL (t : List Part) (q : Rat) : List Part := t.map (fun p => (p.1, p.2 * q))
theorem pays_split : ∀ (L : List (List Part)) (m : Rat), pays L m = (L.take (split (sums L) m).1).flatten ++ (match L[(split (sums L) m).1]? with
    | some t => sharesL t ((split (sums L) m).2 / tsum t)
    | none => [])
  | [], m => rfl
  | t :: L, m => by
    have ih := pays_split L (m - tsum t)
    simp only [pays, sums, List.map_cons, split]
    by_cases h : m < tsum t
    · simp only [if_pos h]
      rfl
    · simp only [if_neg h, List.take_succ_cons, List.flatten_cons, List.getElem?_cons_succ, List.append_assoc]
      rw [ih]
      rfl
theorem slopes_split (r : Rat) : ∀ (L : List (List Part)) (m : Rat), slopes L m r = (match L[(split (sums L) m).1]? with
    | some t => sharesL t (r / tsum t)
    | none => [])
  | [], m => rfl
  | t :: L, m => by
    have ih := slopes_split r L (m - tsum t)
    simp only [slopes, sums, List.map_cons, split]
    by_cases h : m < tsum t
    · simp only [if_pos h]
      rfl
    · simp only [if_neg h, List.getElem?_cons_succ]
      rw [ih]
      rfl
theorem gap_split : ∀ (L : List (List Part)) (m : Rat), gap (sums L) m = (match L[(split (sums L) m).1]? with
    | some t => some (tsum t - (split (sums L) m).2)
    | none => none)
  | [], m => rfl
  | t :: L, m => by
    have ih := gap_split L (m - tsum t)
    simp only [sums, List.map_cons, split, gap] at ih ⊢
    by_cases h : m < tsum t
    · simp only [if_pos h]
      rfl
    · simp only [if_neg h, List.getElem?_cons_succ]
      rw [ih]
/-- where split stops: all tiers before are full, and the next one is not -/
theorem split_at : ∀ (L : List (List Part)) (m : Rat) (k : Nat), k ≤ (split (sums L) m).1 → split (sums L) m = (k + (split (sums (L.drop k)) (m - sumR (sums (L.take k)))).1, (split (sums (L.drop k)) (m - sumR (sums (L.take k)))).2)
  | L, m, 0, _ => by
    simp only [List.drop_zero, List.take_zero, sums, List.map_nil, sumR]
    rw [show m - 0 = m by grind, Nat.zero_add]
  | [], m, k + 1, h => by simp [sums, split] at h
  | t :: L, m, k + 1, h => by
    simp only [sums, List.map_cons, split] at h ⊢
    by_cases hlt : m < tsum t
    · rw [if_pos hlt] at h; simp at h
    · rw [if_neg hlt] at h
      have ih := split_at L (m - tsum t) k (by simp only [sums]; omega)
      simp only [sums] at ih
      rw [if_neg hlt]
      simp only [List.drop_succ_cons, List.take_succ_cons, List.map_cons, sumR]
      rw [ih, show m - (tsum t + sumR ((L.take k).map tsum)) = m - tsum t - sumR ((L.take k).map tsum) by grind]
      simp only
      congr 1
      omega
theorem sums_snoc {L : List (List Part)} {k : Nat} {t : List Part} (h : L[k]? = some t) : sumR (sums (L.take (k + 1))) = sumR (sums (L.take k)) + tsum t := by
  rw [List.take_add_one, h]
  unfold sums
  rw [List.map_append, sumR_app]
  simp only [Option.toList_some, List.map_cons, List.map_nil, sumR]
  grind
theorem tsum_snoc {t : List Part} {k : Nat} {p : Part} (h : t[k]? = some p) : tsum (t.take (k + 1)) = tsum (t.take k) + p.2 := by
  rw [List.take_add_one, h, tsum_app]
  show _ + (p.2 + 0) = _
  grind
/-- the round at which split stops -/
theorem split_stop {L : List (List Part)} {m : Rat} {k : Nat} {t : List Part} (hk : L[k]? = some t) (hle : k ≤ (split (sums L) m).1) (hlt : m - sumR (sums (L.take k)) < tsum t) : split (sums L) m = (k, m - sumR (sums (L.take k))) := by
  rw [split_at L m k hle]
  obtain ⟨h1, rfl⟩ := List.getElem?_eq_some_iff.1 hk
  rw [List.drop_eq_getElem_cons h1]
  simp only [sums, List.map_cons, split]
  simp only [sums] at hlt
  rw [if_pos hlt]
  rfl
theorem split_go {L : List (List Part)} {m : Rat} {k : Nat} {t : List Part} (hk : L[k]? = some t) (hle : k ≤ (split (sums L) m).1) (hge : ¬ m - sumR (sums (L.take k)) < tsum t) : k + 1 ≤ (split (sums L) m).1 := by
  rw [split_at L m k hle]
  obtain ⟨h1, rfl⟩ := List.getElem?_eq_some_iff.1 hk
  rw [List.drop_eq_getElem_cons h1]
  simp only [sums, List.map_cons, split]
  simp only [sums] at hge
  rw [if_neg hge]
  simp only
  omega
theorem split_end {L : List (List Part)} {m : Rat} (hle : L.length ≤ (split (sums L) m).1) : split (sums L) m = (L.length, m - sumR (sums L)) := by
  have := split_at L m L.length hle
  rw [List.drop_length, List.take_length] at this
  rw [this]
  rfl
end Go.Proofs.YtpbgmpjnfndfjaaGreatDoor.TpU
