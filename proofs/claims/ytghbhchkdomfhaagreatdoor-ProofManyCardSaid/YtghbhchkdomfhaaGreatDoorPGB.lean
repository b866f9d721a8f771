/- PgE, PgF, PgG, PgH, in one text. -/
import Derived.Test.YtghbhchkdomfhaaGreatDoorPGA
import Derived.Test.YtghbhchkdomfhaaGreatDoorQmt
import Derived.Test.YtghbhchkdomfhaaGreatDoorRK
import Derived.BigQuiet
import Derived.Test.YtghbhchkdomfhaaGreatDoorQin
namespace Go.Proofs.YtghbhchkdomfhaaGreatDoor.PgE
open Go.RowKit Wd RoL RnW RnQ RnR RnP RtA RpB RpC RpF PqB PfS PfB PfA PfC PfD PfE PfF PfG PfH PfI PfJ PfL PfM PfN PgA PgB PgC PgD
/-- how the reference's state stands to the reader's -/
def Rel (old : Nat) (r : Rdr) : Prop := (old = 0 ∧ r.list = [] ∧ r.at_ = 0) ∨ (r.list ≠ [] ∧ old = r.at_ + 1 ∧ r.at_ ≤ 7)
theorem rel_done {old : Nat} {r : Rdr} (h : Rel old r) : r.complete = (decide (old = 0) || decide (6 ≤ old)) := by
  unfold Rdr.complete
  rcases h with ⟨h1, h2, _⟩ | ⟨h1, h2, _⟩
  · rw [h1, h2]; rfl
  · rw [decide_eq_false h1, decide_eq_false (p := old = 0) (by omega), Bool.false_or, Bool.false_or]
    exact decide_eq_decide.2 (by omega)
theorem line_none {W : List (List UInt8)} {r : Rdr} (h : readK W = 0) : (lineD W r).1 = 10 := by
  obtain ⟨k, hk⟩ : ∃ k, kindOf (wd W 0) = k := ⟨_, rfl⟩
  unfold readK at h
  rw [hk] at h
  have key : k = 0 ∨ W.length ≠ sizeK k ∨ (k = 7 ∧ wd W 2 ≠ kFrom) ∨ (k ≠ 1 ∧ k ≠ 4 ∧ numOf (wd W (lastK k)) = none) := by
    by_cases c1 : k = 0 ∨ W.length ≠ sizeK k ∨ (k = 7 ∧ wd W 2 ≠ kFrom)
    · rcases c1 with c | c | c
      · exact .inl c
      · exact .inr (.inl c)
      · exact .inr (.inr (.inl c))
    · rw [if_neg c1] at h
      by_cases c2 : k = 1 ∨ k = 4
      · rw [if_pos c2] at h
        exact .inl h
      · rw [if_neg c2] at h
        by_cases c3 : numOf (wd W (lastK k)) = none
        · exact .inr (.inr (.inr ⟨by omega, by omega, c3⟩))
        · rw [if_neg c3] at h
          exact .inl h
  unfold lineD
  simp only [hk]
  by_cases h1 : k = 1
  · subst h1
    rw [if_pos rfl]
    have : W.length ≠ 2 := by
      rcases key with h | h | h | h
      · omega
      · exact h
      · omega
      · exact absurd rfl h.1
    rw [first_len this]
  · rw [if_neg h1]
    split
    · rfl
    · rename_i hn
      have h0 : k ≠ 0 := fun e => hn (.inr (.inl e))
      show (fieldD k W (lastD r.list)).1 = 10
      unfold fieldD
      by_cases h4 : k = 4
      · subst h4
        have : W.length ≠ 3 := by
          rcases key with h | h | h | h
          · omega
          · exact h
          · omega
          · exact absurd rfl h.2.1
        rw [if_pos rfl, amount_len this]
      · rw [if_neg h4]
        by_cases h7 : k = 7
        · subst h7
          rw [if_pos rfl]
          unfold interestD
          by_cases c : W.length ≠ 4 ∨ wd W 2 ≠ kFrom
          · rw [if_pos c]
          · rw [if_neg c]
            rw [not_or] at c
            have : numOf (wd W 3) = none := by
              rcases key with h | h | h | h
              · omega
              · exact absurd h c.1
              · exact absurd h.2 c.2
              · exact h.2.2
            rw [this]
        · rw [if_neg h7]
          unfold integerD
          by_cases c : W.length ≠ 2
          · rw [if_pos c]
          · rw [if_neg c]
            have hz : sizeK k = 2 := by unfold sizeK; rw [if_neg h4, if_neg h7]
            have hl : lastK k = 1 := by unfold lastK; rw [if_neg h7]
            have : numOf (wd W 1) = none := by
              rcases key with h | h | h | h
              · omega
              · rw [hz] at h; exact absurd h c
              · omega
              · rw [hl] at h; exact h.2.2
            rw [this]
theorem read_kind {W : List (List UInt8)} {k : Nat} (hk : readK W = k) (h0 : k ≠ 0) : kindOf (wd W 0) = k ∧ k ≤ 8 := by
  have h8 := PgB.kind_le (wd W 0)
  unfold readK at hk
  split at hk
  · omega
  split at hk
  · omega
  split at hk
  · omega
  exact ⟨hk, by omega⟩
theorem read_two {W : List (List UInt8)} (hk : readK W = 1) : W.length = 2 := by
  unfold readK at hk
  split at hk
  · omega
  rename_i h1
  rw [not_or, not_or] at h1
  split at hk
  · rw [hk] at h1
    exact Classical.not_not.1 h1.2.1
  · rename_i h2
    split at hk
    · omega
    · exact absurd (Or.inl hk) h2
theorem line_refused {W : List (List UInt8)} {r : Rdr} {k old : Nat} (hk : readK W = k) (h0 : k ≠ 0) (hf : followB old k = false) (hr : Rel old r) : (lineD W r).1 = 10 := by
  obtain ⟨hw, h8⟩ := read_kind hk h0
  unfold followB at hf
  by_cases h1 : k = 1
  · subst h1
    rw [if_pos (by rfl)] at hf
    unfold lineD
    simp only [hw]
    rw [if_pos trivial]
    have hc : r.complete = false := by
      rw [rel_done hr]
      simp only [Bool.or_eq_false_iff, beq_eq_false_iff_ne, decide_eq_false_iff_not] at hf ⊢
      omega
    unfold firstD
    rw [if_pos (.inr hc)]
  · rw [if_neg (by omega)] at hf
    simp only [Bool.or_eq_false_iff, Bool.and_eq_false_iff, beq_eq_false_iff_ne] at hf
    unfold lineD
    simp only [hw]
    rw [if_neg h1, if_pos]
    rcases hr with ⟨_, h, _⟩ | ⟨_, h, h7⟩
    · exact .inl h
    · right; right
      rw [not_or]
      omega
theorem line_field2 {W : List (List UInt8)} {r : Rdr} {k old : Nat} (hk : readK W = k) (h2 : 2 ≤ k) (hf : followB old k = true) (hr : Rel old r) :
    r.list ≠ [] ∧ lineD W r = ((fieldD k W (lastD r.list)).1, ⟨r.list.dropLast ++ [(fieldD k W (lastD r.list)).2], k - 1⟩) := by
  obtain ⟨hw, h8⟩ := read_kind hk (by omega)
  unfold followB at hf
  rw [if_neg (by omega)] at hf
  simp only [Bool.or_eq_true, Bool.and_eq_true, beq_iff_eq] at hf
  rcases hr with ⟨_, h, _⟩ | ⟨h, ho, h7⟩
  · omega
  · refine ⟨h, line_good hw (by omega) ?_⟩
    rw [not_or, not_or]
    exact ⟨h, by omega, by omega⟩
theorem line_first1 {W : List (List UInt8)} {r : Rdr} {old : Nat} (hk : readK W = 1) (hf : followB old 1 = true) (hr : Rel old r) :
    ∃ w0 w1, W = [w0, w1] ∧ lineD W r = if NmA.nmB (str w1) = false then (11, r) else if r.list.any (fun d => d.id.toList == (str w1).toList) = true then (12, r) else if 64 ≤ r.list.length then (2, r) else (0, ⟨r.list ++ [newDc (str w1)], 0⟩) := by
  obtain ⟨hw, h8⟩ := read_kind hk (by omega)
  obtain ⟨w0, w1, rfl⟩ := two_of (read_two hk)
  have hc : r.complete = true := by
    unfold followB at hf
    rw [if_pos rfl] at hf
    rw [rel_done hr]
    simp only [Bool.or_eq_true, beq_iff_eq, decide_eq_true_eq] at hf ⊢
    omega
  refine ⟨w0, w1, rfl, ?_⟩
  rw [← first_two w0 w1 r hc]
  unfold lineD
  simp only [hw]
  exact if_pos trivial
theorem prs_post {p q : List Dc × Nat × Int} {w w' : World} {A : Option Addr} {c : Nat} (h : p = q) (hd : DocsAt w' A q.1) (hb : Below w.heap.size w w') : ParseP p w (.returned (.tuple #[.slice A q.1.length c, .int .i64 (q.2.1 : Int), .int .i64 q.2.2])) w' := by
  subst h
  exact ⟨A, c, rfl, hd, hb⟩
theorem prs_err {p : List Dc × Nat × Int} {i : Nat} {c : Int} {w w' : World} (h : p = ([], i, c)) (hb : Below w.heap.size w w') : ParseP p w (.returned (.tuple #[.slice none 0 0, .int .i64 (i : Int), .int .i64 c])) w' := by
  subst h
  exact ⟨none, 0, rfl, DocsAt.nil _ _, hb⟩
/-- set at any line of a document but its first -/
theorem set_any (k n : Nat) (W : List (List UInt8)) (d : Dc) (T : TypeId) (g : Nat) (pre post : List Value) (A : Option Addr) (c : Nat) (w : World) (hk : readK W = k) (hn : readN W = n) (h2 : 2 ≤ k)
    (hS : Strs (· ≠ g) w A c (W.map str)) (hW : ∀ x ∈ W, x.length ≤ 8192) (hB : BlkT w g T (pre ++ d.vals ++ post)) :
    Calls Tryz.prog 42 #[.pointer (some ⟨g, pre.length, none⟩), .agg #[.int .i64 (k : Int), .int .i64 (n : Int), .slice A W.length c]] w (SetP (fieldD k W d) T g pre post w) := by
  have h8 := (read_kind hk (by omega)).2
  rcases (by omega : k = 4 ∨ k = 7 ∨ (k = 2 ∨ k = 3 ∨ k = 5 ∨ k = 6 ∨ k = 8)) with rfl | rfl | h
  · have h0 : n = 0 := by
      unfold readN at hn
      rw [hk, if_pos (by omega)] at hn
      exact hn.symm
    subst h0
    exact set_amount W d T g pre post A c w hk hS hW hB
  · exact set_interest W n d T g pre post A c w hk hn hS hW hB
  · exact set_int k n W d T g pre post A W.length c w hk hn h hB
end Go.Proofs.YtghbhchkdomfhaaGreatDoor.PgE
namespace Go.Proofs.YtghbhchkdomfhaaGreatDoor.PgF
open Go.RowKit Wd RoL RnW RnQ RnR RnP RtA RpB RpC RpF PqB PfS PfB PfA PfC PfD PfE PfF PfG PfH PfI PfJ PfL PfM PfN PgA PgB PgC PgD PgE
theorem own_docs2 {w : World} {base c : Nat} {e : TypeId} {A : Option Addr} {l : List Dc} (h : w.ownsRow base e 14 (.slice A l.length c) l.length (DV l)) (hl : l.length ≤ 64) : DocsAt w A l := own_docs h (by unfold maxLen; omega)
theorem vlen (dl : List Dc) (d d' : Dc) (pad : List Value) : (DV dl ++ d.vals ++ pad).length = (DV dl ++ d'.vals ++ pad).length := by
  rw [List.length_append, List.length_append, List.length_append, List.length_append]
  rfl
theorem hlast {en : Bool} {n m : Nat} (h : (en = true ∧ n = m) ∨ (en = false ∧ n = m + 1)) (hk : m < n) : en = false := by
  rcases h with ⟨_, h⟩ | ⟨h, _⟩
  · omega
  · exact h
set_option maxHeartbeats 16000000 in
set_option maxRecDepth 100000 in
theorem rparse_docs (s : ByteArray) (w : World) (hs : s.size ≤ 1000000) :
    Calls Tryz.prog 18 #[.string s] w (ParseP (parseOf s.data.toList) w) := by
  obtain ⟨i0, hi, hz0, hz1, hz2⟩ := info_parts pr_info
  have hSP := lines_any s w (by omega)
  have hmem := splA_mem 10 s.data.toList []
  obtain ⟨hlen, hne⟩ := splA_len 10 s.data.toList []
  have hsl : s.data.toList.length = s.size := by simp
  obtain ⟨Ls, la, hL⟩ := last_cut hne
  have hD := parse_open hL
  rw [hsl] at hD
  unfold LinesP at hSP
  obtain ⟨hl1, hl2⟩ := lines_ends hL
  rw [hl1, hl2] at hSP
  rw [hL] at hmem hlen
  rw [List.length_append, List.length_singleton] at hlen
  have hm : ∀ x ∈ Ls, x.length ≤ s.size := fun x hx => by have := hmem x (List.mem_append_left _ hx); rw [hsl] at this; simpa using this
  have hma : la.length ≤ s.size := by have := hmem la (by simp); rw [hsl] at this; simpa using this
  obtain ⟨LL, en, hLL, hen, hcnt, hst⟩ : ∃ (LL : List (List UInt8)) (en : Bool), (if la = [] then Ls else Ls ++ [la]) = LL ∧ decide (la = []) = en ∧ (if la = [] then Ls.length else Ls.length + 1) = LL.length ∧ ((en = true ∧ la = [] ∧ LL = Ls) ∨ (en = false ∧ la ≠ [] ∧ LL = Ls ++ [la])) := by
    by_cases h : la = []
    · exact ⟨Ls, true, if_pos h, decide_eq_true h, if_pos h, .inl ⟨rfl, h, rfl⟩⟩
    · exact ⟨Ls ++ [la], false, if_neg h, decide_eq_false h, by rw [if_neg h]; simp, .inr ⟨rfl, h, rfl⟩⟩
  rw [hLL, hen] at hSP
  rw [hcnt] at hD
  obtain ⟨n, hn⟩ : ∃ n, LL.length = n := ⟨_, rfl⟩
  obtain ⟨m, hm0⟩ : ∃ m, Ls.length = m := ⟨_, rfl⟩
  rw [hm0, hsl] at hlen
  have hnm : (en = true ∧ n = m) ∨ (en = false ∧ n = m + 1) := by
    rcases hst with ⟨h1, _, h2⟩ | ⟨h1, _, h2⟩
    · exact .inl ⟨h1, by rw [← hn, h2, hm0]⟩
    · exact .inr ⟨h1, by rw [← hn, h2]; simp [hm0]⟩
  rw [hn] at hSP hD
  have HMM : Hid (∀ (k : Nat) (x : List UInt8), LL[k]? = some x → x.length ≤ s.size) := fun k x hx => by
    have hx := List.mem_of_getElem? hx
    rcases hst with ⟨_, _, h2⟩ | ⟨_, _, h2⟩
    · exact hm x (by rw [← h2]; exact hx)
    · rw [h2] at hx
      rcases List.mem_append.1 hx with hx | hx
      · exact hm x hx
      · rw [List.mem_singleton.1 hx]; exact hma
  have HGET : Hid (∀ (k : Nat) (x : List UInt8), LL[k]? = some x → k < m → Ls[k]? = some x) := fun k x hx hk => by
    rcases hst with ⟨_, _, h2⟩ | ⟨_, _, h2⟩
    · rw [← h2]; exact hx
    · rw [h2, List.getElem?_append_left (by omega)] at hx; exact hx
  have HLA : Hid ((en = true → la = []) ∧ (en = false → la ≠ [])) := by
    rcases hst with ⟨h1, h2, _⟩ | ⟨h1, h2, _⟩
    · exact ⟨fun _ => h2, fun h => (by rw [h1] at h; exact Bool.noConfusion h)⟩
    · exact ⟨fun h => (by rw [h1] at h; exact Bool.noConfusion h), fun _ => h2⟩
  have HSP := hide hSP
  have HN := hide hn
  have HM := hide hm0
  clear hSP hmem hne hsl hL hl1 hl2 hm hma hLL hen hcnt hst hn hm0
  have hn9 : n ≤ 1000001 := by omega
  by_cases h8 : 8192 < s.size
  · have HD : Hid (parseOf s.data.toList = ([], 0, 2)) := by rw [if_pos (.inl h8)] at hD; exact hD
    clear hD
    go_enter Tryz.func18, Tryz.ntmps18
    go_wp2_with fail
    refine HSP.out.mono ?_
    rintro e w1 ⟨A, cp, rfl, hS, hb1⟩
    have HB1 := hide hb1
    clear hS hb1
    go_wp2_with fail
    go_ret3
    exact prs_err HD.out HB1.out
  · by_cases h5 : 512 < n
    · have HD : Hid (parseOf s.data.toList = ([], 0, 2)) := by rw [if_pos (.inr h5)] at hD; exact hD
      clear hD
      go_enter Tryz.func18, Tryz.ntmps18
      go_wp2_with fail
      refine HSP.out.mono ?_
      rintro e w1 ⟨A, cp, rfl, hS, hb1⟩
      have HB1 := hide hb1
      clear hS hb1
      go_wp2_with fail
      go_ret3
      exact prs_err HD.out HB1.out
    · rw [if_neg (by omega)] at hD
      have HD := hide hD
      have hs8 : s.size ≤ 8192 := by omega
      clear hD
      have HSTOP : Hid (∀ (k : Nat) (x : List UInt8) (r : Rdr) (c : Int), LL[k]? = some x → k < m → linesD Ls 0 ⟨[], 0⟩ = linesD (Ls.drop k) k r → (lineD (splA 32 [] x) r).1 = c → c ≠ 0 → parseOf s.data.toList = ([], k + 1, c)) := fun k x r c hx hk hI hc h0 => by
        rw [HD.out, hI, lines_bad (HGET.out k x hx hk) (by rw [hc]; exact h0), hc, if_pos (by exact h0)]
      have HLAST : Hid (∀ (r : Rdr), en = false → linesD Ls 0 ⟨[], 0⟩ = linesD (Ls.drop m) m r → parseOf s.data.toList = ([], m + 1, 10)) := fun r he hI => by
        rw [List.drop_eq_nil_of_le (by rw [HM.out]; exact Nat.le_refl _), lines_nil] at hI
        rw [HD.out, hI, if_neg (by simp), if_pos (.inl (HLA.out.2 he)), HM.out]
      have HOPEN : Hid (∀ (r : Rdr), en = true → linesD Ls 0 ⟨[], 0⟩ = linesD (Ls.drop m) m r → r.complete = false → parseOf s.data.toList = ([], m + 1, 10)) := fun r he hI hc => by
        rw [List.drop_eq_nil_of_le (by rw [HM.out]; exact Nat.le_refl _), lines_nil] at hI
        rw [HD.out, hI, if_neg (by simp), if_pos (.inr hc), HM.out]
      have HDONE : Hid (∀ (r : Rdr), en = true → linesD Ls 0 ⟨[], 0⟩ = linesD (Ls.drop m) m r → r.complete = true → parseOf s.data.toList = (r.list, 0, 0)) := fun r he hI hc => by
        rw [List.drop_eq_nil_of_le (by rw [HM.out]; exact Nat.le_refl _), lines_nil] at hI
        rw [HD.out, hI, if_neg (by simp), if_neg (by rw [not_or]; exact ⟨fun h => h (HLA.out.1 he), by rw [hc]; simp⟩)]
      go_enter Tryz.func18, Tryz.ntmps18
      go_wp2_with fail
      refine HSP.out.mono ?_
      rintro e w1 ⟨A, cp, rfl, hS, hb1⟩
      have HS1 := hide hS
      have HB1 := hide hb1
      have hw1 := hb1.size
      clear hS hb1 HSP
      go_wp2_with fail
      go_loopw [7, 8, 9, 10, 11, 12] (fun vo vold vi _ _ _ wr => ∃ (k : Nat) (r : Rdr) (old : Nat) (A' : Option Addr) (c' : Nat), k ≤ m ∧ vi = .int .i64 k ∧ vo = .slice A' r.list.length c' ∧ vold = .int .i64 old ∧ old ≤ 8 ∧ Hid (linesD Ls 0 ⟨[], 0⟩ = linesD (Ls.drop k) k r) ∧ Hid (Rel old r) ∧ Hid (wr.ownsRow w1.heap.size 27 14 (.slice A' r.list.length c') r.list.length (DV r.list)) ∧ r.list.length ≤ 64 ∧ Hid (Below w1.heap.size w1 wr)) (fun _ _ vi _ _ _ _ => n - (intOf vi).toNat)
      case atStart => exact ⟨0, ⟨[], 0⟩, 0, none, 0, by omega, rfl, rfl, rfl, by omega, hide rfl, hide (.inl ⟨rfl, rfl, rfl⟩), World.ownsRow_nil _ _ _ _, by show 0 ≤ 64; omega, Below.refl _ _⟩
      case round =>
        obtain ⟨k, r, old, A', c', hk, rfl, rfl, rfl, hold, HI, HREL, HO, hl64, HBR⟩ := hrel
        have HBW : Hid (Below w.heap.size w wr) := HB1.out.trans (HBR.out.mono hw1)
        have hwr := HBR.out.size
        by_cases hlt : k < n
        · obtain ⟨x, hx⟩ : ∃ x, LL[k]? = some x := ⟨_, List.getElem?_eq_getElem (by rw [HN.out]; exact hlt)⟩
          have HX := hide hx
          have hxs : (str x).size ≤ 8192 := by rw [str_size]; have := HMM.out k x hx; omega
          have HRD := Lib.hid (read_any (str x) wr hxs)
          rw [show (str x).data.toList = x from rfl] at HRD
          obtain ⟨B, off, rfl, hBl, _, hc⟩ := HS1.out.2 (by rw [List.length_map, HN.out]; omega)
          have a0 := (HBR.out.cell (p := ⟨B, off + k, none⟩) hBl).trans (hc k (str x) (by rw [List.getElem?_map, hx]; rfl))
          have hxw : Hid (∀ y ∈ splA 32 [] x, y.length ≤ 8192) := fun y hy => by
            have h1 := splA_mem 32 x [] y hy
            have h2 := hxs
            rw [str_size] at h2
            simp at h1
            omega
          clear hx hc
          go_wp2_with fail
          refine HRD.out.mono ?_
          rintro e w3 ⟨Aw, wn, cw, rfl, hrs, hb3⟩
          have HRS := Lib.hid hrs
          have HB3 := hide hb3
          have hw3 := hb3.size
          obtain ⟨kd, hkd⟩ : ∃ kd, readK (splA 32 [] x) = kd := ⟨_, rfl⟩
          obtain ⟨nn, hnn⟩ : ∃ nn, readN (splA 32 [] x) = nn := ⟨_, rfl⟩
          rw [hkd, hnn]
          rw [hkd] at HRS
          obtain ⟨V, hV, HL, HBV, hsV⟩ := ln_new w3 (.int .i64 (kd : Int)) (.int .i64 (nn : Int)) (.slice Aw wn cw)
          have HKD := hide hkd
          have HNN := hide hnn
          have HBV2 : Hid (Below wr.heap.size wr V) := HB3.out.trans (HBV.out.mono hw3)
          have HBT : Hid (Below w.heap.size w V) := HBW.out.trans (HBV2.out.mono HBW.out.size)
          have b0 := HL.out.cell (i := 0) rfl
          clear hrs hb3 hkd hnn a0 HRD
          by_cases h0 : kd = 0
          · have hb0 : ((kd : Int) == 0) = true := by rw [h0]; rfl
            rw [h0] at HKD
            clear h0
            by_cases hkm : k < m
            · have HQ := hide (HSTOP.out k x r 10 HX.out hkm HI.out (line_none HKD.out) (by decide))
              go_wp2_with fail
              go_ret3
              exact prs_err HQ.out HBT.out
            · obtain rfl : k = m := by omega
              have HQ := hide (HLAST.out r (hlast hnm hlt) HI.out)
              go_wp2_with fail
              go_ret3
              exact prs_err HQ.out HBT.out
          · have hb0 : ((kd : Int) == 0) = false := by rw [beq_eq_false_iff_ne]; omega
            have hkd8 := (read_kind HKD.out h0).2
            have HFO := Lib.hid (fun w => follows_any (old : Int) (kd : Int) w (by omega) (by omega))
            cases hfb : followB (old : Int) (kd : Int)
            · rw [hfb] at HFO
              by_cases hkm : k < m
              · have HQ := hide (HSTOP.out k x r 10 HX.out hkm HI.out (line_refused HKD.out h0 hfb HREL.out) (by decide))
                clear h0 hfb
                go_wp2_with fail
                refine (HFO.out _).mono ?_
                rintro e w4 ⟨rfl, rfl⟩
                go_wp2_with fail
                go_ret3
                exact prs_err HQ.out HBT.out
              · obtain rfl : k = m := by omega
                have HQ := hide (HLAST.out r (hlast hnm hlt) HI.out)
                clear h0 hfb
                go_wp2_with fail
                refine (HFO.out _).mono ?_
                rintro e w4 ⟨rfl, rfl⟩
                go_wp2_with fail
                go_ret3
                exact prs_err HQ.out HBT.out
            · rw [hfb] at HFO
              obtain ⟨hwn, hstr⟩ := HRS.out h0
              have HWN := hide hwn
              have HWS := hide hstr
              clear hwn
              clear HRS
              by_cases hkm : k < m
              · have hlb : en = true ∨ (en = false ∧ ((k : Int) == (n : Int) - 1) = false) := by
                  rcases hnm with ⟨h, _⟩ | ⟨h, h'⟩
                  · exact .inl h
                  · exact .inr ⟨h, by rw [beq_eq_false_iff_ne]; omega⟩
                have HNM := Lib.hid hnm
                clear hnm
                by_cases h1 : kd = 1
                · have HK1 : Hid (readK (splA 32 [] x) = 1) := by show _ = _; rw [HKD.out, h1]
                  have hfb1 : followB (old : Int) 1 = true := by rw [h1] at hfb; exact hfb
                  obtain ⟨w0, w1', hW, hLD⟩ := line_first1 HK1.out hfb1 HREL.out
                  have hk1 : ¬ 1 < kd := by omega
                  have hke : Hid (kd = 1) := h1
                  rw [hW] at hstr
                  change Strs _ w3 Aw cw [str w0, str w1'] at hstr
                  obtain ⟨Bw, offw, rfl, hBw, hPw, d0, d1⟩ := strs_two hstr
                  have hsz : (str w1').size ≤ 8192 := by rw [str_size]; exact hxw.out w1' (by rw [hW]; simp)
                  obtain rfl : wn = 2 := by rw [HWN.out, hW]; rfl
                  have b2 := HL.out.cell (i := 2) rfl
                  have e1 := (HBV.out.cell (p := ⟨Bw, offw + 1, none⟩) hBw).trans d1
                  have HNM2 := Lib.hid (fun w => NmA.rnm_any (str w1') w (by unfold maxLen; omega))
                  have HOV := hide (own_below HO.out HBV2.out)
                  have HDV := hide (own_docs2 HOV.out hl64)
                  have HKN := Lib.hid (fun w hD => known_any r.list A' c' (str w1') w hD)
                  have HLD := hide hLD
                  generalize str w1' = s1 at *
                  clear hstr h1 hfb hfb1 hLD hW h0 d0
                  cases hnm1 : NmA.nmB s1
                  · have HQ := hide (HSTOP.out k x r 11 HX.out hkm HI.out (by rw [HLD.out, if_pos hnm1]) (by decide))
                    rw [hnm1] at HNM2
                    clear hnm1
                    rcases hlb with rfl | ⟨rfl, hlb⟩
                    all_goals
                      go_wp2_with fail
                      refine (HFO.out _).mono ?_
                      rintro e w4 ⟨rfl, rfl⟩
                      go_wp2_with fail
                      refine (HNM2.out _).mono ?_
                      rintro e w4 ⟨rfl, rfl⟩
                      go_wp2_with fail
                      go_ret3
                      exact prs_err HQ.out HBT.out
                  · rw [hnm1] at HNM2
                    cases hany : r.list.any (fun d => d.id.toList == s1.toList)
                    · rw [hany] at HKN
                      by_cases h64 : 64 ≤ r.list.length
                      · have HQ := hide (HSTOP.out k x r 2 HX.out hkm HI.out (by rw [HLD.out, if_neg (by rw [hnm1]; simp), if_neg (by rw [hany]; simp), if_pos h64]) (by decide))
                        clear hnm1 hany
                        rcases hlb with rfl | ⟨rfl, hlb⟩
                        all_goals
                          go_wp2_with fail
                          refine (HFO.out _).mono ?_
                          rintro e w4 ⟨rfl, rfl⟩
                          go_wp2_with fail
                          refine (HNM2.out _).mono ?_
                          rintro e w4 ⟨rfl, rfl⟩
                          go_wp2_with fail
                          refine (HKN.out _ HDV.out).mono ?_
                          rintro e w4 ⟨rfl, rfl⟩
                          go_wp2_with fail
                          go_ret3
                          exact prs_err HQ.out HBT.out
                      · have HLO : Hid (lineD (splA 32 [] x) r = (0, ⟨r.list ++ [newDc s1], 0⟩)) := HLD.out.trans ((if_neg (by rw [hnm1]; simp)).trans ((if_neg (by rw [hany]; simp)).trans (if_neg h64)))
                        have HI2 : Hid (linesD Ls 0 ⟨[], 0⟩ = linesD (Ls.drop (k + 1)) (k + 1) ⟨r.list ++ [newDc s1], 0⟩) := by
                          show _ = _
                          rw [HI.out, lines_on (HGET.out k x HX.out hkm) (by rw [HLO.out]), HLO.out]
                        obtain ⟨V2, hV2⟩ : ∃ V2, V.alloc (.cells #[.string s1, .int .i64 0, .int .i64 0, .string ⟨#[]⟩, .bool false, .string ⟨#[]⟩, .string ⟨#[]⟩, .int .i64 0, .int .i64 0, .bool false, .string ⟨#[]⟩, .string ⟨#[]⟩, .int .i64 0, .int .i64 (-1)] 27) = V2 := ⟨_, rfl⟩
                        have hbV2 : Below V.heap.size V V2 := by rw [← hV2]; exact (Below.refl _ _).alloc (Nat.le_refl _) _
                        have hrd : Reads V2 (V.heap.size + 1) 14 (some ⟨V.heap.size, 0, none⟩) 1 (newDc s1).vals := by rw [← hV2]; exact reads_new V (newDc s1).vals 27 rfl
                        rw [hsV] at hrd
                        have HRE := hide hrd
                        have HO2 := hide (own_below HOV.out hbV2)
                        have HB2 : Hid (Below w1.heap.size w1 V2) := (HBR.out.trans (HBV2.out.mono hwr)).trans (hbV2.mono (by have := HBV2.out.size; omega))
                        have hs2 := HB2.out.size
                        clear hnm1 hany hrd hbV2
                        rcases hlb with rfl | ⟨rfl, hlb⟩
                        all_goals
                          go_wp2_with fail
                          refine (HFO.out _).mono ?_
                          rintro e w4 ⟨rfl, rfl⟩
                          go_wp2_with fail
                          refine (HNM2.out _).mono ?_
                          rintro e w4 ⟨rfl, rfl⟩
                          go_wp2_with fail
                          refine (HKN.out _ HDV.out).mono ?_
                          rintro e w4 ⟨rfl, rfl⟩
                          go_wp2_with (first
                            | (at_builtin
                               refine wpList_append_any _ rfl (.tmp 99) (.tmp 102) 29 rfl w1.heap.size 27 i0 _ 14 160 Tryz.underlying29 hi hz0 hz1 hz2 rfl (by decide) _ _ _ rfl HO2.out _ _ 1 1 _ rfl HRE.out (DV_one _) ?c3 ?c4 ?c5 ?_
                               case c3 => unfold maxLen; omega
                               case c4 => omega
                               case c5 => omega
                               intro v5 w5 hown5 hg5 hob5))
                          obtain ⟨A5, c5, rfl⟩ := PfJ.own_slice hown5
                          rw [← DV_snoc] at hown5
                          go_roundw
                          case rel => exact ⟨k + 1, ⟨r.list ++ [newDc s1], 0⟩, kd, A5, c5, by omega, by go_num, by simp, rfl, by omega, HI2, hide (.inr ⟨by simp, by have := hke.out; show kd = 0 + 1; omega, by show 0 ≤ 7; omega⟩), (by show World.ownsRow _ _ _ _ (.slice A5 (r.list ++ [newDc s1]).length c5) (r.list ++ [newDc s1]).length _; rw [show (r.list ++ [newDc s1]).length = r.list.length + 1 by simp]; exact hown5), by show (r.list ++ [newDc s1]).length ≤ 64; simp; omega, HB2.out.grown hg5 (by omega) (fun g hg => (HO2.out.lt g hg).1)⟩
                          case measure => simp [intOf]; omega
                    · rw [hany] at HKN
                      have HQ := hide (HSTOP.out k x r 12 HX.out hkm HI.out (by rw [HLD.out, if_neg (by rw [hnm1]; simp), if_pos hany]) (by decide))
                      clear hnm1 hany
                      rcases hlb with rfl | ⟨rfl, hlb⟩
                      all_goals
                        go_wp2_with fail
                        refine (HFO.out _).mono ?_
                        rintro e w4 ⟨rfl, rfl⟩
                        go_wp2_with fail
                        refine (HNM2.out _).mono ?_
                        rintro e w4 ⟨rfl, rfl⟩
                        go_wp2_with fail
                        refine (HKN.out _ HDV.out).mono ?_
                        rintro e w4 ⟨rfl, rfl⟩
                        go_wp2_with fail
                        go_ret3
                        exact prs_err HQ.out HBT.out
                · have hk2 : 1 < kd := by omega
                  obtain ⟨hne, hLD⟩ := line_field2 HKD.out (by omega) hfb HREL.out
                  obtain ⟨dl, d, hdl⟩ : ∃ dl d, r.list = dl ++ [d] := ⟨r.list.dropLast, r.list.getLast hne, (List.dropLast_concat_getLast _).symm⟩
                  rw [hdl, lastD_snoc, List.dropLast_concat] at hLD
                  have hll : r.list.length = dl.length + 1 := by rw [hdl]; simp
                  have hpl : 1 ≤ r.list.length := by omega
                  have hpo : (r.list.length - 1) * 14 = (DV dl).length := by rw [DV_len, hll]; simp
                  obtain ⟨g, pad, hA, hg, hBg, hcl, hxl, hnc, hcm⟩ := own_open (own_below HO.out HBV2.out) (by omega)
                  have hgw : g < wr.heap.size := (HO.out.lt g (by rw [hA]; rfl)).2
                  rw [hdl, DV_snoc] at hBg hcl
                  have HBG := hide hBg
                  have HCL := hide hcl
                  have hbox : w3.heap.size ≠ g := by omega
                  have HSV := hide ((HWS.out.below HBV.out).mono (Q := (· ≠ g)) (fun b hb e => by subst e; omega))
                  have HSD : Hid (Strs (· ≠ g) V.drew Aw cw ((splA 32 [] x).map str)) := HSV.out.kept (R := g) (fun h => h rfl) (kept_drawn g V)
                  have HGD : Hid (BlkT V.drew g 27 (DV dl ++ d.vals ++ pad)) := hBg
                  have HST := Lib.hid (set_any kd nn (splA 32 [] x) d 27 g (DV dl) pad Aw cw V.drew HKD.out HNN.out (by omega) HSD.out hxw.out HGD.out)
                  rw [← HWN.out] at HST
                  obtain ⟨⟨fc, fd⟩, hf⟩ : ∃ p, fieldD kd (splA 32 [] x) d = p := ⟨_, rfl⟩
                  rw [hf] at HST hLD
                  unfold SetP at HST
                  dsimp only at HST hLD
                  have HLD := hide hLD
                  have x0 := kept_kin (R := g) (W := V) (by omega) hbox (HL.out.cell (i := 0) rfl)
                  have x1 := kept_kin (R := g) (W := V) (by omega) hbox (HL.out.cell (i := 1) rfl)
                  have x2 := kept_kin (R := g) (W := V) (by omega) hbox (HL.out.cell (i := 2) rfl)
                  have HDL := hide hdl
                  have HLL := hide hll
                  have HPO := hide hpo
                  have hgV : g < V.heap.size := by omega
                  subst hA
                  have HB1V : Hid (Below w1.heap.size w1 V) := HBR.out.trans (HBV2.out.mono hwr)
                  clear hne hdl hLD hBg hcl hxl h0 h1 hfb hf hbox hll hpo
                  rcases hlb with rfl | ⟨rfl, hlb⟩
                  all_goals
                    go_wp2_with fail
                    refine (HFO.out _).mono ?_
                    rintro e w4 ⟨rfl, rfl⟩
                    go_wp2_with fail
                    refine Qmt.wp_region (C := Cls (Kept g V)) (by kernel_rfl) (by kernel_rfl) ?_
                    simp only [List.length_cons, List.length_nil]
                    refine Qmt.takes [0, 1, 5] 5 _ _ _ (cls (kept_drawn g V)) (by kernel_rfl) ?_
                    simp only [List.filterMap_cons, List.filterMap_nil, List.getElem?_toArray, List.getElem?_cons_zero, List.getElem?_cons_succ]
                    change wpQuiet _ _ _ _ [_, _, _] _
                    repeat (go_big_quiet_step (fail))
                    refine wpQuiet_nil ?_
                    refine Qmt.fork [2] (cls (kept_drawn g V)) (by kernel_rfl) (by simp) ⟨?_, trivial⟩
                    refine Qmt.by_op rfl (by kernel_rfl) ?_
                    go_wp2_with fail
                    refine ⟨rfl, ?_⟩
                    refine Qmt.takes [3, 4] 2 _ _ _ (cls (kept_drawn g V)) (by kernel_rfl) ?_
                    simp only [List.filterMap_cons, List.filterMap_nil, List.getElem?_toArray, List.getElem?_cons_zero, List.getElem?_cons_succ]
                    change wpQuiet _ _ _ _ [_, _] _
                    repeat (go_big_quiet_step (fail))
                    refine wpQuiet_nil ?_
                    refine Qmt.fork [6] (cls (kept_drawn g V)) (by kernel_rfl) (by simp) ⟨?_, trivial⟩
                    refine Qmt.by_op rfl (by kernel_rfl) ?_
                    rw [HPO.out]
                    go_wp2_with fail
                    refine HST.out.mono ?_
                    rintro e w5 ⟨d', rfl, hk5, hb5, hd5⟩
                    have HK5 := hide ((kept_drawn g V).trans hk5)
                    have HG5 := hide hb5
                    have HD5 := Lib.hid hd5
                    clear hk5 hb5 hd5 x0 x1 x2
                    go_wp2_with fail
                    refine ⟨rfl, ?_⟩
                    refine Qmt.takes [7] 0 _ _ _ (cls HK5.out) (by kernel_rfl) ?_
                    simp only [List.filterMap_cons, List.filterMap_nil, List.getElem?_toArray, List.getElem?_cons_zero, List.getElem?_cons_succ]
                    change wpQuiet _ _ _ _ [_] _
                    repeat (go_big_quiet_step (fail))
                    refine wpQuiet_nil ?_
                    refine Qmt.by_end (cls HK5.out) (by kernel_rfl) ?_
                    have HB5 : Hid (Below w1.heap.size w1 w5) := HB1V.out.trans (HK5.out.below hg (by omega))
                    by_cases hc0 : fc = 0
                    · have hbc : (fc != 0) = false := by simpa using hc0
                      obtain rfl := HD5.out hc0
                      have HI2 : Hid (linesD Ls 0 ⟨[], 0⟩ = linesD (Ls.drop (k + 1)) (k + 1) ⟨dl ++ [d'], kd - 1⟩) := by
                        show _ = _
                        rw [HI.out, lines_on (HGET.out k x HX.out hkm) (by rw [HLD.out]; exact hc0), HLD.out]
                      clear hc0
                      go_wp2_with fail
                      go_roundw
                      case rel =>
                        refine ⟨k + 1, ⟨dl ++ [d'], kd - 1⟩, kd, some ⟨g, 0, none⟩, c', by omega, by go_num, ?_, rfl, by omega, HI2, hide (.inr ⟨by simp, by show kd = kd - 1 + 1; omega, by show kd - 1 ≤ 7; omega⟩), ?_, ?_, HB5⟩
                        · rw [HLL.out]; simp
                        · have hl2 : (dl ++ [d']).length = dl.length + 1 := by simp
                          show World.ownsRow _ _ _ _ (.slice _ (dl ++ [d']).length c') (dl ++ [d']).length _
                          rw [hl2, ← HLL.out]
                          refine own_close (pad := pad) hg (by rw [DV_snoc]; exact HG5.out) (by rw [DV_snoc, ← vlen dl d d' pad]; exact HCL.out) (by rw [DV_len, hl2, HLL.out]) hnc hcm
                        · show (dl ++ [d']).length ≤ 64
                          rw [← show r.list.length = (dl ++ [d']).length by rw [HLL.out]; simp]
                          exact hl64
                      case measure => simp [intOf]; omega
                    · have HQ := hide (HSTOP.out k x r fc HX.out hkm HI.out (by rw [HLD.out]) hc0)
                      have hbc : (fc != 0) = true := by simpa using hc0
                      clear hc0
                      go_wp2_with fail
                      go_ret3
                      exact prs_err HQ.out (HB1.out.trans (HB5.out.mono hw1))
              · obtain rfl : k = m := by omega
                have hel := hlast hnm hlt
                have HQ := hide (HLAST.out r hel HI.out)
                have hlb : ((k : Int) == (n : Int) - 1) = true := by
                  rw [beq_iff_eq]
                  rcases hnm with ⟨h, _⟩ | ⟨_, h⟩
                  · rw [h] at hel; cases hel
                  · omega
                subst hel
                clear h0 hfb hnm
                go_wp2_with fail
                refine (HFO.out _).mono ?_
                rintro e w4 ⟨rfl, rfl⟩
                go_wp2_with fail
                go_ret3
                exact prs_err HQ.out HBT.out
        · obtain rfl : k = n := by rcases hnm with ⟨_, h⟩ | ⟨_, h⟩ <;> omega
          have hen : en = true ∧ m = k := by
            rcases hnm with ⟨h, h'⟩ | ⟨_, h⟩
            · exact ⟨h, by omega⟩
            · omega
          obtain ⟨rfl, rfl⟩ := hen
          have hrd := rel_done HREL.out
          have HDX := hide (own_docs2 HO.out hl64)
          clear hnm
          cases hcm : r.complete
          · have HQ := hide (HOPEN.out r rfl HI.out hcm)
            rw [hcm] at hrd
            have hd := Bool.or_eq_false_iff.1 hrd.symm
            have hp : 0 < old := by have := of_decide_eq_false hd.1; omega
            have hp6 : old < 6 := by have := of_decide_eq_false hd.2; omega
            clear hrd hd hcm
            go_wp2_with fail
            go_ret3
            exact prs_err HQ.out HBW.out
          · have HQ := hide (HDONE.out r rfl HI.out hcm)
            rw [hcm] at hrd
            have hd : old = 0 ∨ 6 ≤ old := by simpa using hrd.symm
            clear hrd hcm
            rcases hd with hd | hd
            · have hd0 : ¬ 0 < old := by omega
              clear hd
              go_wp2_with fail
              go_ret3
              exact prs_post HQ.out HDX.out HBW.out
            · have hd0 : 0 < old := by omega
              have hd6 : ¬ old < 6 := by omega
              go_wp2_with fail
              go_ret3
              exact prs_post HQ.out HDX.out HBW.out
end Go.Proofs.YtghbhchkdomfhaaGreatDoor.PgF
namespace Go.Proofs.YtghbhchkdomfhaaGreatDoor.PgG
open Go.RowKit Wd RoL RnW RpF RsX PqB PfS PfB PfA PfD PfE PfG PfH PfI PfJ
theorem pr_und : Tryz.prog.underlying 27 = some (.struct (Tryz.prog.fieldsOf 27)) := by kernel_rfl
theorem pr_held : Tryz.prog.stoodInHeld 27 = false := by kernel_rfl
theorem pr_guard : Tryz.prog.eqGuardType Tryz.prog.depth 27 = false := by kernel_rfl
theorem pr_fields : Tryz.prog.fieldsOf 27 = #[Tryz.prog.fieldsOf 27 |>.getD 0 default, Tryz.prog.fieldsOf 27 |>.getD 1 default, Tryz.prog.fieldsOf 27 |>.getD 2 default, Tryz.prog.fieldsOf 27 |>.getD 3 default, Tryz.prog.fieldsOf 27 |>.getD 4 default, Tryz.prog.fieldsOf 27 |>.getD 5 default, Tryz.prog.fieldsOf 27 |>.getD 6 default, Tryz.prog.fieldsOf 27 |>.getD 7 default, Tryz.prog.fieldsOf 27 |>.getD 8 default, Tryz.prog.fieldsOf 27 |>.getD 9 default] := by kernel_rfl
theorem pr_neq (x : Dc) (W : World) : (binOp .neq 27 x.agg x.agg).run Tryz.prog W = .ok (.bool false) W := by
  unfold PfA.Dc.agg
  rw [run_neq_struct, run_equalIn_agg W 9999 _ _ _ pr_und pr_held, pr_fields]
  simp [go_sem]
set_option maxHeartbeats 4000000 in
set_option maxRecDepth 100000 in
theorem same_docs (l : List Dc) (A A' : Option Addr) (c c' : Nat) (w : World) (h : DocsAt w A l) (h' : DocsAt w A' l) :
    Calls Tryz.prog 19 #[.slice A l.length c, .slice A' l.length c'] w fun e w' => e = .returned (.bool true) ∧ Below w.heap.size w w' := by
  have hlen := h.1
  unfold maxLen at hlen
  have H := hide h
  have H' := hide h'
  have hn : ((l.length : Int) != (l.length : Int)) = false := by simp
  clear h h'
  go_enter Tryz.func19, Tryz.ntmps19
  go_wp2_with fail
  go_loopw [5] (fun vi wr => ∃ (k : Nat), k ≤ l.length ∧ vi = .int .i64 k ∧ Below w.heap.size w wr) (fun vi _ => l.length - (intOf vi).toNat)
  case atStart => exact ⟨0, by omega, rfl, Below.refl _ _⟩
  case round =>
    obtain ⟨k, hk, rfl, hbr⟩ := hrel
    by_cases hlt : k < l.length
    · obtain ⟨x, hx⟩ : ∃ r, l[k]? = some r := ⟨_, List.getElem?_eq_getElem hlt⟩
      obtain ⟨b, off, rfl, hbw, c0, c1, c2, c3, c4, c5, c6, c7, c8, c9, c10, c11, c12, c13⟩ := (H.out.below hbr).full hx
      obtain ⟨b', off', rfl, hbw', d0, d1, d2, d3, d4, d5, d6, d7, d8, d9, d10, d11, d12, d13⟩ := (H'.out.below hbr).full hx
      have hrn := pr_neq x
      unfold PfA.Dc.agg at hrn
      have hrg := pr_guard
      clear hx
      go_wp2_with fail
      go_quiet (fail)
      go_wp2_with fail
      go_roundw
      case rel => exact ⟨k + 1, by omega, by go_num, below_drewN hbr _⟩
      case measure => simp [intOf]; omega
    · go_wp2_with fail
      go_ret
      exact ⟨rfl, hbr⟩
end Go.Proofs.YtghbhchkdomfhaaGreatDoor.PgG
namespace Go.Proofs.YtghbhchkdomfhaaGreatDoor.PgH
open Go.RowKit Wd RnA RnB RnW RnQ RnR RnP RtA RtC RpB RpC RpF RpH RsX RoA RoC RoL PqB PfS PfB PfA PfD PfE PfG PfH PfI PfJ PfN PfO PfQ PfU PgC PgG
set_option maxHeartbeats 2000000 in
set_option maxRecDepth 100000 in
theorem ratio_any (a b : Nat) (w : World) (ha : a ≤ 1000000) (hb : b ≤ 1000000) (h0 : b ≠ 0) :
    Calls Tryz.prog 25 #[.int .i64 (a : Int), .int .i64 (b : Int)] w (RPost (mk false a b) w) := by
  have HF := Lib.hid (fun w => rfraction_any (a : Int) (b : Int) w ⟨by omega, by omega⟩ ⟨by omega, by omega⟩)
  have hm : makeQ (decide ((a : Int) < 0) != decide ((b : Int) < 0)) (a : Int).natAbs (b : Int).natAbs = (mk false a b, true) := by
    rw [decide_eq_false (by omega), decide_eq_false (by omega)]
    unfold makeQ
    rw [if_neg (by omega)]
    rfl
  rw [hm] at HF
  unfold RBPost at HF
  unfold RPost
  generalize mk false a b = q at *
  simp only [enc_open] at HF
  rw [enc_open]
  obtain ⟨V0, hV0, HJ, hB0, hl0⟩ := box_new w (.bool false) (.string ⟨#[]⟩) (.string ⟨#[]⟩)
  have HB0 := hide hB0
  clear hm hB0
  go_enter Tryz.func25, Tryz.ntmps25
  go_wp2_with fail
  refine (HF.out _).mono ?_
  rintro e w1 ⟨rfl, hb1⟩
  obtain ⟨V2, hV2, HX, hB2, hl2⟩ := box_new w1 (.bool (negB q)) (.string (bs (nm q))) (.string (dstr q))
  have hj2 := hb1.trans (hB2.mono hb1.size)
  have HJ2 := hide (HJ.out.keep hj2 hl0)
  have HBF := hide (HB0.out.trans (hj2.mono (Nat.le_of_lt hl0)))
  obtain ⟨m0, m1, m2, _⟩ := HX.out
  obtain ⟨c0, c1, c2, f0, f1, f2⟩ := HJ2.out
  clear hj2 hb1 hB2 hl2
  go_wp2_with fail
  refine bodyPost_ret (results_rat rfl _ rfl (HJ2.out.set3 _ _ _)) rfl ?_
  exact ⟨rfl, below_set3 HBF.out (Nat.le_refl _) _ _ _⟩
theorem rat_neq (b : Bool) (s t : ByteArray) (W : World) : (binOp .neq 25 (.agg #[.bool b, .string s, .string t]) (.agg #[.bool b, .string s, .string t])).run Tryz.prog W = .ok (.bool false) W := by
  rw [run_neq_struct, run_equalIn_agg W 9999 _ _ _ rat_und rat_held, rat_fields]
  simp [go_sem]
instance dcDec : DecidableEq Dc := fun a b => decidable_of_iff (a.id = b.id ∧ a.est = b.est ∧ a.cred = b.cred ∧ a.code = b.code ∧ a.neg = b.neg ∧ a.num = b.num ∧ a.den = b.den ∧ a.inc = b.inc ∧ a.rank = b.rank ∧ a.rneg = b.rneg ∧ a.rnum = b.rnum ∧ a.rden = b.rden ∧ a.rfrom = b.rfrom ∧ a.sec = b.sec) (by
  obtain ⟨_, _, _, _, _, _, _, _, _, _, _, _, _, _⟩ := a
  obtain ⟨_, _, _, _, _, _, _, _, _, _, _, _, _, _⟩ := b
  simp)
def exText : ByteArray := ⟨#[112, 114, 111, 111, 102, 32, 65, 49, 10, 101, 115, 116, 97, 116, 101, 32, 50, 10, 99, 114, 101, 100, 105, 116, 111, 114, 32, 53, 10, 97, 109, 111, 117, 110, 116, 32, 69, 85, 82, 32, 51, 46, 53, 48, 10, 105, 110, 99, 117, 114, 114, 101, 100, 32, 55, 10, 114, 97, 110, 107, 32, 50, 10]⟩
def exOut : List UInt8 := [112, 114, 111, 111, 102, 32, 65, 49, 10, 101, 115, 116, 97, 116, 101, 32, 50, 10, 99, 114, 101, 100, 105, 116, 111, 114, 32, 53, 10, 97, 109, 111, 117, 110, 116, 32, 69, 85, 82, 32, 55, 47, 50, 10, 105, 110, 99, 117, 114, 114, 101, 100, 32, 55, 10, 114, 97, 110, 107, 32, 50, 10]
def exDoc : Dc := ⟨⟨#[65, 49]⟩, 2, 5, ⟨#[69, 85, 82]⟩, false, ⟨#[7]⟩, ⟨#[2]⟩, 7, 2, false, ⟨#[]⟩, ⟨#[]⟩, 0, -1⟩
theorem ex_parse : parseOf exText.data.toList = ([exDoc], 0, 0) := by decide +kernel
theorem ex_fmt : fmtD [exDoc] = (exOut, 0) := by decide +kernel
theorem ex_q : negB (mk false 7 2) = false ∧ bytesOf (nm (mk false 7 2)) = [7] ∧ encD (mk false 7 2) = [2] := by decide +kernel
theorem ratio_ex (W : World) (v : Qin.In (Below W.heap.size W)) : Calls Tryz.prog 25 #[.int .i64 7, .int .i64 2] v.val fun e w' => e = .returned (.agg #[.bool false, .string ⟨#[7]⟩, .string ⟨#[2]⟩]) ∧ ∃ y : Qin.In (Below W.heap.size W), w' = y.val := by
  refine Qin.call ((ratio_any 7 2 v.val (by decide) (by decide) (by decide)).mono fun e w' ⟨h1, h2⟩ => ⟨?_, v.ok.trans (h2.mono v.ok.size)⟩)
  obtain ⟨q1, q2, q3⟩ := ex_q
  rw [h1, enc_open, q1]
  have e1 : bs (nm (mk false 7 2)) = ⟨#[7]⟩ := ext_bytes q2
  have e2 : dstr (mk false 7 2) = ⟨#[2]⟩ := ext_bytes q3
  rw [e1, e2]
theorem ex_wr : Wr exDoc := ⟨by decide, by decide, by decide, by decide, by decide, by decide, by decide, by decide, by decide, by decide, by decide, by decide, by decide, by decide, by decide, by decide, by decide, by decide⟩
set_option maxHeartbeats 8000000 in
set_option maxRecDepth 100000 in
theorem awake_docs (w : World) (he : EnvT w) :
    Calls Tryz.prog 11 #[] w fun e w' => e = .returned (.bool true) ∧ Below w.heap.size w w' := by
  have HP := Lib.hid (parse_docs exText w (by decide) he.2.1)
  rw [ex_parse] at HP
  unfold ParseP exText at HP
  have HF := Lib.hid (fun A c w' h he => format_docs [exDoc] A c w' h (fun x hx => by rw [List.mem_singleton.1 hx]; exact ex_wr) he)
  rw [ex_fmt] at HF
  unfold FmtP at HF
  have hst : st exOut = ⟨#[112, 114, 111, 111, 102, 32, 65, 49, 10, 101, 115, 116, 97, 116, 101, 32, 50, 10, 99, 114, 101, 100, 105, 116, 111, 114, 32, 53, 10, 97, 109, 111, 117, 110, 116, 32, 69, 85, 82, 32, 55, 47, 50, 10, 105, 110, 99, 117, 114, 114, 101, 100, 32, 55, 10, 114, 97, 110, 107, 32, 50, 10]⟩ := rfl
  dsimp only at HF
  rw [hst] at HF
  change Hid (∀ A c w' (h : DocsAt w' A [exDoc]) (he : EnvT w'), Calls _ _ #[.slice A 1 c] w' _) at HF
  have HRT := Lib.hid (fun W v => ratio_ex W v)
  have hrs := fun W => rat_neq false ⟨#[7]⟩ ⟨#[2]⟩ W
  have hrg := rat_guard
  have HE := hide he
  clear he hst
  go_enter Tryz.func11, Tryz.ntmps11
  go_wp2_with fail
  refine HP.out.mono ?_
  rintro e w2 ⟨A, c, rfl, hd, hb2⟩
  have HD := hide hd
  obtain ⟨b, off, rfl, hb, a0, a1, a2, a3, a4, a5, a6, a7, a8, a9, a10, a11, a12, a13⟩ := hd.full (k := 0) (x := exDoc) rfl
  change w2.cell? ⟨b, off + 0 * 14 + 4, none⟩ = some (.bool false) at a4
  change w2.cell? ⟨b, off + 0 * 14 + 5, none⟩ = some (.string ⟨#[7]⟩) at a5
  change w2.cell? ⟨b, off + 0 * 14 + 6, none⟩ = some (.string ⟨#[2]⟩) at a6
  change w2.cell? ⟨b, off + 0 * 14 + 13, none⟩ = some (.int .i64 (-1)) at a13
  rw [show off + 0 * 14 = off by omega] at a4 a5 a6 a13
  have m4 := at_in (p := ⟨b, off + 4, none⟩) hb a4
  have m5 := at_in (p := ⟨b, off + 5, none⟩) hb a5
  have m6 := at_in (p := ⟨b, off + 6, none⟩) hb a6
  have m13 := at_in (p := ⟨b, off + 13, none⟩) hb a13
  have HB2 := hide hb2
  clear a0 a1 a2 a3 a4 a5 a6 a7 a8 a9 a10 a11 a12 a13 hd hb2
  go_wp2_with fail
  refine Qin.region (I := Below w2.heap.size w2) (Qin.start _ w2) (by kernel_rfl) (by kernel_rfl) ?_
  repeat (go_big_quiet_step ((go_at_call 25; with_reducible exact HRT.out _ _)))
  refine wpQuiet_nil ?_
  intro v
  have HDV := hide (HD.out.below v.ok)
  have HBV := hide (HB2.out.trans (v.ok.mono HB2.out.size))
  have HEV := hide (HE.out.below HBV.out)
  clear m4 m5 m6 m13
  go_wp2_with fail
  refine (HF.out _ _ _ HDV.out HEV.out).mono ?_
  rintro e w5 ⟨rfl, hb5⟩
  have HB5 := hide (HBV.out.trans (hb5.mono HBV.out.size))
  clear hb5
  go_wp2_with fail
  go_ret
  exact ⟨rfl, HB5.out⟩
end Go.Proofs.YtghbhchkdomfhaaGreatDoor.PgH
