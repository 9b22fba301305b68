/-
  A row of vectors with their norms that the call owns: reading, storing, clearing; what is left of a sorted list when equal neighbours are struck. No condition: plain theorems.
-/
import Derived.Test.YthibocafjkbeeaaPart11
import Derived.Lib.SliceRun
import Derived.Laws.CopyRow
set_option linter.unusedVariables false
set_option linter.unusedSimpArgs false
namespace Go.Proofs.Ythibocafjkbeeaa
open Go.RowKit

section
variable {w : World} {base : Nat} {ok : Nat → Prop} {g n cap : Nat} {items : List (Int × List Int)}
/-- An element of the row. -/
theorem nv_at (h : Grow Kd.nv w base 51 ok (.slice (some ⟨g, 0, none⟩) n cap) items) (hn : n = items.length) {i : Nat} (hi : i < n) : ∃ A c, w.cell? ⟨g, i * 2, none⟩ = some (.int .i64 (nth items i).1) ∧ w.cell? ⟨g, i * 2 + 1, none⟩ = some (.slice A (nth items i).2.length c) ∧ w.frozen? ⟨g, i * 2, none⟩ = false ∧ w.frozen? ⟨g, i * 2 + 1, none⟩ = false ∧
    (-9223372036854775808 ≤ (nth items i).1 ∧ (nth items i).1 ≤ 9223372036854775807) ∧ (nth items i).2.length ≤ c ∧ c ≤ 9223372036854775807 ∧ Row Kd.i64 w (fun b => ok b ∧ (Value.slice (some ⟨g, 0, none⟩) n cap).ownBlock ≠ some b) A (nth items i).2 := by
  subst hn
  obtain ⟨cs, hown, hel⟩ := h.out
  have hsize : Kd.nv.size = 2 := rfl
  rw [hsize] at hown hel
  obtain ⟨c, d, he, ⟨h0, h1, h2⟩, A, q, h00, h3, h4, h5⟩ := hel i hi
  subst h0
  subst h00
  rw [← nth_eq _ _ hi] at *
  have e0 : cs[i * 2]? = some (.int .i64 (nth items i).1) := by
    have := congrArg (fun l => l[0]?) he
    rw [List.getElem?_take_of_lt (by omega), List.getElem?_drop] at this
    exact this
  have e1 : cs[i * 2 + 1]? = some (.slice A (nth items i).2.length q) := by
    have := congrArg (fun l => l[1]?) he
    rw [List.getElem?_take_of_lt (by omega), List.getElem?_drop] at this
    exact this
  exact ⟨A, q, (hown.cellAt _ (by omega)).trans e0, (hown.cellAt _ (by omega)).trans e1, hown.frozenAt _, hown.frozenAt _, ⟨h1, h2⟩, h3, h4, h5⟩
/-- An element is stored. -/
theorem nv_store (h : Grow Kd.nv w base 51 ok (.slice (some ⟨g, 0, none⟩) n cap) items) (hn : n = items.length) {k : Nat} (hk : k < n) {x : Int × List Int} {A : Option Addr} {c : Nat} (b : -9223372036854775808 ≤ x.1 ∧ x.1 ≤ 9223372036854775807) (hl : x.2.length ≤ c) (hc : c ≤ 9223372036854775807) (hr : Row Kd.i64 w (fun b => ok b ∧ (Value.slice (some ⟨g, 0, none⟩) n cap).ownBlock ≠ some b) A x.2) :
    Grow Kd.nv ((w.setCell ⟨g, k * 2, none⟩ (.int .i64 x.1)).setCell ⟨g, k * 2 + 1, none⟩ (.slice A x.2.length c)) base 51 ok (.slice (some ⟨g, 0, none⟩) n cap) (items.set k x) ∧
    w.grownBy ((w.setCell ⟨g, k * 2, none⟩ (.int .i64 x.1)).setCell ⟨g, k * 2 + 1, none⟩ (.slice A x.2.length c)) (some g) := by
  subst hn
  obtain ⟨cs, hown, hel⟩ := h.out
  have hsize : Kd.nv.size = 2 := rfl
  rw [hsize] at hown hel
  have hcl : cs.length = items.length * 2 := hown.1
  have s1 := hown.stored (k * 2) (.int .i64 x.1)
  have s2 := s1.1.stored (k * 2 + 1) (.slice A x.2.length c)
  have hgr : w.grownBy ((w.setCell ⟨g, k * 2, none⟩ (.int .i64 x.1)).setCell ⟨g, k * 2 + 1, none⟩ (.slice A x.2.length c)) (some g) := ⟨s2.2.os.trans s1.2.os, s2.2.tape.trans s1.2.tape, s2.2.output.trans s1.2.output, Nat.le_trans s1.2.size s2.2.size, fun b hb hne => (s2.2.block b (Nat.lt_of_lt_of_le hb s1.2.size) hne).trans (s1.2.block b hb hne)⟩
  have hkp : ∀ b, (ok b ∧ (Value.slice (some ⟨g, 0, none⟩) items.length cap).ownBlock ≠ some b) → b < w.heap.size → ((w.setCell ⟨g, k * 2, none⟩ (.int .i64 x.1)).setCell ⟨g, k * 2 + 1, none⟩ (.slice A x.2.length c)).heap[b]? = w.heap[b]? := fun b hb hl => hgr.block b hl fun e => hb.2 e.symm
  refine ⟨⟨(cs.set (k * 2) (.int .i64 x.1)).set (k * 2 + 1) (.slice A x.2.length c), ?_, fun i hi => ?_⟩, hgr⟩
  · rw [hsize, List.length_set]; exact s2.1
  · rw [List.length_set] at hi
    rw [hsize]
    by_cases e : i = k
    · subst e
      have e2 : ((((cs.set (i * 2) (.int .i64 x.1)).set (i * 2 + 1) (.slice A x.2.length c)).drop (i * 2)).take 2) = [.int .i64 x.1, .slice A x.2.length c] := by
        apply List.ext_getElem?
        intro t
        by_cases ht : t < 2
        · rw [List.getElem?_take_of_lt ht, List.getElem?_drop]
          rcases (show t = 0 ∨ t = 1 by omega) with rfl | rfl
          · rw [List.getElem?_set_ne (by omega), Nat.add_zero, List.getElem?_set_self (by omega)]; rfl
          · rw [List.getElem?_set_self (by rw [List.length_set]; omega)]; rfl
        · rw [List.getElem?_eq_none (by rw [List.length_take]; omega), List.getElem?_eq_none (by simp; omega)]
      rw [e2, List.getElem_set_self]
      exact ⟨[_], [_], rfl, ⟨rfl, b.1, b.2⟩, A, c, rfl, hl, hc, hr.keep hkp⟩
    · rw [List.getElem_set_ne (fun h => e h.symm)]
      have e2 : ((((cs.set (k * 2) (.int .i64 x.1)).set (k * 2 + 1) (.slice A x.2.length c)).drop (i * 2)).take 2) = ((cs.drop (i * 2)).take 2) := by
        apply List.ext_getElem?
        intro t
        by_cases ht : t < 2
        · rw [List.getElem?_take_of_lt ht, List.getElem?_take_of_lt ht, List.getElem?_drop, List.getElem?_drop, List.getElem?_set_ne (by omega), List.getElem?_set_ne (by omega)]
        · rw [List.getElem?_eq_none (by rw [List.length_take]; omega), List.getElem?_eq_none (by rw [List.length_take]; omega)]
      rw [e2]
      exact Kd.nv.keep (hel i hi) hkp
/-- The first elements alone. -/
theorem nv_take (h : Grow Kd.nv w base 51 ok (.slice (some ⟨g, 0, none⟩) n cap) items) (hn : n = items.length) {k : Nat} (hk : k ≤ n) : Grow Kd.nv w base 51 ok (.slice (some ⟨g, 0, none⟩) k cap) (items.take k) := by
  subst hn
  obtain ⟨cs, hown, hel⟩ := h.out
  have hsize : Kd.nv.size = 2 := rfl
  rw [hsize] at hown hel
  have hcl : cs.length = items.length * 2 := hown.1
  have hlk : (items.take k).length = k := by rw [List.length_take]; omega
  refine ⟨cs.take (k * 2), ?_, fun i hi => ?_⟩
  · rw [hsize, hlk]
    refine ⟨by rw [List.length_take]; omega, ?_⟩
    rcases hown.2 with ⟨h, _⟩ | ⟨g', cap', cur, h, hb, hg, hnc, hcm, hcs, ht⟩
    · cases h
    · simp only [Value.slice.injEq, Option.some.injEq, Addr.mk.injEq, and_true, true_and] at h
      obtain ⟨rfl, rfl⟩ := h
      exact .inr ⟨g, cap, cur, rfl, hb, hg, by omega, hcm, hcs, by rw [← ht, List.take_take]; congr 1; omega⟩
  · rw [hlk] at hi
    rw [hsize, List.getElem_take]
    have e2 : (((cs.take (k * 2)).drop (i * 2)).take 2) = ((cs.drop (i * 2)).take 2) := by
      apply List.ext_getElem?
      intro t
      by_cases ht : t < 2
      · rw [List.getElem?_take_of_lt ht, List.getElem?_take_of_lt ht, List.getElem?_drop, List.getElem?_drop, List.getElem?_take_of_lt (by omega)]
      · rw [List.getElem?_eq_none (by rw [List.length_take]; omega), List.getElem?_eq_none (by rw [List.length_take]; omega)]
    rw [e2]
    exact hel i (by omega)
end
theorem info_nv : (Try.prog.info? 51).map (fun i => (i.zero, i.size, i.bytes)) = some (some (.agg #[.int .i64 0, .slice none 0 0]), 2, 32) := by kernel_rfl
/-- clear(s[k:]): the first k elements stay. -/
theorem nv_clear {w : World} {base : Nat} {ok : Nat → Prop} {g n cap : Nat} {items : List (Int × List Int)} (h : Grow Kd.nv w base 51 ok (.slice (some ⟨g, 0, none⟩) n cap) items) (hn : n = items.length) {k : Nat} (hk : k < n) :
    ∃ w', (∀ ty, (Builtin.clear_ #[53] ty #[.slice (some ⟨g, k * 2, none⟩) (n - k) (cap - k)]).run Try.prog w = .ok (.tuple #[]) w') ∧ Grow Kd.nv w' base 51 ok (.slice (some ⟨g, 0, none⟩) k cap) (items.take k) ∧ w.grownBy w' (some g) := by
  have ht := nv_take h hn (Nat.le_of_lt hk)
  obtain ⟨cs, hown, hel⟩ := ht.out
  have hsize : Kd.nv.size = 2 := rfl
  rw [hsize] at hown hel
  have hlk : (items.take k).length = k := by rw [List.length_take]; omega
  rw [hlk] at hown
  have hcl : cs.length = k * 2 := hown.1
  obtain ⟨cur, hcur, hcc, hnc, hcm, hb, hpre, hcn⟩ : ∃ cur, w.heap[g]? = some (.cells cur 51 (0, 0)) ∧ cur.size = cap * 2 ∧ k ≤ cap ∧ cap ≤ maxLen ∧ base ≤ g ∧ cur.toList.take (k * 2) = cs ∧ n ≤ cap := by
    obtain ⟨cs', hown', _⟩ := h.out
    rw [hsize, ← hn] at hown'
    rcases hown'.2 with ⟨h, _⟩ | ⟨g', cap', cur, h, hb, hg, hnc, hcm, hcs, ht⟩
    · cases h
    · simp only [Value.slice.injEq, Option.some.injEq, Addr.mk.injEq, and_true, true_and] at h
      obtain ⟨rfl, rfl⟩ := h
      rcases hown.2 with ⟨h, _⟩ | ⟨g2, cap2, cur2, h, hb2, hg2, hnc2, hcm2, hcs2, ht2⟩
      · cases h
      · simp only [Value.slice.injEq, Option.some.injEq, Addr.mk.injEq, and_true, true_and] at h
        obtain ⟨rfl, rfl⟩ := h
        rw [hg] at hg2
        injection hg2 with hg2
        injection hg2 with hg2
        subst hg2
        exact ⟨cur, hg, hcs, hnc2, hcm, hb, ht2, hnc⟩
  have hst := run_storeCells_at (P := Try.prog) g (k * 2) 51 (Builtin.zeroCells #[.int .i64 0, .slice none 0 0] (n - k)).toList 0 cur w hcur (by simp [Builtin.zeroCells]; rw [hcc]; omega) (fun v hv => by
    simp only [Builtin.zeroCells, Array.toList_map, List.mem_map] at hv
    obtain ⟨i, -, rfl⟩ := hv
    rcases (show i % 2 = 0 ∨ i % 2 = 1 by omega) with e | e
    · simp [e]; rfl
    · simp [e]; rfl)
  obtain ⟨W', hW'⟩ : ∃ W', W' = w.setRow g (cur.toList.take (k * 2 + 0) ++ (Builtin.zeroCells #[.int .i64 0, .slice none 0 0] (n - k)).toList ++ cur.toList.drop (k * 2 + 0 + (Builtin.zeroCells #[.int .i64 0, .slice none 0 0] (n - k)).toList.length)).toArray := ⟨_, rfl⟩
  rw [← hW'] at hst
  refine ⟨W', fun ty => ?_, ?_⟩
  · obtain ⟨m, hm⟩ : ∃ m, n - k = m + 1 := ⟨n - k - 1, by omega⟩
    clear hW'
    rw [hm] at hst ⊢
    have hz : ∀ W, (zeroValue 51).run Try.prog W = .ok (.agg #[.int .i64 0, .slice none 0 0]) W := Try.zeroValue51
    simp [Builtin.clear_, run_underlying Try.underlying53, hz, Value.cells, hst]
  · clear hst
    subst hW'
    have hgr : w.grownBy (w.setRow g (cur.toList.take (k * 2 + 0) ++ (Builtin.zeroCells #[.int .i64 0, .slice none 0 0] (n - k)).toList ++ cur.toList.drop (k * 2 + 0 + (Builtin.zeroCells #[.int .i64 0, .slice none 0 0] (n - k)).toList.length)).toArray) (some g) :=
      ⟨rfl, rfl, rfl, by simp, fun b _ hne => setRow_other _ _ _ _ fun e => hne (by rw [e])⟩
    refine ⟨⟨cs, ?_, fun i hi => ?_⟩, hgr⟩
    · rw [hsize, hlk]
      refine ⟨hcl, .inr ⟨g, cap, _, rfl, hb, setRow_heap _ _ _ _ _ _ hcur, hnc, hcm, ?_, ?_⟩⟩
      · have hz : (Builtin.zeroCells #[.int .i64 0, .slice none 0 0] (n - k)).size = (n - k) * 2 := by simp [Builtin.zeroCells]
        simp [hz, hcc]
        omega
      · simp only [List.append_assoc, Nat.add_zero]
        rw [List.take_append_of_le_length (by rw [List.length_take, Array.length_toList]; omega), List.take_take]
        rw [← hpre]
        congr 1
        omega
    · rw [hsize]
      exact Kd.nv.keep (hel i hi) fun b hb hl => hgr.block b hl fun e => hb.2 (show some g = some b from e.symm)
end Go.Proofs.Ythibocafjkbeeaa
/-
  Equal neighbours are struck out of a list: the plain law; the closures and slices.Clone of vector's sorter. No condition but that the arguments can be read.
-/
namespace Go.Proofs.Ythibocafjkbeeaa
open Go.RowKit

/-- The first m elements, without those that equal the one ahead of them. -/
def ddp (l : List (Int × List Int)) : Nat → List (Int × List Int)
  | 0 => []
  | m + 1 => if m = 0 ∨ nth l m ≠ nth l (m - 1) then ddp l m ++ [nth l m] else ddp l m
theorem ddp_le (l : List (Int × List Int)) : ∀ m, (ddp l m).length ≤ m
  | 0 => by simp [ddp]
  | m + 1 => by
    have := ddp_le l m
    rw [ddp]
    split
    · simp; omega
    · omega
theorem ddp_all (l : List (Int × List Int)) : ∀ m, m ≤ l.length → (∀ a, 1 ≤ a → a < m → nth l a ≠ nth l (a - 1)) → ddp l m = l.take m
  | 0, _, _ => by simp [ddp]
  | m + 1, hm, h => by
    rw [ddp, if_pos, ddp_all l m (by omega) fun a h1 h2 => h a h1 (by omega), take_step l m (by omega)]
    rcases Nat.eq_zero_or_pos m with h0 | h0
    · exact .inl h0
    · exact .inr (h m h0 (by omega))
theorem ddp_mem (l : List (Int × List Int)) (p : Int × List Int) : ∀ m, m ≤ l.length → (p ∈ ddp l m ↔ p ∈ l.take m)
  | 0, _ => by simp [ddp]
  | m + 1, hm => by
    have ih := ddp_mem l p m (by omega)
    rw [ddp, take_step l m (by omega)]
    split
    · simp [ih]
    · rename_i h
      rw [ih]
      have h1 : m ≠ 0 ∧ nth l m = nth l (m - 1) := ⟨fun e => h (.inl e), Classical.byContradiction fun e => h (.inr e)⟩
      constructor
      · intro hp; simp [hp]
      · intro hp
        rcases List.mem_append.1 hp with hp | hp
        · exact hp
        · rw [List.mem_singleton.1 hp, h1.2, nth_eq l (m - 1) (by omega)]
          exact List.mem_take_iff_getElem.2 ⟨m - 1, by omega, rfl⟩
/-- Strictly ascending. -/
def Asc (l : List (Int × List Int)) : Prop := l.Pairwise fun a b => cfV a b < 0
theorem ddp_asc (l : List (Int × List Int)) (hs : ∀ i j, i < j → j < l.length → ¬ cfV (nth l j) (nth l i) < 0) : ∀ m, m ≤ l.length → Asc (ddp l m)
  | 0, _ => List.Pairwise.nil
  | m + 1, hm => by
    have ih := ddp_asc l hs m (by omega)
    rw [ddp]
    split
    · rename_i h
      refine List.pairwise_append.2 ⟨ih, List.pairwise_singleton _ _, fun p hp q hq => ?_⟩
      rw [List.mem_singleton.1 hq]
      obtain ⟨i, hi, rfl⟩ := List.mem_take_iff_getElem.1 ((ddp_mem l p m (by omega)).1 hp)
      rw [← nth_eq l i (by omega)]
      have him : i < m := by omega
      have h1 := hs i m him (by omega)
      have h2 : m ≠ 0 := by omega
      have h3 : nth l m ≠ nth l (m - 1) := h.resolve_left h2
      have f1 := cfV_flip (nth l i) (nth l m)
      by_cases h0 : cfV (nth l i) (nth l m) = 0
      · exfalso
        have e := cfV_zero h0
        rcases Nat.lt_or_ge i (m - 1) with h4 | h4
        · have h5 := hs i (m - 1) h4 (by omega)
          have h6 := hs (m - 1) m (by omega) (by omega)
          rw [← e] at h6
          have f2 := cfV_flip (nth l i) (nth l (m - 1))
          have h7 : cfV (nth l i) (nth l (m - 1)) = 0 := by omega
          exact h3 (by rw [← e]; exact cfV_zero h7)
        · have : i = m - 1 := by omega
          exact h3 (by rw [← e, this])
      · omega
    · exact ih
theorem asc_head {a : Int × List Int} {l : List (Int × List Int)} (h : Asc (a :: l)) : ∀ b ∈ l, cfV a b < 0 := (List.pairwise_cons.1 h).1
/-- A strictly ascending list is what it contains. -/
theorem asc_unique : ∀ {l m : List (Int × List Int)}, Asc l → Asc m → (∀ p, p ∈ l ↔ p ∈ m) → l = m
  | [], [], _, _, _ => rfl
  | [], b :: m, _, _, h => absurd ((h b).2 List.mem_cons_self) (by simp)
  | a :: l, [], _, _, h => absurd ((h a).1 List.mem_cons_self) (by simp)
  | a :: l, b :: m, hl, hm, h => by
    have e : a = b := by
      rcases List.mem_cons.1 ((h a).1 List.mem_cons_self) with e | e
      · exact e
      · rcases List.mem_cons.1 ((h b).2 List.mem_cons_self) with e2 | e2
        · exact e2.symm
        · have h1 := asc_head hm a e
          have h2 := asc_head hl b e2
          have := cfV_flip a b
          omega
    subst e
    congr 1
    refine asc_unique (List.pairwise_cons.1 hl).2 (List.pairwise_cons.1 hm).2 fun p => ?_
    constructor
    · intro hp
      rcases List.mem_cons.1 ((h p).1 (List.mem_cons_of_mem _ hp)) with e | e
      · have := asc_head hl p hp
        rw [e, cfV_self] at this
        omega
      · exact e
    · intro hp
      rcases List.mem_cons.1 ((h p).2 (List.mem_cons_of_mem _ hp)) with e | e
      · have := asc_head hm p hp
        rw [e, cfV_self] at this
        omega
      · exact e

theorem below_grow (W : World) (q : Nat) (os : Array Obj) : Below W.heap.size W (Go.Sort.grow (W.drewN q) os) := by
  refine ⟨rfl, rfl, rfl, ?_, fun b hb => ?_⟩
  · show W.heap.size ≤ (W.heap ++ os).size
    simp
  · show (W.heap ++ os)[b]? = W.heap[b]?
    rw [Array.getElem?_append_left hb]
set_option maxRecDepth 100000 in
set_option maxHeartbeats 1000000 in
/-- The closure that compares two vectors for slices.CompactFunc. -/
theorem eq_any (ok : Nat → Prop) (n1 n2 : Int) (A1 A2 : Option Addr) (p q c1 c2 sb : Nat) (xs ys : List Int) (W : World) (hp : p = xs.length) (hq : q = ys.length) (b1 : -9223372036854775808 ≤ n1 ∧ n1 ≤ 9223372036854775807) (b2 : -9223372036854775808 ≤ n2 ∧ n2 ≤ 9223372036854775807) (hx : Row Kd.i64 W ok A1 xs) (hy : Row Kd.i64 W ok A2 ys)
    (hs : W.cell? ⟨sb, 1, none⟩ = some (.func (.func 24) #[] #[])) :
    Calls Try.prog 44 #[.agg #[.int .i64 n1, .slice A1 p c1], .agg #[.int .i64 n2, .slice A2 q c2], .pointer (some ⟨sb, 0, none⟩)] W fun e w' => e = .returned (.bool (cfV (n1, xs) (n2, ys) == 0)) ∧ Below W.heap.size W w' := by
  refine veil fun R HP => ?_
  have B2 := Lib.hid (ext_alloc (ext_alloc (Below.refl W.heap.size W) (.cells #[.int .i64 n1, .slice A1 p c1] 51)) (.cells #[.int .i64 n2, .slice A2 q c2] 51))
  have OC := Lib.hid (order_raw ok n1 n2 A1 A2 p q c1 c2 xs ys _ hp hq b1 b2 (hx.ext B2.out) (hy.ext B2.out))
  have hs2 := kept B2.out hs
  have eg : ∀ args W, (callFunc 24 args).run Try.prog W = .ok (.enter 24 args) W := fun args W => enters' Try.func24 rfl rfl args W
  clear hx hy b1 b2 hp hq hs
  go_enter Try.func44, Try.ntmps44
  go_wp2_with (go_at_call 24; refine OC.out.mono ?_; rintro e w' ⟨rfl, qq, os, rfl⟩)
  exact HP.out _ _ ⟨rfl, ext_trans B2.out (below_grow _ _ _)⟩
theorem Clone_nv (ok : Nat → Prop) (A : Option Addr) (n c : Nat) (xs : List (Int × List Int)) (w : World) (hn : n = xs.length) (hb : n * 32 ≤ 140737488355328) (h1 : Row Kd.nv w ok A xs) :
    Calls Try.prog 41 #[.slice A n c] w fun e w' => ∃ v, Grow Kd.nv w' w.heap.size 51 (fun b => ok b ∧ b < w.heap.size ∨ w.heap.size ≤ b) v xs ∧ e = .returned v ∧ Below w.heap.size w w' := by
  refine veil fun R HP => ?_
  have H1 := Lib.hid h1
  have HN := Lib.hid hn
  have e1 := Lib.run_eql_slice_nil (P := Try.prog) w 53 51 A n c 0 0 Try.underlying53
  clear h1 hn
  cases A with
  | none =>
    have hx : xs = [] := by
      cases xs with
      | nil => rfl
      | cons x r => obtain ⟨ad, he, _⟩ := H1.out.2 (by simp); cases he
    have HX := Lib.hid hx
    clear hx
    have e2 : (binOp .eql 53 (.slice none n c) (.slice none 0 0)).run Try.prog w = .ok (.bool true) w := e1
    clear e1
    go_enter Try.func41, Try.ntmps41
    go_wp2
    exact HP.out _ _ ⟨_, by rw [HX.out]; exact Grow.nil _ _ _ _, rfl, Below.refl _ _⟩
  | some ad =>
    have e2 : (binOp .eql 53 (.slice (some ad) n c) (.slice none 0 0)).run Try.prog w = .ok (.bool false) w := e1
    clear e1
    go_enter Try.func41, Try.ntmps41
    go_wp2_with (at_builtin; (refine wpList_cat (k := Kd.nv) (base := w.heap.size) (T := 51) (ok := fun b => ok b ∧ b < w.heap.size ∨ w.heap.size ≤ b) (xs := []) rfl (.tmp 5) (.tmp 6) 53 rfl (.agg #[.int .i64 0, .slice none 0 0]) 32 Try.underlying53 info_nv rfl (show 0 < 2 by omega) rfl (grow_empty _ _ (Nat.le_refl _)) (some ad) n c xs HN.out rfl ((H1.out.weak fun b hb hl => ⟨.inl ⟨hb, hl⟩, fun e => by have e2 : w.heap.size = b := Option.some.inj (show some w.heap.size = some b from e); omega⟩).alloc _) (by simp; omega) (by simp; omega) (by simp) ?_); (intro v' w6 hg6 hr6 hv6; have G6 := Lib.hid hg6; have R6 := Lib.hid (ext_grown (ext_alloc (Below.refl w.heap.size w) _) hr6 fun k e => by have e2 : w.heap.size = k := Option.some.inj (show some w.heap.size = some k from e); omega); clear hg6 hr6 hv6))
    exact HP.out _ _ ⟨_, by have := G6.out; rwa [List.nil_append] at this, rfl, R6.out⟩
end Go.Proofs.Ythibocafjkbeeaa
